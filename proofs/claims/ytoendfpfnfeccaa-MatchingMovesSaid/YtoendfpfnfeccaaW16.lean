/- The contracts of small, zero, unused and example. Conditions: lists that fit into memory. -/
import Derived.Test.YtoendfpfnfeccaaW15
import Derived.Test.YtoendfpfnfeccaaP9
namespace Go.Proofs.Ytoendfpfnfeccaa
open Go.RowKit Go.Shelf

set_option maxHeartbeats 1000000 in
theorem small_any (v : Value) (css : List (List Int)) (w : World) (hv : SlSl w v css) (hl : css.length ≤ 9223372036854775807) (hr : ∀ k, (nths css k).length ≤ 9223372036854775807) : Calls Try.prog 14 #[v] w (BoolBelow (smS css 0) w) := by
  obtain ⟨F, hF⟩ : ∃ F, smS css 0 = F := ⟨_, rfl⟩
  rw [hF]
  obtain ⟨n, hn⟩ : ∃ n, css.length = n := ⟨_, rfl⟩
  have hv0 := Lib.hid hv
  replace hr := Lib.hid hr
  rw [hn] at hl
  obtain ⟨av, cv, rfl⟩ := hv.lenN hn
  replace hF := Lib.hid hF
  replace hn := Lib.hid hn
  clear hv
  go_enter Try.func14, Try.ntmps14
  go_wp2
  go_loop [3] (fun i => ∃ k : Nat, k ≤ n ∧ i = .int .i64 (k : Int) ∧ Hid (smS css k = F)) (fun i => n - (intOf i).toNat)
  case atStart => exact ⟨0, Nat.zero_le _, rfl, hF⟩
  case round =>
    clear hF
    obtain ⟨k, hk, rfl, hF⟩ := hrel
    by_cases hlt : k < n
    · have hkb : decide ((k : Int) < (n : Int)) = true := decide_eq_true (by omega)
      have hkl : k < css.length := by rw [hn.out]; exact hlt
      obtain ⟨b, off, cap, he, _, hc⟩ := hv0.out.atN hn.out hlt
      cases he
      obtain ⟨u, cu, hu⟩ := hc k hlt
      have hul := hr.out k
      obtain ⟨au, cpu, rfl⟩ := hu.len
      have L1 := @smS_long css k hkl
      have L2 := @smS_next css k hkl
      clear hc hu
      generalize (nths css k).length = z at cu hul L1 L2
      by_cases hz : 6 < z
      · have hzb : decide ((6 : Int) < (z : Int)) = true := decide_eq_true (by omega)
        have hFf := hF.out.symm.trans (L1 hz)
        subst hFf
        clear hF L1 L2
        go_wp2
        go_ret
        exact ⟨rfl, Below.refl _ _⟩
      · have hzb : decide ((6 : Int) < (z : Int)) = false := decide_eq_false (by omega)
        replace L2 := Lib.hid ((L2 hz).symm.trans hF.out)
        clear hF L1
        go_wp2
        go_round
        case rel => exact ⟨k + 1, by omega, by go_num, L2⟩
        case measure => simp [intOf]; omega
    · obtain rfl : k = n := by omega
      have hFe := hF.out.symm.trans (smS_end (by rw [hn.out]; exact Nat.le_refl _))
      rw [hn.out] at hFe
      subst hFe
      clear hF
      go_wp2
      go_ret
      exact ⟨by congr 1; congr 1; simp; omega, Below.refl _ _⟩

set_option maxHeartbeats 1000000 in
theorem zero_any (w : World) : Calls Try.prog 31 #[zeroR] w (BoolBelow true w) := by
  unfold zeroR
  have hB := (Below.refl w.heap.size w).alloc (Nat.le_refl _) (.cells #[.slice none 0 0, .int .i64 0, .slice none 0 0, .slice none 0 0] 32)
  have b := BoxC.new w 32 #[.slice none 0 0, .int .i64 0, .slice none 0 0, .slice none 0 0]
  have c0 := b.cell 0 rfl
  have c1 := b.cell 1 rfl
  have c2 := b.cell 2 rfl
  have c3 := b.cell 3 rfl
  go_enter Try.func31, Try.ntmps31
  go_wp2
  go_ret
  exact ⟨rfl, hB⟩

/-- behind unused: a row of its own, if there are rows -/
def UnPost (n m : Nat) (w : World) (e : Ending) (X : World) : Prop := ∃ v, e = .returned v ∧ Below w.heap.size w X ∧ ((n = 0 ∧ v = .slice none 0 0) ∨ (0 < n ∧ v = rowS w.heap.size m ∧ RowB w.heap.size w.heap.size (rowS w.heap.size m) m (falses m) X))
set_option maxHeartbeats 1000000 in
theorem unused_any (v : Value) (css : List (List Int)) (w : World) (hv : SlSl w v css) (hl : css.length ≤ 1000) (hm : colN css ≤ 1000) : Calls Try.prog 26 #[v] w (UnPost css.length (colN css) w) := by
  rcases Nat.eq_zero_or_pos css.length with h0 | h0
  · obtain rfl : css = [] := List.eq_nil_of_length_eq_zero h0
    obtain ⟨a, c, rfl⟩ := hv.len
    clear hv
    simp only [List.length_nil]
    go_enter Try.func26, Try.ntmps26
    go_wp2
    go_ret
    exact ⟨_, rfl, Below.refl _ _, .inl ⟨rfl, rfl⟩⟩
  · obtain ⟨b, off, cap, a, c, rfl, hb, h1⟩ := hv.zero h0
    generalize colN css = m at hm h1 ⊢
    have h2 : ((css.length : Int) == 0) = false := by rw [beq_eq_false_iff_ne]; omega
    have hmb : ∀ X : World, (Instr.makeSlice 51 (.int .i64 (m : Int)) (.int .i64 (m : Int))).run Try.prog X = .ok (rowS X.heap.size m) (X.alloc (.cells (madeCells #[.bool false] m) 4)) := run_make51 m (by omega)
    have hR0 := rowB_new (base := w.heap.size) (n := m) (X := w) (by omega) (Nat.le_refl _)
    have hB0 := (Below.refl w.heap.size w).alloc (Nat.le_refl _) (.cells (madeCells #[.bool false] m) 4)
    generalize css.length = n at h0 hl h2 ⊢
    clear hv
    go_enter Try.func26, Try.ntmps26
    go_wp2
    go_ret
    exact ⟨_, rfl, hB0, .inr ⟨h0, rfl, hR0⟩⟩

def ExPost (w : World) (e : Ending) (X : World) : Prop := ∃ v, e = .returned v ∧ SlSl X v exCss ∧ Below w.heap.size w X
theorem num3 {X : World} {g : Nat} {a b c : Int} (h : BoxC X g 3 #[.int .i64 a, .int .i64 b, .int .i64 c]) : NumSl .i64 X (.slice (some ⟨g, 0, none⟩) 3 3) [a, b, c] := by
  refine .inr ⟨g, 0, 3, rfl, fun i hi => ?_⟩
  rw [Nat.zero_add]
  match i, hi with
  | 0, _ => exact h.cell 0 rfl
  | 1, _ => exact h.cell 1 rfl
  | 2, _ => exact h.cell 2 rfl
set_option maxHeartbeats 1000000 in
theorem example_any (w : World) : Calls Try.prog 32 #[] w (ExPost w) := by
  have hB : Below w.heap.size w ((((w.alloc (.cells #[.int .i64 4, .int .i64 1, .int .i64 3] 3)).alloc (.cells #[.int .i64 2, .int .i64 0, .int .i64 5] 3)).alloc (.cells #[.int .i64 3, .int .i64 2, .int .i64 2] 3)).alloc
      (.cells #[.slice (some ⟨w.heap.size, 0, none⟩) 3 3, .slice (some ⟨w.heap.size + 1, 0, none⟩) 3 3, .slice (some ⟨w.heap.size + 1 + 1, 0, none⟩) 3 3] 24)) := ((((Below.refl _ _).alloc (Nat.le_refl _) _).alloc (by simp) _).alloc (by simp; omega) _).alloc (by simp; omega) _
  have b1 := ((((BoxC.new w 3 #[.int .i64 4, .int .i64 1, .int .i64 3]).alloc (.cells #[.int .i64 2, .int .i64 0, .int .i64 5] 3)).alloc (.cells #[.int .i64 3, .int .i64 2, .int .i64 2] 3)).alloc (.cells #[.slice (some ⟨w.heap.size, 0, none⟩) 3 3, .slice (some ⟨w.heap.size + 1, 0, none⟩) 3 3, .slice (some ⟨w.heap.size + 1 + 1, 0, none⟩) 3 3] 24))
  have b2 := (((BoxC.new (w.alloc (.cells #[.int .i64 4, .int .i64 1, .int .i64 3] 3)) 3 #[.int .i64 2, .int .i64 0, .int .i64 5]).alloc (.cells #[.int .i64 3, .int .i64 2, .int .i64 2] 3)).alloc (.cells #[.slice (some ⟨w.heap.size, 0, none⟩) 3 3, .slice (some ⟨w.heap.size + 1, 0, none⟩) 3 3, .slice (some ⟨w.heap.size + 1 + 1, 0, none⟩) 3 3] 24))
  have b3 := ((BoxC.new ((w.alloc (.cells #[.int .i64 4, .int .i64 1, .int .i64 3] 3)).alloc (.cells #[.int .i64 2, .int .i64 0, .int .i64 5] 3)) 3 #[.int .i64 3, .int .i64 2, .int .i64 2]).alloc (.cells #[.slice (some ⟨w.heap.size, 0, none⟩) 3 3, .slice (some ⟨w.heap.size + 1, 0, none⟩) 3 3, .slice (some ⟨w.heap.size + 1 + 1, 0, none⟩) 3 3] 24))
  have b4 := BoxC.new (((w.alloc (.cells #[.int .i64 4, .int .i64 1, .int .i64 3] 3)).alloc (.cells #[.int .i64 2, .int .i64 0, .int .i64 5] 3)).alloc (.cells #[.int .i64 3, .int .i64 2, .int .i64 2] 3)) 24 #[.slice (some ⟨w.heap.size, 0, none⟩) 3 3, .slice (some ⟨w.heap.size + 1, 0, none⟩) 3 3, .slice (some ⟨w.heap.size + 1 + 1, 0, none⟩) 3 3]
  rw [World.size_alloc] at b2
  rw [World.size_alloc, World.size_alloc] at b3
  rw [World.size_alloc, World.size_alloc, World.size_alloc] at b4
  have n1 := num3 b1
  have n2 := num3 b2
  have n3 := num3 b3
  have hS : SlSl ((((w.alloc (.cells #[.int .i64 4, .int .i64 1, .int .i64 3] 3)).alloc (.cells #[.int .i64 2, .int .i64 0, .int .i64 5] 3)).alloc (.cells #[.int .i64 3, .int .i64 2, .int .i64 2] 3)).alloc
      (.cells #[.slice (some ⟨w.heap.size, 0, none⟩) 3 3, .slice (some ⟨w.heap.size + 1, 0, none⟩) 3 3, .slice (some ⟨w.heap.size + 1 + 1, 0, none⟩) 3 3] 24)) (.slice (some ⟨w.heap.size + 1 + 1 + 1, 0, none⟩) 3 3) exCss := by
    refine .inr ⟨w.heap.size + 1 + 1 + 1, 0, 3, rfl, b4.lt, fun i hi => ?_⟩
    rw [Nat.zero_add]
    match i, hi with
    | 0, _ => exact ⟨_, b4.cell 0 rfl, n1⟩
    | 1, _ => exact ⟨_, b4.cell 1 rfl, n2⟩
    | 2, _ => exact ⟨_, b4.cell 2 rfl, n3⟩
  clear b1 b2 b3 b4 n1 n2 n3
  go_enter Try.func32, Try.ntmps32
  go_wp2
  go_ret
  exact ⟨_, rfl, hS, hB⟩
end Go.Proofs.Ytoendfpfnfeccaa
