/- The law's known examples hold: known returns true. Conditions: none. -/
import Derived.Test.YtbflocamicebhaaW6
namespace Go.Proofs.Ytbflocamicebhaa
open Go.RowKit Go.Shelf

theorem firstF_snd (p : Nat → Bool) (n : Nat) : (firstF p n).2 = (List.range n).any p := by
  unfold firstF
  cases h : (List.range n).find? p with
  | none =>
    rw [List.find?_eq_none] at h
    have : (List.range n).any p = false := List.any_eq_false.2 h
    rw [this]
  | some i =>
    have h2 := List.find?_some h
    have h3 := List.mem_of_find?_eq_some h
    have : (List.range n).any p = true := List.any_eq_true.2 ⟨i, h3, h2⟩
    rw [this]

theorem IntSl.new (w : World) (xs : List Int) (t : TypeId) (cap : Nat) : IntSl (w.alloc (.cells (xs.map (Value.int .i64)).toArray t)) (.slice (some ⟨w.heap.size, 0, none⟩) xs.length cap) xs := by
  refine .inr ⟨w.heap.size, 0, cap, rfl, fun i hi => ?_⟩
  rw [Nat.zero_add]
  exact cell_new w _ t i _ (by simp [hi])

theorem isLeast_eq {P : Int → Bool} {limit r k : Int} {b : Bool} (h : IsLeast P limit r b) (hk0 : 0 ≤ k) (hk : k ≤ limit) (h1 : ∀ n, 0 ≤ n → n < k → P n = false) (h2 : ∀ n, k ≤ n → n ≤ limit → P n = true) : r = k ∧ b = true := by
  obtain ⟨i, ⟨h3, h4, h5, h6⟩, rfl, rfl⟩ := h
  have hik : i = k := by
    rcases Int.lt_trichotomy i k with hlt | heq | hgt
    · have := h6 (by omega)
      rw [h1 i h3 hlt] at this
      cases this
    · exact heq
    · have := h5 (by omega)
      rw [h2 (i - 1) (by omega) (by omega)] at this
      cases this
  subst hik
  exact ⟨by rw [if_neg (by omega)], by simp [hk]⟩

theorem isLeast_none {P : Int → Bool} {limit r : Int} {b : Bool} (h : IsLeast P limit r b) (h1 : ∀ n, 0 ≤ n → n ≤ limit → P n = false) : r = 0 ∧ b = false := by
  obtain ⟨i, ⟨h3, h4, h5, h6⟩, rfl, rfl⟩ := h
  have hi : limit < i := by
    rcases Int.lt_or_le limit i with hl | hl
    · exact hl
    · have := h6 (by omega)
      rw [h1 i h3 hl] at this
      cases this
  exact ⟨by rw [if_pos hi], by simp; omega⟩

theorem sup_known {r : Int} {b : Bool} (h : IsLeast (chgP (chgSup 10 10 0) [9, 9]) 1000000000 r b) : r = 4 ∧ b = true := by
  have hP : ∀ n, 0 ≤ n → chgP (chgSup 10 10 0) [9, 9] n = decide (4 ≤ n) := by
    intro n hn
    rw [Bool.eq_iff_iff]
    simp only [chgP, chgSup, failF, firstF_snd, List.length_cons, List.length_nil, List.range_succ, List.range_zero]
    simp [missP, stAt, lvAt, stepF]
    (repeat' split) <;> simp <;> omega
  exact isLeast_eq h (by omega) (by omega) (fun n h0 h1 => by rw [hP n h0]; simp; omega) (fun n h0 h1 => by rw [hP n (by omega)]; simp; omega)

theorem cap_known {r : Int} {b : Bool} (h : IsLeast (chgP (chgCap 3 0) [9, 9]) 1000000000 r b) : r = 12 ∧ b = true := by
  have hP : ∀ n, 0 ≤ n → chgP (chgCap 3 0) [9, 9] n = decide (12 ≤ n) := by
    intro n hn
    rw [Bool.eq_iff_iff]
    simp only [chgP, chgCap, failF, firstF_snd, List.length_cons, List.length_nil, List.range_succ, List.range_zero]
    simp [missP, stAt, lvAt, stepF]
    (repeat' split) <;> simp <;> omega
  exact isLeast_eq h (by omega) (by omega) (fun n h0 h1 => by rw [hP n h0]; simp; omega) (fun n h0 h1 => by rw [hP n (by omega)]; simp; omega)

theorem run_known : runCells 10 3 10 [5, 5, 0, 9] 4 = [.int .i64 8, .int .i64 0, .int .i64 0, .int .i64 6, .int .i64 0, .int .i64 0, .int .i64 9, .int .i64 0, .int .i64 0, .int .i64 3, .int .i64 0, .int .i64 0] := by kernel_rfl
theorem lasts_known : ifOk (checkF 10 10 3 0) (bif windB 5 1000000000 then .tuple #[.int .i64 (lastsF 10 3 5), .bool (decide ((3 : Int) < 5)), .int .i64 0] else .tuple #[.int .i64 0, .bool false, .int .i64 3]) (.tuple #[.int .i64 0, .bool false, .int .i64 (checkF 10 10 3 0)]) = .tuple #[.int .i64 5, .bool true, .int .i64 0] := by kernel_rfl

set_option maxHeartbeats 1000000 in
theorem known_any (w : World) : Calls Try.prog 11 #[] w fun e w' => e = .returned (.bool true) ∧ Below w.heap.size w w' := by
  have hb0 := (Below.refl w.heap.size w).alloc (Nat.le_refl _) (.cells #[.int .i64 10, .int .i64 10, .int .i64 3, .int .i64 0] 28)
  have bR := BoxC.new w 28 #[.int .i64 10, .int .i64 10, .int .i64 3, .int .i64 0]
  have hd1 : demF 10 10 3 0 [5, 5, 0, 9] = 0 := by simp [demF, checkF, windB]
  have hd2 : demF 10 10 3 0 [9, 9] = 0 := by simp [demF, checkF, windB]
  have hd3 : checkF 10 10 3 0 = 0 := by simp [checkF, windB]
  have r1 := Run_any 10 10 3 0 _ [5, 5, 0, 9] _ (IntSl.new (w.alloc (.cells #[.int .i64 10, .int .i64 10, .int .i64 3, .int .i64 0] 28)) [5, 5, 0, 9] 3 4) (by simp)
  simp only [World.size_alloc] at r1
  have hb1 := hb0.alloc (by simp) (.cells #[.int .i64 5, .int .i64 5, .int .i64 0, .int .i64 9] 3)
  have bR1 := bR.alloc (.cells #[.int .i64 5, .int .i64 5, .int .i64 0, .int .i64 9] 3)
  go_enter Try.func11, Try.ntmps11
  go_wp2_with fail
  refine r1.mono ?_
  rintro e w1 ⟨hb2, hok, _⟩
  obtain ⟨v, hfl, hvb, rfl⟩ := hok hd1
  rw [show ([5, 5, 0, 9] : List Int).length = 4 from rfl, run_known] at hfl
  have hB := hb1.trans (hb2.mono hb1.size)
  have bR2 := bR1.grown hb2
  clear r1 hok hb0 hb1 bR bR1 hb2 hd1
  have c0 := bR2.cell 0 rfl
  have c1 := bR2.cell 1 rfl
  have c2 := bR2.cell 2 rfl
  have c3 := bR2.cell 3 rfl
  rcases hfl with ⟨_, hh, _⟩ | ⟨bb, cap, rfl, hbb, hcell⟩
  · cases hh
  have l9 := hcell 9 _ rfl
  have l10 := hcell 10 _ rfl
  have l11 := hcell 11 _ rfl
  clear hcell hvb hd3
  go_wp2_with fail
  refine (Lasts_any 10 10 3 0 5 _).mono ?_
  rintro e w2 ⟨rfl, hb3⟩
  rw [lasts_known]
  have hB2 := hB.trans (hb3.mono hB.size)
  have bR3 := bR2.grown hb3
  have k9 := (hb3.cell (p := ⟨bb, 9, none⟩) hbb).trans l9
  have k10 := (hb3.cell (p := ⟨bb, 10, none⟩) hbb).trans l10
  have k11 := (hb3.cell (p := ⟨bb, 11, none⟩) hbb).trans l11
  have hbb2 := Nat.lt_of_lt_of_le hbb hb3.size
  clear l9 l10 l11 hB hb3 c0 c1 c2 c3 bR2 hbb
  have c0 := bR3.cell 0 rfl
  have c1 := bR3.cell 1 rfl
  have c2 := bR3.cell 2 rfl
  have c3 := bR3.cell 3 rfl
  have s1 := Supply_any 10 10 3 0 _ [9, 9] _ (IntSl.new w2 [9, 9] 3 2) (by simp)
  have hb4 := (Below.refl w2.heap.size w2).alloc (Nat.le_refl _) (.cells #[.int .i64 9, .int .i64 9] 3)
  have bR4 := bR3.grown hb4
  have hB3 := hB2.trans (hb4.mono hB2.size)
  go_wp2_with fail
  refine s1.mono ?_
  rintro e w3 ⟨hb5, hok, _⟩
  obtain ⟨r, b, hl, rfl⟩ := hok hd2
  obtain ⟨rfl, rfl⟩ := sup_known hl
  have hb6 := hb4.trans (hb5.mono hb4.size)
  have hB4 := hB2.trans (hb6.mono hB2.size)
  have bR5 := bR3.grown hb6
  have l9 := (hb6.cell (p := ⟨bb, 9, none⟩) hbb2).trans k9
  have l10 := (hb6.cell (p := ⟨bb, 10, none⟩) hbb2).trans k10
  have l11 := (hb6.cell (p := ⟨bb, 11, none⟩) hbb2).trans k11
  have hbb3 := Nat.lt_of_lt_of_le hbb2 hb6.size
  clear k9 k10 k11 hB2 hB3 hb4 hb5 hb6 c0 c1 c2 c3 bR3 bR4 hbb2 hl hok s1
  have c0 := bR5.cell 0 rfl
  have c1 := bR5.cell 1 rfl
  have c2 := bR5.cell 2 rfl
  have c3 := bR5.cell 3 rfl
  have s1 := Capacity_any 10 10 3 0 _ [9, 9] _ (IntSl.new w3 [9, 9] 3 2) (by simp)
  have hb4 := (Below.refl w3.heap.size w3).alloc (Nat.le_refl _) (.cells #[.int .i64 9, .int .i64 9] 3)
  go_wp2_with fail
  refine s1.mono ?_
  rintro e w4 ⟨hb5, hok, _⟩
  obtain ⟨r, b, hl, rfl⟩ := hok hd2
  obtain ⟨rfl, rfl⟩ := cap_known hl
  have hb6 := hb4.trans (hb5.mono hb4.size)
  have hB5 := hB4.trans (hb6.mono hB4.size)
  have k9 := (hb6.cell (p := ⟨bb, 9, none⟩) hbb3).trans l9
  have k10 := (hb6.cell (p := ⟨bb, 10, none⟩) hbb3).trans l10
  have k11 := (hb6.cell (p := ⟨bb, 11, none⟩) hbb3).trans l11
  clear l9 l10 l11 hB4 hb4 hb5 hb6 c0 c1 c2 c3 bR5 hbb3 hl hok s1 hd2
  go_wp2
  go_ret
  exact ⟨rfl, hB5⟩
end Go.Proofs.Ytbflocamicebhaa
