/- The walk of MatchingLimits, and the plain law behind it. Conditions: the arguments are bytes. -/
import Derived.Test.YtoendfpfnfeccaaOpen
namespace Go.Proofs.Ytoendfpfnfeccaa
open Go.RowKit Go.Shelf

section
variable {css : List (List Int)}
theorem szS_zero (h : ∀ k, k < css.length → (nths css k).length = colN css) : ∀ (r k : Nat), r = css.length - k → szS css k = 0
  | 0, k, hr => szS_end (by omega)
  | r + 1, k, hr => by rw [szS_next (by omega) (h k (by omega))]; exact szS_zero h r (k + 1) (by omega)
theorem rgR_zero {xs : List Int} (h : ∀ k, badC (nth xs k) = false) : ∀ (r k : Nat), r = xs.length - k → rgR xs k = false
  | 0, k, hr => rgR_end (by omega)
  | r + 1, k, hr => by rw [rgR_next (by omega) (h k)]; exact rgR_zero h r (k + 1) (by omega)
theorem rgS_zero (h : ∀ k j, badC (nth (nths css k) j) = false) : ∀ (r k : Nat), r = css.length - k → rgS css k = 0
  | 0, k, hr => rgS_end (by omega)
  | r + 1, k, hr => by rw [rgS_next (by omega) (rgR_zero (h k) _ 0 rfl)]; exact rgS_zero h r (k + 1) (by omega)
end
/-- n rows of m times 0 -/
def zc (n m : Nat) : List (List Int) := List.replicate n (zeros m)
theorem zc_len (n m : Nat) : (zc n m).length = n := by simp [zc]
theorem zc_row {n m k : Nat} (h : k < n) : nths (zc n m) k = zeros m := by simp [nths, zc, h]
theorem zc_col {n m : Nat} (h : 0 < n) : colN (zc n m) = m := by unfold colN; rw [zc_row h, zeros_len]
theorem zc_val (n m k j : Nat) : nth (nths (zc n m) k) j = 0 := by
  rcases Nat.lt_or_ge k n with h | h
  · rw [zc_row h]; exact nth_zeros m j
  · have : nths (zc n m) k = [] := by simp [nths, zc, h]
    rw [this]; rfl
/-- what Check answers -/
def limF (n m : Nat) : Int := if 60 < n ∨ (0 < n ∧ 120 < m) then 4 else if m < n then 6 else 0
theorem ck_zc (n m : Nat) : ckF (zc n m) true = limF n m := by
  unfold ckF limF
  rw [zc_len]
  rcases Nat.eq_zero_or_pos n with h0 | h0
  · subst h0
    rfl
  · rw [zc_col h0]
    rw [szS_zero (fun k hk => by rw [zc_col h0, zc_row (by rw [zc_len] at hk; exact hk), zeros_len]) _ 0 rfl, rgS_zero (fun k j => by rw [zc_val]; rfl) _ 0 rfl]
    simp [h0]
theorem zc_fit {n m : Nat} (hn : n ≤ 1000) (hm : m ≤ 1000) : CsFit (zc n m) := ⟨by rw [zc_len]; omega, fun k => by
  rcases Nat.lt_or_ge k n with h | h
  · rw [zc_row h, zeros_len]; omega
  · have : nths (zc n m) k = [] := by simp [nths, zc, h]
    rw [this]; simp⟩
/-- the rows below k stand -/
def ZcOk (base m k : Nat) (v : Value) (W : World) : Prop := ∃ us : List Value, W.ownsRow base 24 1 v k us ∧ us.length = k ∧ ∀ j, j < k → ∃ g, us[j]? = some (rowS g m) ∧ BoxC W g 3 (madeCells #[.int .i64 0] m)
theorem box_zeros {W : World} {g m : Nat} (h : BoxC W g 3 (madeCells #[.int .i64 0] m)) : NumSl .i64 W (rowS g m) (zeros m) := by
  refine .inr ⟨g, 0, m, by rw [zeros_len], fun i hi => ?_⟩
  rw [zeros_len] at hi
  rw [Nat.zero_add, nth_zeros]
  refine h.cell i ?_
  rw [← Array.getElem?_toList, toList_madeCells_one]
  simp [hi]
theorem ZcOk.sl {base m k : Nat} {v : Value} {W : World} (h : ZcOk base m k v W) : SlSl W v (zc k m) := by
  obtain ⟨us, h1, h2, h3⟩ := h
  rcases FlatSl.of_owns h1 with ⟨rfl, h0, _⟩ | ⟨b, cap, rfl, hl, hc⟩
  · subst h0
    exact .inl ⟨⟨_, _, rfl⟩, rfl⟩
  · refine .inr ⟨b, 0, cap, by rw [zc_len], hl, fun i hi => ?_⟩
    rw [zc_len] at hi
    obtain ⟨g, g1, g2⟩ := h3 i hi
    exact ⟨_, by rw [Nat.zero_add]; exact hc i _ g1, by rw [zc_row hi]; exact box_zeros g2⟩
theorem run_make24u (n : Nat) (hn : n ≤ 1000) (X : World) : (Instr.makeSlice 24 (.int .u8 (n : Int)) (.int .u8 (n : Int))).run Try.prog X = .ok (rowS X.heap.size n) (X.alloc (.cells (madeCells #[.int .i64 0] n) 3)) := by
  obtain ⟨i0, hi, hz0, hz1, hz2⟩ := info_parts info3
  have := run_make (P := Try.prog) X 24 3 i0 (.int .i64 0) Try.underlying24 hi hz0 .u8 .u8 n n (by omega) (by omega) (by rw [hz2]; omega) (by omega)
  rw [hz1] at this
  simpa [Value.cells] using this
set_option maxRecDepth 100000 in
set_option maxHeartbeats 4000000 in
theorem law3_any (n m : Int) (hn0 : 0 ≤ n) (hn1 : n ≤ 255) (hm0 : 0 ≤ m) (hm1 : m ≤ 255) (w : World) : Calls Try.prog 3 #[.int .u8 n, .int .u8 m] w (BoolBelow true w) := by
  have hkn := Lib.hid known_any
  obtain ⟨i0, hi, hz0, hz1, hz2⟩ := info_parts info24
  obtain ⟨n, rfl⟩ : ∃ k : Nat, n = k := ⟨n.toNat, by omega⟩
  obtain ⟨m, rfl⟩ : ∃ k : Nat, m = k := ⟨m.toNat, by omega⟩
  by_cases hA : 130 < n
  · have hAb : decide ((130 : Int) < (n : Int)) = true := decide_eq_true (by omega)
    go_enter Try.func3, Try.ntmps3
    go_wp2_with fail
    refine (hkn.out _).mono ?_
    rintro e w1 ⟨rfl, hb1⟩
    go_wp2_with fail
    refine (hkn.out _).mono ?_
    rintro e w2 ⟨rfl, hb2⟩
    go_wp2
    go_ret
    exact ⟨rfl, hb1.trans (hb2.mono hb1.size)⟩
  have hAb : decide ((130 : Int) < (n : Int)) = false := decide_eq_false (by omega)
  by_cases hC : 130 < m
  · have hCb : decide ((130 : Int) < (m : Int)) = true := decide_eq_true (by omega)
    go_enter Try.func3, Try.ntmps3
    go_wp2_with fail
    refine (hkn.out _).mono ?_
    rintro e w1 ⟨rfl, hb1⟩
    go_wp2_with fail
    refine (hkn.out _).mono ?_
    rintro e w2 ⟨rfl, hb2⟩
    go_wp2
    go_ret
    exact ⟨rfl, hb1.trans (hb2.mono hb1.size)⟩
  have hCb : decide ((130 : Int) < (m : Int)) = false := decide_eq_false (by omega)
  have hmk : ∀ X : World, (Instr.makeSlice 24 (.int .u8 (m : Int)) (.int .u8 (m : Int))).run Try.prog X = .ok (rowS X.heap.size m) (X.alloc (.cells (madeCells #[.int .i64 0] m) 3)) := run_make24u m (by omega)
  go_enter Try.func3, Try.ntmps3
  go_wp2_with fail
  refine (hkn.out _).mono ?_
  rintro e w1 ⟨rfl, hb1⟩
  go_wp2
  go_loopw [5, 6] (fun v i wr => ∃ k : Nat, k ≤ n ∧ i = .int .i64 (k : Int) ∧ ZcOk w.heap.size m k v wr ∧ Below w.heap.size w wr) (fun _ i _ => n - (intOf i).toNat)
  case atStart => exact ⟨0, Nat.zero_le _, rfl, ⟨[], World.ownsRow_nil _ _ _ _, rfl, fun j h => by omega⟩, hb1⟩
  case round =>
    clear hb1
    obtain ⟨k, hk, rfl, hZ, hB⟩ := hrel
    have hBs := hB.size
    by_cases hlt : k < n
    · have hkb : decide ((k : Int) < (n : Int)) = true := decide_eq_true (by omega)
      obtain ⟨us, hown, hul, hus⟩ := hZ
      have hR := BoxC.new wr 3 (madeCells #[.int .i64 0] m)
      have hR2 := hR.alloc (.cells #[rowS wr.heap.size m] 24)
      have hown2 := (hown.alloc (.cells (madeCells #[.int .i64 0] m) 3)).alloc (.cells #[rowS wr.heap.size m] 24)
      have hN := BoxC.new (wr.alloc (.cells (madeCells #[.int .i64 0] m) 3)) 24 #[rowS wr.heap.size m]
      rw [World.size_alloc] at hN
      have hB2 := (hB.alloc hBs (.cells (madeCells #[.int .i64 0] m) 3)).alloc (by simp; omega) (.cells #[rowS wr.heap.size m] 24)
      have hus2 : ∀ j, j < k → ∃ g, us[j]? = some (rowS g m) ∧ BoxC ((wr.alloc (.cells (madeCells #[.int .i64 0] m) 3)).alloc (.cells #[rowS wr.heap.size m] 24)) g 3 (madeCells #[.int .i64 0] m) := fun j hj => by
        obtain ⟨g, g1, g2⟩ := hus j hj
        exact ⟨g, g1, (g2.alloc _).alloc _⟩
      replace hul := Lib.hid hul
      replace hus2 := Lib.hid hus2
      clear hus hR hown
      go_wp2_with (at_builtin; refine wpList_append_own _ rfl _ _ 23 rfl w.heap.size 24 i0 _ 1 24 Try.underlying23 hi hz0 hz1 hz2 rfl (by decide) _ k us rfl hown2 ⟨wr.heap.size + 1, 0, none⟩ 1 1 [rowS wr.heap.size m] rfl rfl (one_news hN) (by simp [Value.oneCell']) (by unfold maxLen; omega) (by omega) (by simp; omega) ?_; intro v' w1' hown' hgrow hnil)
      have hZ2 : ZcOk w.heap.size m (k + 1) v' w1' := by
        refine ⟨_, hown', by simp [hul.out], fun j hj => ?_⟩
        rcases Nat.lt_or_ge j k with h | h
        · obtain ⟨g, g1, g2⟩ := hus2.out j h
          exact ⟨g, by rw [List.getElem?_append_left (by rw [hul.out]; exact h)]; exact g1, g2.kept hgrow (boxC_not_row g2 (by decide) hown2)⟩
        · obtain rfl : j = k := by omega
          exact ⟨wr.heap.size, by rw [List.getElem?_append_right (by rw [hul.out]; exact Nat.le_refl _), hul.out]; simp, hR2.kept hgrow (boxC_not_row hR2 (by decide) hown2)⟩
      have hB3 := hB2.grown hgrow (by simp; omega) (fun q e => ownsRow_low hown2 q e)
      clear hown' hown2 hgrow hR2 hN hB2
      go_roundw
      case rel => exact ⟨k + 1, by omega, by go_num, hZ2, hB3⟩
      case measure => simp [intOf]; omega
    · obtain rfl : k = n := by omega
      have hck := Check_any _ (zc k m) wr hZ.sl (zc_fit (by omega) (by omega))
      rw [ck_zc] at hck
      clear hZ
      by_cases h1 : 60 < k
      · have hF : limF k m = 4 := by unfold limF; rw [if_pos (.inl h1)]
        rw [hF] at hck
        replace hck := Lib.hid hck
        replace hF := Lib.hid hF
        have b1 : decide ((60 : Int) < (k : Int)) = true := decide_eq_true (by omega)
        go_wp2_with fail
        refine hck.out.mono ?_
        rintro e w3 ⟨rfl, hb3⟩
        go_wp2
        go_ret
        exact ⟨rfl, hB.trans (hb3.mono hB.size)⟩
      have b1 : decide ((60 : Int) < (k : Int)) = false := decide_eq_false (by omega)
      by_cases h2 : 0 < k ∧ 120 < m
      · have hF : limF k m = 4 := by unfold limF; rw [if_pos (.inr h2)]
        rw [hF] at hck
        replace hck := Lib.hid hck
        replace hF := Lib.hid hF
        have b2 : decide ((0 : Int) < (k : Int)) = true := decide_eq_true (by omega)
        have b2' : decide (0 < k) = true := decide_eq_true (by omega)
        have b3 : decide ((120 : Int) < (m : Int)) = true := decide_eq_true (by omega)
        clear h2
        go_wp2_with fail
        refine hck.out.mono ?_
        rintro e w3 ⟨rfl, hb3⟩
        go_wp2
        go_ret
        exact ⟨rfl, hB.trans (hb3.mono hB.size)⟩
      have hG : limF k m = if m < k then 6 else 0 := by unfold limF; rw [if_neg (by omega)]
      have b4 : 0 < k → decide ((120 : Int) < (m : Int)) = false := fun h => decide_eq_false (by omega)
      rw [hG] at hck
      by_cases h3 : m < k
      · rw [if_pos h3] at hck
        replace hck := Lib.hid hck
        replace hG := Lib.hid hG
        replace b4 := b4 (by omega)
        have b2 : decide ((0 : Int) < (k : Int)) = true := decide_eq_true (by omega)
        have b2' : decide (0 < k) = true := decide_eq_true (by omega)
        have b3 : decide ((m : Int) < (k : Int)) = true := decide_eq_true (by omega)
        have b3' : decide (m < k) = true := decide_eq_true (by omega)
        clear h2
        go_wp2_with fail
        refine hck.out.mono ?_
        rintro e w3 ⟨rfl, hb3⟩
        go_wp2
        go_ret
        exact ⟨rfl, hB.trans (hb3.mono hB.size)⟩
      · rw [if_neg h3] at hck
        replace hck := Lib.hid hck
        replace hG := Lib.hid hG
        have b3 : decide ((m : Int) < (k : Int)) = false := decide_eq_false (by omega)
        have b3' : decide (m < k) = false := decide_eq_false (by omega)
        rcases Nat.eq_zero_or_pos k with h0 | h0
        · have b2 : decide ((0 : Int) < (k : Int)) = false := decide_eq_false (by omega)
          have b2' : decide (0 < k) = false := decide_eq_false (by omega)
          replace h0 := Lib.hid h0
          replace b4 := Lib.hid b4
          clear h2 h3
          go_wp2_with fail
          refine hck.out.mono ?_
          rintro e w3 ⟨rfl, hb3⟩
          go_wp2
          go_ret
          exact ⟨rfl, hB.trans (hb3.mono hB.size)⟩
        · have b2 : decide ((0 : Int) < (k : Int)) = true := decide_eq_true (by omega)
          have b2' : decide (0 < k) = true := decide_eq_true (by omega)
          replace b4 := b4 h0
          clear h2 h3
          go_wp2_with fail
          refine hck.out.mono ?_
          rintro e w3 ⟨rfl, hb3⟩
          go_wp2
          go_ret
          exact ⟨rfl, hB.trans (hb3.mono hB.size)⟩
end Go.Proofs.Ytoendfpfnfeccaa
