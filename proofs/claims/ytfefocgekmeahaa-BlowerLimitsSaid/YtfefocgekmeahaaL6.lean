/- The walk of BlowerLimits, and the plain law behind it. Conditions: the argument is a byte. -/
import Derived.Test.YtfefocgekmeahaaW20
namespace Go.Proofs.Ytfefocgekmeahaa
open Go.RowKit Go.Shelf

/-- a chain of k nodes -/
def chN (k : Nat) : List Nd := (List.range k).map fun i : Nat => ⟨(i : Int) - 1, 0, 0, 0⟩
theorem chN_len (k : Nat) : (chN k).length = k := by simp [chN]
theorem chN_nd {k i : Nat} (h : i < k) : nd (chN k) i = ⟨(i : Int) - 1, 0, 0, 0⟩ := by simp [nd, chN, h]
theorem ch_ok : ∀ k, k < 41 → ckF 0 (chN k) = if 30 < k then 4 else 0 := by decide
def chC (i : Nat) : List Value := [.int .i64 ((i : Int) - 1), .int .i64 0, .int .i64 0, .int .i64 0]
def chCells (k : Nat) : List Value := (List.range k).flatMap chC
theorem chCells_succ (k : Nat) : chCells (k + 1) = chCells k ++ chC k := by simp [chCells, List.range_succ]
theorem chCells_len (k : Nat) : (chCells k).length = k * 4 := by
  induction k with
  | zero => rfl
  | succ k ih => rw [chCells_succ, List.length_append, ih]; simp [chC]; omega
theorem chCells_at : ∀ (k i j : Nat), i < k → j < 4 → (chCells k)[i * 4 + j]? = (chC i)[j]?
  | 0, i, j, h, _ => by omega
  | k + 1, i, j, h, hj => by
    rw [chCells_succ]
    rcases Nat.lt_or_ge i k with h1 | h1
    · rw [List.getElem?_append_left (by rw [chCells_len]; omega)]
      exact chCells_at k i j h1 hj
    · obtain rfl : i = k := by omega
      rw [List.getElem?_append_right (by rw [chCells_len]; omega), chCells_len]
      congr 1
      omega
theorem chN_sl {W : World} {base k : Nat} {v : Value} (h : W.ownsRow base 42 4 v k (chCells k)) : NdSl W v (chN k) := by
  rcases FlatSl.of_owns h with ⟨rfl, h0, _⟩ | ⟨b, cap, rfl, _, hc⟩
  · subst h0
    exact .inl ⟨⟨_, _, rfl⟩, rfl⟩
  · refine .inr ⟨b, 0, cap, by rw [chN_len], fun i hi => ?_⟩
    rw [chN_len] at hi
    rw [chN_nd hi]
    have hg := fun j => chCells_at k i j hi
    refine ⟨hc _ _ ?_, hc _ _ ?_, hc _ _ ?_, hc _ _ ?_⟩
    · exact (congrArg (fun q => (chCells k)[q]?) (by omega)).trans (hg 0 (by omega))
    · exact (congrArg (fun q => (chCells k)[q]?) (by omega)).trans (hg 1 (by omega))
    · exact (congrArg (fun q => (chCells k)[q]?) (by omega)).trans (hg 2 (by omega))
    · exact (congrArg (fun q => (chCells k)[q]?) (by omega)).trans (hg 3 (by omega))

/-- demands of nothing -/
theorem nil_sl {W : World} {g n : Nat} (h : BoxC W g 39 (madeCells #[.slice none 0 0] n)) : SlSl W (.slice (some ⟨g, 0, none⟩) n n) (List.replicate n []) := by
  refine .inr ⟨g, 0, n, by rw [List.length_replicate], h.lt, fun i hi => ⟨.slice none 0 0, ?_, ?_⟩⟩
  · rw [List.length_replicate] at hi
    exact h.cell _ (by rw [← Array.getElem?_toList, toList_madeCells_one]; simp [hi])
  · have : nths (List.replicate n []) i = [] := by simp only [nths]; rw [List.getElem?_replicate]; split <;> rfl
    rw [this]
    exact .inl ⟨⟨none, 0, rfl⟩, rfl⟩
theorem nil_fit {n : Nat} (hn : n ≤ 1001) : DssFit [] (List.replicate n []) := ⟨by decide, by simp; omega, fun k => by
  have : nths (List.replicate n ([] : List Int)) k = [] := by simp only [nths]; rw [List.getElem?_replicate]; split <;> rfl
  rw [this]
  decide⟩
theorem nil_caS (n : Nat) : ∀ r k : Nat, r = n - k → caS [] (List.replicate n []) k = 0
  | 0, k, h => caS_end (by simp; omega)
  | r + 1, k, h => by
    have : nths (List.replicate n ([] : List Int)) k = [] := by simp only [nths]; rw [List.getElem?_replicate]; split <;> rfl
    rw [caS_next (by simp; omega) (by rw [this]; decide)]
    exact nil_caS n r (k + 1) (by omega)
theorem ca_1000 : caF 0 [] (List.replicate 1000 []) = 0 := by
  unfold caF
  rw [if_neg (by decide), if_neg (by rw [List.length_replicate]; decide)]
  exact nil_caS 1000 1000 0 (by omega)
theorem ca_1001 : caF 0 [] (List.replicate 1001 []) = 4 := by
  unfold caF
  rw [if_neg (by decide), if_pos (by rw [List.length_replicate]; decide)]
theorem first_1001 : FirstF 0 [] (List.replicate 1001 []) = (0, 0, false, 4) := by
  unfold FirstF
  rw [if_pos (by rw [ca_1001]; decide), ca_1001]

theorem info42 : (Try.prog.info? 42).map (fun i => (i.zero, i.size, i.bytes)) = some (some (.agg #[.int .i64 0, .int .i64 0, .int .i64 0, .int .i64 0]), 4, 32) := by kernel_rfl
/-- n lists of nothing, as a block -/
def bigC (n : Nat) : Obj := .cells (madeCells #[.slice none 0 0] n) 39
theorem run_make25 (n : Nat) (hn : n ≤ 1001) (X : World) : (Instr.makeSlice 25 (.int .i64 (n : Int)) (.int .i64 (n : Int))).run Try.prog X = .ok (.slice (some ⟨X.heap.size, 0, none⟩) n n) (X.alloc (bigC n)) := by
  obtain ⟨i0, hi, hz0, hz1, hz2⟩ := info_parts info39
  have := run_make (P := Try.prog) X 25 39 i0 (.slice none 0 0) Try.underlying25 hi hz0 .i64 .i64 n n (by omega) (by omega) (by rw [hz2]; omega) (by omega)
  rw [hz1] at this
  simpa [Value.cells, bigC] using this

set_option maxRecDepth 100000 in
set_option maxHeartbeats 4000000 in
theorem law6_any (n : Int) (hn0 : 0 ≤ n) (hn1 : n ≤ 255) (w : World) :
    Calls Try.prog 6 #[.int .u8 n] w fun e w' => e = .returned (.bool true) ∧ Below w.heap.size w w' := by
  obtain ⟨i0, hi, hz0, hz1, hz2⟩ := info_parts info42
  obtain ⟨k, rfl⟩ : ∃ k : Nat, n = k := ⟨n.toNat, by omega⟩
  by_cases h40 : 40 < k
  · have h41 : (40 : Int) < (k : Int) := by omega
    go_enter Try.func6, Try.ntmps6
    go_wp2_with fail
    refine (known_any _).mono ?_
    rintro e w1 ⟨rfl, hb1⟩
    go_wp2_with fail
    refine (known_any _).mono ?_
    rintro e w2 ⟨rfl, hb2⟩
    go_wp2
    go_ret
    exact ⟨rfl, hb1.trans (hb2.mono hb1.size)⟩
  · have h41 : ¬ (40 : Int) < (k : Int) := by omega
    go_enter Try.func6, Try.ntmps6
    go_wp2_with fail
    refine (known_any _).mono ?_
    rintro e w1 ⟨rfl, hb1⟩
    go_wp2
    go_loopw [4] (fun i W => ∃ j : Nat, j ≤ k ∧ i = .int .i64 j ∧ ∃ v, BoxC W w1.heap.size 24 #[.int .i64 0, v] ∧ W.ownsRow w1.heap.size 42 4 v j (chCells j) ∧ Below w1.heap.size w1 W) (fun i _ => k - (intOf i).toNat)
    case atStart => exact ⟨0, by omega, rfl, _, BoxC.new w1 24 _, World.ownsRow_nil _ _ _ _, (Below.refl _ w1).alloc (Nat.le_refl _) _⟩
    case round =>
      obtain ⟨j, hj, rfl, v, hbx, hrow, hB⟩ := hrel
      have hBs := hB.size
      by_cases hlt : j < k
      · have hji : (j : Int) < (k : Int) := by omega
        have c1 := hbx.cell 1 rfl
        have hrow2 := hrow.alloc (.cells #[.int .i64 ((j : Int) - 1), .int .i64 0, .int .i64 0, .int .i64 0] 42)
        go_wp2_with (at_builtin; refine wpList_append_own _ rfl _ _ 22 rfl w1.heap.size 42 i0 _ 4 32 Try.underlying22 hi hz0 hz1 hz2 rfl (by decide) _ _ _ rfl hrow2 ⟨wr.heap.size, 0, none⟩ 1 1 (chC j) rfl rfl (cells_new _ _ _) (by simp [Value.oneCell', chC]) (by unfold maxLen; omega) (by omega) (by simp; omega) ?_; intro v' w1' hown' hgrow hnil; obtain ⟨g', cap', rfl⟩ := ownsRow_succ hown'; have hq1 := (hbx.alloc (.cells #[.int .i64 ((j : Int) - 1), .int .i64 0, .int .i64 0, .int .i64 0] 42)).kept hgrow (boxC_not_row (hbx.alloc _) (by decide) hrow2); have f1 := hq1.frozen 1; have c2 := hq1.cell 1 rfl)
        have hB2 := (hB.alloc hBs (.cells #[.int .i64 ((j : Int) - 1), .int .i64 0, .int .i64 0, .int .i64 0] 42)).grown hgrow (by simp; omega) (fun q e => ownsRow_low hrow2 q e)
        have hne := boxC_not_row hq1 (by decide) hown'
        go_roundw
        case rel =>
          refine ⟨j + 1, by omega, by go_num, _, hq1.set 1 _, ?_, hB2.setCell (by show w1.heap.size ≤ w1.heap.size; omega) _⟩
          rw [chCells_succ]
          exact ownsRow_kept hown' (grownBy_setCell _ _ _) (fun q hq e => hne (by rw [hq]; exact e))
        case measure => simp [intOf]; omega
      · obtain rfl : j = k := by omega
        have hns := chN_sl hrow
        have hckn := ch_ok j (by omega)
        have hB1 := hb1.trans (hB.mono hb1.size)
        have hm0 : ∀ X : World, (Instr.makeSlice 25 (.int .i64 1000) (.int .i64 1000)).run Try.prog X = .ok (.slice (some ⟨X.heap.size, 0, none⟩) 1000 1000) (X.alloc (bigC 1000)) := run_make25 1000 (by omega)
        have hm1 : ∀ X : World, (Instr.makeSlice 25 (.int .i64 1001) (.int .i64 1001)).run Try.prog X = .ok (.slice (some ⟨X.heap.size, 0, none⟩) 1001 1001) (X.alloc (bigC 1001)) := run_make25 1001 (by omega)
        have hnil : ∀ X : World, NdSl X (.slice none 0 0) [] := fun X => .inl ⟨⟨none, 0, rfl⟩, rfl⟩
        have hbg : ∀ (n : Nat) (X : World), BoxC (X.alloc (bigC n)) X.heap.size 39 (madeCells #[.slice none 0 0] n) := fun n X => BoxC.new X 39 _
        have hr1 := Run_any 0 _ [] _ (List.replicate 1000 []) _ (hnil _) (nil_sl (hbg 1000 wr)) (nil_fit (by omega))
        have hr2 := fun X : World => Run_any 0 _ [] _ (List.replicate 1001 []) _ (hnil _) (nil_sl (hbg 1001 X)) (nil_fit (by omega))
        have hr3 := fun X : World => First_any 0 _ [] _ (List.replicate 1001 []) _ (hnil _) (nil_sl (hbg 1001 X)) (nil_fit (by omega))
        have hr4 := fun X : World => Least_any 0 _ [] _ (List.replicate 1001 []) _ (hnil _) (nil_sl (hbg 1001 X)) (nil_fit (by omega))
        have hal : ∀ (n : Nat) (X : World), Below X.heap.size X (X.alloc (bigC n)) := fun n X => (Below.refl _ X).alloc (Nat.le_refl _) _
        clear hrow hB hBs hb1 hnil hbg
        replace hr1 := Lib.hid hr1
        replace hr2 := Lib.hid hr2
        replace hr3 := Lib.hid hr3
        replace hr4 := Lib.hid hr4
        replace hal := Lib.hid hal
        by_cases h30 : 30 < j
        · have h31 : (30 : Int) < (j : Int) := by omega
          rw [if_pos h30] at hckn
          replace hckn := Lib.hid hckn
          go_wp2_with fail
          refine hr1.out.mono ?_
          rintro e w2 ⟨v1, rfl, hb2, -, -⟩
          rw [ca_1000]
          replace hb2 := (hal.out 1000 wr).trans (hb2.mono (hal.out 1000 wr).size)
          clear hr1
          go_wp2_with fail
          refine (hr2.out w2).mono ?_
          rintro e w3 ⟨v2, rfl, hb3, -, -⟩
          rw [ca_1001]
          replace hb3 := (hal.out 1001 w2).trans (hb3.mono (hal.out 1001 w2).size)
          clear hr2
          go_wp2_with fail
          refine (hr3.out w3).mono ?_
          rintro e w4 ⟨rfl, hb4⟩
          rw [first_1001]
          replace hb4 := (hal.out 1001 w3).trans (hb4.mono (hal.out 1001 w3).size)
          clear hr3
          go_wp2_with fail
          refine (hr4.out w4).mono ?_
          rintro e w5 ⟨hb5, he5, -⟩
          obtain rfl := he5 (by rw [ca_1001]; decide)
          rw [ca_1001]
          replace hb5 := (hal.out 1001 w4).trans (hb5.mono (hal.out 1001 w4).size)
          clear hr4 he5
          have hb25 := hb2.trans ((hb3.trans ((hb4.trans (hb5.mono hb4.size)).mono hb3.size)).mono hb2.size)
          have hB5 := hB1.trans (hb25.mono hB1.size)
          have hbx5 := hbx.grown hb25
          have c0 := hbx5.cell 0 rfl
          have c1 := hbx5.cell 1 rfl
          have hck := Check_any 0 v (chN j) w5 (hns.mono hb25) (by rw [chN_len]; omega)
          rw [hckn.out] at hck
          replace hck := Lib.hid hck
          clear hbx hns hb2 hb3 hb4 hb5 hb25 hB1 hm0 hm1 hal hckn
          go_wp2_with fail
          refine hck.out.mono ?_
          rintro e w6 ⟨rfl, hb6⟩
          clear c0 c1 hck
          go_wp2
          go_ret
          exact ⟨rfl, hB5.trans (hb6.mono hB5.size)⟩
        · have h31 : ¬ (30 : Int) < (j : Int) := by omega
          rw [if_neg h30] at hckn
          replace hckn := Lib.hid hckn
          go_wp2_with fail
          refine hr1.out.mono ?_
          rintro e w2 ⟨v1, rfl, hb2, -, -⟩
          rw [ca_1000]
          replace hb2 := (hal.out 1000 wr).trans (hb2.mono (hal.out 1000 wr).size)
          clear hr1
          go_wp2_with fail
          refine (hr2.out w2).mono ?_
          rintro e w3 ⟨v2, rfl, hb3, -, -⟩
          rw [ca_1001]
          replace hb3 := (hal.out 1001 w2).trans (hb3.mono (hal.out 1001 w2).size)
          clear hr2
          go_wp2_with fail
          refine (hr3.out w3).mono ?_
          rintro e w4 ⟨rfl, hb4⟩
          rw [first_1001]
          replace hb4 := (hal.out 1001 w3).trans (hb4.mono (hal.out 1001 w3).size)
          clear hr3
          go_wp2_with fail
          refine (hr4.out w4).mono ?_
          rintro e w5 ⟨hb5, he5, -⟩
          obtain rfl := he5 (by rw [ca_1001]; decide)
          rw [ca_1001]
          replace hb5 := (hal.out 1001 w4).trans (hb5.mono (hal.out 1001 w4).size)
          clear hr4 he5
          have hb25 := hb2.trans ((hb3.trans ((hb4.trans (hb5.mono hb4.size)).mono hb3.size)).mono hb2.size)
          have hB5 := hB1.trans (hb25.mono hB1.size)
          have hbx5 := hbx.grown hb25
          have c0 := hbx5.cell 0 rfl
          have c1 := hbx5.cell 1 rfl
          have hck := Check_any 0 v (chN j) w5 (hns.mono hb25) (by rw [chN_len]; omega)
          rw [hckn.out] at hck
          replace hck := Lib.hid hck
          clear hbx hns hb2 hb3 hb4 hb5 hb25 hB1 hm0 hm1 hal hckn
          go_wp2_with fail
          refine hck.out.mono ?_
          rintro e w6 ⟨rfl, hb6⟩
          clear c0 c1 hck
          go_wp2
          go_ret
          exact ⟨rfl, hB5.trans (hb6.mono hB5.size)⟩
end Go.Proofs.Ytfefocgekmeahaa
