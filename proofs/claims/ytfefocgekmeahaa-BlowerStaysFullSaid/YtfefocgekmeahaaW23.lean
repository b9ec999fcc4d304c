/- The contracts of the model's start, small and refused. Conditions: lists that fit. -/
import Derived.Test.YtfefocgekmeahaaW22
import Derived.Deep.RegionHeld3
namespace Go.Proofs.Ytfefocgekmeahaa
open Go.RowKit Go.Shelf

theorem num_of_owns {w : World} {base : Nat} {v : Value} {xs : List Int} (h : w.ownsRow base 3 1 v xs.length (xs.map (Value.int .i64))) : NumSl .i64 w v xs := by
  rcases FlatSl.of_owns h with ⟨rfl, h0, _⟩ | ⟨b, cap, rfl, _, hc⟩
  · exact .inl ⟨⟨_, _, rfl⟩, List.eq_nil_of_length_eq_zero h0⟩
  · refine .inr ⟨b, 0, cap, rfl, fun i hi => ?_⟩
    have := hc i (.int .i64 (nth xs i)) (by simp [nth, hi])
    rwa [Nat.zero_add]

set_option maxRecDepth 100000 in
set_option maxHeartbeats 4000000 in
theorem startM_any (sup : Int) (v : Value) (ns : List Nd) (w : World) (hv : NdSl w v ns) (hn : ns.length ≤ 1000) :
    Calls Try.prog 19 #[plV sup v] w (fun e w' => ∃ y, e = .returned y ∧ NumSl .i64 w' y (lvs ns) ∧ Below w.heap.size w w') := by
  obtain ⟨i0, hi, hz0, hz1, hz2⟩ := info_parts info3
  have hB := (Below.refl w.heap.size w).alloc (Nat.le_refl _) (.cells #[.int .i64 sup, v] 24)
  have bP := BoxC.new w 24 #[.int .i64 sup, v]
  have hv1 := hv.mono hB
  obtain ⟨av, cv, rfl⟩ := hv.len
  clear hv
  go_enter Try.func19, Try.ntmps19
  go_wp2
  generalize w.alloc (.cells #[.int .i64 sup, .slice av ns.length cv] 24) = W0 at hB bP hv1 ⊢
  go_loopw [3, 4] (fun u q W => ∃ j : Nat, j ≤ ns.length ∧ q = .int .i64 j ∧ W.ownsRow W0.heap.size 3 1 u j (((lvs ns).take j).map (Value.int .i64)) ∧ Below W0.heap.size W0 W) (fun _ q _ => ns.length - (intOf q).toNat)
  case atStart => exact ⟨0, Nat.zero_le _, rfl, World.ownsRow_nil _ _ _ _, Below.refl _ _⟩
  case round =>
    obtain ⟨j, hj, rfl, hrow, hY⟩ := hrel
    have bY := bP.grown hY
    have c1 := bY.cell 1 rfl
    have hYs := hY.size
    by_cases hlt : j < ns.length
    · obtain ⟨bv, ov, cpv, hev, hcv⟩ := (hv1.mono hY).at hlt
      cases hev
      obtain ⟨-, -, -, n4⟩ := hcv j hlt
      clear hcv
      have hji : (j : Int) < (ns.length : Int) := by omega
      have htk := lvs_take hlt
      have hrow2 := hrow.alloc (.cells #[.int .i64 (nd ns j).l] 3)
      replace htk := Lib.hid htk
      go_wp2_with (at_builtin; refine wpList_append_own _ rfl _ _ 39 rfl W0.heap.size 3 i0 _ 1 8 Try.underlying39 hi hz0 hz1 hz2 rfl (by decide) _ _ _ rfl hrow2 ⟨wr.heap.size, 0, none⟩ 1 1 [.int .i64 (nd ns j).l] rfl rfl (cells_new _ _ _) (by simp [Value.oneCell']) (by unfold maxLen; omega) (by omega) (by simp; omega) ?_; intro v' w1' hown' hgrow hnil)
      go_roundw
      case rel =>
        refine ⟨j + 1, by omega, by go_num, ?_, (hY.alloc (by omega) _).grown hgrow (by simp; omega) (fun i e => ownsRow_low hrow i e)⟩
        rw [htk.out, List.map_append]
        exact hown'
      case measure => simp [intOf]; omega
    · obtain rfl : j = ns.length := by omega
      rw [List.take_of_length_le (by rw [lvs_len]; omega)] at hrow
      have hl := lvs_len ns
      have hy := num_of_owns (by rw [hl]; exact hrow)
      replace hl := Lib.hid hl
      go_wp2
      go_ret
      exact ⟨_, rfl, hy, hB.trans (hY.mono hB.size)⟩

/-- few nodes, few and short demands -/
def smB (dss : List (List Int)) (k : Nat) (_ : Unit) : Bool ⊕ Unit := if 32 < (nths dss k).length then .inl false else .inr ()
def smS (ns : List Nd) (dss : List (List Int)) (k : Nat) : Bool := scan dss.length (smB dss) (fun _ => decide (ns.length ≤ 32) && decide (dss.length ≤ 8)) k ()
section
variable {ns : List Nd} {dss : List (List Int)} {k : Nat}
theorem smS_hit (h : k < dss.length) (h1 : 32 < (nths dss k).length) : smS ns dss k = false := scan_inl h (by unfold smB; rw [if_pos h1])
theorem smS_next (h : k < dss.length) (h1 : ¬ 32 < (nths dss k).length) : smS ns dss k = smS ns dss (k + 1) := scan_inr h (by unfold smB; rw [if_neg h1])
theorem smS_end (h : dss.length ≤ k) : smS ns dss k = (decide (ns.length ≤ 32) && decide (dss.length ≤ 8)) := scan_ge h
theorem smS_all (h0 : smS ns dss 0 = true) : ∀ k, k ≤ dss.length → smS ns dss k = true ∧ ∀ i, i < k → (nths dss i).length ≤ 32
  | 0, _ => ⟨h0, fun i hi => absurd hi (Nat.not_lt_zero _)⟩
  | k + 1, h => by
    obtain ⟨h1, h2⟩ := smS_all h0 k (by omega)
    by_cases h3 : 32 < (nths dss k).length
    · rw [smS_hit (by omega) h3] at h1; cases h1
    · refine ⟨by rw [← smS_next (by omega) h3]; exact h1, fun i hi => ?_⟩
      rcases Nat.lt_or_ge i k with h4 | h4
      · exact h2 i h4
      · obtain rfl : i = k := by omega
        omega
theorem smS_ok (h0 : smS ns dss 0 = true) : ns.length ≤ 32 ∧ dss.length ≤ 8 ∧ ∀ i, (nths dss i).length ≤ 32 := by
  obtain ⟨h1, h2⟩ := smS_all h0 dss.length (Nat.le_refl _)
  rw [smS_end (Nat.le_refl _)] at h1
  simp at h1
  refine ⟨h1.1, h1.2, fun i => ?_⟩
  rcases Nat.lt_or_ge i dss.length with h | h
  · exact h2 i h
  · simp [nths, h]
end
end Go.Proofs.Ytfefocgekmeahaa
