/- The contracts of the model's small and refused. Conditions: lists that fit. -/
import Derived.Test.YtfefocgekmeahaaW23
namespace Go.Proofs.Ytfefocgekmeahaa
open Go.RowKit Go.Shelf

theorem ret_b {a F : Bool} (h : a = F) : Ending.returned (.bool a) = .returned (.bool F) := by rw [h]

set_option maxRecDepth 100000 in
set_option maxHeartbeats 4000000 in
theorem small_any (sup : Int) (v : Value) (ns : List Nd) (u : Value) (dss : List (List Int)) (w : World) (hv : NdSl w v ns) (hu : SlSl w u dss) (hl : dss.length ≤ 9223372036854775807) :
    Calls Try.prog 12 #[plV sup v, u] w (BoolBelow (smS ns dss 0) w) := by
  have hB := (Below.refl w.heap.size w).alloc (Nat.le_refl _) (.cells #[.int .i64 sup, v] 24)
  have bP := BoxC.new w 24 #[.int .i64 sup, v]
  have hu1 := hu.mono hB
  obtain ⟨av, cv, rfl⟩ := hv.len
  obtain ⟨au, cu, rfl⟩ := hu.len
  obtain ⟨F, hF⟩ : ∃ F, smS ns dss 0 = F := ⟨_, rfl⟩
  rw [hF]
  replace hF := Lib.hid hF
  clear hv hu
  go_enter Try.func12, Try.ntmps12
  go_wp2
  generalize w.alloc (.cells #[.int .i64 sup, .slice av ns.length cv] 24) = W0 at hB bP hu1 ⊢
  go_loopw [5] (fun q W => ∃ k : Nat, k ≤ dss.length ∧ q = .int .i64 k ∧ Hid (smS ns dss k = F) ∧ Below W0.heap.size W0 W) (fun q _ => dss.length - (intOf q).toNat)
  case atStart => exact ⟨0, Nat.zero_le _, rfl, hF, Below.refl _ _⟩
  case round =>
    clear hF
    obtain ⟨k, hk, rfl, hF, hY⟩ := hrel
    have hBY := hB.trans (hY.mono hB.size)
    by_cases hlt : k < dss.length
    · obtain ⟨b, off, cap', he, _, hc⟩ := (hu1.mono hY).at hlt
      cases he
      obtain ⟨x, cx, hx⟩ := hc k hlt
      obtain ⟨ax, cpx, rfl⟩ := hx.len
      clear hc hx
      have hki : (k : Int) < (dss.length : Int) := by omega
      have L1 := @smS_hit ns dss k hlt
      have L2 := @smS_next ns dss k hlt
      generalize (nths dss k).length = z at cx L1 L2
      by_cases h0 : 32 < z
      · have h1 : (32 : Int) < (z : Int) := by omega
        replace L1 := Lib.hid ((L1 h0).symm.trans hF.out)
        clear L2 hF
        go_wp2
        go_ret
        exact ⟨ret_b L1.out, hBY⟩
      · have h1 : ¬ (32 : Int) < (z : Int) := by omega
        replace L2 := Lib.hid ((L2 h0).symm.trans hF.out)
        clear L1 hF
        go_wp2
        go_roundw
        case rel => exact ⟨k + 1, by omega, by go_num, L2, hY⟩
        case measure => simp [intOf]; omega
    · obtain rfl : k = dss.length := by omega
      have c1 := (bP.grown hY).cell 1 rfl
      have L := Lib.hid ((smS_end (ns := ns) (dss := dss) (Nat.le_refl _)).symm.trans hF.out)
      clear hF
      by_cases h0 : ns.length ≤ 32
      · have h1 : (ns.length : Int) ≤ 32 := by omega
        by_cases h2 : dss.length ≤ 8
        · have h3 : (dss.length : Int) ≤ 8 := by omega
          go_wp2
          go_ret
          exact ⟨ret_b (by rw [← L.out]; simp [h0, h2]), hBY⟩
        · have h3 : ¬ (dss.length : Int) ≤ 8 := by omega
          go_wp2
          go_ret
          exact ⟨ret_b (by rw [← L.out]; simp [h2]), hBY⟩
      · have h1 : ¬ (ns.length : Int) ≤ 32 := by omega
        go_wp2
        go_ret
        exact ⟨ret_b (by rw [← L.out]; simp [h0]), hBY⟩
end Go.Proofs.Ytfefocgekmeahaa
