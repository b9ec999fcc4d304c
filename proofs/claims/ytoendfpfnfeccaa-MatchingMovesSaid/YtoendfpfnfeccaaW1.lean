/- The contract of the model's Check. Conditions: lists of at most 2^62 elements. -/
import Derived.Test.YtoendfpfnfeccaaW0
namespace Go.Proofs.Ytoendfpfnfeccaa
open Go.RowKit Go.Shelf

set_option maxRecDepth 100000 in
set_option maxHeartbeats 4000000 in
theorem refCheck_any (v : Value) (css : List (List Int)) (whole : Bool) (w : World) (hv : SlSl w v css) (hf : CsFit css) : Calls Try.prog 15 #[v, .bool whole] w (IntBelow (ckF css whole) w) := by
  have hfl := hf.l
  have hfr := hf.r
  replace hfr := Lib.hid hfr
  obtain ⟨F, hF⟩ : ∃ F, ckF css whole = F := ⟨_, rfl⟩
  rw [hF]
  unfold ckF at hF
  rcases Nat.eq_zero_or_pos css.length with h0 | h0
  · obtain rfl : css = [] := List.eq_nil_of_length_eq_zero h0
    obtain ⟨a, c, rfl⟩ := hv.len
    have hF0 : F = 0 := by rw [← hF]; simp [szS, rgS, scan_ge]
    clear hF hv
    subst hF0
    simp only [List.length_nil]
    cases whole
    all_goals
      go_enter Try.func15, Try.ntmps15
      go_wp2
      go_loop [5] (fun i => i = .int .i64 0) (fun _ => 0)
      case atStart => rfl
      case round =>
        subst hrel
        go_wp2
        go_loop [6] (fun i => i = .int .i64 0) (fun _ => 0)
        case atStart => rfl
        case round =>
          subst hrel
          go_wp2
          go_ret
          exact ⟨rfl, Below.refl _ _⟩
  · obtain ⟨b, off, cap, a, c, rfl, hb, h1⟩ := hv.zero h0
    have h3 : (0 : Int) < (css.length : Int) := by omega
    have h3' : decide ((0 : Int) < (css.length : Int)) = true := decide_eq_true h3
    by_cases hA : 60 < css.length
    · have hA2 : (60 : Int) < (css.length : Int) := by omega
      have hA3 : decide ((60 : Int) < (css.length : Int)) = true := decide_eq_true hA2
      rw [if_pos (.inl hA)] at hF
      subst hF
      go_enter Try.func15, Try.ntmps15
      go_wp2
      go_ret
      exact ⟨rfl, Below.refl _ _⟩
    have hA2 : ¬ (60 : Int) < (css.length : Int) := by omega
    have hA3 : decide ((60 : Int) < (css.length : Int)) = false := decide_eq_false hA2
    by_cases hC : 120 < colN css
    · have hC2 : (120 : Int) < (colN css : Int) := by omega
      have hC3 : decide ((120 : Int) < (colN css : Int)) = true := decide_eq_true hC2
      rw [if_pos (.inr ⟨h0, hC⟩)] at hF
      subst hF
      go_enter Try.func15, Try.ntmps15
      go_wp2
      go_ret
      exact ⟨rfl, Below.refl _ _⟩
    have hC2 : ¬ (120 : Int) < (colN css : Int) := by omega
    have hC3 : decide ((120 : Int) < (colN css : Int)) = false := decide_eq_false hC2
    rw [if_neg (by omega)] at hF
    replace hF := Lib.hid hF
    go_enter Try.func15, Try.ntmps15
    go_wp2
    go_loopw [5] (fun i W => ∃ k : Nat, k ≤ css.length ∧ i = .int .i64 k ∧ Hid (szS css k = szS css 0) ∧ Below w.heap.size w W) (fun i _ => css.length - (intOf i).toNat)
    case atStart => exact ⟨0, Nat.zero_le _, rfl, Lib.hid rfl, Below.refl _ _⟩
    case round =>
      obtain ⟨k, hk, rfl, hk0, hY⟩ := hrel
      replace h1 := (hY.cell (p := ⟨b, off, none⟩) hb).trans h1
      by_cases hlt : k < css.length
      · obtain ⟨b', off', cap', he, _, hc⟩ := (hv.mono hY).at hlt
        cases he
        obtain ⟨u, cu, hu⟩ := hc k hlt
        obtain ⟨au, cpu, rfl⟩ := hu.len
        clear hc hu
        have hki : (k : Int) < (css.length : Int) := by omega
        have L1 := @szS_bad css k hlt
        have L2 := @szS_next css k hlt
        generalize (nths css k).length = z at cu L1 L2
        by_cases hz : z = colN css
        · replace L2 := Lib.hid ((L2 hz).symm.trans hk0.out)
          have hzb : ((z : Int) != (colN css : Int)) = false := by simp [hz]
          replace hz := Lib.hid hz
          clear L1 hk0
          go_wp2_with fail
          go_quiet (fail)
          go_wp2
          go_roundw
          case rel => exact ⟨k + 1, by omega, by go_num, L2, below_drewN hY _⟩
          case measure => simp [intOf]; omega
        · have hs5 := hk0.out.symm.trans (L1 hz)
          have hzb : ((z : Int) != (colN css : Int)) = true := by simp; omega
          have hF5 := hF.out
          rw [if_pos (by rw [hs5]; decide), hs5] at hF5
          subst hF5
          clear hF L1 L2 hk0 hs5
          go_wp2_with fail
          go_quiet (fail)
          go_wp2
          go_ret
          exact ⟨rfl, below_drewN hY _⟩
      · obtain rfl : k = css.length := by omega
        have hs0 := hk0.out.symm.trans (szS_end (Nat.le_refl _))
        have hF1 := hF.out
        rw [if_neg (by rw [hs0]; decide)] at hF1
        clear hF hk0 hs0
        by_cases hO : whole = true ∧ colN css < css.length
        · obtain ⟨rfl, hO2⟩ := hO
          have hO3 : (colN css : Int) < (css.length : Int) := by omega
          have hO4 : decide ((colN css : Int) < (css.length : Int)) = true := decide_eq_true hO3
          rw [if_pos ⟨rfl, h0, hO2⟩] at hF1
          subst hF1
          go_wp2
          go_ret
          exact ⟨rfl, hY⟩
        · rw [if_neg (fun h => hO ⟨h.1, h.2.2⟩)] at hF1
          have hO4 : whole = true → decide ((colN css : Int) < (css.length : Int)) = false := fun h => decide_eq_false (fun h2 => hO ⟨h, by omega⟩)
          have hO5 : whole = true → ¬ (colN css : Int) < (css.length : Int) := fun h h2 => hO ⟨h, by omega⟩
          replace hF1 := Lib.hid hF1
          have hvr := hv.mono hY
          obtain ⟨wo, rfl⟩ : ∃ wo : World, wo = wr := ⟨_, rfl⟩
          clear hO
          cases whole
          all_goals
            try replace hO4 := hO4 rfl
            try replace hO5 := hO5 rfl
            go_wp2
            go_loop [6] (fun i => ∃ k : Nat, k ≤ css.length ∧ i = .int .i64 k ∧ Hid (rgS css k = F)) (fun i => css.length - (intOf i).toNat)
            case atStart => exact ⟨0, Nat.zero_le _, rfl, hF1⟩
            case round =>
              clear hF1
              obtain ⟨k, hk, rfl, hF⟩ := hrel
              by_cases hlt : k < css.length
              · obtain ⟨b', off', cap', he, _, hc⟩ := hvr.at hlt
                cases he
                obtain ⟨u, cu, hu⟩ := hc k hlt
                have hki : (k : Int) < (css.length : Int) := by omega
                have L1 := @rgS_bad css k hlt
                have L2 := @rgS_next css k hlt
                have hfk := hfr.out k
                generalize nths css k = xs at hu L1 L2 hfk
                obtain ⟨q, hq⟩ : ∃ q, rgR xs 0 = q := ⟨_, rfl⟩
                rw [hq] at L1 L2
                obtain ⟨au, cpu, rfl⟩ := hu.len
                replace hq := Lib.hid hq
                replace L1 := Lib.hid L1
                replace L2 := Lib.hid L2
                clear hc
                go_wp2
                go_loop [7] (fun i => ∃ j : Nat, j ≤ xs.length ∧ i = .int .i64 j ∧ Hid (rgR xs j = q)) (fun i => xs.length - (intOf i).toNat)
                case atStart => exact ⟨0, Nat.zero_le _, rfl, hq⟩
                case round =>
                  clear hq
                  obtain ⟨j, hj, rfl, hq⟩ := hrel
                  by_cases hlj : j < xs.length
                  · obtain ⟨b3, off3, cap3, he3, hc3⟩ := hu.at hlj
                    cases he3
                    have cj := hc3 j hlj
                    have hji : (j : Int) < (xs.length : Int) := by omega
                    have R1 := rgR_hit (xs := xs) (k := j) hlj
                    have R2 := rgR_next (xs := xs) (k := j) hlj
                    clear hc3
                    generalize nth xs j = z at cj R1 R2
                    by_cases hz : -1000000000 ≤ z ∧ z ≤ 1000000000
                    · have R := (R2 (by unfold badC; rw [betw_true hz]; rfl)).symm.trans hq.out
                      have d1 : decide (z < -1000000000) = false := decide_eq_false (by omega)
                      have d2 : decide (1000000000 < z) = false := decide_eq_false (by omega)
                      have d3 : ¬ z < -1000000000 := by omega
                      have d4 : ¬ 1000000000 < z := by omega
                      replace R := Lib.hid R
                      clear R1 R2 hq
                      go_wp2
                      go_round
                      case rel => exact ⟨j + 1, by omega, by go_num, R⟩
                      case measure => simp [intOf]; omega
                    · have R := hq.out.symm.trans (R1 (by unfold badC; rw [betw_false hz]; rfl))
                      subst R
                      have hF3 := hF.out.symm.trans (L1.out rfl)
                      subst hF3
                      clear R1 R2 hq L1 L2 hF
                      by_cases hz1 : z < -1000000000
                      · have d1 : decide (z < -1000000000) = true := decide_eq_true hz1
                        go_wp2
                        go_ret
                        exact ⟨rfl, hY⟩
                      · have d1 : decide (z < -1000000000) = false := decide_eq_false hz1
                        have d2 : decide (1000000000 < z) = true := decide_eq_true (by omega)
                        have d4 : 1000000000 < z := by omega
                        go_wp2
                        go_ret
                        exact ⟨rfl, hY⟩
                  · obtain rfl : j = xs.length := by omega
                    have R := hq.out.symm.trans (rgR_end (Nat.le_refl _))
                    subst R
                    have hF3 := Lib.hid ((L2.out rfl).symm.trans hF.out)
                    clear hq L1 L2 hF
                    go_wp2
                    go_round
                    case rel => exact ⟨k + 1, by omega, by go_num, hF3⟩
                    case measure => simp [intOf]; omega
              · obtain rfl : k = css.length := by omega
                have L := Lib.hid ((rgS_end (css := css) (Nat.le_refl _)).symm.trans hF.out)
                clear hF
                go_wp2
                go_ret
                exact ⟨ret_int L.out, hY⟩
end Go.Proofs.Ytoendfpfnfeccaa
