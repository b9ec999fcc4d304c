/- The contracts of columns, check and Check. Conditions: lists of at most 2^62 elements. -/
import Derived.Test.YtoendfpfnfeccaaP4
import Derived.Test.YtoendfpfnfeccaaContains
import Derived.Deep.QuietTactic
import Derived.BigQuiet
namespace Go.Proofs.Ytoendfpfnfeccaa
open Go.RowKit Go.Shelf

/-- lists that fit into memory -/
structure CsFit (css : List (List Int)) : Prop where
  l : css.length ≤ 4611686018427387904
  r : ∀ k, (nths css k).length ≤ 4611686018427387904

theorem anyF_rgR (xs : List Int) : anyF badC xs = rgR xs 0 := by
  cases h : rgR xs 0
  · rw [anyF_false]
    exact fun i hi => (rgR_step hi (rgR_all h i (by omega))).1
  · rw [anyF_true]
    have : ∀ (r k : Nat), r = xs.length - k → rgR xs k = true → ∃ i, i < xs.length ∧ badC (nth xs i) = true := fun r => by
      induction r with
      | zero => intro k hk hr; rw [rgR_end (by omega)] at hr; cases hr
      | succ r ih =>
        intro k hk hr
        have hlt : k < xs.length := by omega
        cases hb : badC (nth xs k)
        · rw [rgR_next hlt hb] at hr
          exact ih (k + 1) (by omega) hr
        · exact ⟨k, hlt, hb⟩
    exact this xs.length 0 rfl h
theorem SlSl.zero {w : World} {v : Value} {css : List (List Int)} (h : SlSl w v css) (h0 : 0 < css.length) : ∃ b off cap a c, v = .slice (some ⟨b, off, none⟩) css.length cap ∧ b < w.heap.size ∧ w.cell? ⟨b, off, none⟩ = some (.slice a (colN css) c) := by
  obtain ⟨b, off, cap, rfl, hb, hc⟩ := h.at h0
  obtain ⟨u, h1, h2⟩ := hc 0 h0
  obtain ⟨a, c, rfl⟩ := h2.lenV (n := colN css) rfl
  exact ⟨b, off, cap, a, c, rfl, hb, h1⟩

set_option maxHeartbeats 400000 in
theorem columns_any (v : Value) (css : List (List Int)) (w : World) (hv : SlSl w v css) (hl : css.length ≤ 4611686018427387904) : Calls Try.prog 36 #[v] w fun e w' => e = .returned (.int .i64 (colN css)) ∧ w = w' := by
  rcases Nat.eq_zero_or_pos css.length with h0 | h0
  · obtain rfl : css = [] := List.eq_nil_of_length_eq_zero h0
    obtain ⟨a, c, rfl⟩ := hv.len
    have e : colN [] = 0 := rfl
    rw [e]
    clear hv
    go_enter Try.func36, Try.ntmps36
    go_wp2
    go_ret
    exact ⟨rfl, rfl⟩
  · obtain ⟨b, off, cap, a, c, rfl, hb, h1⟩ := hv.zero h0
    have h2 : ((css.length : Int) == 0) = false := by rw [beq_eq_false_iff_ne]; omega
    have h3 : (0 : Int) < (css.length : Int) := by omega
    go_enter Try.func36, Try.ntmps36
    go_wp2
    go_ret
    exact ⟨rfl, rfl⟩

set_option maxHeartbeats 400000 in
theorem badC_any (n : Int) (w : World) : Calls Try.prog 44 #[.int .i64 n] w (BoolBelow (badC n) w) := by
  by_cases h : n < -1000000000
  · go_enter Try.func44, Try.ntmps44
    go_wp2
    go_ret
    exact ⟨by congr 1; congr 1; unfold badC; rw [betw_false (by omega)]; rfl, Below.refl _ _⟩
  · go_enter Try.func44, Try.ntmps44
    go_wp2
    go_ret
    refine ⟨?_, Below.refl _ _⟩
    congr 1
    congr 1
    unfold badC
    by_cases h2 : n ≤ 1000000000
    · rw [betw_true (by omega)]; simp; omega
    · rw [betw_false (by omega)]; simp; omega

set_option maxRecDepth 100000 in
set_option maxHeartbeats 4000000 in
theorem check_any (v : Value) (css : List (List Int)) (whole : Bool) (w : World) (hv : SlSl w v css) (hf : CsFit css) : Calls Try.prog 33 #[v, .bool whole] w (IntBelow (ckF css whole) w) := by
  have hfl := hf.l
  have hfr := hf.r
  replace hfr := Lib.hid hfr
  obtain ⟨F, hF⟩ : ∃ F, ckF css whole = F := ⟨_, rfl⟩
  rw [hF]
  unfold ckF at hF
  rcases Nat.eq_zero_or_pos css.length with h0 | h0
  · obtain rfl : css = [] := List.eq_nil_of_length_eq_zero h0
    obtain ⟨a, c, rfl⟩ := hv.len
    have hF0 : F = 0 := by rw [← hF]; simp [szS, rgS, scan_ge]
    clear hF hv
    subst hF0
    simp only [List.length_nil]
    cases whole
    all_goals
      go_enter Try.func33, Try.ntmps33
      go_wp2
      go_loop [26] (fun i => i = .int .i64 0) (fun _ => 0)
      case atStart => rfl
      case round =>
        subst hrel
        go_wp2
        go_loop [55] (fun i => i = .int .i64 0) (fun _ => 0)
        case atStart => rfl
        case round =>
          subst hrel
          go_wp2
          go_ret
          exact ⟨rfl, Below.refl _ _⟩
  · obtain ⟨b, off, cap, a, c, rfl, hb, h1⟩ := hv.zero h0
    have h3 : (0 : Int) < (css.length : Int) := by omega
    have h3' : decide ((0 : Int) < (css.length : Int)) = true := decide_eq_true h3
    by_cases hA : 60 < css.length
    · have hA2 : (60 : Int) < (css.length : Int) := by omega
      have hA3 : decide ((60 : Int) < (css.length : Int)) = true := decide_eq_true hA2
      rw [if_pos (.inl hA)] at hF
      subst hF
      go_enter Try.func33, Try.ntmps33
      go_wp2
      go_ret
      exact ⟨rfl, Below.refl _ _⟩
    have hA2 : ¬ (60 : Int) < (css.length : Int) := by omega
    have hA3 : decide ((60 : Int) < (css.length : Int)) = false := decide_eq_false hA2
    by_cases hC : 120 < colN css
    · have hC2 : (120 : Int) < (colN css : Int) := by omega
      have hC3 : decide ((120 : Int) < (colN css : Int)) = true := decide_eq_true hC2
      rw [if_pos (.inr ⟨h0, hC⟩)] at hF
      subst hF
      go_enter Try.func33, Try.ntmps33
      go_wp2
      go_ret
      exact ⟨rfl, Below.refl _ _⟩
    have hC2 : ¬ (120 : Int) < (colN css : Int) := by omega
    have hC3 : decide ((120 : Int) < (colN css : Int)) = false := decide_eq_false hC2
    rw [if_neg (by omega)] at hF
    replace hF := Lib.hid hF
    go_enter Try.func33, Try.ntmps33
    go_wp2
    go_loop [26] (fun i => ∃ k : Nat, k ≤ css.length ∧ i = .int .i64 k ∧ Hid (szS css k = szS css 0)) (fun i => css.length - (intOf i).toNat)
    case atStart => exact ⟨0, Nat.zero_le _, rfl, Lib.hid rfl⟩
    case round =>
      obtain ⟨k, hk, rfl, hk0⟩ := hrel
      by_cases hlt : k < css.length
      · obtain ⟨b', off', cap', he, _, hc⟩ := hv.at hlt
        cases he
        obtain ⟨u, cu, hu⟩ := hc k hlt
        obtain ⟨au, cpu, rfl⟩ := hu.len
        clear hc hu
        have hki : (k : Int) < (css.length : Int) := by omega
        have L1 := @szS_bad css k hlt
        have L2 := @szS_next css k hlt
        generalize (nths css k).length = z at cu L1 L2
        by_cases hz : z = colN css
        · replace L2 := Lib.hid ((L2 hz).symm.trans hk0.out)
          have hzb : ((z : Int) != (colN css : Int)) = false := by simp [hz]
          replace hz := Lib.hid hz
          clear L1 hk0
          go_wp2
          go_round
          case rel => exact ⟨k + 1, by omega, by go_num, L2⟩
          case measure => simp [intOf]; omega
        · have hs5 := hk0.out.symm.trans (L1 hz)
          have hzb : ((z : Int) != (colN css : Int)) = true := by simp; omega
          have hF5 := hF.out
          rw [if_pos (by rw [hs5]; decide), hs5] at hF5
          subst hF5
          clear hF L1 L2 hk0 hs5
          go_wp2
          go_ret
          exact ⟨rfl, Below.refl _ _⟩
      · obtain rfl : k = css.length := by omega
        have hs0 := hk0.out.symm.trans (szS_end (Nat.le_refl _))
        have hF1 := hF.out
        rw [if_neg (by rw [hs0]; decide)] at hF1
        clear hF hk0 hs0
        by_cases hO : whole = true ∧ colN css < css.length
        · obtain ⟨rfl, hO2⟩ := hO
          have hO3 : (colN css : Int) < (css.length : Int) := by omega
          have hO4 : decide ((colN css : Int) < (css.length : Int)) = true := decide_eq_true hO3
          rw [if_pos ⟨rfl, h0, hO2⟩] at hF1
          subst hF1
          go_wp2
          go_ret
          exact ⟨rfl, Below.refl _ _⟩
        · rw [if_neg (fun h => hO ⟨h.1, h.2.2⟩)] at hF1
          have hO4 : whole = true → decide ((colN css : Int) < (css.length : Int)) = false := fun h => decide_eq_false (fun h2 => hO ⟨h, by omega⟩)
          have hO5 : whole = true → ¬ (colN css : Int) < (css.length : Int) := fun h h2 => hO ⟨h, by omega⟩
          replace hF1 := Lib.hid hF1
          clear hO
          cases whole
          all_goals
            try replace hO4 := hO4 rfl
            try replace hO5 := hO5 rfl
            go_wp2
            go_loopw [55] (fun i W => ∃ k : Nat, k ≤ css.length ∧ i = .int .i64 k ∧ Hid (rgS css k = F) ∧ Below w.heap.size w W) (fun i _ => css.length - (intOf i).toNat)
            case atStart => exact ⟨0, Nat.zero_le _, rfl, hF1, Below.refl _ _⟩
            case round =>
              clear hF1
              obtain ⟨k, hk, rfl, hF, hY⟩ := hrel
              by_cases hlt : k < css.length
              · obtain ⟨b', off', cap', he, _, hc⟩ := (hv.mono hY).at hlt
                cases he
                obtain ⟨u, cu, hu⟩ := hc k hlt
                have hki : (k : Int) < (css.length : Int) := by omega
                have hcf := containsFunc_any .i64 44 #[] badC u _ wr (fun n w' _ => badC_any n w') (enters_of Try.func44 (by kernel_rfl) rfl) hu (hfr.out k)
                rw [anyF_rgR] at hcf
                have L1 := @rgS_bad css k hlt
                have L2 := @rgS_next css k hlt
                generalize rgR (nths css k) 0 = q at hcf L1 L2
                obtain ⟨au, cpu, rfl⟩ := hu.len
                replace hcf := Lib.hid hcf
                clear hc hu
                cases q
                · replace L2 := Lib.hid ((L2 rfl).symm.trans hF.out)
                  clear L1 hF
                  go_wp2_with fail
                  refine hcf.out.mono ?_
                  rintro e wq ⟨rfl, hbq⟩
                  go_wp2
                  go_roundw
                  case rel => exact ⟨k + 1, by omega, by go_num, L2, hY.trans (hbq.mono hY.size)⟩
                  case measure => simp [intOf]; omega
                · replace L1 := Lib.hid ((L1 rfl).symm.trans hF.out)
                  clear L2 hF
                  go_wp2_with fail
                  refine hcf.out.mono ?_
                  rintro e wq ⟨rfl, hbq⟩
                  go_wp2
                  go_ret
                  exact ⟨ret_int L1.out, hY.trans (hbq.mono hY.size)⟩
              · obtain rfl : k = css.length := by omega
                have L := Lib.hid ((rgS_end (css := css) (Nat.le_refl _)).symm.trans hF.out)
                clear hF
                go_wp2
                go_ret
                exact ⟨ret_int L.out, hY⟩

set_option maxHeartbeats 400000 in
theorem Check_any (v : Value) (css : List (List Int)) (w : World) (hv : SlSl w v css) (hf : CsFit css) : Calls Try.prog 13 #[v] w (IntBelow (ckF css true) w) := by
  have hc := Lib.hid (check_any v css true w hv hf)
  obtain ⟨a, c, rfl⟩ := hv.len
  clear hv
  go_enter Try.func13, Try.ntmps13
  go_wp2_with fail
  refine hc.out.mono ?_
  rintro e w' ⟨rfl, hb⟩
  go_wp2
  go_ret
  exact ⟨rfl, hb⟩
end Go.Proofs.Ytoendfpfnfeccaa
