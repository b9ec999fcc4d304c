/- The walk of MatchingChecks. Conditions: lists that come in. -/
import Derived.Test.YtoendfpfnfeccaaOpen
import Derived.Test.YtoendfpfnfeccaaW19
import Derived.Test.YtoendfpfnfeccaaL6
namespace Go.Proofs.Ytoendfpfnfeccaa
open Go.RowKit Go.Shelf

theorem Tight_some (v r l : Value) (css : List (List Int)) (rows ls : List Int) (w : World) (hv : SlSl w v css) (hr : NumSl .i64 w r rows) (hl : NumSl .i64 w l ls) (hf : CsFit css) : Calls Try.prog 19 #[v, r, l] w (fun e X => ∃ ps d, TightPost ps d w e X) := by
  by_cases h : (boundF css rows ls).2 = 0
  · exact (Tight_ok v r l css rows ls w hv hr hl hf h).mono fun e X h => ⟨_, _, h⟩
  · exact (Tight_err v r l css rows ls w hv hr hl hf h).mono fun e X h => ⟨_, _, h⟩
set_option maxRecDepth 100000 in
set_option maxHeartbeats 4000000 in
theorem law11_any (v : Value) (css : List (List Int)) (skip : Int) (w : World) (hv : SlSl w v css) (hin : CsIn css) : Calls Try.prog 11 #[v, .int .i64 skip] w (BoolBelow true w) := by
  have hkn := Lib.hid known_any
  have hsm := Lib.hid (fun w' (hb : Below w.heap.size w w') => small_any v css w' (hv.mono hb) hin.l hin.r)
  have hv0 := Lib.hid hv
  have hCk := Lib.hid (fun w' (hb : Below w.heap.size w w') (h : CsFit css) => refCheck_any v css true w' (hv.mono hb) h)
  obtain ⟨av, cv, rfl⟩ := hv.len
  obtain ⟨q, hq⟩ : ∃ q, smS css 0 = q := ⟨_, rfl⟩
  rw [hq] at hsm
  clear hv hin
  cases q with
  | false =>
    replace hq := Lib.hid hq
    go_enter Try.func11, Try.ntmps11
    go_wp2_with fail
    refine (hkn.out _).mono ?_
    rintro e w1 ⟨rfl, hb1⟩
    go_wp2_with fail
    refine (hsm.out _ hb1).mono ?_
    rintro e w2 ⟨rfl, hb2⟩
    have hB2 := hb1.trans (hb2.mono hb1.size)
    go_wp2_with fail
    refine (hkn.out _).mono ?_
    rintro e w9 ⟨rfl, hb9⟩
    go_wp2
    go_ret
    exact ⟨rfl, hB2.trans (hb9.mono hB2.size)⟩
  | true =>
    have hfit := fit_small hq
    have hn5 := (smS_ok hq).1
    have hm6 := (smS_ok hq).2
    replace hm6 := Lib.hid hm6
    replace hq := Lib.hid hq
    have hnn : ∀ X : World, NumSl .i64 X (.slice none 0 0) [] := fun X => .nil
    have hCk1 := fun w' (hb : Below w.heap.size w w') => refCheck_any _ css true w' (hv0.out.mono hb) hfit
    have hCk0 := fun w' (hb : Below w.heap.size w w') => refCheck_any _ css false w' (hv0.out.mono hb) hfit
    have hTo := fun w' (hb : Below w.heap.size w w') => Total_any _ _ css [] w' (hv0.out.mono hb) (hnn w') hfit
    have hBo := fun w' (hb : Below w.heap.size w w') => Bound_any _ _ _ css [] [] w' (hv0.out.mono hb) (hnn w') (hnn w') hfit
    have hChk := fun w' (hb : Below w.heap.size w w') => Check_any _ css w' (hv0.out.mono hb) hfit
    obtain ⟨d, hd⟩ : ∃ d, ckF css true = d := ⟨_, rfl⟩
    obtain ⟨d2, hd2⟩ : ∃ d2, ckF css false = d2 := ⟨_, rfl⟩
    rw [hd] at hCk1 hChk
    rw [hd2] at hCk0
    have hd2c : d2 = 0 → ((¬ (-1000000000 ≤ skip ∧ skip ≤ 1000000000) → ckP css skip = 3) ∧ (-1000000000 ≤ skip ∧ skip ≤ 1000000000 → ckP css skip = 0)) := fun h => by
      unfold ckP badC
      rw [hd2, if_neg (by simp [h])]
      exact ⟨fun h => by rw [betw_false h]; rfl, fun h => by rw [betw_true h]; rfl⟩
    have hd2n : d2 ≠ 0 → ckP css skip = d2 := fun h => by unfold ckP; rw [hd2, if_pos h]
    replace hCk1 := Lib.hid hCk1
    replace hCk0 := Lib.hid hCk0
    replace hChk := Lib.hid hChk
    replace hd2 := Lib.hid hd2
    replace hd2c := Lib.hid hd2c
    replace hd2n := Lib.hid hd2n
    replace hnn := Lib.hid hnn
    clear hCk
    by_cases h0 : d = 0
    · subst h0
      have hBe := Lib.hid (fun w' hb => Best_res _ css w' (hv0.out.mono hb) hfit hd)
      obtain ⟨p1, p2, hp⟩ : ∃ p1 p2, TotalF css [] = (p1, p2) := ⟨_, _, rfl⟩
      obtain ⟨q1, q2, hq2⟩ : ∃ q1 q2, boundF css [] [] = (q1, q2) := ⟨_, _, rfl⟩
      rw [hp] at hTo
      rw [hq2] at hBo
      have hTi := Lib.hid (fun w' (hb : Below w.heap.size w w') => Tight_some _ (.slice none 0 0) (.slice none 0 0) css [] [] w' (hv0.out.mono hb) .nil .nil hfit)
      replace hTo := Lib.hid hTo
      replace hBo := Lib.hid hBo
      replace hfit := Lib.hid hfit
      replace hd := Lib.hid hd
      replace hp := Lib.hid hp
      replace hq2 := Lib.hid hq2
      go_enter Try.func11, Try.ntmps11
      go_wp2_with fail
      refine (hkn.out _).mono ?_
      rintro e w1 ⟨rfl, hb1⟩
      go_wp2_with fail
      refine (hsm.out _ hb1).mono ?_
      rintro e w2 ⟨rfl, hb2⟩
      have hB2 := hb1.trans (hb2.mono hb1.size)
      go_wp2_with fail
      refine (hCk1.out _ hB2).mono ?_
      rintro e w3 ⟨rfl, hb3⟩
      have hB3 := hB2.trans (hb3.mono hB2.size)
      clear hb3 hB2
      go_wp2_with fail
      refine (hBe.out _ hB3).mono ?_
      rintro e w4 ⟨vc, vr, vl, tot, cs, rows, pots, rfl, hc, hr, hl, hb4, hR⟩
      have hB4 := hB3.trans (hb4.mono hB3.size)
      obtain ⟨ac, cc, rfl⟩ := hc.len
      obtain ⟨ar, cr, rfl⟩ := hr.len
      obtain ⟨al, cl, rfl⟩ := hl.len
      have hB5 := hB4.alloc hB4.size (.cells #[.slice ac cs.length cc, .int .i64 tot, .slice ar rows.length cr, .slice al pots.length cl] 32)
      have hTo5 := Lib.hid (hTo.out _ hB5)
      clear hc hr hl hR hb4 hB3 hB4 hTo
      unfold resB
      go_wp2_with fail
      refine hTo5.out.mono ?_
      rintro e w6 ⟨rfl, hb6⟩
      have hB6 := hB5.trans (hb6.mono hB5.size)
      clear hb6 hB5
      go_wp2_with fail
      refine (hBo.out _ hB6).mono ?_
      rintro e w7 ⟨rfl, hb7⟩
      have hB7 := hB6.trans (hb7.mono hB6.size)
      clear hb7 hB6
      go_wp2_with fail
      refine (hTi.out _ hB7).mono ?_
      rintro e w8 ⟨ps, d', tv, rfl, ht, hb8⟩
      have hB8 := hB7.trans (hb8.mono hB7.size)
      clear hb8 hB7 ht
      go_wp2_with fail
      refine (hChk.out _ hB8).mono ?_
      rintro e w19 ⟨rfl, hb19⟩
      have hB19 := hB8.trans (hb19.mono hB8.size)
      clear hb19 hB8
      go_wp2_with fail
      refine (hCk0.out _ hB19).mono ?_
      rintro e w20 ⟨rfl, hb20⟩
      have hB20 := hB19.trans (hb20.mono hB19.size)
      clear hb20 hB19
      by_cases h2 : d2 = 0
      · subst h2
        have hcp := hd2c.out rfl
        by_cases hlo : skip < -1000000000
        · have b1 : decide (skip < -1000000000) = true := decide_eq_true hlo
          have hk : ckP css skip = 3 := hcp.1 (by omega)
          have hPe := fun w' hb => Partial_err _ css skip w' (hv0.out.mono hb) hfit.out (by rw [hk]; decide)
          have hVp := fun w' (hb : Below w.heap.size w w') => VerifyPartial_any _ (.slice none 0 0) (.slice none 0 0) (.slice none 0 0) css skip [] [] [] 0 w' (hv0.out.mono hb) .nil .nil .nil hfit.out (by simp)
          rw [show verP css skip [] 0 [] [] = 3 by unfold verP; rw [hk]; rfl] at hVp
          rw [hk] at hPe
          replace hPe := Lib.hid hPe
          replace hVp := Lib.hid hVp
          replace hk := Lib.hid hk
          replace hcp := Lib.hid hcp
          clear hlo
          go_wp2_with fail
          refine (hPe.out _ hB20).mono ?_
          rintro e w21 ⟨rfl, hb21⟩
          have hB21 := hB20.trans (hb21.mono hB20.size)
          have hA := (Below.refl w21.heap.size w21).alloc (Nat.le_refl _) (.cells #[.slice none 0 0, .int .i64 0, .slice none 0 0, .slice none 0 0] 32)
          have y1 := BoxC.new w21 32 #[.slice none 0 0, .int .i64 0, .slice none 0 0, .slice none 0 0]
          have hB22 := hB21.trans (hA.mono hB21.size)
          have c0 := y1.cell 0 rfl
          have c1 := y1.cell 1 rfl
          have c2 := y1.cell 2 rfl
          have c3 := y1.cell 3 rfl
          have hz := Lib.hid (zero_any (w21.alloc (.cells #[.slice none 0 0, .int .i64 0, .slice none 0 0, .slice none 0 0] 32)))
          clear hb21 hB20 hB21 hA y1
          unfold zeroR resB at hz
          unfold zeroR resB
          go_wp2_with fail
          refine hz.out.mono ?_
          rintro e w23 ⟨rfl, hb23⟩
          have hB23 := hB22.trans (hb23.mono hB22.size)
          have hve := Lib.hid (hVp.out w23 hB23)
          clear hz hb23 hB22 c0 c1 c2 c3
          unfold resB at hve
          go_wp2_with fail
          refine hve.out.mono ?_
          rintro e w24 ⟨rfl, hb24⟩
          go_wp2
          go_ret
          exact ⟨by simp, hB23.trans (hb24.mono hB23.size)⟩
        · have b1 : decide (skip < -1000000000) = false := decide_eq_false hlo
          by_cases hhi : 1000000000 < skip
          · have b2 : decide (1000000000 < skip) = true := decide_eq_true hhi
            have hk : ckP css skip = 3 := hcp.1 (by omega)
            have hPe := fun w' hb => Partial_err _ css skip w' (hv0.out.mono hb) hfit.out (by rw [hk]; decide)
            have hVp := fun w' (hb : Below w.heap.size w w') => VerifyPartial_any _ (.slice none 0 0) (.slice none 0 0) (.slice none 0 0) css skip [] [] [] 0 w' (hv0.out.mono hb) .nil .nil .nil hfit.out (by simp)
            rw [show verP css skip [] 0 [] [] = 3 by unfold verP; rw [hk]; rfl] at hVp
            rw [hk] at hPe
            replace hPe := Lib.hid hPe
            replace hVp := Lib.hid hVp
            replace hk := Lib.hid hk
            replace hcp := Lib.hid hcp
            clear hlo hhi
            go_wp2_with fail
            refine (hPe.out _ hB20).mono ?_
            rintro e w21 ⟨rfl, hb21⟩
            have hB21 := hB20.trans (hb21.mono hB20.size)
            have hA := (Below.refl w21.heap.size w21).alloc (Nat.le_refl _) (.cells #[.slice none 0 0, .int .i64 0, .slice none 0 0, .slice none 0 0] 32)
            have y1 := BoxC.new w21 32 #[.slice none 0 0, .int .i64 0, .slice none 0 0, .slice none 0 0]
            have hB22 := hB21.trans (hA.mono hB21.size)
            have c0 := y1.cell 0 rfl
            have c1 := y1.cell 1 rfl
            have c2 := y1.cell 2 rfl
            have c3 := y1.cell 3 rfl
            have hz := Lib.hid (zero_any (w21.alloc (.cells #[.slice none 0 0, .int .i64 0, .slice none 0 0, .slice none 0 0] 32)))
            clear hb21 hB20 hB21 hA y1
            unfold zeroR resB at hz
            unfold zeroR resB
            go_wp2_with fail
            refine hz.out.mono ?_
            rintro e w23 ⟨rfl, hb23⟩
            have hB23 := hB22.trans (hb23.mono hB22.size)
            have hve := Lib.hid (hVp.out w23 hB23)
            clear hz hb23 hB22 c0 c1 c2 c3
            unfold resB at hve
            go_wp2_with fail
            refine hve.out.mono ?_
            rintro e w24 ⟨rfl, hb24⟩
            go_wp2
            go_ret
            exact ⟨by simp, hB23.trans (hb24.mono hB23.size)⟩
          · have b2 : decide (1000000000 < skip) = false := decide_eq_false hhi
            have hk : ckP css skip = 0 := hcp.2 (by omega)
            have hPo := Lib.hid (fun w' hb => Partial_ok _ css skip w' (hv0.out.mono hb) hfit.out hk)
            replace hk := Lib.hid hk
            replace hcp := Lib.hid hcp
            clear hlo hhi
            go_wp2_with fail
            refine (hPo.out _ hB20).mono ?_
            rintro e w21 ⟨vc, vr, vl, tot, cs, rows, pots, rfl, hc, hr, hl, hb21, hR⟩
            have hB21 := hB20.trans (hb21.mono hB20.size)
            have hcl := hR.out.cl
            obtain ⟨ac, cc, rfl⟩ := hc.lenV hcl
            obtain ⟨ar, cr, rfl⟩ := hr.len
            obtain ⟨al, cl, rfl⟩ := hl.len
            have y1 := BoxC.new w21 32 #[.slice ac css.length cc, .int .i64 tot, .slice ar rows.length cr, .slice al pots.length cl]
            have hB22 := hB21.alloc hB21.size (.cells #[.slice ac css.length cc, .int .i64 tot, .slice ar rows.length cr, .slice al pots.length cl] 32)
            have c0 := y1.cell 0 rfl
            replace hcl := Lib.hid hcl
            clear hc hr hl hR hb21 hB20 hB21 y1
            unfold resB
            go_wp2
            go_ret
            exact ⟨by simp, hB22⟩
      · have hk : ckP css skip = d2 := hd2n.out h2
        have b0 : (d2 == 0) = false := by simp [h2]
        have hPe := fun w' hb => Partial_err _ css skip w' (hv0.out.mono hb) hfit.out (by rw [hk]; exact h2)
        have hVp := fun w' (hb : Below w.heap.size w w') => VerifyPartial_any _ (.slice none 0 0) (.slice none 0 0) (.slice none 0 0) css skip [] [] [] 0 w' (hv0.out.mono hb) .nil .nil .nil hfit.out (by simp)
        rw [show verP css skip [] 0 [] [] = d2 by unfold verP; rw [hk, if_pos h2]] at hVp
        rw [hk] at hPe
        replace hPe := Lib.hid hPe
        replace hVp := Lib.hid hVp
        replace hk := Lib.hid hk
        replace h2 := Lib.hid h2
        go_wp2_with fail
        refine (hPe.out _ hB20).mono ?_
        rintro e w21 ⟨rfl, hb21⟩
        have hB21 := hB20.trans (hb21.mono hB20.size)
        have hA := (Below.refl w21.heap.size w21).alloc (Nat.le_refl _) (.cells #[.slice none 0 0, .int .i64 0, .slice none 0 0, .slice none 0 0] 32)
        have y1 := BoxC.new w21 32 #[.slice none 0 0, .int .i64 0, .slice none 0 0, .slice none 0 0]
        have hB22 := hB21.trans (hA.mono hB21.size)
        have c0 := y1.cell 0 rfl
        have c1 := y1.cell 1 rfl
        have c2 := y1.cell 2 rfl
        have c3 := y1.cell 3 rfl
        have hz := Lib.hid (zero_any (w21.alloc (.cells #[.slice none 0 0, .int .i64 0, .slice none 0 0, .slice none 0 0] 32)))
        clear hb21 hB20 hB21 hA y1
        unfold zeroR resB at hz
        unfold zeroR resB
        go_wp2_with fail
        refine hz.out.mono ?_
        rintro e w23 ⟨rfl, hb23⟩
        have hB23 := hB22.trans (hb23.mono hB22.size)
        have hve := Lib.hid (hVp.out w23 hB23)
        clear hz hb23 hB22 c0 c1 c2 c3
        unfold resB at hve
        go_wp2_with fail
        refine hve.out.mono ?_
        rintro e w24 ⟨rfl, hb24⟩
        go_wp2
        go_ret
        exact ⟨by simp, hB23.trans (hb24.mono hB23.size)⟩
    · have hdb : (d != 0) = true := by simp [h0]
      have hBe := fun w' hb => Best_err _ css w' (hv0.out.mono hb) hfit (by rw [hd]; exact h0)
      have hTi := fun w' (hb : Below w.heap.size w w') => Tight_err _ (.slice none 0 0) (.slice none 0 0) css [] [] w' (hv0.out.mono hb) .nil .nil hfit (by unfold boundF; rw [hd, if_pos h0]; exact h0)
      have hVe := fun w' (hb : Below w.heap.size w w') => Verify_any _ (.slice none 0 0) (.slice none 0 0) (.slice none 0 0) css [] [] [] 0 w' (hv0.out.mono hb) .nil .nil .nil hfit (by simp)
      rw [show verF css [] 0 [] [] = d by unfold verF; rw [hd, if_pos h0]] at hVe
      rw [show boundF css [] [] = (0, d) by unfold boundF; rw [hd, if_pos h0]] at hBo hTi
      rw [show TotalF css [] = (0, d) by unfold TotalF; rw [hd, if_pos h0]] at hTo
      rw [hd] at hBe
      replace hTo := Lib.hid hTo
      replace hBo := Lib.hid hBo
      replace hTi := Lib.hid hTi
      replace hVe := Lib.hid hVe
      replace hBe := Lib.hid hBe
      replace hfit := Lib.hid hfit
      replace hd := Lib.hid hd
      replace h0 := Lib.hid h0
      go_enter Try.func11, Try.ntmps11
      go_wp2_with fail
      refine (hkn.out _).mono ?_
      rintro e w1 ⟨rfl, hb1⟩
      go_wp2_with fail
      refine (hsm.out _ hb1).mono ?_
      rintro e w2 ⟨rfl, hb2⟩
      have hB2 := hb1.trans (hb2.mono hb1.size)
      go_wp2_with fail
      refine (hCk1.out _ hB2).mono ?_
      rintro e w3 ⟨rfl, hb3⟩
      have hB3 := hB2.trans (hb3.mono hB2.size)
      clear hb3 hB2
      go_wp2_with fail
      refine (hBe.out _ hB3).mono ?_
      rintro e w4 ⟨rfl, hb4⟩
      have hB4 := hB3.trans (hb4.mono hB3.size)
      have x5 := BoxC.new w4 32 #[.slice none 0 0, .int .i64 0, .slice none 0 0, .slice none 0 0]
      have hB5 := hB4.alloc hB4.size (.cells #[.slice none 0 0, .int .i64 0, .slice none 0 0, .slice none 0 0] 32)
      have hTo5 := Lib.hid (hTo.out _ hB5)
      clear hb4 hB3 hB4 hTo
      unfold zeroR resB
      go_wp2_with fail
      refine hTo5.out.mono ?_
      rintro e w6 ⟨rfl, hb6⟩
      have hB6 := hB5.trans (hb6.mono hB5.size)
      have x6 := x5.grown hb6
      clear hb6 hB5 x5
      go_wp2_with fail
      refine (hBo.out _ hB6).mono ?_
      rintro e w7 ⟨rfl, hb7⟩
      have hB7 := hB6.trans (hb7.mono hB6.size)
      have x7 := x6.grown hb7
      clear hb7 hB6 x6
      go_wp2_with fail
      refine (hTi.out _ hB7).mono ?_
      rintro e w8 ⟨tv, rfl, ht, hb8⟩
      have hB8 := hB7.trans (hb8.mono hB7.size)
      have x8 := x7.grown hb8
      obtain ⟨ta, tc, rfl⟩ := ht.len
      clear hb8 hB7 x7 ht
      go_wp2_with fail
      refine (hChk.out _ hB8).mono ?_
      rintro e w9 ⟨rfl, hb9⟩
      have hB9 := hB8.trans (hb9.mono hB8.size)
      have x9 := x8.grown hb9
      have c0 := x9.cell 0 rfl
      have c1 := x9.cell 1 rfl
      have c2 := x9.cell 2 rfl
      have c3 := x9.cell 3 rfl
      have hz9 := Lib.hid (zero_any w9)
      unfold zeroR resB at hz9
      clear hb9 hB8 x8
      go_wp2_with fail
      refine hz9.out.mono ?_
      rintro e w10 ⟨rfl, hb10⟩
      have hB10 := hB9.trans (hb10.mono hB9.size)
      have hVe10 := Lib.hid (hVe.out _ hB10)
      unfold resB at hVe10
      clear hb10 hB9 x9 c0 c1 c2 c3
      go_wp2_with fail
      refine hVe10.out.mono ?_
      rintro e w19 ⟨rfl, hb19⟩
      have hB19 := hB10.trans (hb19.mono hB10.size)
      clear hb19 hB10
      go_wp2_with fail
      refine (hCk0.out _ hB19).mono ?_
      rintro e w20 ⟨rfl, hb20⟩
      have hB20 := hB19.trans (hb20.mono hB19.size)
      clear hb20 hB19
      by_cases h2 : d2 = 0
      · subst h2
        have hcp := hd2c.out rfl
        by_cases hlo : skip < -1000000000
        · have b1 : decide (skip < -1000000000) = true := decide_eq_true hlo
          have hk : ckP css skip = 3 := hcp.1 (by omega)
          have hPe := fun w' hb => Partial_err _ css skip w' (hv0.out.mono hb) hfit.out (by rw [hk]; decide)
          have hVp := fun w' (hb : Below w.heap.size w w') => VerifyPartial_any _ (.slice none 0 0) (.slice none 0 0) (.slice none 0 0) css skip [] [] [] 0 w' (hv0.out.mono hb) .nil .nil .nil hfit.out (by simp)
          rw [show verP css skip [] 0 [] [] = 3 by unfold verP; rw [hk]; rfl] at hVp
          rw [hk] at hPe
          replace hPe := Lib.hid hPe
          replace hVp := Lib.hid hVp
          replace hk := Lib.hid hk
          replace hcp := Lib.hid hcp
          clear hlo
          go_wp2_with fail
          refine (hPe.out _ hB20).mono ?_
          rintro e w21 ⟨rfl, hb21⟩
          have hB21 := hB20.trans (hb21.mono hB20.size)
          have hA := (Below.refl w21.heap.size w21).alloc (Nat.le_refl _) (.cells #[.slice none 0 0, .int .i64 0, .slice none 0 0, .slice none 0 0] 32)
          have y1 := BoxC.new w21 32 #[.slice none 0 0, .int .i64 0, .slice none 0 0, .slice none 0 0]
          have hB22 := hB21.trans (hA.mono hB21.size)
          have c0 := y1.cell 0 rfl
          have c1 := y1.cell 1 rfl
          have c2 := y1.cell 2 rfl
          have c3 := y1.cell 3 rfl
          have hz := Lib.hid (zero_any (w21.alloc (.cells #[.slice none 0 0, .int .i64 0, .slice none 0 0, .slice none 0 0] 32)))
          clear hb21 hB20 hB21 hA y1
          unfold zeroR resB at hz
          unfold zeroR resB
          go_wp2_with fail
          refine hz.out.mono ?_
          rintro e w23 ⟨rfl, hb23⟩
          have hB23 := hB22.trans (hb23.mono hB22.size)
          have hve := Lib.hid (hVp.out w23 hB23)
          clear hz hb23 hB22 c0 c1 c2 c3
          unfold resB at hve
          go_wp2_with fail
          refine hve.out.mono ?_
          rintro e w24 ⟨rfl, hb24⟩
          go_wp2
          go_ret
          exact ⟨by simp, hB23.trans (hb24.mono hB23.size)⟩
        · have b1 : decide (skip < -1000000000) = false := decide_eq_false hlo
          by_cases hhi : 1000000000 < skip
          · have b2 : decide (1000000000 < skip) = true := decide_eq_true hhi
            have hk : ckP css skip = 3 := hcp.1 (by omega)
            have hPe := fun w' hb => Partial_err _ css skip w' (hv0.out.mono hb) hfit.out (by rw [hk]; decide)
            have hVp := fun w' (hb : Below w.heap.size w w') => VerifyPartial_any _ (.slice none 0 0) (.slice none 0 0) (.slice none 0 0) css skip [] [] [] 0 w' (hv0.out.mono hb) .nil .nil .nil hfit.out (by simp)
            rw [show verP css skip [] 0 [] [] = 3 by unfold verP; rw [hk]; rfl] at hVp
            rw [hk] at hPe
            replace hPe := Lib.hid hPe
            replace hVp := Lib.hid hVp
            replace hk := Lib.hid hk
            replace hcp := Lib.hid hcp
            clear hlo hhi
            go_wp2_with fail
            refine (hPe.out _ hB20).mono ?_
            rintro e w21 ⟨rfl, hb21⟩
            have hB21 := hB20.trans (hb21.mono hB20.size)
            have hA := (Below.refl w21.heap.size w21).alloc (Nat.le_refl _) (.cells #[.slice none 0 0, .int .i64 0, .slice none 0 0, .slice none 0 0] 32)
            have y1 := BoxC.new w21 32 #[.slice none 0 0, .int .i64 0, .slice none 0 0, .slice none 0 0]
            have hB22 := hB21.trans (hA.mono hB21.size)
            have c0 := y1.cell 0 rfl
            have c1 := y1.cell 1 rfl
            have c2 := y1.cell 2 rfl
            have c3 := y1.cell 3 rfl
            have hz := Lib.hid (zero_any (w21.alloc (.cells #[.slice none 0 0, .int .i64 0, .slice none 0 0, .slice none 0 0] 32)))
            clear hb21 hB20 hB21 hA y1
            unfold zeroR resB at hz
            unfold zeroR resB
            go_wp2_with fail
            refine hz.out.mono ?_
            rintro e w23 ⟨rfl, hb23⟩
            have hB23 := hB22.trans (hb23.mono hB22.size)
            have hve := Lib.hid (hVp.out w23 hB23)
            clear hz hb23 hB22 c0 c1 c2 c3
            unfold resB at hve
            go_wp2_with fail
            refine hve.out.mono ?_
            rintro e w24 ⟨rfl, hb24⟩
            go_wp2
            go_ret
            exact ⟨by simp, hB23.trans (hb24.mono hB23.size)⟩
          · have b2 : decide (1000000000 < skip) = false := decide_eq_false hhi
            have hk : ckP css skip = 0 := hcp.2 (by omega)
            have hPo := Lib.hid (fun w' hb => Partial_ok _ css skip w' (hv0.out.mono hb) hfit.out hk)
            replace hk := Lib.hid hk
            replace hcp := Lib.hid hcp
            clear hlo hhi
            go_wp2_with fail
            refine (hPo.out _ hB20).mono ?_
            rintro e w21 ⟨vc, vr, vl, tot, cs, rows, pots, rfl, hc, hr, hl, hb21, hR⟩
            have hB21 := hB20.trans (hb21.mono hB20.size)
            have hcl := hR.out.cl
            obtain ⟨ac, cc, rfl⟩ := hc.lenV hcl
            obtain ⟨ar, cr, rfl⟩ := hr.len
            obtain ⟨al, cl, rfl⟩ := hl.len
            have y1 := BoxC.new w21 32 #[.slice ac css.length cc, .int .i64 tot, .slice ar rows.length cr, .slice al pots.length cl]
            have hB22 := hB21.alloc hB21.size (.cells #[.slice ac css.length cc, .int .i64 tot, .slice ar rows.length cr, .slice al pots.length cl] 32)
            have c0 := y1.cell 0 rfl
            replace hcl := Lib.hid hcl
            clear hc hr hl hR hb21 hB20 hB21 y1
            unfold resB
            go_wp2
            go_ret
            exact ⟨by simp, hB22⟩
      · have hk : ckP css skip = d2 := hd2n.out h2
        have b0 : (d2 == 0) = false := by simp [h2]
        have hPe := fun w' hb => Partial_err _ css skip w' (hv0.out.mono hb) hfit.out (by rw [hk]; exact h2)
        have hVp := fun w' (hb : Below w.heap.size w w') => VerifyPartial_any _ (.slice none 0 0) (.slice none 0 0) (.slice none 0 0) css skip [] [] [] 0 w' (hv0.out.mono hb) .nil .nil .nil hfit.out (by simp)
        rw [show verP css skip [] 0 [] [] = d2 by unfold verP; rw [hk, if_pos h2]] at hVp
        rw [hk] at hPe
        replace hPe := Lib.hid hPe
        replace hVp := Lib.hid hVp
        replace hk := Lib.hid hk
        replace h2 := Lib.hid h2
        go_wp2_with fail
        refine (hPe.out _ hB20).mono ?_
        rintro e w21 ⟨rfl, hb21⟩
        have hB21 := hB20.trans (hb21.mono hB20.size)
        have hA := (Below.refl w21.heap.size w21).alloc (Nat.le_refl _) (.cells #[.slice none 0 0, .int .i64 0, .slice none 0 0, .slice none 0 0] 32)
        have y1 := BoxC.new w21 32 #[.slice none 0 0, .int .i64 0, .slice none 0 0, .slice none 0 0]
        have hB22 := hB21.trans (hA.mono hB21.size)
        have c0 := y1.cell 0 rfl
        have c1 := y1.cell 1 rfl
        have c2 := y1.cell 2 rfl
        have c3 := y1.cell 3 rfl
        have hz := Lib.hid (zero_any (w21.alloc (.cells #[.slice none 0 0, .int .i64 0, .slice none 0 0, .slice none 0 0] 32)))
        clear hb21 hB20 hB21 hA y1
        unfold zeroR resB at hz
        unfold zeroR resB
        go_wp2_with fail
        refine hz.out.mono ?_
        rintro e w23 ⟨rfl, hb23⟩
        have hB23 := hB22.trans (hb23.mono hB22.size)
        have hve := Lib.hid (hVp.out w23 hB23)
        clear hz hb23 hB22 c0 c1 c2 c3
        unfold resB at hve
        go_wp2_with fail
        refine hve.out.mono ?_
        rintro e w24 ⟨rfl, hb24⟩
        go_wp2
        go_ret
        exact ⟨by simp, hB23.trans (hb24.mono hB23.size)⟩
end Go.Proofs.Ytoendfpfnfeccaa
