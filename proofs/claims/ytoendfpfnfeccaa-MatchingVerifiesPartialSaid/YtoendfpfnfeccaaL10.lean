/- The walk of MatchingVerifiesPartial. Conditions: lists that come in. -/
import Derived.Test.YtoendfpfnfeccaaOpen
import Derived.Test.YtoendfpfnfeccaaW21
import Derived.Test.YtoendfpfnfeccaaL9
namespace Go.Proofs.Ytoendfpfnfeccaa
open Go.RowKit Go.Shelf

theorem verP_of {css : List (List Int)} {cs rows ls : List Int} {tot p1 p2 : Int} (hd : ckP css 3 = 0) (hp : totF css cs true 3 = (p1, p2)) : verP css 3 cs tot rows ls = if p2 ≠ 0 then p2 else if vrfF css tot rows ls p1 ≠ 0 then vrfF css tot rows ls p1 else if anyF (aboveB 3) rows = true then 20 else 0 := by
  unfold verP afterF
  rw [hd, if_neg (by simp), hp]
  by_cases h : p2 = 0
  · subst h
    rw [if_neg (by simp)]
    exact prv_vrf3
  · rw [if_pos h]
    unfold prvF
    rw [if_pos h]
set_option maxRecDepth 100000 in
set_option maxHeartbeats 4000000 in
theorem law10_any (v : Value) (css : List (List Int)) (sa sb sc : Int) (w : World) (hv : SlSl w v css) (hin : CsIn css) : Calls Try.prog 10 #[v, .agg #[.int .i64 sa, .int .i64 sb, .int .i64 sc]] w (BoolBelow true w) := by
  have hkn := Lib.hid known_any
  have hA := (Below.refl w.heap.size w).alloc (Nat.le_refl _) (.cells #[.int .i64 sa, .int .i64 sb, .int .i64 sc] 55)
  have bx := BoxC.new w 55 #[.int .i64 sa, .int .i64 sb, .int .i64 sc]
  have hsm := Lib.hid (fun w' (hb : Below w.heap.size w w') => small_any v css w' (hv.mono hb) hin.l hin.r)
  have hv0 := Lib.hid hv
  have hCk := Lib.hid (fun w' (hb : Below w.heap.size w w') (h : CsFit css) => refCheck_any v css false w' (hv.mono hb) h)
  obtain ⟨av, cv, rfl⟩ := hv.len
  obtain ⟨q, hq⟩ : ∃ q, smS css 0 = q := ⟨_, rfl⟩
  rw [hq] at hsm
  clear hv hin
  cases q with
  | false =>
    replace hq := Lib.hid hq
    go_enter Try.func10, Try.ntmps10
    go_wp2_with fail
    refine (hkn.out _).mono ?_
    rintro e w1 ⟨rfl, hb1⟩
    have hB1 := hA.trans (hb1.mono hA.size)
    have bx1 := bx.grown hb1
    go_wp2_with fail
    refine (hsm.out _ hB1).mono ?_
    rintro e w2 ⟨rfl, hb2⟩
    have hB2 := hB1.trans (hb2.mono hB1.size)
    have bx2 := bx1.grown hb2
    go_wp2_with fail
    refine (hkn.out _).mono ?_
    rintro e w9 ⟨rfl, hb9⟩
    go_wp2
    go_ret
    exact ⟨rfl, hB2.trans (hb9.mono hB2.size)⟩
  | true =>
    have hfit := fit_small hq
    have hn5 := (smS_ok hq).1
    replace hq := Lib.hid hq
    have hCk2 := Lib.hid (fun w' hb => hCk.out w' hb hfit)
    obtain ⟨d, hd⟩ : ∃ d, ckF css false = d := ⟨_, rfl⟩
    rw [hd] at hCk2
    by_cases h0 : d = 0
    · subst h0
      have hok := (csOk_of hd).1
      by_cases hlo : sc < -2000000000000
      · have hlob : decide (sc < -2000000000000) = true := decide_eq_true hlo
        clear hlo
        replace hfit := Lib.hid hfit
        replace hok := Lib.hid hok
        replace hd := Lib.hid hd
        go_enter Try.func10, Try.ntmps10
        go_wp2_with fail
        refine (hkn.out _).mono ?_
        rintro e w1 ⟨rfl, hb1⟩
        have hB1 := hA.trans (hb1.mono hA.size)
        have bx1 := bx.grown hb1
        go_wp2_with fail
        refine (hsm.out _ hB1).mono ?_
        rintro e w2 ⟨rfl, hb2⟩
        have hB2 := hB1.trans (hb2.mono hB1.size)
        have bx2 := bx1.grown hb2
        go_wp2_with fail
        refine (hCk2.out _ hB2).mono ?_
        rintro e w3 ⟨rfl, hb3⟩
        have hB3 := hB2.trans (hb3.mono hB2.size)
        have bx3 := bx2.grown hb3
        have s0 := bx3.cell 0 rfl
        have s1 := bx3.cell 1 rfl
        have s2 := bx3.cell 2 rfl
        go_wp2_with fail
        refine (hkn.out _).mono ?_
        rintro e w9 ⟨rfl, hb9⟩
        go_wp2
        go_ret
        exact ⟨rfl, hB3.trans (hb9.mono hB3.size)⟩
      have hlob : decide (sc < -2000000000000) = false := decide_eq_false hlo
      by_cases hhi : 2000000000000 < sc
      · have hhib : decide (2000000000000 < sc) = true := decide_eq_true hhi
        clear hlo hhi
        replace hfit := Lib.hid hfit
        replace hok := Lib.hid hok
        replace hd := Lib.hid hd
        go_enter Try.func10, Try.ntmps10
        go_wp2_with fail
        refine (hkn.out _).mono ?_
        rintro e w1 ⟨rfl, hb1⟩
        have hB1 := hA.trans (hb1.mono hA.size)
        have bx1 := bx.grown hb1
        go_wp2_with fail
        refine (hsm.out _ hB1).mono ?_
        rintro e w2 ⟨rfl, hb2⟩
        have hB2 := hB1.trans (hb2.mono hB1.size)
        have bx2 := bx1.grown hb2
        go_wp2_with fail
        refine (hCk2.out _ hB2).mono ?_
        rintro e w3 ⟨rfl, hb3⟩
        have hB3 := hB2.trans (hb3.mono hB2.size)
        have bx3 := bx2.grown hb3
        have s0 := bx3.cell 0 rfl
        have s1 := bx3.cell 1 rfl
        have s2 := bx3.cell 2 rfl
        go_wp2_with fail
        refine (hkn.out _).mono ?_
        rintro e w9 ⟨rfl, hb9⟩
        go_wp2
        go_ret
        exact ⟨rfl, hB3.trans (hb9.mono hB3.size)⟩
      have hhib : decide (2000000000000 < sc) = false := decide_eq_false hhi
      have hcp := ckP_zero (skip := 3) hd (by omega)
      have hBest := Lib.hid (fun w' hb => Partial_ok _ css 3 w' (hv0.out.mono hb) hfit hcp)
      have hTot := Lib.hid (fun l ls w' (hb : Below w.heap.size w w') (hl : NumSl .i64 w' l ls) => refTotal_any _ l css ls true 3 w' (hv0.out.mono hb) hl hok (by omega))
      have hVf := Lib.hid (fun vc vr vl rows ls tot T w' (hb : Below w.heap.size w w') (hc : ∃ a n c, vc = Value.slice a n c) (hr : NumSl .i64 w' vr rows) (hl : NumSl .i64 w' vl ls) => verify_any _ vc vr vl css rows ls tot T w' (hv0.out.mono hb) hc hr hl hok)
      have hVe := Lib.hid (fun vc vr vl cs rows ls tot w' (hb : Below w.heap.size w w') (hc : NumSl .i64 w' vc cs) (hr : NumSl .i64 w' vr rows) (hl : NumSl .i64 w' vl ls) h => VerifyPartial_any _ vc vr vl css 3 cs rows ls tot w' (hv0.out.mono hb) hc hr hl hfit h)
      have hok2 := Lib.hid hok
      replace hfit := Lib.hid hfit
      replace hok := Lib.hid hok
      replace hd := Lib.hid hd
      clear hCk hlo hhi
      go_enter Try.func10, Try.ntmps10
      go_wp2_with fail
      refine (hkn.out _).mono ?_
      rintro e w1 ⟨rfl, hb1⟩
      have hB1 := hA.trans (hb1.mono hA.size)
      have bx1 := bx.grown hb1
      go_wp2_with fail
      refine (hsm.out _ hB1).mono ?_
      rintro e w2 ⟨rfl, hb2⟩
      have hB2 := hB1.trans (hb2.mono hB1.size)
      have bx2 := bx1.grown hb2
      go_wp2_with fail
      refine (hCk2.out _ hB2).mono ?_
      rintro e w3 ⟨rfl, hb3⟩
      have hB3 := hB2.trans (hb3.mono hB2.size)
      have bx3 := bx2.grown hb3
      have s0 := bx3.cell 0 rfl
      have s1 := bx3.cell 1 rfl
      have s2 := bx3.cell 2 rfl
      go_wp2_with fail
      refine (hBest.out _ hB3).mono ?_
      rintro e w4 ⟨vc, vr, vl, tot, cs, rows, pots, rfl, hc, hr, hl, hb4, hR⟩
      have hB4 := hB3.trans (hb4.mono hB3.size)
      have hA4 : Below w4.heap.size w4 (w4.alloc (.cells #[vc, .int .i64 tot, vr, vl] 32)) := (Below.refl _ w4).alloc (Nat.le_refl _) _
      have hB5 := hB4.trans (hA4.mono hB4.size)
      have x5 := BoxC.new w4 32 #[vc, .int .i64 tot, vr, vl]
      have bx5 := (bx3.grown hb4).grown hA4
      have hch := changed_any vc vr vl cs rows pots tot sa sb sc _ (hc.mono hA4) (hr.mono hA4) (hl.mono hA4) (by rw [hR.out.cl]; omega) (by rw [hR.out.rl]; omega) (by rw [hR.out.pl]; have := hok.out.m; omega)
      obtain ⟨ac, cc, rfl⟩ := hc.len
      obtain ⟨ar, cr, rfl⟩ := hr.len
      obtain ⟨al, cl, rfl⟩ := hl.len
      replace hch := Lib.hid hch
      clear hc hr hl hA4 hb1 hb2 hb3 hb4 hB1 hB2 hB3 hB4 bx bx1 bx2 bx3 s0 s1 s2
      have s0 := bx5.cell 0 rfl
      have s1 := bx5.cell 1 rfl
      have s2 := bx5.cell 2 rfl
      have x0 := x5.cell 0 rfl
      have x1 := x5.cell 1 rfl
      have x2 := x5.cell 2 rfl
      have x3 := x5.cell 3 rfl
      unfold resB
      go_wp2_with fail
      unfold resB at hch
      refine hch.out.mono ?_
      rintro e w6 ⟨vc', vr', vl', tot', cs', rows', pots', rfl, hc, hr, hl, hrn, hb6⟩
      generalize w4.alloc (.cells #[.slice ac cs.length cc, .int .i64 tot, .slice ar rows.length cr, .slice al pots.length cl] 32) = w5 at hB5 hb6
      have hB6 := hB5.trans (hb6.mono hB5.size)
      have hA6 : Below w6.heap.size w6 (w6.alloc (.cells #[vc', .int .i64 tot', vr', vl'] 32)) := (Below.refl _ w6).alloc (Nat.le_refl _) _
      have hB7 := hB6.trans (hA6.mono hB6.size)
      have y7 := BoxC.new w6 32 #[vc', .int .i64 tot', vr', vl']
      have hc7 := hc.mono hA6
      have hr7 := hr.mono hA6
      have hl7 := hl.mono hA6
      obtain ⟨ac', cc', rfl⟩ := hc.len
      obtain ⟨ar', cr', rfl⟩ := hr.len
      obtain ⟨al', cl', rfl⟩ := hl.len
      have hcall := hTot.out _ _ _ hB7 hc7
      obtain ⟨p1, p2, hp⟩ : ∃ p1 p2, totF css cs' true 3 = (p1, p2) := ⟨_, _, rfl⟩
      rw [hp] at hcall
      replace hcall := Lib.hid hcall
      clear hc hr hl hA6 hB5 hB6 hb6 bx5 s0 s1 s2 x0 x1 x2 x3 x5 hch
      unfold resB
      go_wp2_with fail
      refine hcall.out.mono ?_
      rintro e w8 ⟨rfl, hb8⟩
      generalize w6.alloc (.cells #[.slice ac' cs'.length cc', .int .i64 tot', .slice ar' rows'.length cr', .slice al' pots'.length cl'] 32) = w7 at y7 hB7 hc7 hr7 hl7 hb8
      generalize w6.heap.size = B at y7 ⊢
      have hB8 := hB7.trans (hb8.mono hB7.size)
      have y8 := y7.grown hb8
      have hc8 := hc7.mono hb8
      have hr8 := hr7.mono hb8
      have hl8 := hl7.mono hb8
      clear hcall y7 hB7 hc7 hr7 hl7 hb8
      have hve := hVe.out
      have hvr := verP_of (cs := cs') (tot := tot') (rows := rows') (ls := pots') hcp hp
      by_cases hp0 : p2 = 0
      · subst hp0
        rw [if_neg (by simp)] at hvr
        have hcall8 := hVf.out (.slice ac' cs'.length cc') _ _ _ _ tot' p1 _ hB8 ⟨_, _, _, rfl⟩ hr8 hl8
        obtain ⟨k, hk⟩ : ∃ k, vrfF css tot' rows' pots' p1 = k := ⟨_, rfl⟩
        rw [hk] at hcall8 hvr
        replace hcall8 := Lib.hid hcall8
        replace hk := Lib.hid hk
        replace hp := Lib.hid hp
        replace hve := Lib.hid hve
        unfold resB at hcall8
        by_cases hk0 : k = 0
        · subst hk0
          rw [if_neg (by simp)] at hvr
          replace hvr := Lib.hid hvr
          have z1 := y8.cell 1 rfl
          have z0 := y8.cell 0 rfl
          have z2 := y8.cell 2 rfl
          have z3 := y8.cell 3 rfl
          go_wp2_with fail
          refine hcall8.out.mono ?_
          rintro e w9 ⟨rfl, hb9⟩
          have hB9 := hB8.trans (hb9.mono hB8.size)
          have y9 := y8.grown hb9
          have hc9 := hc8.mono hb9
          have hr9 := hr8.mono hb9
          have hl9 := hl8.mono hb9
          clear hcall8 z0 z1 z2 z3 y8 hB8 hb9 hc8 hr8 hl8
          have z2 := y9.cell 2 rfl
          go_wp2
          go_loop [9, 10] (fun a i => ∃ (k : Nat) (t : Int), k ≤ rows'.length ∧ i = .int .i64 (k : Int) ∧ a = .int .i64 t ∧ ((t = 0 ∧ Hid (∀ i, i < k → aboveB 3 (nth rows' i) = false)) ∨ (t = 20 ∧ Hid (anyF (aboveB 3) rows' = true)))) (fun a i => 2 * rows'.length + 2 - (intOf i).toNat - (if intOf a = 20 then rows'.length + 1 else 0))
          case atStart => exact ⟨0, 0, Nat.zero_le _, rfl, rfl, .inl ⟨rfl, Lib.hid (fun i hi => by omega)⟩⟩
          case round =>
            obtain ⟨k, t, hk9, rfl, rfl, hcase⟩ := hrel
            rcases hcase with ⟨rfl, hall⟩ | ⟨rfl, hany⟩
            · by_cases hlt : k < rows'.length
              · have hkb : decide ((k : Int) < (rows'.length : Int)) = true := decide_eq_true (by omega)
                obtain ⟨b, off, cap, he, hcc⟩ := hr9.at hlt
                cases he
                have hck := hcc k hlt
                obtain ⟨y, hy⟩ : ∃ y, nth rows' k = y := ⟨_, rfl⟩
                rw [hy] at hck
                clear hcc
                by_cases hab : 3 < y
                · have hyb : decide (3 < y) = true := decide_eq_true hab
                  have hany : anyF (aboveB 3) rows' = true := anyF_true.2 ⟨k, hlt, by rw [hy]; exact hyb⟩
                  replace hany := Lib.hid hany
                  replace hy := Lib.hid hy
                  clear hall hab
                  go_wp2
                  go_round
                  case rel => exact ⟨k + 1, 20, by omega, by go_num, rfl, .inr ⟨rfl, hany⟩⟩
                  case measure => simp [intOf]; omega
                · have hyb : decide (3 < y) = false := decide_eq_false hab
                  have hall2 : ∀ i, i < k + 1 → aboveB 3 (nth rows' i) = false := fun i hi => by
                    rcases Nat.lt_or_ge i k with h | h
                    · exact hall.out i h
                    · obtain rfl : i = k := by omega
                      rw [hy]; exact hyb
                  replace hall2 := Lib.hid hall2
                  replace hy := Lib.hid hy
                  clear hall hab
                  go_wp2
                  go_round
                  case rel => exact ⟨k + 1, 0, by omega, by go_num, rfl, .inl ⟨rfl, hall2⟩⟩
                  case measure => simp [intOf]; omega
              · have hkb : decide ((k : Int) < (rows'.length : Int)) = false := decide_eq_false (by omega)
                have hnone : anyF (aboveB 3) rows' = false := anyF_false.2 (fun i hi => hall.out i (by omega))
                have hvr2 := hvr.out
                rw [if_neg (by simp [hnone])] at hvr2
                replace hnone := Lib.hid hnone
                replace hvr := Lib.hid hvr2
                clear hvr2 hall
                have hcall11 := hve.out _ _ _ cs' rows' pots' tot' _ hB9 hc9 hr9 hl9 (by omega)
                rw [hvr.out] at hcall11
                replace hcall11 := Lib.hid hcall11
                unfold resB at hcall11
                have q0 := y9.cell 0 rfl
                have q1 := y9.cell 1 rfl
                have q2 := y9.cell 2 rfl
                have q3 := y9.cell 3 rfl
                go_wp2_with fail
                refine hcall11.out.mono ?_
                rintro e w12 ⟨rfl, hb12⟩
                go_wp2
                go_ret
                exact ⟨by simp, hB9.trans (hb12.mono hB9.size)⟩
            · have hvr2 := hvr.out
              rw [if_pos hany.out] at hvr2
              replace hvr := Lib.hid hvr2
              clear hvr2
              by_cases hlt : k < rows'.length
              · have hkb : decide ((k : Int) < (rows'.length : Int)) = true := decide_eq_true (by omega)
                have hcall11 := hve.out _ _ _ cs' rows' pots' tot' _ hB9 hc9 hr9 hl9 (by omega)
                rw [hvr.out] at hcall11
                replace hcall11 := Lib.hid hcall11
                unfold resB at hcall11
                have q0 := y9.cell 0 rfl
                have q1 := y9.cell 1 rfl
                have q2 := y9.cell 2 rfl
                have q3 := y9.cell 3 rfl
                go_wp2_with fail
                refine hcall11.out.mono ?_
                rintro e w12 ⟨rfl, hb12⟩
                go_wp2
                go_ret
                exact ⟨by simp, hB9.trans (hb12.mono hB9.size)⟩
              · have hkb : decide ((k : Int) < (rows'.length : Int)) = false := decide_eq_false (by omega)
                have hcall11 := hve.out _ _ _ cs' rows' pots' tot' _ hB9 hc9 hr9 hl9 (by omega)
                rw [hvr.out] at hcall11
                replace hcall11 := Lib.hid hcall11
                unfold resB at hcall11
                have q0 := y9.cell 0 rfl
                have q1 := y9.cell 1 rfl
                have q2 := y9.cell 2 rfl
                have q3 := y9.cell 3 rfl
                go_wp2_with fail
                refine hcall11.out.mono ?_
                rintro e w12 ⟨rfl, hb12⟩
                go_wp2
                go_ret
                exact ⟨by simp, hB9.trans (hb12.mono hB9.size)⟩
        · rw [if_pos hk0] at hvr
          have hkb : (k == 0) = false := by simp [hk0]
          replace hvr := Lib.hid hvr
          replace hk0 := Lib.hid hk0
          have z1 := y8.cell 1 rfl
          have z0 := y8.cell 0 rfl
          have z2 := y8.cell 2 rfl
          have z3 := y8.cell 3 rfl
          go_wp2_with fail
          refine hcall8.out.mono ?_
          rintro e w9 ⟨rfl, hb9⟩
          have hB9 := hB8.trans (hb9.mono hB8.size)
          have y9 := y8.grown hb9
          have hc9 := hc8.mono hb9
          have hr9 := hr8.mono hb9
          have hl9 := hl8.mono hb9
          clear hcall8 z0 z1 z2 z3 y8 hB8 hb9 hc8 hr8 hl8
          have z2 := y9.cell 2 rfl
          go_wp2
          go_loop [9, 10] (fun a i => a = .int .i64 k ∧ i = .int .i64 0) (fun _ _ => 0)
          case atStart => exact ⟨rfl, rfl⟩
          case round =>
            obtain ⟨rfl, rfl⟩ := hrel
            by_cases hlt : 0 < rows'.length
            · have hkb1 : decide ((0 : Int) < (rows'.length : Int)) = true := decide_eq_true (by omega)
              have hkb2 : decide (0 < rows'.length) = true := decide_eq_true (by omega)
              have hcall11 := hve.out _ _ _ cs' rows' pots' tot' _ hB9 hc9 hr9 hl9 (by omega)
              rw [hvr.out] at hcall11
              replace hcall11 := Lib.hid hcall11
              unfold resB at hcall11
              have q0 := y9.cell 0 rfl
              have q1 := y9.cell 1 rfl
              have q2 := y9.cell 2 rfl
              have q3 := y9.cell 3 rfl
              go_wp2_with fail
              refine hcall11.out.mono ?_
              rintro e w12 ⟨rfl, hb12⟩
              go_wp2
              go_ret
              exact ⟨by simp, hB9.trans (hb12.mono hB9.size)⟩
            · have hkb1 : decide ((0 : Int) < (rows'.length : Int)) = false := decide_eq_false (by omega)
              have hkb2 : decide (0 < rows'.length) = false := decide_eq_false (by omega)
              have hcall11 := hve.out _ _ _ cs' rows' pots' tot' _ hB9 hc9 hr9 hl9 (by omega)
              rw [hvr.out] at hcall11
              replace hcall11 := Lib.hid hcall11
              unfold resB at hcall11
              have q0 := y9.cell 0 rfl
              have q1 := y9.cell 1 rfl
              have q2 := y9.cell 2 rfl
              have q3 := y9.cell 3 rfl
              go_wp2_with fail
              refine hcall11.out.mono ?_
              rintro e w12 ⟨rfl, hb12⟩
              go_wp2
              go_ret
              exact ⟨by simp, hB9.trans (hb12.mono hB9.size)⟩
      · rw [if_pos hp0] at hvr
        have hpb : (p2 == 0) = false := by simp [hp0]
        replace hvr := Lib.hid hvr
        replace hp := Lib.hid hp
        replace hp0 := Lib.hid hp0
        replace hve := Lib.hid hve
        have hcall11 := hve.out _ _ _ cs' rows' pots' tot' _ hB8 hc8 hr8 hl8 (by omega)
        rw [hvr.out] at hcall11
        replace hcall11 := Lib.hid hcall11
        unfold resB at hcall11
        have q0 := y8.cell 0 rfl
        have q1 := y8.cell 1 rfl
        have q2 := y8.cell 2 rfl
        have q3 := y8.cell 3 rfl
        go_wp2_with fail
        refine hcall11.out.mono ?_
        rintro e w12 ⟨rfl, hb12⟩
        go_wp2
        go_ret
        exact ⟨by simp, hB8.trans (hb12.mono hB8.size)⟩
    · have hdb : (d != 0) = true := by simp [h0]
      replace h0 := Lib.hid h0
      replace hfit := Lib.hid hfit
      replace hd := Lib.hid hd
      clear hCk
      go_enter Try.func10, Try.ntmps10
      go_wp2_with fail
      refine (hkn.out _).mono ?_
      rintro e w1 ⟨rfl, hb1⟩
      have hB1 := hA.trans (hb1.mono hA.size)
      have bx1 := bx.grown hb1
      go_wp2_with fail
      refine (hsm.out _ hB1).mono ?_
      rintro e w2 ⟨rfl, hb2⟩
      have hB2 := hB1.trans (hb2.mono hB1.size)
      have bx2 := bx1.grown hb2
      go_wp2_with fail
      refine (hCk2.out _ hB2).mono ?_
      rintro e w3 ⟨rfl, hb3⟩
      have hB3 := hB2.trans (hb3.mono hB2.size)
      have bx3 := bx2.grown hb3
      have s0 := bx3.cell 0 rfl
      have s1 := bx3.cell 1 rfl
      have s2 := bx3.cell 2 rfl
      go_wp2_with fail
      refine (hkn.out _).mono ?_
      rintro e w9 ⟨rfl, hb9⟩
      go_wp2
      go_ret
      exact ⟨rfl, hB3.trans (hb9.mono hB3.size)⟩
end Go.Proofs.Ytoendfpfnfeccaa
