/- The walk of MatchingPartial. Conditions: lists that come in. -/
import Derived.Test.YtoendfpfnfeccaaOpen
import Derived.Test.YtoendfpfnfeccaaW18
import Derived.Test.YtoendfpfnfeccaaL6
namespace Go.Proofs.Ytoendfpfnfeccaa
open Go.RowKit Go.Shelf

theorem ckP_zero {css : List (List Int)} {skip : Int} (hd : ckF css false = 0) (hs : -1000000000 ≤ skip ∧ skip ≤ 1000000000) : ckP css skip = 0 := by
  unfold ckP
  rw [hd, if_neg (by simp), if_neg (by unfold badC; rw [betw_true hs]; simp)]
theorem num1 {X : World} {g : Nat} {a : Int} (h : BoxC X g 3 #[.int .i64 a]) : NumSl .i64 X (.slice (some ⟨g, 0, none⟩) 1 1) [a] := by
  refine .inr ⟨g, 0, 1, rfl, fun i hi => ?_⟩
  rw [Nat.zero_add]
  match i, hi with
  | 0, _ => exact h.cell 0 rfl
set_option maxRecDepth 100000 in
set_option maxHeartbeats 4000000 in
theorem law9_any (v : Value) (css : List (List Int)) (skip : Int) (w : World) (hv : SlSl w v css) (hin : CsIn css) : Calls Try.prog 9 #[v, .int .i64 skip] w (BoolBelow true w) := by
  have hkn := Lib.hid known_any
  have hsm := Lib.hid (fun w' (hb : Below w.heap.size w w') => small_any v css w' (hv.mono hb) hin.l hin.r)
  have hv0 := Lib.hid hv
  have hCk := Lib.hid (fun w' (hb : Below w.heap.size w w') (h : CsFit css) => refCheck_any v css false w' (hv.mono hb) h)
  obtain ⟨av, cv, rfl⟩ := hv.len
  obtain ⟨q, hq⟩ : ∃ q, smS css 0 = q := ⟨_, rfl⟩
  rw [hq] at hsm
  clear hv hin
  cases q with
  | false =>
    replace hq := Lib.hid hq
    go_enter Try.func9, Try.ntmps9
    go_wp2_with fail
    refine (hkn.out _).mono ?_
    rintro e w1 ⟨rfl, hb1⟩
    go_wp2_with fail
    refine (hsm.out _ hb1).mono ?_
    rintro e w2 ⟨rfl, hb2⟩
    have hB2 := hb1.trans (hb2.mono hb1.size)
    go_wp2_with fail
    refine (hkn.out _).mono ?_
    rintro e w9 ⟨rfl, hb9⟩
    go_wp2
    go_ret
    exact ⟨rfl, hB2.trans (hb9.mono hB2.size)⟩
  | true =>
    have hfit := fit_small hq
    have hn5 := (smS_ok hq).1
    have hm6 := (smS_ok hq).2
    replace hm6 := Lib.hid hm6
    replace hq := Lib.hid hq
    have hCk2 := Lib.hid (fun w' hb => hCk.out w' hb hfit)
    obtain ⟨d, hd⟩ : ∃ d, ckF css false = d := ⟨_, rfl⟩
    rw [hd] at hCk2
    by_cases h0 : d = 0
    · subst h0
      have hok := (csOk_of hd).1
      by_cases hlo : skip < -1000000000
      · have hlob : decide (skip < -1000000000) = true := decide_eq_true hlo
        clear hlo
        replace hfit := Lib.hid hfit
        replace hok := Lib.hid hok
        replace hd := Lib.hid hd
        go_enter Try.func9, Try.ntmps9
        go_wp2_with fail
        refine (hkn.out _).mono ?_
        rintro e w1 ⟨rfl, hb1⟩
        go_wp2_with fail
        refine (hsm.out _ hb1).mono ?_
        rintro e w2 ⟨rfl, hb2⟩
        have hB2 := hb1.trans (hb2.mono hb1.size)
        go_wp2_with fail
        refine (hCk2.out _ hB2).mono ?_
        rintro e w3 ⟨rfl, hb3⟩
        have hB3 := hB2.trans (hb3.mono hB2.size)
        go_wp2_with fail
        refine (hkn.out _).mono ?_
        rintro e w9 ⟨rfl, hb9⟩
        go_wp2
        go_ret
        exact ⟨rfl, hB3.trans (hb9.mono hB3.size)⟩
      have hlob : decide (skip < -1000000000) = false := decide_eq_false hlo
      by_cases hhi : 1000000000 < skip
      · have hhib : decide (1000000000 < skip) = true := decide_eq_true hhi
        clear hlo hhi
        replace hfit := Lib.hid hfit
        replace hok := Lib.hid hok
        replace hd := Lib.hid hd
        go_enter Try.func9, Try.ntmps9
        go_wp2_with fail
        refine (hkn.out _).mono ?_
        rintro e w1 ⟨rfl, hb1⟩
        go_wp2_with fail
        refine (hsm.out _ hb1).mono ?_
        rintro e w2 ⟨rfl, hb2⟩
        have hB2 := hb1.trans (hb2.mono hb1.size)
        go_wp2_with fail
        refine (hCk2.out _ hB2).mono ?_
        rintro e w3 ⟨rfl, hb3⟩
        have hB3 := hB2.trans (hb3.mono hB2.size)
        go_wp2_with fail
        refine (hkn.out _).mono ?_
        rintro e w9 ⟨rfl, hb9⟩
        go_wp2
        go_ret
        exact ⟨rfl, hB3.trans (hb9.mono hB3.size)⟩
      have hhib : decide (1000000000 < skip) = false := decide_eq_false hhi
      have hsk : -1000000000 ≤ skip ∧ skip ≤ 1000000000 := by omega
      have hcp := ckP_zero hd hsk
      have hPart := Lib.hid (fun w' hb => Partial_ok _ css skip w' (hv0.out.mono hb) hfit hcp)
      have hTot := Lib.hid (fun l ls w' (hb : Below w.heap.size w w') (hl : NumSl .i64 w' l ls) => refTotal_any _ l css ls true skip w' (hv0.out.mono hb) hl hok hsk)
      have hUn := Lib.hid (fun w' (hb : Below w.heap.size w w') => unused_any _ css w' (hv0.out.mono hb) (by omega) (by have := hok.m; omega))
      have hLe := Lib.hid (fun U uv g X (hb : Below w.heap.size w U) (hX : Below U.heap.size U X) (hg : 0 < colN css → 0 < css.length → g ≠ U.heap.size) (hJ : BoxC X g 3 #[.int .i64 skip]) hu => least_un U _ (.slice (some ⟨g, 0, none⟩) 1 1) uv css (some skip) (fun W => BoxC W g 3 #[.int .i64 skip]) X (hv0.out.mono hb) (fun W h => num1 h) (fun h1 h2 W i b h => h.other (hg h1 h2) _) hok hsk hX hJ hu)
      have hSz := Lib.hid (fun r l rows ls w' (hb : Below w.heap.size w w') (hr : NumSl .i64 w' r rows) (hl : NumSl .i64 w' l ls) => refSizes_any _ r l css rows ls w' (hv0.out.mono hb) hr hl hok)
      have hVa := Lib.hid (fun r l rows ls w' (hb : Below w.heap.size w w') (hr : NumSl .i64 w' r rows) (hl : NumSl .i64 w' l ls) (h : SzOk css rows ls) => refValid_any _ r l css rows ls w' (hv0.out.mono hb) hr hl hok h)
      have hVe := Lib.hid (fun vc vr vl cs rows ls tot w' (hb : Below w.heap.size w w') (hc : NumSl .i64 w' vc cs) (hr : NumSl .i64 w' vr rows) (hl : NumSl .i64 w' vl ls) h => VerifyPartial_any _ vc vr vl css skip cs rows ls tot w' (hv0.out.mono hb) hc hr hl hfit h)
      replace hfit := Lib.hid hfit
      replace hok := Lib.hid hok
      replace hd := Lib.hid hd
      replace hcp := Lib.hid hcp
      clear hCk hlo hhi
      go_enter Try.func9, Try.ntmps9
      go_wp2_with fail
      refine (hkn.out _).mono ?_
      rintro e w1 ⟨rfl, hb1⟩
      go_wp2_with fail
      refine (hsm.out _ hb1).mono ?_
      rintro e w2 ⟨rfl, hb2⟩
      have hB2 := hb1.trans (hb2.mono hb1.size)
      go_wp2_with fail
      refine (hCk2.out _ hB2).mono ?_
      rintro e w3 ⟨rfl, hb3⟩
      have hB3 := hB2.trans (hb3.mono hB2.size)
      go_wp2_with fail
      refine (hPart.out _ hB3).mono ?_
      rintro e w4 ⟨vc, vr, vl, tot, cs, rows, pots, rfl, hc, hr, hl, hb4, hR⟩
      have hB4 := hB3.trans (hb4.mono hB3.size)
      have hA : Below w4.heap.size w4 (w4.alloc (.cells #[vc, .int .i64 tot, vr, vl] 32)) := (Below.refl _ w4).alloc (Nat.le_refl _) _
      have hB5 := hB4.trans (hA.mono hB4.size)
      have x5 := BoxC.new w4 32 #[vc, .int .i64 tot, vr, vl]
      have hc5 := hc.mono hA
      have hr5 := hr.mono hA
      have hl5 := hl.mono hA
      obtain ⟨ac, cc, rfl⟩ := hc.len
      obtain ⟨ar, cr, rfl⟩ := hr.len
      obtain ⟨al, cl, rfl⟩ := hl.len
      have hcall := hTot.out _ _ _ hB5 hc5
      have htt := hR.out.total
      rw [show totF css cs (some skip).isSome ((some skip).getD 0) = totF css cs true skip from rfl] at htt
      rw [htt] at hcall
      replace hcall := Lib.hid hcall
      replace htt := Lib.hid htt
      clear hc hr hl hA hb1 hb2 hb3 hb4 hB2 hB3 hB4
      unfold resB
      go_wp2_with fail
      refine hcall.out.mono ?_
      rintro e w6 ⟨rfl, hb6⟩
      generalize w4.alloc (.cells #[.slice ac cs.length cc, .int .i64 tot, .slice ar rows.length cr, .slice al pots.length cl] 32) = w5 at x5 hB5 hc5 hr5 hl5 hb6
      generalize w4.heap.size = B at x5 ⊢
      have hB6 := hB5.trans (hb6.mono hB5.size)
      have x6 := x5.grown hb6
      have hc6 := hc5.mono hb6
      have hr6 := hr5.mono hb6
      have hl6 := hl5.mono hb6
      have hcall6 := Lib.hid (hUn.out _ hB6)
      clear hcall x5 hB5 hc5 hr5 hl5 hb6
      go_wp2_with fail
      refine hcall6.out.mono ?_
      rintro e w7 ⟨uv, rfl, hb7, hu⟩
      have hA7 : Below w7.heap.size w7 (w7.alloc (.cells #[.int .i64 skip] 3)) := (Below.refl _ w7).alloc (Nat.le_refl _) _
      have hcall7 := hLe.out _ uv w7.heap.size (w7.alloc (.cells #[.int .i64 skip] 3)) hB6 (hb7.trans (hA7.mono hb7.size)) (fun h1 h2 => by
        rcases hu with ⟨h, _⟩ | ⟨_, _, h⟩
        · omega
        · have := (h.lt h1).2
          omega) (BoxC.new w7 3 #[.int .i64 skip]) (hu.imp id (fun h => ⟨h.1, h.2.1, RowB.grown h.2.2 hA7⟩))
      have hle := hR.out.least
      rw [hle] at hcall7
      replace hle := Lib.hid hle
      replace hcall7 := Lib.hid hcall7
      clear hcall6 hu
      go_wp2_with fail
      refine hcall7.out.mono ?_
      rintro e w8 ⟨rfl, hb8⟩
      have hB8 := hB6.trans (hb8.mono hB6.size)
      have x8 := x6.grown hb8
      have hc8 := hc6.mono hb8
      have hr8 := hr6.mono hb8
      have hl8 := hl6.mono hb8
      have hcall8 := hSz.out _ _ _ _ _ hB8 hr8 hl8
      have hsz := szE_zero hR.out.szOk
      rw [hsz] at hcall8
      replace hsz := Lib.hid hsz
      replace hcall8 := Lib.hid hcall8
      have c1 := x8.cell 1 rfl
      have c2 := x8.cell 2 rfl
      have c3 := x8.cell 3 rfl
      clear hcall7 hB6 x6 hc6 hr6 hl6 hb8 hb7 hA7
      unfold optV
      simp only [Option.getD_some, Option.isSome_some]
      go_wp2_with fail
      refine hcall8.out.mono ?_
      rintro e w9 ⟨rfl, hb9⟩
      have hB9 := hB8.trans (hb9.mono hB8.size)
      have x9 := x8.grown hb9
      have hc9 := hc8.mono hb9
      have hr9 := hr8.mono hb9
      have hl9 := hl8.mono hb9
      clear c1 c2 c3 hcall8 hB8 x8 hc8 hr8 hl8 hb9
      have c2 := x9.cell 2 rfl
      have hrl := hR.out.rl
      have hrl5 : rows.length ≤ 5 := by omega
      replace hrl := Lib.hid hrl
      go_wp2
      go_loop [11] (fun i => ∃ k : Nat, k ≤ rows.length ∧ i = .int .i64 (k : Int)) (fun i => rows.length - (intOf i).toNat)
      case atStart => exact ⟨0, Nat.zero_le _, rfl⟩
      case round =>
        obtain ⟨k, hk, rfl⟩ := hrel
        by_cases hlt : k < rows.length
        · have hkb : decide ((k : Int) < (rows.length : Int)) = true := decide_eq_true (by omega)
          obtain ⟨b, off, cap, he, hcc⟩ := hr9.at hlt
          cases he
          have hck := hcc k hlt
          have hrs := hR.out.sk k skip (by rw [← hrl.out]; exact hlt) rfl
          have hrb : decide (skip < nth rows k) = false := decide_eq_false (by omega)
          clear hcc
          generalize nth rows k = y at hck hrs hrb
          go_wp2
          go_round
          case rel => exact ⟨k + 1, by omega, by go_num⟩
          case measure => simp [intOf]; omega
        · have hkb : decide ((k : Int) < (rows.length : Int)) = false := decide_eq_false (by omega)
          have hcall9 := hVa.out _ _ _ _ _ hB9 hr9 hl9 hR.out.szOk
          have hva := hR.out.valid
          rw [hva] at hcall9
          replace hva := Lib.hid hva
          replace hcall9 := Lib.hid hcall9
          have c3 := x9.cell 3 rfl
          go_wp2_with fail
          refine hcall9.out.mono ?_
          rintro e w10 ⟨rfl, hb10⟩
          have hB10 := hB9.trans (hb10.mono hB9.size)
          have x10 := x9.grown hb10
          have hc10 := hc9.mono hb10
          have hr10 := hr9.mono hb10
          have hl10 := hl9.mono hb10
          have hsu := hR.out.sum
          have hcall10 := refSum_any _ _ rows pots w10 hr10 hl10 (by omega) (by rw [hR.out.pl]; have := hok.out.m; omega) hR.out.szOk.rb hR.out.szOk.cb
          rw [hsu] at hcall10
          replace hsu := Lib.hid hsu
          replace hcall10 := Lib.hid hcall10
          clear c2 c3 hcall9 hB9 x9 hc9 hr9 hl9 hb10
          have c2 := x10.cell 2 rfl
          have c3 := x10.cell 3 rfl
          go_wp2_with fail
          refine hcall10.out.mono ?_
          rintro e w11 ⟨rfl, hb11⟩
          have hB11 := hB10.trans (hb11.mono hB10.size)
          have x11 := x10.grown hb11
          have hcall11 := hVe.out _ _ _ cs rows pots tot _ hB11 (hc10.mono hb11) (hr10.mono hb11) (hl10.mono hb11) (by omega)
          have hve := hR.out.verP hcp.out
          rw [hve] at hcall11
          replace hve := Lib.hid hve
          replace hcall11 := Lib.hid hcall11
          clear c2 c3 hcall10 hB10 x10 hc10 hr10 hl10 hb11
          have c0 := x11.cell 0 rfl
          have c1 := x11.cell 1 rfl
          have c2 := x11.cell 2 rfl
          have c3 := x11.cell 3 rfl
          go_wp2_with fail
          refine hcall11.out.mono ?_
          rintro e w12 ⟨rfl, hb12⟩
          go_wp2
          go_ret
          exact ⟨by simp, hB11.trans (hb12.mono hB11.size)⟩
    · have hdb : (d != 0) = true := by simp [h0]
      replace h0 := Lib.hid h0
      replace hfit := Lib.hid hfit
      replace hd := Lib.hid hd
      clear hCk
      go_enter Try.func9, Try.ntmps9
      go_wp2_with fail
      refine (hkn.out _).mono ?_
      rintro e w1 ⟨rfl, hb1⟩
      go_wp2_with fail
      refine (hsm.out _ hb1).mono ?_
      rintro e w2 ⟨rfl, hb2⟩
      have hB2 := hb1.trans (hb2.mono hb1.size)
      go_wp2_with fail
      refine (hCk2.out _ hB2).mono ?_
      rintro e w3 ⟨rfl, hb3⟩
      have hB3 := hB2.trans (hb3.mono hB2.size)
      go_wp2_with fail
      refine (hkn.out _).mono ?_
      rintro e w9 ⟨rfl, hb9⟩
      go_wp2
      go_ret
      exact ⟨rfl, hB3.trans (hb9.mono hB3.size)⟩
end Go.Proofs.Ytoendfpfnfeccaa
