/- The walk of MatchingMoves. Conditions: lists that come in. -/
import Derived.Test.YtoendfpfnfeccaaOpen
import Derived.Test.YtoendfpfnfeccaaW22
import Derived.Test.YtoendfpfnfeccaaL9
namespace Go.Proofs.Ytoendfpfnfeccaa
open Go.RowKit Go.Shelf

set_option maxRecDepth 100000 in
set_option maxHeartbeats 4000000 in
theorem law4_any (v : Value) (css : List (List Int)) (row by' : Int) (w : World) (hv : SlSl w v css) (hin : CsIn css) : Calls Try.prog 4 #[v, .int .i64 row, .int .i64 by'] w (BoolBelow true w) := by
  have hkn := Lib.hid known_any
  have hsm := Lib.hid (fun w' (hb : Below w.heap.size w w') => small_any v css w' (hv.mono hb) hin.l hin.r)
  have hv0 := Lib.hid hv
  have hCk := Lib.hid (fun w' (hb : Below w.heap.size w w') (h : CsFit css) => refCheck_any v css true w' (hv.mono hb) h)
  obtain ⟨av, cv, rfl⟩ := hv.len
  obtain ⟨q, hq⟩ : ∃ q, smS css 0 = q := ⟨_, rfl⟩
  rw [hq] at hsm
  clear hv hin
  cases q with
  | false =>
    replace hq := Lib.hid hq
    go_enter Try.func4, Try.ntmps4
    go_wp2_with fail
    refine (hkn.out _).mono ?_
    rintro e w1 ⟨rfl, hb1⟩
    go_wp2_with fail
    refine (hsm.out _ hb1).mono ?_
    rintro e w2 ⟨rfl, hb2⟩
    have hB2 := hb1.trans (hb2.mono hb1.size)
    go_wp2_with fail
    refine (hkn.out _).mono ?_
    rintro e w9 ⟨rfl, hb9⟩
    go_wp2
    go_ret
    exact ⟨rfl, hB2.trans (hb9.mono hB2.size)⟩
  | true =>
    have hfit := fit_small hq
    have hn5 := (smS_ok hq).1
    have hm6 := (smS_ok hq).2
    replace hm6 := Lib.hid hm6
    replace hq := Lib.hid hq
    by_cases h0n : css.length = 0
    · have h0b : ((css.length : Int) == 0) = true := by rw [h0n]; rfl
      replace h0n := Lib.hid h0n
      go_enter Try.func4, Try.ntmps4
      go_wp2_with fail
      refine (hkn.out _).mono ?_
      rintro e w1 ⟨rfl, hb1⟩
      go_wp2_with fail
      refine (hsm.out _ hb1).mono ?_
      rintro e w2 ⟨rfl, hb2⟩
      have hB2 := hb1.trans (hb2.mono hb1.size)
      go_wp2_with fail
      refine (hkn.out _).mono ?_
      rintro e w9 ⟨rfl, hb9⟩
      go_wp2
      go_ret
      exact ⟨rfl, hB2.trans (hb9.mono hB2.size)⟩
    · have h0b : ((css.length : Int) == 0) = false := by rw [beq_eq_false_iff_ne]; omega
      have hCk2 := Lib.hid (fun w' hb => hCk.out w' hb hfit)
      obtain ⟨d, hd⟩ : ∃ d, ckF css true = d := ⟨_, rfl⟩
      rw [hd] at hCk2
      by_cases h0 : d = 0
      · subst h0
        have hok := (csOk_of hd).1
        have hnm := (csOk_of hd).2 rfl
        by_cases hlo : by' < -1000
        · have hlob : decide (by' < -1000) = true := decide_eq_true hlo
          clear hlo
          replace hfit := Lib.hid hfit
          replace hok := Lib.hid hok
          replace hd := Lib.hid hd
          go_enter Try.func4, Try.ntmps4
          go_wp2_with fail
          refine (hkn.out _).mono ?_
          rintro e w1 ⟨rfl, hb1⟩
          go_wp2_with fail
          refine (hsm.out _ hb1).mono ?_
          rintro e w2 ⟨rfl, hb2⟩
          have hB2 := hb1.trans (hb2.mono hb1.size)
          go_wp2_with fail
          refine (hCk2.out _ hB2).mono ?_
          rintro e w3 ⟨rfl, hb3⟩
          have hB3 := hB2.trans (hb3.mono hB2.size)
          go_wp2_with fail
          refine (hkn.out _).mono ?_
          rintro e w9 ⟨rfl, hb9⟩
          go_wp2
          go_ret
          exact ⟨rfl, hB3.trans (hb9.mono hB3.size)⟩
        have hlob : decide (by' < -1000) = false := decide_eq_false hlo
        by_cases hhi : 1000 < by'
        · have hhib : decide (1000 < by') = true := decide_eq_true hhi
          clear hlo hhi
          replace hfit := Lib.hid hfit
          replace hok := Lib.hid hok
          replace hd := Lib.hid hd
          go_enter Try.func4, Try.ntmps4
          go_wp2_with fail
          refine (hkn.out _).mono ?_
          rintro e w1 ⟨rfl, hb1⟩
          go_wp2_with fail
          refine (hsm.out _ hb1).mono ?_
          rintro e w2 ⟨rfl, hb2⟩
          have hB2 := hb1.trans (hb2.mono hb1.size)
          go_wp2_with fail
          refine (hCk2.out _ hB2).mono ?_
          rintro e w3 ⟨rfl, hb3⟩
          have hB3 := hB2.trans (hb3.mono hB2.size)
          go_wp2_with fail
          refine (hkn.out _).mono ?_
          rintro e w9 ⟨rfl, hb9⟩
          go_wp2
          go_ret
          exact ⟨rfl, hB3.trans (hb9.mono hB3.size)⟩
        have hhib : decide (1000 < by') = false := decide_eq_false hhi
        obtain ⟨i0, hi, hz0, hz1, hz2⟩ := info_parts info3
        obtain ⟨i1, hi', hy0, hy1, hy2⟩ := info_parts info24
        obtain ⟨n, hn⟩ : ∃ n, css.length = n := ⟨_, rfl⟩
        obtain ⟨m, hm⟩ : ∃ m, colN css = m := ⟨_, rfl⟩
        have hu0 : 0 ≤ IntKind.u64.wrap row := by rw [IntKind.wrap_u64]; omega
        have hnp : 0 < n := by omega
        obtain ⟨k, hk, hkq⟩ : ∃ k : Nat, (IntKind.u64.wrap row).tmod (n : Int) = (k : Int) ∧ k < n := by
          have h1 := Int.tmod_nonneg (n : Int) hu0
          have h2 := Int.tmod_lt_of_pos (IntKind.u64.wrap row) (show (0 : Int) < (n : Int) by omega)
          exact ⟨((IntKind.u64.wrap row).tmod (n : Int)).toNat, by omega, by omega⟩
        have hBest := Lib.hid (fun w' hb => Best_res _ css w' (hv0.out.mono hb) hfit hd)
        have hsk : -1000000000 ≤ (100000 : Int) ∧ (100000 : Int) ≤ 1000000000 := by omega
        have hd2 : ckF css false = 0 := by
          have h1 := szS_zero (css := css) hok.row _ 0 rfl
          have h2 := rgS_zero (css := css) (fun k j => by have := hok.val k j; unfold badC; rw [betw_true this]; rfl) _ 0 rfl
          have h3 := hok.n
          have h4 := hok.m
          unfold ckF
          rw [h1, h2, if_neg (by omega), if_neg (by simp), if_neg (by simp)]
        have hPart := Lib.hid (fun w' hb => Partial_ok _ css 100000 w' (hv0.out.mono hb) hfit (ckP_zero hd2 hsk))
        have hMv := Lib.hid (fun (hv : ∀ r j, -1000 ≤ cF css r j ∧ cF css r j ≤ 1000) v' w' (hs : SlSl w' v' (mvd css k by')) => Best_res v' (mvd css k by') w' hs (mvd_fit hfit) (mvd_ck hok hnm hv (by omega)))
        have hrow := Lib.hid (fun q (h : q < n) => (hok.row q (by omega)).trans hm)
        have hrowc := Lib.hid hok.row
        have hm120 := hok.m
        rw [hm] at hm120 hnm
        rw [hn] at hn5 hnm hv0 hsm hCk2 hBest hPart h0n h0b ⊢
        replace hfit := Lib.hid hfit
        replace hok := Lib.hid hok
        replace hd := Lib.hid hd
        replace hd2 := Lib.hid hd2
        replace hn := Lib.hid hn
        replace hm := Lib.hid hm
        have hby1 : -1000 ≤ by' := by omega
        have hby2 : by' ≤ 1000 := by omega
        clear hCk hlo hhi hu0 h0n
        go_enter Try.func4, Try.ntmps4
        go_wp2_with fail
        refine (hkn.out _).mono ?_
        rintro e w1 ⟨rfl, hb1⟩
        go_wp2_with fail
        refine (hsm.out _ hb1).mono ?_
        rintro e w2 ⟨rfl, hb2⟩
        have hB2 := hb1.trans (hb2.mono hb1.size)
        go_wp2_with fail
        refine (hCk2.out _ hB2).mono ?_
        rintro e w3 ⟨rfl, hb3⟩
        have hB3 := hB2.trans (hb3.mono hB2.size)
        clear hb1 hb2 hb3 hB2
        go_wp2_with fail
        go_loopw [8, 9] (fun v i wr => ∃ (q : Nat) (us : List Value), q ≤ n ∧ i = .int .i64 (q : Int) ∧ MvB w3.heap.size wr.heap.size css k by' q v us wr ∧ Hid (∀ i j, i < q → j < m → -1000 ≤ cF css i j ∧ cF css i j ≤ 1000) ∧ Below w3.heap.size w3 wr) (fun _ i _ => n - (intOf i).toNat)
        case atStart => exact ⟨0, [], Nat.zero_le _, rfl, MvB.start, Lib.hid (fun i j h => by omega), Below.refl _ _⟩
        case round =>
          obtain ⟨q, us, hq9, rfl, hM, hin, hB⟩ := hrel
          have hBw := hB3.trans (hB.mono hB3.size)
          by_cases hlq : q < n
          · have hqb : decide ((q : Int) < (n : Int)) = true := decide_eq_true (by omega)
            have hql : q < css.length := by rw [hn.out]; exact hlq
            obtain ⟨b3, o3, c3', he3, hb3, hc3⟩ := (hv0.out.mono hBw).atN hn.out hlq
            cases he3
            obtain ⟨x, x3, hx⟩ := hc3 q hlq
            have hxl := hrow.out q hlq
            have hA := (Below.refl wr.heap.size wr).alloc (Nat.le_refl _) (.cells #[] 3)
            have hown0 := own_empty2 (X := wr) (B := wr.heap.size) (Nat.le_refl _)
            obtain ⟨v', X2, hrun, hown, hb2, hnew, _⟩ := copy_new (P := Try.prog) (W := wr.alloc (.cells #[] 3)) (B := wr.heap.size) 24 24 i0 _ Try.underlying24 hi hz0 hz1 hz2 rfl hown0 (by simp) (hx.mono hA) (by rw [hxl]; omega)
            obtain ⟨ax, cx, rfl⟩ := hx.lenV hxl
            have hAX := hA.trans (hb2.mono hA.size)
            have hM2 := hM.below hAX
            have hB2 := hB.trans (hAX.mono hB.size)
            rw [hxl] at hown hnew
            obtain ⟨g, cap, rfl, hg1, hg2⟩ := hown.form (by omega)
            have hL0 : OwnI wr.heap.size (nths css q) (.slice (some ⟨g, 0, none⟩) m cap) X2 := by
              show X2.ownsRow wr.heap.size 3 1 _ (nths css q).length _
              rw [hxl]
              exact hown
            have hwsz := hB.size
            replace hnew := Lib.hid hnew
            replace hxl := Lib.hid hxl
            replace hown := Lib.hid hown
            clear hA hown0 hc3 hx hb2 hAX hM
            go_wp2_with (at_builtin; refine Lib.wpList_append_run _ rfl _ _ _ _ rfl _ _ rfl rfl _ _ hrun ?_)
            clear hrun
            go_loopw [11] (fun i wr => ∃ (p : Nat) (ls : List Int), p ≤ m ∧ i = .int .i64 (p : Int) ∧ MvB w3.heap.size g css k by' q u8 us wr ∧ OwnI w3.heap.size ls (.slice (some ⟨g, 0, none⟩) m cap) wr ∧ Hid (MvRow css k by' q p ls) ∧ Hid (∀ j, j < p → -1000 ≤ cF css q j ∧ cF css q j ≤ 1000) ∧ Below w3.heap.size w3 wr) (fun i _ => m - (intOf i).toNat)
            case atStart => exact ⟨0, nths css q, Nat.zero_le _, rfl, hM2.more (by omega), own_low hL0 (by omega), Lib.hid MvRow.start, Lib.hid (fun j h => by omega), hB2⟩
            case round =>
              clear hM2 hL0 hB2
              obtain ⟨p, ls, hp, rfl, hM, hL, hR, hin2, hB⟩ := hrel
              have hll : ls.length = m := hR.out.1.trans hxl.out
              by_cases hlp : p < m
              · have hpb : decide ((p : Int) < (m : Int)) = true := decide_eq_true (by omega)
                obtain ⟨hcl, hfr⟩ := OwnI.cell hL hll (i := p) (by omega)
                have hat := hR.out.at (p := p) (by omega)
                rw [hat] at hcl
                have hput := hR.out.put (p := p) (by omega)
                have hskp := hR.out.skip (p := p)
                have hset := fun z => OwnI.set hL hll p z
                have hMs := fun z => hM.setCell (p := ⟨g, p, none⟩) (Nat.le_refl _) z
                have hBs := fun z => hB.setCell (p := ⟨g, p, none⟩) (show w3.heap.size ≤ g by omega) z
                have hin3 : ∀ c, cF css q p = c → -1000 ≤ c ∧ c ≤ 1000 → ∀ j, j < p + 1 → -1000 ≤ cF css q j ∧ cF css q j ≤ 1000 := fun c e hc j hj => by
                  rcases Nat.lt_or_ge j p with h | h
                  · exact hin2.out j h
                  · obtain rfl : j = p := by omega
                    rw [e]; exact hc
                obtain ⟨c, hce⟩ : ∃ c, cF css q p = c := ⟨_, rfl⟩
                rw [hce] at hcl hput
                replace hin3 := Lib.hid (fun h => hin3 c hce h)
                replace hat := Lib.hid hat
                replace hce := Lib.hid hce
                replace hput := Lib.hid hput
                replace hskp := Lib.hid hskp
                replace hset := Lib.hid hset
                replace hMs := Lib.hid hMs
                replace hBs := Lib.hid hBs
                by_cases hlo : c < -1000
                · have b1 : decide (c < -1000) = true := decide_eq_true hlo
                  clear hlo
                  go_wp2
                  go_ret
                  exact ⟨rfl, hB3.trans (hB.mono hB3.size)⟩
                · have b1 : decide (c < -1000) = false := decide_eq_false hlo
                  by_cases hhi : 1000 < c
                  · have b2 : decide (1000 < c) = true := decide_eq_true hhi
                    clear hlo hhi
                    go_wp2
                    go_ret
                    exact ⟨rfl, hB3.trans (hB.mono hB3.size)⟩
                  · have b2 : decide (1000 < c) = false := decide_eq_false hhi
                    have hin4 := Lib.hid (hin3.out (by omega))
                    have hc1 : -1000 ≤ c := by omega
                    have hc2 : c ≤ 1000 := by omega
                    by_cases hqk : q = k
                    · have b3 : ((q : Int) == (k : Int)) = true := by rw [hqk]; simp
                      have b4 : (q == k) = true := by rw [hqk]; simp
                      have hL2 := hset.out (c + by')
                      have hM2 := hMs.out (.int .i64 (c + by'))
                      have hB2 := hBs.out (.int .i64 (c + by'))
                      have hR2 := Lib.hid (hput.out hqk)
                      replace hqk := Lib.hid hqk
                      replace hll := Lib.hid hll
                      clear hin3 hput hskp hset hMs hBs
                      go_wp2
                      go_roundw
                      case rel => exact ⟨p + 1, _, by omega, by go_num, hM2, hL2, hR2, hin4, hB2⟩
                      case measure => simp [intOf]; omega
                    · have b3 : ((q : Int) == (k : Int)) = false := by rw [beq_eq_false_iff_ne]; omega
                      have b4 : (q == k) = false := by rw [beq_eq_false_iff_ne]; exact hqk
                      have hR2 := Lib.hid (hskp.out hqk)
                      replace hqk := Lib.hid hqk
                      replace hll := Lib.hid hll
                      clear hin3 hput hskp hset hMs hBs
                      go_wp2
                      go_roundw
                      case rel => exact ⟨p + 1, ls, by omega, by go_num, hM, hL, hR2, hin4, hB⟩
                      case measure => simp [intOf]; omega
              · obtain rfl : p = m := by omega
                have hR2 := hR.out
                rw [← hll] at hR2
                have hdn := hR2.done hql
                rw [hdn] at hL
                have hA3 := (Below.refl wr.heap.size wr).alloc (Nat.le_refl _) (.cells #[.slice (some ⟨g, 0, none⟩) p cap] 24)
                have hM3 := hM.below hA3
                have hL3 := OwnI.below hL hA3
                have hN3 := BoxC.new wr 24 #[.slice (some ⟨g, 0, none⟩) p cap]
                have hB4 := hB.trans (hA3.mono hB.size)
                have hin5 : Hid (∀ i j, i < q + 1 → j < p → -1000 ≤ cF css i j ∧ cF css i j ≤ 1000) := Lib.hid (fun i j hi hj => by
                  rcases Nat.lt_or_ge i q with h | h
                  · exact hin.out i j h hj
                  · obtain rfl : i = q := by omega
                    exact hin2.out j hj)
                have hbsz := hB.size
                have hus := hM3.o
                replace hdn := Lib.hid hdn
                replace hll := Lib.hid hll
                clear hR2 hL hM hA3
                go_wp2_with (at_builtin; refine wpList_append_own _ rfl _ _ 23 rfl w3.heap.size 24 i1 _ 1 24 Try.underlying23 hi' hy0 hy1 hy2 rfl (by decide) _ q us rfl hus ⟨wr.heap.size, 0, none⟩ 1 1 [.slice (some ⟨g, 0, none⟩) p cap] rfl rfl (one_news hN3) (by simp [Value.oneCell']) (by unfold maxLen; omega) (by omega) (by simp; omega) ?_; intro v' w1' hown' hgrow hnil)
                have hM4 := hM3.snoc hL3 hgrow hown'
                have hB5 := hB4.grown hgrow (by simp; omega) (fun b e => World.ownsRow.lt hus b e |>.1)
                clear hM3 hus hown' hgrow hnil hL3 hN3
                go_roundw
                case rel => exact ⟨q + 1, _, by omega, by go_num, hM4, hin5, hB5⟩
                case measure => simp [intOf]; omega
          · obtain rfl : q = n := by omega
            have hM2 : MvB w3.heap.size wr.heap.size css k by' css.length u8 us wr := by rw [hn.out]; exact hM
            have hrng : ∀ r j, -1000 ≤ cF css r j ∧ cF css r j ≤ 1000 := fun r j => by
              rcases Nat.lt_or_ge r q with h | h
              · rcases Nat.lt_or_ge j m with h2 | h2
                · exact hin.out r j h h2
                · have : cF css r j = 0 := nth_over (by rw [hrow.out r h]; exact h2)
                  omega
              · have : cF css r j = 0 := by
                  have e : nths css r = [] := by simp [nths, show css.length ≤ r by rw [hn.out]; exact h]
                  unfold cF
                  rw [e]; rfl
                omega
            have hsl := hM2.sl
            have hmvB := Lib.hid (fun v' w' hs => hMv.out hrng v' w' hs)
            replace hrng := Lib.hid hrng
            clear hM hM2 hin hMv
            go_wp2_with fail
            refine (hBest.out _ hBw).mono ?_
            rintro e w4 ⟨vc, vr, vl, tot, cs, rows, pots, rfl, hc, hr, hl, hb4, hR⟩
            have hB4 := hBw.trans (hb4.mono hBw.size)
            have hA4 : Below w4.heap.size w4 (w4.alloc (.cells #[vc, .int .i64 tot, vr, vl] 32)) := (Below.refl _ w4).alloc (Nat.le_refl _) _
            have hB5 := hB4.trans (hA4.mono hB4.size)
            have x5 := BoxC.new w4 32 #[vc, .int .i64 tot, vr, vl]
            have hcall5 := Lib.hid (hmvB.out _ _ ((hsl.mono hb4).mono hA4))
            obtain ⟨ac, cc, rfl⟩ := hc.len
            obtain ⟨ar, cr, rfl⟩ := hr.len
            obtain ⟨al, cl, rfl⟩ := hl.len
            clear hc hr hl hA4 hb4 hB4 hBw hsl hmvB
            unfold resB
            go_wp2_with fail
            refine hcall5.out.mono ?_
            rintro e w6 ⟨vc', vr', vl', tot', cs', rows', pots', rfl, hc, hr, hl, hb6, hR'⟩
            generalize w4.alloc (.cells #[.slice ac cs.length cc, .int .i64 tot, .slice ar rows.length cr, .slice al pots.length cl] 32) = w5 at x5 hB5 hb6
            generalize w4.heap.size = X1 at x5 ⊢
            have hB6 := hB5.trans (hb6.mono hB5.size)
            have hA6 : Below w6.heap.size w6 (w6.alloc (.cells #[vc', .int .i64 tot', vr', vl'] 32)) := (Below.refl _ w6).alloc (Nat.le_refl _) _
            have hB7 := hB6.trans (hA6.mono hB6.size)
            have x7 := (x5.grown hb6).grown hA6
            have y7 := BoxC.new w6 32 #[vc', .int .i64 tot', vr', vl']
            have hcall7 := Lib.hid (hPart.out _ hB7)
            obtain ⟨ac', cc', rfl⟩ := hc.len
            obtain ⟨ar', cr', rfl⟩ := hr.len
            obtain ⟨al', cl', rfl⟩ := hl.len
            clear hc hr hl hA6 hb6 hB5 hB6 x5 hcall5
            unfold resB
            go_wp2_with fail
            refine hcall7.out.mono ?_
            rintro e w8 ⟨vc2, vr2, vl2, tot2, cs2, rows2, pots2, rfl, hc, hr, hl, hb8, hR2⟩
            generalize w6.alloc (.cells #[.slice ac' cs'.length cc', .int .i64 tot', .slice ar' rows'.length cr', .slice al' pots'.length cl'] 32) = w7 at x7 y7 hB7 hb8
            generalize w6.heap.size = X2 at y7 ⊢
            have hB8 := hB7.trans (hb8.mono hB7.size)
            have hA8 : Below w8.heap.size w8 (w8.alloc (.cells #[vc2, .int .i64 tot2, vr2, vl2] 32)) := (Below.refl _ w8).alloc (Nat.le_refl _) _
            have hB9 := hB8.trans (hA8.mono hB8.size)
            have x9 := (x7.grown hb8).grown hA8
            have y9 := (y7.grown hb8).grown hA8
            have z9 := BoxC.new w8 32 #[vc2, .int .i64 tot2, vr2, vl2]
            obtain ⟨ac2, cc2, rfl⟩ := hc.len
            obtain ⟨ar2, cr2, rfl⟩ := hr.len
            obtain ⟨al2, cl2, rfl⟩ := hl.len
            have t1 := mvd_tot hrowc.out (show k < css.length by rw [hn.out]; exact hkq) hR.out hR'.out
            have t2 := skip_tot (by rw [hn.out]; exact hn5) hrng.out hR.out hR2.out
            have t3 := least_bd (m := colN css) (c := cF css) (skip := none) (fun r k => hok.out.val r k) (by simp) (by simp) hR.out.least
            rw [hn.out] at t3
            have t4 : -10000000000 ≤ tot ∧ tot ≤ 10000000000 := by omega
            subst t1 t2
            have k1 := x9.cell 1 rfl
            have k2 := y9.cell 1 rfl
            have k3 := z9.cell 1 rfl
            clear hc hr hl hA8 hb8 hB7 hB8 x7 y7 x9 y9 z9 hcall7 t3
            unfold resB
            go_wp2
            go_ret
            exact ⟨by simp, hB9⟩
      · have hdb : (d != 0) = true := by simp [h0]
        replace h0 := Lib.hid h0
        replace hfit := Lib.hid hfit
        replace hd := Lib.hid hd
        clear hCk
        go_enter Try.func4, Try.ntmps4
        go_wp2_with fail
        refine (hkn.out _).mono ?_
        rintro e w1 ⟨rfl, hb1⟩
        go_wp2_with fail
        refine (hsm.out _ hb1).mono ?_
        rintro e w2 ⟨rfl, hb2⟩
        have hB2 := hb1.trans (hb2.mono hb1.size)
        go_wp2_with fail
        refine (hCk2.out _ hB2).mono ?_
        rintro e w3 ⟨rfl, hb3⟩
        have hB3 := hB2.trans (hb3.mono hB2.size)
        go_wp2_with fail
        refine (hkn.out _).mono ?_
        rintro e w9 ⟨rfl, hb9⟩
        go_wp2
        go_ret
        exact ⟨rfl, hB3.trans (hb9.mono hB3.size)⟩
end Go.Proofs.Ytoendfpfnfeccaa
