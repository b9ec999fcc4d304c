/- The walk of MatchingBounds. Conditions: lists that come in. -/
import Derived.Test.YtoendfpfnfeccaaOpen
import Derived.Test.YtoendfpfnfeccaaW19
import Derived.Test.YtoendfpfnfeccaaL6
namespace Go.Proofs.Ytoendfpfnfeccaa
open Go.RowKit Go.Shelf

/-- pairs are compared -/
theorem eq44 (a b c d : Int) (W : World) : (Op.equalIn 10000 44 (.agg #[.int .i64 a, .int .i64 b]) (.agg #[.int .i64 c, .int .i64 d])).run Try.prog W = .ok (a == c && b == d) W := by
  have h44 : Try.prog.underlying 44 = some (.array 2 3) := by kernel_rfl
  have h3b : Try.prog.underlying 3 = some (.int .i64) := by kernel_rfl
  obtain ⟨i, hi, hz, hsz, hb⟩ := info_parts info3
  have hq : ∀ (x y : Int) (W : World), (Op.equalIn 9999 3 (.int .i64 x) (.int .i64 y)).run Try.prog W = .ok (x == y) W := fun x y W => run_equalIn_int W 9998 3 .i64 .i64 x y h3b
  unfold Op.equalIn
  have hr : List.range' 0 2 = [0, 1] := rfl
  simp [run_underlying h44, sizeOf, typeInfo, hi, hsz, go_sem, hr, isAgg, run_underlying h3b, hq]
  by_cases h1 : a = c <;> by_cases h2 : b = d <;> simp [h1, h2]
theorem eq44s (a b : Int) (W : World) : (Op.equalIn 10000 44 (.agg #[.int .i64 a, .int .i64 b]) (.agg #[.int .i64 a, .int .i64 b])).run Try.prog W = .ok true W := by rw [eq44]; simp
set_option maxRecDepth 100000 in
set_option maxHeartbeats 4000000 in
theorem law5_any (v r l : Value) (css : List (List Int)) (rows ls : List Int) (w : World) (hv : SlSl w v css) (hr : NumSl .i64 w r rows) (hl : NumSl .i64 w l ls) (hin : CsIn css) (hrm : rows.length ≤ 9223372036854775807) (hlm : ls.length ≤ 9223372036854775807) : Calls Try.prog 5 #[v, r, l] w (BoolBelow true w) := by
  have hkn := Lib.hid known_any
  have hsm := Lib.hid (fun w' (hb : Below w.heap.size w w') => small_any v css w' (hv.mono hb) hin.l hin.r)
  have hv0 := Lib.hid hv
  have hCk := Lib.hid (fun w' (hb : Below w.heap.size w w') (h : CsFit css) => refCheck_any v css true w' (hv.mono hb) h)
  have hr0 := Lib.hid hr
  have hl0 := Lib.hid hl
  obtain ⟨ar, cr, rfl⟩ := hr.len
  obtain ⟨al, cl, rfl⟩ := hl.len
  clear hr hl
  obtain ⟨av, cv, rfl⟩ := hv.len
  obtain ⟨q, hq⟩ : ∃ q, smS css 0 = q := ⟨_, rfl⟩
  rw [hq] at hsm
  clear hv hin
  cases q with
  | false =>
    replace hq := Lib.hid hq
    go_enter Try.func5, Try.ntmps5
    go_wp2_with fail
    refine (hkn.out _).mono ?_
    rintro e w1 ⟨rfl, hb1⟩
    go_wp2_with fail
    refine (hsm.out _ hb1).mono ?_
    rintro e w2 ⟨rfl, hb2⟩
    have hB2 := hb1.trans (hb2.mono hb1.size)
    go_wp2_with fail
    refine (hkn.out _).mono ?_
    rintro e w9 ⟨rfl, hb9⟩
    go_wp2
    go_ret
    exact ⟨rfl, hB2.trans (hb9.mono hB2.size)⟩
  | true =>
    have hfit := fit_small hq
    have hn5 := (smS_ok hq).1
    have hm6 := (smS_ok hq).2
    replace hm6 := Lib.hid hm6
    replace hq := Lib.hid hq
    by_cases hr6 : 6 < rows.length
    · have h6b : decide ((6 : Int) < (rows.length : Int)) = true := decide_eq_true (by omega)
      go_enter Try.func5, Try.ntmps5
      go_wp2_with fail
      refine (hkn.out _).mono ?_
      rintro e w1 ⟨rfl, hb1⟩
      go_wp2_with fail
      refine (hsm.out _ hb1).mono ?_
      rintro e w2 ⟨rfl, hb2⟩
      have hB2 := hb1.trans (hb2.mono hb1.size)
      go_wp2_with fail
      refine (hkn.out _).mono ?_
      rintro e w9 ⟨rfl, hb9⟩
      go_wp2
      go_ret
      exact ⟨rfl, hB2.trans (hb9.mono hB2.size)⟩
    · have h6b : decide ((6 : Int) < (rows.length : Int)) = false := decide_eq_false (by omega)
      by_cases hl6 : 6 < ls.length
      · have h7b : decide ((6 : Int) < (ls.length : Int)) = true := decide_eq_true (by omega)
        go_enter Try.func5, Try.ntmps5
        go_wp2_with fail
        refine (hkn.out _).mono ?_
        rintro e w1 ⟨rfl, hb1⟩
        go_wp2_with fail
        refine (hsm.out _ hb1).mono ?_
        rintro e w2 ⟨rfl, hb2⟩
        have hB2 := hb1.trans (hb2.mono hb1.size)
        go_wp2_with fail
        refine (hkn.out _).mono ?_
        rintro e w9 ⟨rfl, hb9⟩
        go_wp2
        go_ret
        exact ⟨rfl, hB2.trans (hb9.mono hB2.size)⟩
      · have h7b : decide ((6 : Int) < (ls.length : Int)) = false := decide_eq_false (by omega)
        have hCk2 := Lib.hid (fun w' hb => hCk.out w' hb hfit)
        obtain ⟨d, hd⟩ : ∃ d, ckF css true = d := ⟨_, rfl⟩
        rw [hd] at hCk2
        by_cases h0 : d = 0
        · subst h0
          have hok := (csOk_of hd).1
          have hBo := fun w' (hb : Below w.heap.size w w') => Bound_any _ _ _ css rows ls w' (hv0.out.mono hb) (hr0.out.mono hb) (hl0.out.mono hb) hfit
          have hSz := fun w' (hb : Below w.heap.size w w') => refSizes_any _ _ _ css rows ls w' (hv0.out.mono hb) (hr0.out.mono hb) (hl0.out.mono hb) hok
          have hbf : boundF css rows ls = potF css rows ls := by unfold boundF; rw [hd, if_neg (by simp)]
          obtain ⟨s, hs⟩ : ∃ s, szE css rows ls = s := ⟨_, rfl⟩
          rw [hs] at hSz
          by_cases hs0 : s = 0
          · have hszk := szOk_of (hs.trans hs0)
            have hVa := fun w' (hb : Below w.heap.size w w') => refValid_any _ _ _ css rows ls w' (hv0.out.mono hb) (hr0.out.mono hb) (hl0.out.mono hb) hok hszk
            obtain ⟨q, hq2⟩ : ∃ q, valF css rows ls = q := ⟨_, rfl⟩
            rw [hq2] at hVa
            cases q with
            | false =>
              have hpf : boundF css rows ls = (0, 20) := by rw [hbf]; unfold potF; simp [hs.trans hs0, hq2]
              have hTi := fun w' (hb : Below w.heap.size w w') => Tight_err _ _ _ css rows ls w' (hv0.out.mono hb) (hr0.out.mono hb) (hl0.out.mono hb) hfit (by rw [hpf]; decide)
              rw [hpf] at hBo hTi
              subst hs0
              replace hBo := Lib.hid hBo
              replace hTi := Lib.hid hTi
              replace hSz := Lib.hid hSz
              replace hVa := Lib.hid hVa
              replace hfit := Lib.hid hfit
              replace hok := Lib.hid hok
              replace hd := Lib.hid hd
              replace hbf := Lib.hid hbf
              replace hpf := Lib.hid hpf
              replace hs := Lib.hid hs
              replace hq2 := Lib.hid hq2
              replace hszk := Lib.hid hszk
              clear hCk
              go_enter Try.func5, Try.ntmps5
              go_wp2_with fail
              refine (hkn.out _).mono ?_
              rintro e w1 ⟨rfl, hb1⟩
              go_wp2_with fail
              refine (hsm.out _ hb1).mono ?_
              rintro e w2 ⟨rfl, hb2⟩
              have hB2 := hb1.trans (hb2.mono hb1.size)
              go_wp2_with fail
              refine (hCk2.out _ hB2).mono ?_
              rintro e w3 ⟨rfl, hb3⟩
              have hB3 := hB2.trans (hb3.mono hB2.size)
              go_wp2_with fail
              refine (hBo.out _ hB3).mono ?_
              rintro e w4 ⟨rfl, hb4⟩
              have hB4 := hB3.trans (hb4.mono hB3.size)
              go_wp2_with fail
              refine (hTi.out _ hB4).mono ?_
              rintro e w5 ⟨tv, rfl, ht, hb5⟩
              have hB5 := hB4.trans (hb5.mono hB4.size)
              have ht0 := Lib.hid ht
              obtain ⟨at', ct, rfl⟩ := ht.len
              clear ht
              go_wp2_with fail
              refine (hSz.out _ hB5).mono ?_
              rintro e w6 ⟨rfl, hb6⟩
              have hB6 := hB5.trans (hb6.mono hB5.size)
              clear hB3 hB4 hb1 hb2 hb3 hb4
              go_wp2_with fail
              refine (hVa.out _ hB6).mono ?_
              rintro e w7 ⟨rfl, hb7⟩
              have hB7 := hB6.trans (hb7.mono hB6.size)
              go_wp2
              go_ret
              exact ⟨by simp, hB7⟩
            | true =>
              have hpf : boundF css rows ls = (sumF rows ls, 0) := by rw [hbf]; unfold potF; simp [hs.trans hs0, hq2]
              have hTi := fun w' (hb : Below w.heap.size w w') => Tight_ok _ _ _ css rows ls w' (hv0.out.mono hb) (hr0.out.mono hb) (hl0.out.mono hb) hfit (by rw [hpf])
              have hSu := fun w' (hb : Below w.heap.size w w') => refSum_any _ _ rows ls w' (hr0.out.mono hb) (hl0.out.mono hb) (by omega) (by omega) hszk.rb hszk.cb
              rw [hpf] at hBo
              obtain ⟨sm, hsm2⟩ : ∃ sm, sumF rows ls = sm := ⟨_, rfl⟩
              rw [hsm2] at hBo hSu
              obtain ⟨n, hn⟩ : ∃ n, css.length = n := ⟨_, rfl⟩
              obtain ⟨m, hm⟩ : ∃ m, colN css = m := ⟨_, rfl⟩
              have hrl := hszk.r.trans hn
              have hll := hszk.c.trans hm
              have hrow := Lib.hid (fun k (h : k < n) => (hok.row k (by omega)).trans hm)
              have hval : Hid (∀ r k, -1000000000 ≤ cF css r k ∧ cF css r k ≤ 1000000000) := Lib.hid (fun r k => hok.val r k)
              have hrb := Lib.hid hszk.rb
              have hlb := Lib.hid hszk.cb
              have hall : Hid ((tgAll css rows ls n).length ≤ 7200) := Lib.hid (tgAll_bd (by omega) (by omega))
              rw [hn] at hTi hn5
              rw [hrl] at hr6 hr0
              rw [hll] at hl6 hl0
              rw [hrl, hll]
              rw [hn] at hv0 hsm hCk2 ⊢
              simp only [hrl, hll, hn] at hBo hTi hSz hVa hSu
              subst hs0
              replace hBo := Lib.hid hBo
              replace hTi := Lib.hid hTi
              replace hSz := Lib.hid hSz
              replace hVa := Lib.hid hVa
              replace hSu := Lib.hid hSu
              replace hfit := Lib.hid hfit
              replace hok := Lib.hid hok
              replace hd := Lib.hid hd
              replace hbf := Lib.hid hbf
              replace hpf := Lib.hid hpf
              replace hs := Lib.hid hs
              replace hq2 := Lib.hid hq2
              replace hszk := Lib.hid hszk
              replace hsm2 := Lib.hid hsm2
              replace hn := Lib.hid hn
              replace hm := Lib.hid hm
              replace hrl := Lib.hid hrl
              replace hll := Lib.hid hll
              clear hCk
              go_enter Try.func5, Try.ntmps5
              go_wp2_with fail
              refine (hkn.out _).mono ?_
              rintro e w1 ⟨rfl, hb1⟩
              go_wp2_with fail
              refine (hsm.out _ hb1).mono ?_
              rintro e w2 ⟨rfl, hb2⟩
              have hB2 := hb1.trans (hb2.mono hb1.size)
              go_wp2_with fail
              refine (hCk2.out _ hB2).mono ?_
              rintro e w3 ⟨rfl, hb3⟩
              have hB3 := hB2.trans (hb3.mono hB2.size)
              go_wp2_with fail
              refine (hBo.out _ hB3).mono ?_
              rintro e w4 ⟨rfl, hb4⟩
              have hB4 := hB3.trans (hb4.mono hB3.size)
              go_wp2_with fail
              refine (hTi.out _ hB4).mono ?_
              rintro e w5 ⟨tv, rfl, ht, hb5⟩
              have hB5 := hB4.trans (hb5.mono hB4.size)
              have ht0 := Lib.hid ht
              obtain ⟨at', ct, rfl⟩ := ht.len
              clear ht
              go_wp2_with fail
              refine (hSz.out _ hB5).mono ?_
              rintro e w6 ⟨rfl, hb6⟩
              have hB6 := hB5.trans (hb6.mono hB5.size)
              clear hB3 hB4 hb1 hb2 hb3 hb4
              go_wp2_with fail
              refine (hVa.out _ hB6).mono ?_
              rintro e w7 ⟨rfl, hb7⟩
              have hB7 := hB6.trans (hb7.mono hB6.size)
              have hb57 := hb6.trans (hb7.mono hb6.size)
              have ht7 := Lib.hid (ht0.out.mono hb57)
              clear ht0 hb57 hb6 hb7 hB5 hB6 hb5
              obtain ⟨T, hT⟩ : ∃ T, tgAll css rows ls n = T := ⟨_, rfl⟩
              rw [hT] at ht7 hall ⊢
              have hTl := hall.out
              replace hT := Lib.hid hT
              go_wp2
              go_loopw [12, 13] (fun a i wr => ∃ q : Nat, q ≤ n ∧ i = .int .i64 (q : Int) ∧ a = .int .i64 ((tgAll css rows ls q).length : Int) ∧ Below w7.heap.size w7 wr) (fun _ i _ => n - (intOf i).toNat)
              case atStart => exact ⟨0, Nat.zero_le _, rfl, rfl, Below.refl _ _⟩
              case round =>
                obtain ⟨q, hq9, rfl, rfl, hB⟩ := hrel
                have hBw := hB7.trans (hB.mono hB7.size)
                have hT1 : (tgAll css rows ls q).length ≤ T.length := by
                  obtain ⟨r, hr⟩ := tgAll_pre (css := css) (rows := rows) (ls := ls) (n := n) (i := q) hq9
                  rw [← hT.out, hr, List.length_append]
                  omega
                by_cases hlq : q < n
                · have hqb : decide ((q : Int) < (n : Int)) = true := decide_eq_true (by omega)
                  go_wp2
                  go_loopw [12, 14] (fun a i wr => ∃ p : Nat, p ≤ m ∧ i = .int .i64 (p : Int) ∧ a = .int .i64 (((tgAll css rows ls q).length + (tgRow css rows ls q p).length : Nat) : Int) ∧ Below w7.heap.size w7 wr) (fun _ i _ => m - (intOf i).toNat)
                  case atStart => exact ⟨0, Nat.zero_le _, rfl, by simp [tgRow], hB⟩
                  case round =>
                    clear hB hBw
                    obtain ⟨p, hp, rfl, rfl, hB⟩ := hrel
                    have hBw := hB7.trans (hB.mono hB7.size)
                    by_cases hlp : p < m
                    · have hpb : decide ((p : Int) < (m : Int)) = true := decide_eq_true (by omega)
                      obtain ⟨b1, o1, c1', he1, hc1⟩ := (hr0.out.mono hBw).atN hrl.out hlq
                      cases he1
                      have x1 := hc1 q hlq
                      obtain ⟨b2, o2, c2', he2, hc2⟩ := (hl0.out.mono hBw).atN hll.out hlp
                      cases he2
                      have x2 := hc2 p hlp
                      obtain ⟨b3, o3, c3', he3, _, hc3⟩ := (hv0.out.mono hBw).atN hn.out hlq
                      cases he3
                      obtain ⟨x, x3, hx⟩ := hc3 q hlq
                      obtain ⟨b4, o4, c4', rfl, hc4⟩ := hx.atN (hrow.out q hlq) (k := p) hlp
                      have x4 : wr.cell? ⟨b4, o4 + p, none⟩ = some (.int .i64 (cF css q p)) := hc4 p hlp
                      have v1 := hrb.out q
                      have v2 := hlb.out p
                      have v4 := hval.out q p
                      have L0 := tg_at (css := css) (rows := rows) (ls := ls) (n := n) (i := q) (k := p) hlq (by rw [hll.out]; exact hlp)
                      have L1 := @tgRow_hit css rows ls q p
                      have L2 := @tgRow_miss css rows ls q p
                      rw [hT.out] at L0
                      unfold tgB at L0 L1 L2
                      generalize nth rows q = y1 at x1 v1 L0 L1 L2
                      generalize nth ls p = y2 at x2 v2 L0 L1 L2
                      generalize cF css q p = y4 at x4 v4 L0 L1 L2
                      have es : IntKind.i64.wrap (y1 + y2) = y1 + y2 := IntWalk.i64_in _ (by omega)
                      clear hc1 hc2 hc3 hc4 hx
                      by_cases hbad : (y1 + y2 == y4) = true
                      · replace L0 := L0 hbad
                        replace L1 := L1 hbad
                        have hat := (List.getElem?_eq_some_iff.1 L0).1
                        have hpq : pr T ((tgAll css rows ls q).length + (tgRow css rows ls q p).length) = (q, p) := by unfold pr; rw [L0]; rfl
                        obtain ⟨A, hA⟩ : ∃ A, (tgAll css rows ls q).length + (tgRow css rows ls q p).length = A := ⟨_, rfl⟩
                        have hA2 : Hid ((tgAll css rows ls q).length + (tgRow css rows ls q (p + 1)).length = A + 1) := Lib.hid (by rw [L1, List.length_append]; simp; omega)
                        rw [hA] at hat hpq ⊢
                        obtain ⟨bt, ot, ct', het, _, hct⟩ : ∃ b off cap, Value.slice at' T.length ct = .slice (some ⟨b, off, none⟩) T.length cap ∧ b < wr.heap.size ∧ ∀ q, q < T.length → wr.cell? ⟨b, off + q * 2, none⟩ = some (.int .i64 ((pr T q).1 : Int)) ∧ wr.cell? ⟨b, off + q * 2 + 1, none⟩ = some (.int .i64 ((pr T q).2 : Int)) := by
                          rcases ht7.out.mono hB with ⟨_, h⟩ | ⟨b, off, cap, h1, h2, h3⟩
                          · rw [h] at hat; simp at hat
                          · exact ⟨b, off, cap, h1, h2, h3⟩
                        cases het
                        obtain ⟨z1, z2⟩ := hct A hat
                        rw [hpq] at z1 z2
                        have hgeb : decide ((T.length : Int) ≤ (A : Int)) = false := decide_eq_false (by omega)
                        have hgeb2 : decide (T.length ≤ A) = false := decide_eq_false (by omega)
                        replace hA := Lib.hid hA
                        replace hpq := Lib.hid hpq
                        replace L0 := Lib.hid L0
                        replace L1 := Lib.hid L1
                        clear L2 hct
                        go_wp2_with fail
                        go_quiet (fail)
                        have hB3 := below_drewN hB nq
                        have z3 : (wr.drewN nq).cell? ⟨bt, ot + A * 2, none⟩ = some (.int .i64 (q : Int)) := z1
                        have z4 : (wr.drewN nq).cell? ⟨bt, ot + A * 2 + 1, none⟩ = some (.int .i64 (p : Int)) := z2
                        generalize wr.drewN nq = W at hB3 z3 z4 ⊢
                        have hqq := eq44s (q : Int) (p : Int)
                        clear z1 z2 x1 x2 x3 x4
                        go_wp2
                        go_roundw
                        case rel => exact ⟨p + 1, by omega, by go_num, by rw [hA2.out]; go_num, hB3⟩
                        case measure => simp [intOf]; omega
                      · rw [Bool.not_eq_true] at hbad
                        replace L2 := L2 hbad
                        have hA2 : Hid (tgRow css rows ls q (p + 1) = tgRow css rows ls q p) := Lib.hid L2
                        clear L0 L1 L2
                        go_wp2_with fail
                        go_quiet (fail)
                        have hB3 := below_drewN hB nq
                        go_wp2
                        go_roundw
                        case rel => exact ⟨p + 1, by omega, by go_num, by rw [hA2.out], hB3⟩
                        case measure => simp [intOf]; omega
                    · obtain rfl : p = m := by omega
                      have hA2 : Hid ((tgAll css rows ls q).length + (tgRow css rows ls q p).length = (tgAll css rows ls (q + 1)).length) := Lib.hid (by rw [tgAll, List.length_append, hll.out])
                      go_wp2
                      go_roundw
                      case rel => exact ⟨q + 1, by omega, by go_num, by rw [hA2.out], hB⟩
                      case measure => simp [intOf]; omega
                · obtain rfl : q = n := by omega
                  have hTe : Hid ((tgAll css rows ls q).length = T.length) := Lib.hid (by rw [hT.out])
                  have hSu2 := Lib.hid (hSu.out _ hBw)
                  rw [hTe.out]
                  go_wp2_with fail
                  refine hSu2.out.mono ?_
                  rintro e w9 ⟨rfl, hb9⟩
                  go_wp2
                  go_ret
                  exact ⟨by simp, hBw.trans (hb9.mono hBw.size)⟩
          · have hpf : boundF css rows ls = (0, s) := by rw [hbf]; unfold potF; simp [hs, hs0]
            have hTi := fun w' (hb : Below w.heap.size w w') => Tight_err _ _ _ css rows ls w' (hv0.out.mono hb) (hr0.out.mono hb) (hl0.out.mono hb) hfit (by rw [hpf]; exact hs0)
            rw [hpf] at hBo hTi
            have hsb : (s != 0) = true := by simp [hs0]
            have hsb2 : (s == 0) = false := by simp [hs0]
            replace hBo := Lib.hid hBo
            replace hTi := Lib.hid hTi
            replace hSz := Lib.hid hSz
            replace hfit := Lib.hid hfit
            replace hok := Lib.hid hok
            replace hd := Lib.hid hd
            replace hbf := Lib.hid hbf
            replace hpf := Lib.hid hpf
            replace hs := Lib.hid hs
            replace hs0 := Lib.hid hs0
            clear hCk
            go_enter Try.func5, Try.ntmps5
            go_wp2_with fail
            refine (hkn.out _).mono ?_
            rintro e w1 ⟨rfl, hb1⟩
            go_wp2_with fail
            refine (hsm.out _ hb1).mono ?_
            rintro e w2 ⟨rfl, hb2⟩
            have hB2 := hb1.trans (hb2.mono hb1.size)
            go_wp2_with fail
            refine (hCk2.out _ hB2).mono ?_
            rintro e w3 ⟨rfl, hb3⟩
            have hB3 := hB2.trans (hb3.mono hB2.size)
            go_wp2_with fail
            refine (hBo.out _ hB3).mono ?_
            rintro e w4 ⟨rfl, hb4⟩
            have hB4 := hB3.trans (hb4.mono hB3.size)
            go_wp2_with fail
            refine (hTi.out _ hB4).mono ?_
            rintro e w5 ⟨tv, rfl, ht, hb5⟩
            have hB5 := hB4.trans (hb5.mono hB4.size)
            have ht0 := Lib.hid ht
            obtain ⟨at', ct, rfl⟩ := ht.len
            clear ht
            go_wp2_with fail
            refine (hSz.out _ hB5).mono ?_
            rintro e w6 ⟨rfl, hb6⟩
            have hB6 := hB5.trans (hb6.mono hB5.size)
            clear hB3 hB4 hb1 hb2 hb3 hb4
            go_wp2
            go_ret
            exact ⟨by simp, hB6⟩
        · have hdb : (d != 0) = true := by simp [h0]
          replace h0 := Lib.hid h0
          replace hfit := Lib.hid hfit
          replace hd := Lib.hid hd
          clear hCk
          go_enter Try.func5, Try.ntmps5
          go_wp2_with fail
          refine (hkn.out _).mono ?_
          rintro e w1 ⟨rfl, hb1⟩
          go_wp2_with fail
          refine (hsm.out _ hb1).mono ?_
          rintro e w2 ⟨rfl, hb2⟩
          have hB2 := hb1.trans (hb2.mono hb1.size)
          go_wp2_with fail
          refine (hCk2.out _ hB2).mono ?_
          rintro e w3 ⟨rfl, hb3⟩
          have hB3 := hB2.trans (hb3.mono hB2.size)
          go_wp2_with fail
          refine (hkn.out _).mono ?_
          rintro e w9 ⟨rfl, hb9⟩
          go_wp2
          go_ret
          exact ⟨rfl, hB3.trans (hb9.mono hB3.size)⟩
end Go.Proofs.Ytoendfpfnfeccaa
