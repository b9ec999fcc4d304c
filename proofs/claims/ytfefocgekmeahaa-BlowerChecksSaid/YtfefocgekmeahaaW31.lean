/- The contract of Step. Conditions: lists of at most 2^62 elements. -/
import Derived.Test.YtfefocgekmeahaaW30
namespace Go.Proofs.Ytfefocgekmeahaa
open Go.RowKit Go.Shelf

/-- the error of a step -/
def spF (sup : Int) (ns : List Nd) (l d : List Int) : Int := if ckF sup ns ≠ 0 then ckF sup ns else if lvF ns l ≠ 0 then lvF ns l else deF ns d
theorem spF_ok {sup : Int} {ns : List Nd} {l d : List Int} (h : spF sup ns l d = 0) : ckF sup ns = 0 ∧ lvF ns l = 0 ∧ deF ns d = 0 := by
  unfold spF at h
  split at h
  · rename_i h1; exact absurd h h1
  · rename_i h1
    split at h
    · rename_i h2; exact absurd h h2
    · rename_i h2
      exact ⟨by simpa using h1, by simpa using h2, h⟩

/-- the end of Step with an error -/
theorem noSt_put {w X : World} {R : Nat} (hR : BoxC X R 44 #[.slice none 0 0, .slice none 0 0, .slice none 0 0]) (hw : w.heap.size ≤ R) (hB : Below w.heap.size w X) :
    let Z := ((X.setCell ⟨R, 0, none⟩ (.slice none 0 0)).setCell ⟨R, 1, none⟩ (.slice none 0 0)).setCell ⟨R, 2, none⟩ (.slice none 0 0)
    BoxC Z R 44 #[.slice none 0 0, .slice none 0 0, .slice none 0 0] ∧ StSl Z (.slice none 0 0) (.slice none 0 0) (.slice none 0 0) noSt ∧ Below w.heap.size w Z :=
  put_state (n := 0) hR hw hB (noSt_sl X) ⟨rfl, rfl, rfl⟩ (fun b hn => by omega) (fun b hn => by omega) (fun b hn => by omega)

set_option maxRecDepth 100000 in
set_option maxHeartbeats 4000000 in
theorem Step_any (sup : Int) (v : Value) (ns : List Nd) (u1 u2 u3 : Value) (l : List Int) (x : Value) (dm : List Int) (w : World) (hv : NdSl w v ns) (hu : NumSl .i64 w u1 l) (hx : NumSl .i64 w x dm) (hm : ns.length ≤ 9223372036854775807) (hm2 : dm.length ≤ 4611686018427387904)
    (hu2 : ∃ a n c, u2 = .slice a n c) (hu3 : ∃ a n c, u3 = .slice a n c) :
    Calls Try.prog 30 #[plV sup v, .agg #[u1, u2, u3], x] w (StRes w (spF sup ns l dm) (stOut (spF sup ns l dm) (stepF ns sup l dm))) := by
  obtain ⟨b2, n2, p2, rfl⟩ := hu2
  obtain ⟨b3, n3, p3, rfl⟩ := hu3
  have hB : Below w.heap.size w (((w.alloc (.cells #[.int .i64 sup, v] 24)).alloc (.cells #[u1, .slice b2 n2 p2, .slice b3 n3 p3] 44)).alloc (.cells #[.slice none 0 0, .slice none 0 0, .slice none 0 0] 44)) := (((Below.refl _ w).alloc (Nat.le_refl _) _).alloc (by simp) _).alloc (by simp; omega) _
  have bP := ((BoxC.new w 24 #[.int .i64 sup, v]).alloc (.cells #[u1, .slice b2 n2 p2, .slice b3 n3 p3] 44)).alloc (.cells #[.slice none 0 0, .slice none 0 0, .slice none 0 0] 44)
  have bS := (BoxC.new (w.alloc (.cells #[.int .i64 sup, v] 24)) 44 #[u1, .slice b2 n2 p2, .slice b3 n3 p3]).alloc (.cells #[.slice none 0 0, .slice none 0 0, .slice none 0 0] 44)
  have bR := BoxC.new ((w.alloc (.cells #[.int .i64 sup, v] 24)).alloc (.cells #[u1, .slice b2 n2 p2, .slice b3 n3 p3] 44)) 44 #[.slice none 0 0, .slice none 0 0, .slice none 0 0]
  simp only [World.size_alloc] at bS bR
  have hck := Check_any sup v ns _ (hv.mono hB) hm
  have hcd := fun W (hb : Below w.heap.size w W) => checkDemand_any sup v ns x dm W (hv.mono hb) (hx.mono hb) hm2
  have hsp := fun hp hl hd hs0 hs1 W (hb : Below w.heap.size w W) => step_any sup v ns u1 l x dm W (hv.mono hb) (hu.mono hb) (hx.mono hb) hp hl hd hs0 hs1
  obtain ⟨F, hF⟩ : ∃ F, spF sup ns l dm = F := ⟨_, rfl⟩
  rw [hF]
  unfold spF at hF
  have hpl := fun h => plOk_of (sup := sup) (ns := ns) h
  have hdl := dmOk_of (ns := ns) (d := dm)
  have hll := lvOk_of (ns := ns) (l := l)
  generalize ckF sup ns = d at hck hpl hF
  generalize deF ns dm = d2 at hcd hdl hF
  have hv0 := hv
  have hu0 := hu
  obtain ⟨av, cv, rfl⟩ := hv.len
  obtain ⟨au, cu, rfl⟩ := hu.len
  obtain ⟨ax, cx, rfl⟩ := hx.len
  clear hv hu hx
  replace hck := Lib.hid hck
  replace hcd := Lib.hid hcd
  replace hsp := Lib.hid hsp
  replace hdl := Lib.hid hdl
  replace hll := Lib.hid hll
  by_cases h0 : d = 0
  case neg =>
    obtain ⟨g1, g2⟩ := neq_of h0
    rw [if_pos h0] at hF
    subst hF
    rw [stOut_bad h0]
    clear hcd hsp hpl hdl hll
    go_enter Try.func30, Try.ntmps30
    go_wp2_with fail
    refine hck.out.mono ?_
    rintro e w1 ⟨rfl, hb1⟩
    have bR1 := bR.grown hb1
    have hB1 := hB.trans (hb1.mono hB.size)
    obtain ⟨q1, q2, q3⟩ := noSt_put bR1 (by omega) hB1
    have z0 := bR1.cell 0 rfl
    have z1 := bR1.cell 1 rfl
    have z2 := bR1.cell 2 rfl
    have y0 := bR1.frozen 0
    have y1 := bR1.frozen 1
    have y2 := bR1.frozen 2
    clear hck
    go_wp2
    have e0 := q1.cell 0 rfl
    have e1 := q1.cell 1 rfl
    have e2 := q1.cell 2 rfl
    exact bodyPost_ret (v := .tuple #[.agg #[.slice none 0 0, .slice none 0 0, .slice none 0 0], .int .i64 d]) (by simp [results, Try.results30, go_sem, e0, e1, e2]) rfl ⟨_, _, _, rfl, q2, q3⟩
  subst h0
  rw [if_neg (by simp)] at hF
  obtain ⟨⟨hs0, hs1⟩, hp⟩ := hpl rfl
  have hn30 := hp.len
  clear hpl
  go_enter Try.func30, Try.ntmps30
  go_wp2_with fail
  refine hck.out.mono ?_
  rintro e w1 ⟨rfl, hb1⟩
  replace bP := bP.grown hb1
  replace bS := bS.grown hb1
  replace bR := bR.grown hb1
  replace hB := hB.trans (hb1.mono hB.size)
  have s0 := bS.cell 0 rfl
  have c1 := bP.cell 1 rfl
  clear hck hb1
  by_cases hlen : l.length = ns.length
  case neg =>
    have h1' : ((l.length : Int) != (ns.length : Int)) = true := by simp; omega
    have hF5 : F = 5 := by rw [← hF]; unfold lvF; rw [if_pos hlen]; rfl
    clear hF
    subst hF5
    obtain ⟨q1, q2, q3⟩ := noSt_put bR (by omega) hB
    have z0 := bR.cell 0 rfl
    have z1 := bR.cell 1 rfl
    have z2 := bR.cell 2 rfl
    have y0 := bR.frozen 0
    have y1 := bR.frozen 1
    have y2 := bR.frozen 2
    clear hcd hsp hdl hll
    go_wp2
    have e0 := q1.cell 0 rfl
    have e1 := q1.cell 1 rfl
    have e2 := q1.cell 2 rfl
    exact bodyPost_ret (v := .tuple #[.agg #[.slice none 0 0, .slice none 0 0, .slice none 0 0], .int .i64 5]) (by simp [results, Try.results30, go_sem, e0, e1, e2]) rfl ⟨_, _, _, rfl, by rw [stOut_bad (by decide)]; exact q2, q3⟩
  have h1' : ((l.length : Int) != (ns.length : Int)) = false := by simp [hlen]
  have hli : (l.length : Int) ≤ ns.length ∧ (ns.length : Int) ≤ l.length := by omega
  obtain ⟨g1, g2⟩ := hli
  have hlf : lvF ns l = lvS ns l 0 := by unfold lvF; rw [if_neg (by simpa using hlen)]
  replace hll := hll.out
  rw [hlf] at hll hF
  replace hll := Lib.hid hll
  clear hlf
  replace hlen := Lib.hid hlen
  replace hF := Lib.hid hF
  go_wp2
  clear s0 c1
  go_loopw [29] (fun i W => ∃ k : Nat, k ≤ ns.length ∧ i = .int .i64 k ∧ Hid (lvS ns l k = lvS ns l 0) ∧ Below w1.heap.size w1 W) (fun i _ => ns.length - (intOf i).toNat)
  case atStart => exact ⟨0, Nat.zero_le _, rfl, Lib.hid rfl, Below.refl _ _⟩
  case round =>
    obtain ⟨k, hk, rfl, hFk, hY⟩ := hrel
    replace bP := bP.grown hY
    replace bS := bS.grown hY
    replace bR := bR.grown hY
    replace hB := hB.trans (hY.mono hB.size)
    by_cases hlt : k < ns.length
    · have hA := (Below.refl wr.heap.size wr).alloc (Nat.le_refl _) (.cells (ndC (nd ns k)) 42)
      obtain ⟨bu, ou, cpu, heu, hcu⟩ := (hu0.mono hB).atN hlen.out hlt
      obtain ⟨bv, ov, cpv, hev, hcv⟩ := (hv0.mono hB).at hlt
      have heu' := heu
      injection heu' with heu1 heu2 heu3
      cases heu1
      cases hev
      obtain ⟨n1, n2, n3, n4⟩ := hcv k hlt
      have cl := hcu k hlt
      clear hcu hcv
      have L1 := @lvS_bad ns l k hlt
      have L2 := @lvS_next ns l k hlt
      have hki : (k : Int) < (ns.length : Int) := by omega
      have hki2 : (k : Int) < (l.length : Int) := by omega
      have bN := BoxC.new wr 42 (ndC (nd ns k))
      replace cl := (hA.cell (p := ⟨bu, ou + k, none⟩) (lt_of_cell cl)).trans cl
      generalize nd ns k = y at n1 n2 n3 n4 L1 L2 hA bN cl
      obtain ⟨p, mm, c, l0⟩ := y
      simp only at n1 n2 n3 n4 L1 L2
      have s0 := (bS.grown hA).cell 0 rfl
      have m2 := bN.cell 2 rfl
      generalize nth l k = z at cl L1 L2
      by_cases hz : 0 ≤ z ∧ z ≤ c
      · replace L2 := Lib.hid (L2 hz)
        have d1 : decide (z < 0) = false := decide_eq_false (by omega)
        have d2 : decide (c < z) = false := decide_eq_false (by omega)
        clear L1
        go_wp2_with fail
        go_quiet (fail)
        go_wp2
        go_roundw
        case rel => exact ⟨k + 1, by omega, by go_num, Lib.hid (L2.out.symm.trans hFk.out), below_drewN (hY.trans (hA.mono hY.size)) _⟩
        case measure => simp [intOf]; omega
      · have hF3 : F = 3 := by rw [← hF.out, ← hFk.out, L1 hz]; rfl
        clear hF hll hFk L1 L2
        subst hF3
        have hBA := hB.trans (hA.mono hB.size)
        have bRA := bR.grown hA
        by_cases hz0 : z < 0
        · have d1 : decide (z < 0) = true := decide_eq_true hz0
          go_wp2_with fail
          go_quiet (fail)
          have hBq := below_drewN hBA nq
          have bRq : BoxC ((wr.alloc (.cells #[.int .i64 p, .int .i64 mm, .int .i64 c, .int .i64 l0] 42)).drewN nq) (w.heap.size + 1 + 1) 44 #[.slice none 0 0, .slice none 0 0, .slice none 0 0] := bRA
          obtain ⟨q1, q2, q3⟩ := noSt_put bRq (by omega) hBq
          have z0 := bRq.cell 0 rfl
          have z1 := bRq.cell 1 rfl
          have z2 := bRq.cell 2 rfl
          have y0 := bRq.frozen 0
          have y1 := bRq.frozen 1
          have y2 := bRq.frozen 2
          go_wp2
          have e0 := q1.cell 0 rfl
          have e1 := q1.cell 1 rfl
          have e2 := q1.cell 2 rfl
          exact bodyPost_ret (v := .tuple #[.agg #[.slice none 0 0, .slice none 0 0, .slice none 0 0], .int .i64 3]) (by simp [results, Try.results30, go_sem, e0, e1, e2]) rfl ⟨_, _, _, rfl, by rw [stOut_bad (by decide)]; exact q2, q3⟩
        · have d1 : decide (z < 0) = false := decide_eq_false hz0
          have d2 : decide (c < z) = true := decide_eq_true (by omega)
          go_wp2_with fail
          go_quiet (fail)
          have hBq := below_drewN hBA nq
          have bRq : BoxC ((wr.alloc (.cells #[.int .i64 p, .int .i64 mm, .int .i64 c, .int .i64 l0] 42)).drewN nq) (w.heap.size + 1 + 1) 44 #[.slice none 0 0, .slice none 0 0, .slice none 0 0] := bRA
          obtain ⟨q1, q2, q3⟩ := noSt_put bRq (by omega) hBq
          have z0 := bRq.cell 0 rfl
          have z1 := bRq.cell 1 rfl
          have z2 := bRq.cell 2 rfl
          have y0 := bRq.frozen 0
          have y1 := bRq.frozen 1
          have y2 := bRq.frozen 2
          go_wp2
          have e0 := q1.cell 0 rfl
          have e1 := q1.cell 1 rfl
          have e2 := q1.cell 2 rfl
          exact bodyPost_ret (v := .tuple #[.agg #[.slice none 0 0, .slice none 0 0, .slice none 0 0], .int .i64 3]) (by simp [results, Try.results30, go_sem, e0, e1, e2]) rfl ⟨_, _, _, rfl, by rw [stOut_bad (by decide)]; exact q2, q3⟩
    · obtain rfl : k = ns.length := by omega
      have hen := lvS_end (ns := ns) (l := l) (Nat.le_refl _)
      rw [hFk.out] at hen
      have hF2 := hF.out
      rw [hen, if_neg (by simp)] at hF2
      have hlv := hll.out hen
      have c0 := bP.cell 0 rfl
      have c1 := bP.cell 1 rfl
      have hcd1 := hcd.out wr hB
      clear hF hll hFk hen hcd
      by_cases h0 : d2 = 0
      case neg =>
        obtain ⟨g3, g4⟩ := neq_of h0
        subst hF2
        replace hcd1 := Lib.hid hcd1
        go_wp2_with fail
        refine hcd1.out.mono ?_
        rintro e w2 ⟨rfl, hb2⟩
        have hBq := hB.trans (hb2.mono hB.size)
        have bRq := bR.grown hb2
        clear c0 c1 hcd1
        obtain ⟨q1, q2, q3⟩ := noSt_put bRq (by omega) hBq
        have z0 := bRq.cell 0 rfl
        have z1 := bRq.cell 1 rfl
        have z2 := bRq.cell 2 rfl
        have y0 := bRq.frozen 0
        have y1 := bRq.frozen 1
        have y2 := bRq.frozen 2
        go_wp2
        have e0 := q1.cell 0 rfl
        have e1 := q1.cell 1 rfl
        have e2 := q1.cell 2 rfl
        exact bodyPost_ret (v := .tuple #[.agg #[.slice none 0 0, .slice none 0 0, .slice none 0 0], .int .i64 d2]) (by simp [results, Try.results30, go_sem, e0, e1, e2]) rfl ⟨_, _, _, rfl, by rw [stOut_bad h0]; exact q2, q3⟩
      subst h0
      subst hF2
      have hd := hdl.out rfl
      have hsp1 := fun W hb => hsp.out hp hlv hd hs0 hs1 W hb
      have hok := stepOk (sup := sup) hp hlv hd hs0
      replace hsp1 := Lib.hid hsp1
      replace hcd1 := Lib.hid hcd1
      clear hsp hdl
      go_wp2_with fail
      refine hcd1.out.mono ?_
      rintro e w2 ⟨rfl, hb2⟩
      replace hB := hB.trans (hb2.mono hB.size)
      replace bP := bP.grown hb2
      replace bS := bS.grown hb2
      replace bR := bR.grown hb2
      replace c0 := bP.cell 0 rfl
      replace c1 := bP.cell 1 rfl
      have s0 := bS.cell 0 rfl
      have hs1 := hsp1.out w2 hB
      have hlens : (stepF ns sup l dm).lv.length = ns.length ∧ (stepF ns sup l dm).tk.length = ns.length ∧ (stepF ns sup l dm).lk.length = ns.length := ⟨hok.l1, hok.l2, hok.l3⟩
      have hRl := bR.lt
      generalize hS : stepF ns sup l dm = S at hs1 hlens
      replace hS := Lib.hid hS
      replace hs1 := Lib.hid hs1
      clear hcd1 hsp1 hok hb2
      go_wp2_with fail
      refine hs1.out.mono ?_
      rintro e w3 ⟨v1, v2, v3, rfl, n1, n2, n3, o1, o2, o3, hb3⟩
      replace bR := bR.grown hb3
      replace hB := hB.trans (hb3.mono hB.size)
      obtain ⟨q1, q2, q3⟩ := put_state (n := ns.length) bR (by omega) hB ⟨n1, n2, n3⟩ hlens (fun b hn hb => by have := o1 b hn hb; omega) (fun b hn hb => by have := o2 b hn hb; omega) (fun b hn hb => by have := o3 b hn hb; omega)
      have z0 := bR.cell 0 rfl
      have z1 := bR.cell 1 rfl
      have z2 := bR.cell 2 rfl
      have y0 := bR.frozen 0
      have y1 := bR.frozen 1
      have y2 := bR.frozen 2
      obtain ⟨a1, p1, rfl⟩ := n1.len
      obtain ⟨a2, p2', rfl⟩ := n2.len
      obtain ⟨a3, p3', rfl⟩ := n3.len
      replace hlens := Lib.hid hlens
      clear hs1 c0 c1 s0 o1 o2 o3
      go_wp2
      have e0 := q1.cell 0 rfl
      have e1 := q1.cell 1 rfl
      have e2 := q1.cell 2 rfl
      exact bodyPost_ret (v := .tuple #[.agg #[.slice a1 S.lv.length p1, .slice a2 S.tk.length p2', .slice a3 S.lk.length p3'], .int .i64 0]) (by simp [results, Try.results30, go_sem, e0, e1, e2]) rfl ⟨_, _, _, rfl, by rw [stOut_ok, hS.out]; exact q2, q3⟩
end Go.Proofs.Ytfefocgekmeahaa
