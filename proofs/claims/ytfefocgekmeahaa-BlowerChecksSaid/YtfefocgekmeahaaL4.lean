/- The walk of BlowerBalances. Conditions: lists that fit. -/
import Derived.Test.YtfefocgekmeahaaW25
import Derived.Test.YtfefocgekmeahaaP6
namespace Go.Proofs.Ytfefocgekmeahaa
open Go.RowKit Go.Shelf

theorem ckF_sup {sup sup' : Int} {ns : List Nd} (h : ckF sup ns = 0) (h0 : 0 ≤ sup') (h1 : sup' ≤ 1000000000) : ckF sup' ns = 0 := by
  unfold ckF at h ⊢
  rw [if_neg (by omega)]
  split at h
  · cases h
  · exact h
theorem caF_of {sup : Int} {ns : List Nd} {dss : List (List Int)} (h : ckF sup ns = 0) (h1 : dss.length ≤ 8) : caF sup ns dss = caS ns dss 0 := by
  unfold caF
  rw [if_neg (by simp [h]), if_neg (by omega)]
theorem dssFit_of {ns : List Nd} {dss : List (List Int)} (h1 : ns.length ≤ 32) (h2 : dss.length ≤ 8) (h3 : ∀ i, (nths dss i).length ≤ 32) : DssFit ns dss := ⟨by omega, by omega, fun k => by have := h3 k; omega⟩
theorem sumN_bd {f : Nat → Int} (h : ∀ k, 0 ≤ f k ∧ f k ≤ 1000000000) : ∀ n : Nat, 0 ≤ sumN f n ∧ sumN f n ≤ n * 1000000000
  | 0 => by simp [sumN]
  | n + 1 => by have := sumN_bd h n; have := h n; simp only [sumN]; omega
theorem LvOk.all {ns : List Nd} {lv : List Int} (hp : PlOk ns) (h : LvOk ns lv) (k : Nat) : 0 ≤ nth lv k ∧ nth lv k ≤ 1000000000 := by
  rcases Nat.lt_or_ge k ns.length with h1 | h1
  · have := h.r k h1; have := hp.c k h1; omega
  · rw [nth_over (by rw [h.len]; exact h1)]; omega

theorem sum_n {u : Value} {xs : List Int} {w : World} {n : Nat} (hu : NumSl .i64 w u xs) (hl : xs.length = n) (hn : n ≤ 30) (hb : ∀ k, 0 ≤ nth xs k ∧ nth xs k ≤ 1000000000) (q : Nat) :
    Calls Try.prog 20 #[u] (w.drewN q) fun e w' => e = .returned (.int .i64 (sumN (nth xs) n)) ∧ w.drewN q = w' := by
  subst hl
  exact sum_any u xs _ (hu.mono (below_drewN (Below.refl _ _) q)) (by omega) (fun k => by have := hb k; omega)
theorem NumSl.lenV {K : IntKind} {w : World} {v : Value} {xs : List Int} {n : Nat} (h : NumSl K w v xs) (hl : xs.length = n) : ∃ a cap, v = .slice a n cap := by subst hl; exact h.len

/-- two states of a run, beside each other -/
structure TwoSt (ns : List Nd) (sup : Int) (d l0 : List Int) (A B : St) : Prop where
  a1 : A.lv.length = ns.length
  a2 : A.tk.length = ns.length
  a3 : A.lk.length = ns.length
  b1 : B.lv.length = ns.length
  b3 : B.lk.length = ns.length
  node : ∀ j, j < ns.length → nth B.lk j ≤ nth A.lk j ∧ nth A.lv j ≤ nth B.lv j ∧ nth A.lv j ≤ (nd ns j).c
  le : givenF ns A.tk ns.length ≤ sup
  eq : givenF ns A.tk ns.length = sumN (nth A.lv) ns.length - sumN (nth l0) ns.length + sumN (nth d) ns.length - sumN (nth A.lk) ns.length
  lv : ∀ k, 0 ≤ nth A.lv k ∧ nth A.lv k ≤ 1000000000
  tk : ∀ k, 0 ≤ nth A.tk k ∧ nth A.tk k ≤ 1000000000
  lk : ∀ k, 0 ≤ nth A.lk k ∧ nth A.lk k ≤ 1000000000
  lb : ∀ k, 0 ≤ nth l0 k ∧ nth l0 k ≤ 1000000000
  ll : l0.length = ns.length
  db : ∀ k, 0 ≤ nth d k ∧ nth d k ≤ 1000000000
  dl : d.length = ns.length
theorem twoSt {ns : List Nd} {sup sup' : Int} {dss : List (List Int)} {i : Nat} (hp : PlOk ns) (hs : 0 ≤ sup) (hss : sup ≤ sup') (hd : DssOk ns dss) (hi : i < dss.length) :
    TwoSt ns sup (nths dss i) (runT ns sup dss i).lv (runT ns sup dss (i + 1)) (runT ns sup' dss (i + 1)) := by
  have h1 := runT_ok hp hs hd hi
  have h2 := runT_ok hp (sup := sup') (by omega) hd hi
  have l1 := runT_lv hp hs hd i (by omega)
  have l2 := runT_lv hp hs hd (i + 1) (by omega)
  have hdi := hd i hi
  obtain ⟨g1, g2⟩ := run_given hp hs hd hi
  refine ⟨h1.l1, h1.l2, h1.l3, h2.l1, h2.l3, fun j hj => run_node hp hs hss hd hi hj, g1, g2, fun k => LvOk.all hp l2 k, fun k => ?_, fun k => ?_, fun k => LvOk.all hp l1 k, l1.len, hdi.all, hdi.len⟩
  · have := h1.tk_bd hp l1 hdi k
    have := wF_bd hp l1 hdi k
    omega
  · have := h1.lk_bd hp l1 hdi k
    have := hdi.all k
    omega
theorem givenF_succ {ns : List Nd} {tk : List Int} {j : Nat} : givenF ns tk (j + 1) = givenF ns tk j + if (nd ns j).p < 0 then nth tk j else 0 := rfl
theorem givenF_bd {ns : List Nd} {tk : List Int} (h : ∀ k, 0 ≤ nth tk k ∧ nth tk k ≤ 1000000000) (j : Nat) : 0 ≤ givenF ns tk j ∧ givenF ns tk j ≤ j * 1000000000 :=
  sumN_bd (fun k => by have := h k; split <;> omega) j

set_option maxRecDepth 100000 in
set_option maxHeartbeats 8000000 in
theorem law4_any (sup : Int) (v : Value) (ns : List Nd) (u : Value) (dss : List (List Int)) (m : Int) (w : World) (hv : NdSl w v ns) (hu : SlSl w u dss) (hm : ns.length ≤ 9223372036854775807) (hm2 : dss.length ≤ 9223372036854775807) :
    Calls Try.prog 4 #[plV sup v, u, .int .i64 m] w fun e w' => e = .returned (.bool true) ∧ Below w.heap.size w w' := by
  have hB := (Below.refl w.heap.size w).alloc (Nat.le_refl _) (.cells #[.int .i64 sup, v] 24)
  have bP := BoxC.new w 24 #[.int .i64 sup, v]
  have hv1 := hv.mono hB
  have hu1 := hu.mono hB
  have hsm := fun W (h : NdSl W v ns) (h2 : SlSl W u dss) => small_any sup v ns u dss W h h2 hm2
  have hck := fun W (h : NdSl W v ns) => lcheck_any sup v ns W h (by omega)
  have hrf := fun hf W (h : NdSl W v ns) (h2 : SlSl W u dss) => refused_any sup v ns u dss W h h2 hf
  have hfit := fun h1 h2 h3 => dssFit_of (ns := ns) (dss := dss) h1 h2 h3
  have hrun := fun s hf W (h : NdSl W v ns) (h2 : SlSl W u dss) => Run_any s v ns u dss W h h2 hf
  have hok := smS_ok (ns := ns) (dss := dss)
  obtain ⟨d, hd⟩ : ∃ d, ckF sup ns = d := ⟨_, rfl⟩
  obtain ⟨r, hr⟩ : ∃ r, caS ns dss 0 = r := ⟨_, rfl⟩
  rw [hd] at hck
  rw [hr] at hrf
  obtain ⟨av, cv, rfl⟩ := hv.len
  obtain ⟨au, cu, rfl⟩ := hu.len
  clear hv hu
  generalize smS ns dss 0 = sm at hsm hok
  replace hd := Lib.hid hd
  replace hr := Lib.hid hr
  replace hsm := Lib.hid hsm
  replace hck := Lib.hid hck
  replace hrf := Lib.hid hrf
  replace hrun := Lib.hid hrun
  replace hok := Lib.hid hok
  go_enter Try.func4, Try.ntmps4
  go_wp2_with fail
  refine (known_any _).mono ?_
  rintro e w1 ⟨rfl, hb1⟩
  replace bP := bP.grown hb1
  have c0 := bP.cell 0 rfl
  have c1 := bP.cell 1 rfl
  replace hB := hB.trans (hb1.mono hB.size)
  replace hv1 := hv1.mono hb1
  replace hu1 := hu1.mono hb1
  have hsm1 := Lib.hid (hsm.out w1 hv1 hu1)
  clear hsm hb1
  go_wp2_with fail
  refine hsm1.out.mono ?_
  rintro e w2 ⟨rfl, hb2⟩
  replace bP := bP.grown hb2
  replace c0 := bP.cell 0 rfl
  replace c1 := bP.cell 1 rfl
  replace hB := hB.trans (hb2.mono hB.size)
  replace hv1 := hv1.mono hb2
  replace hu1 := hu1.mono hb2
  clear hsm1 hb2
  cases sm
  · clear hck hrf hfit hrun hok hd hr hv1 hu1
    go_wp2_with fail
    refine (known_any _).mono ?_
    rintro e w3 ⟨rfl, hb3⟩
    go_wp2
    go_ret
    exact ⟨rfl, hB.trans (hb3.mono hB.size)⟩
  obtain ⟨hn32, hd8, hlen⟩ := hok.out rfl
  replace hfit := hfit hn32 hd8 hlen
  have hck1 := Lib.hid (hck.out w2 hv1)
  clear hok hck hlen
  go_wp2_with fail
  refine hck1.out.mono ?_
  rintro e w3 ⟨rfl, hb3⟩
  replace bP := bP.grown hb3
  replace c0 := bP.cell 0 rfl
  replace c1 := bP.cell 1 rfl
  replace hB := hB.trans (hb3.mono hB.size)
  replace hv1 := hv1.mono hb3
  replace hu1 := hu1.mono hb3
  clear hck1 hb3
  by_cases h0 : d = 0
  case neg =>
    obtain ⟨g1, g2⟩ := neq_of h0
    clear hrf hrun hd hr hv1 hu1 h0
    go_wp2_with fail
    refine (known_any _).mono ?_
    rintro e w4 ⟨rfl, hb4⟩
    go_wp2
    go_ret
    exact ⟨rfl, hB.trans (hb4.mono hB.size)⟩
  subst h0
  obtain ⟨⟨hs0, hs1⟩, hp⟩ := plOk_of hd.out
  have hrf1 := Lib.hid (hrf.out hfit w3 hv1 hu1)
  clear hrf
  go_wp2_with fail
  refine hrf1.out.mono ?_
  rintro e w4 ⟨rfl, hb4⟩
  replace bP := bP.grown hb4
  replace c0 := bP.cell 0 rfl
  replace c1 := bP.cell 1 rfl
  replace hB := hB.trans (hb4.mono hB.size)
  replace hv1 := hv1.mono hb4
  replace hu1 := hu1.mono hb4
  clear hrf1 hb4
  by_cases h0 : r = 0
  case neg =>
    obtain ⟨g1, g2⟩ := neq_of h0
    clear hrun hd hr hv1 hu1 h0
    go_wp2_with fail
    refine (known_any _).mono ?_
    rintro e w5 ⟨rfl, hb5⟩
    go_wp2
    go_ret
    exact ⟨rfl, hB.trans (hb5.mono hB.size)⟩
  subst h0
  by_cases hmo : m < 0
  · clear hrun hd hr hv1 hu1
    go_wp2_with fail
    refine (known_any _).mono ?_
    rintro e w5 ⟨rfl, hb5⟩
    go_wp2
    go_ret
    exact ⟨rfl, hB.trans (hb5.mono hB.size)⟩
  by_cases hmx : 1000000000 - sup < m
  · clear hrun hd hr hv1 hu1
    go_wp2_with fail
    refine (known_any _).mono ?_
    rintro e w5 ⟨rfl, hb5⟩
    go_wp2
    go_ret
    exact ⟨rfl, hB.trans (hb5.mono hB.size)⟩
  have hmo1 : decide (m < 0) = false := decide_eq_false hmo
  have hmx1 : decide (1000000000 - sup < m) = false := decide_eq_false hmx
  have hr1 := hrun.out sup hfit w4 hv1 hu1
  have hr2 := hrun.out (sup + m) hfit
  unfold RunPost at hr1 hr2
  rw [caF_of hd.out hd8, hr.out] at hr1
  rw [caF_of (ckF_sup hd.out (by omega) (by omega)) hd8, hr.out] at hr2
  have hds := dssOk_of hr.out
  replace hr1 := Lib.hid hr1
  replace hr2 := Lib.hid hr2
  clear hrun hd hr
  go_wp2_with fail
  refine hr1.out.mono ?_
  rintro e w5 ⟨s, rfl, hb5, hsS, -⟩
  replace hsS := hsS (by simp)
  replace bP := bP.grown hb5
  replace c0 := bP.cell 0 rfl
  replace c1 := bP.cell 1 rfl
  replace hB := hB.trans (hb5.mono hB.size)
  replace hv1 := hv1.mono hb5
  replace hu1 := hu1.mono hb5
  clear hr1 hb5
  obtain ⟨asl, csl, rfl⟩ := hsS.len
  have qb := (Below.refl w5.heap.size w5).alloc (Nat.le_refl _) (.cells #[.int .i64 (sup + m), .slice av ns.length cv] 24)
  have hr3 := Lib.hid (hr2.out _ (hv1.mono qb) (hu1.mono qb))
  have htw := fun i (hi : i < dss.length) => twoSt hp hs0 (show sup ≤ sup + m by omega) hds hi
  have hn30 := hp.len
  replace htw := Lib.hid htw
  clear hr2 hds
  go_wp2_with fail
  refine hr3.out.mono ?_
  rintro e w6 ⟨t, rfl, hb6, htS, -⟩
  replace htS := htS (by simp)
  have hb56 := qb.trans (hb6.mono qb.size)
  replace bP := bP.grown hb56
  replace hB := hB.trans (hb56.mono hB.size)
  replace hv1 := hv1.mono hb56
  replace hu1 := hu1.mono hb56
  replace hsS := hsS.mono hb56
  clear hr3 hb6 hb56 qb c0 c1
  obtain ⟨atl, ctl, rfl⟩ := htS.len
  have c0 := bP.cell 0 rfl
  have c1 := bP.cell 1 rfl
  have hst := startM_any sup _ ns w6 hv1 (by omega)
  replace hst := Lib.hid hst
  go_wp2_with fail
  refine hst.out.mono ?_
  rintro e w7 ⟨y, rfl, hy, hb7⟩
  replace bP := bP.grown hb7
  replace hB := hB.trans (hb7.mono hB.size)
  replace hv1 := hv1.mono hb7
  replace hu1 := hu1.mono hb7
  replace hsS := hsS.mono hb7
  replace htS := htS.mono hb7
  clear hst hb7 c0 c1
  go_wp2
  go_loopw [12, 13] (fun bf q W => ∃ k : Nat, k ≤ dss.length ∧ q = .int .i64 k ∧ NumSl .i64 W bf (runT ns sup dss k).lv ∧ Below w7.heap.size w7 W) (fun _ q _ => dss.length - (intOf q).toNat)
  case atStart => exact ⟨0, Nat.zero_le _, rfl, hy, Below.refl _ _⟩
  case round =>
    clear hy
    obtain ⟨k, hk, rfl, hbf, hY⟩ := hrel
    replace bP := bP.grown hY
    replace hB := hB.trans (hY.mono hB.size)
    replace hv1 := hv1.mono hY
    replace hu1 := hu1.mono hY
    replace hsS := hsS.mono hY
    replace htS := htS.mono hY
    by_cases hlt : k < dss.length
    · have T := htw.out k hlt
      have hkd : (k : Int) < (dss.length : Int) := by omega
      obtain ⟨bs, os, cps, hes, hbs, hcs⟩ := hsS.at hlt
      obtain ⟨bt, ot, cpt, het, hbt, hct⟩ := htS.at hlt
      obtain ⟨bu, ou, cpu, heu, hbu, hcu⟩ := hu1.at hlt
      cases hes
      cases het
      cases heu
      obtain ⟨s1, s2, s3, cs1, cs2, cs3, hS⟩ := hcs k hlt
      obtain ⟨t1, t2, t3, ct1, ct2, ct3, hT⟩ := hct k hlt
      obtain ⟨x, cxu, hx⟩ := hcu k hlt
      clear hcs hct hcu
      generalize hA : runT ns sup dss (k + 1) = A at T hS
      replace hA := Lib.hid hA
      generalize runT ns (sup + m) dss (k + 1) = B at T hT
      generalize (runT ns sup dss k).lv = l0 at T hbf
      generalize nths dss k = d at T hx
      obtain ⟨a1, p1, rfl⟩ := hS.lv.lenV T.a1
      obtain ⟨a2, p2, rfl⟩ := hS.tk.lenV T.a2
      obtain ⟨a3, p3, rfl⟩ := hS.lk.lenV T.a3
      obtain ⟨b1, r1, rfl⟩ := hT.lv.lenV T.b1
      obtain ⟨b3, r3, rfl⟩ := hT.lk.lenV T.b3
      replace T := Lib.hid T
      obtain ⟨wo, rfl⟩ : ∃ wo : World, wo = wr := ⟨_, rfl⟩
      go_wp2
      go_loopw [14, 15] (fun g q W => ∃ j : Nat, j ≤ ns.length ∧ q = .int .i64 j ∧ g = .int .i64 (givenF ns A.tk j) ∧ Below wo.heap.size wo W) (fun _ q _ => ns.length - (intOf q).toNat)
      case atStart => exact ⟨0, Nat.zero_le _, rfl, rfl, Below.refl _ _⟩
      case round =>
        obtain ⟨j, hj, rfl, rfl, hZ⟩ := hrel
        have bQ := bP.grown hZ
        have q0 := bQ.cell 0 rfl
        have q1 := bQ.cell 1 rfl
        have ds1 := (hZ.cell (p := ⟨bs, os + k * 3, none⟩) hbs).trans cs1
        have ds2 := (hZ.cell (p := ⟨bs, os + k * 3 + 1, none⟩) hbs).trans cs2
        have ds3 := (hZ.cell (p := ⟨bs, os + k * 3 + 2, none⟩) hbs).trans cs3
        have dt1 := (hZ.cell (p := ⟨bt, ot + k * 3, none⟩) hbt).trans ct1
        have dt3 := (hZ.cell (p := ⟨bt, ot + k * 3 + 2, none⟩) hbt).trans ct3
        have hSq := hS.mono hZ
        have hTq := hT.mono hZ
        have hgb := givenF_bd (ns := ns) T.out.tk j
        by_cases hlj : j < ns.length
        · have hji : (j : Int) < (ns.length : Int) := by omega
          obtain ⟨bv, ov, cpv, hev, hcv⟩ := (hv1.mono hZ).at hlj
          cases hev
          obtain ⟨n1, -, n3, -⟩ := hcv j hlj
          obtain ⟨e1, o1, x1, y1, z1⟩ := hSq.lv.atN T.out.a1 hlj
          obtain ⟨e2, o2, x2, y2, z2⟩ := hSq.tk.atN T.out.a2 hlj
          obtain ⟨e3, o3, x3, y3, z3⟩ := hSq.lk.atN T.out.a3 hlj
          obtain ⟨e4, o4, x4, y4, z4⟩ := hTq.lv.atN T.out.b1 hlj
          obtain ⟨e5, o5, x5, y5, z5⟩ := hTq.lk.atN T.out.b3 hlj
          cases y1
          cases y2
          cases y3
          cases y4
          cases y5
          replace z1 := z1 j hlj
          replace z2 := z2 j hlj
          replace z3 := z3 j hlj
          replace z4 := z4 j hlj
          replace z5 := z5 j hlj
          obtain ⟨m1, m2, m3⟩ := T.out.node j hlj
          have m4 := T.out.tk j
          have hsu := givenF_succ (ns := ns) (tk := A.tk) (j := j)
          clear hcv hSq hTq
          generalize nd ns j = nj at n1 n3 m3 hsu
          obtain ⟨p, mm, c, l⟩ := nj
          simp only at n1 n3 m3 hsu
          generalize nth A.lv j = v1 at z1 m2 m3
          generalize nth A.tk j = v2 at z2 m4 hsu
          generalize nth A.lk j = v3 at z3 m1
          generalize nth B.lv j = v4 at z4 m2
          generalize nth B.lk j = v5 at z5 m1
          generalize givenF ns A.tk j = G at hsu hgb ⊢
          have g1 : ¬ v3 < v5 := by omega
          have g2 : ¬ v4 < v1 := by omega
          have g3 : ¬ c < v1 := by omega
          have g4 : decide (v3 < v5) = false := decide_eq_false g1
          have g5 : decide (v4 < v1) = false := decide_eq_false g2
          have g6 : decide (c < v1) = false := decide_eq_false g3
          by_cases hp0 : p < 0
          · rw [if_pos hp0] at hsu
            replace hsu := Lib.hid hsu
            go_wp2_with fail
            go_quiet (fail)
            go_wp2
            go_roundw
            case rel => exact ⟨j + 1, by omega, by go_num, by rw [hsu.out], below_drewN hZ _⟩
            case measure => simp [intOf]; omega
          · rw [if_neg hp0] at hsu
            replace hsu := Lib.hid hsu
            go_wp2_with fail
            go_quiet (fail)
            go_wp2
            go_roundw
            case rel => exact ⟨j + 1, by omega, by go_num, by rw [hsu.out]; go_num, below_drewN hZ _⟩
            case measure => simp [intOf]; omega
        · obtain rfl : j = ns.length := by omega
          have hle := T.out.le
          have heq := T.out.eq
          have k1 := fun q => sum_n hSq.lv T.out.a1 hn30 T.out.lv q
          have k2 := fun q => sum_n (hbf.mono hZ) T.out.ll hn30 T.out.lb q
          have k3 := fun q => sum_n (hx.mono hZ) T.out.dl hn30 T.out.db q
          have k4 := fun q => sum_n hSq.lk T.out.a3 hn30 T.out.lk q
          have u1 := sumN_bd T.out.lv ns.length
          have u2 := sumN_bd T.out.lb ns.length
          have u3 := sumN_bd T.out.db ns.length
          have u4 := sumN_bd T.out.lk ns.length
          have dx := (hZ.cell (p := ⟨bu, ou + k, none⟩) hbu).trans cxu
          have hvl := hSq.lv
          obtain ⟨af, cf, rfl⟩ := hbf.lenV T.out.ll
          generalize givenF ns A.tk ns.length = G at hle heq hgb ⊢
          generalize sumN (nth A.lv) ns.length = S1 at heq k1 u1
          generalize sumN (nth l0) ns.length = S2 at heq k2 u2
          generalize sumN (nth d) ns.length = S3 at heq k3 u3
          generalize sumN (nth A.lk) ns.length = S4 at heq k4 u4
          have w1 : IntKind.i64.wrap (S1 - S2) = S1 - S2 := IntWalk.i64_in _ (by omega)
          have w2 : IntKind.i64.wrap (S1 - S2 + S3) = S1 - S2 + S3 := IntWalk.i64_in _ (by omega)
          have w3 : IntKind.i64.wrap (S1 - S2 + S3 - S4) = S1 - S2 + S3 - S4 := IntWalk.i64_in _ (by omega)
          subst heq
          have g1 : ¬ sup < S1 - S2 + S3 - S4 := by omega
          have g2 : decide (sup < S1 - S2 + S3 - S4) = false := decide_eq_false g1
          have g3 : (S1 - S2 + S3 - S4 != S1 - S2 + S3 - S4) = false := by simp
          replace k1 := Lib.hid k1
          replace k2 := Lib.hid k2
          replace k3 := Lib.hid k3
          replace k4 := Lib.hid k4
          go_wp2_with fail
          go_quiet ((go_at_call 20; first | with_reducible exact quiet_left (k1.out _) | with_reducible exact quiet_left (k2.out _) | with_reducible exact quiet_left (k3.out _) | with_reducible exact quiet_left (k4.out _)))
          go_wp2
          go_roundw
          case rel => exact ⟨k + 1, by omega, by go_num, by rw [hA.out]; exact hvl.mono (below_drewN (Below.refl _ _) _), below_drewN (hY.trans (hZ.mono hY.size)) _⟩
          case measure => simp [intOf]; omega
    · obtain rfl : k = dss.length := by omega
      go_wp2
      go_ret
      exact ⟨rfl, hB⟩
end Go.Proofs.Ytfefocgekmeahaa
