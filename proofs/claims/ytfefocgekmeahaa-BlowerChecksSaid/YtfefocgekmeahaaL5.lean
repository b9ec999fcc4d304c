/- The walk of BlowerRuns. Conditions: lists that fit. -/
import Derived.Test.YtfefocgekmeahaaL3
namespace Go.Proofs.Ytfefocgekmeahaa
open Go.RowKit Go.Shelf

theorem sameL_refl (xs : List Int) : sameL xs xs = true := by
  unfold sameL
  simp
theorem sameS_refl (s : St) : sameS s s = true := by simp [sameS, sameL_refl]

set_option maxRecDepth 100000 in
set_option maxHeartbeats 8000000 in
theorem law5_any (sup : Int) (v : Value) (ns : List Nd) (u : Value) (dss : List (List Int)) (w : World) (hv : NdSl w v ns) (hu : SlSl w u dss) (hm : ns.length ≤ 9223372036854775807) (hm2 : dss.length ≤ 9223372036854775807) :
    Calls Try.prog 5 #[plV sup v, u] w fun e w' => e = .returned (.bool true) ∧ Below w.heap.size w w' := by
  have hB := (Below.refl w.heap.size w).alloc (Nat.le_refl _) (.cells #[.int .i64 sup, v] 24)
  have bP := BoxC.new w 24 #[.int .i64 sup, v]
  have hv1 := hv.mono hB
  have hu1 := hu.mono hB
  have hsm := fun W (h : NdSl W v ns) (h2 : SlSl W u dss) => small_any sup v ns u dss W h h2 hm2
  have hck := fun W (h : NdSl W v ns) => lcheck_any sup v ns W h (by omega)
  have hrf := fun hf W (h : NdSl W v ns) (h2 : SlSl W u dss) => refused_any sup v ns u dss W h h2 hf
  have hfit := fun h1 h2 h3 => dssFit_of (ns := ns) (dss := dss) h1 h2 h3
  have hrn := fun hf W (h : NdSl W v ns) (h2 : SlSl W u dss) => Run_any sup v ns u dss W h h2 hf
  have hfi := fun hf W (h : NdSl W v ns) (h2 : SlSl W u dss) => First_any sup v ns u dss W h h2 hf
  have hok := smS_ok (ns := ns) (dss := dss)
  obtain ⟨d, hd⟩ : ∃ d, ckF sup ns = d := ⟨_, rfl⟩
  obtain ⟨r, hr⟩ : ∃ r, caS ns dss 0 = r := ⟨_, rfl⟩
  rw [hd] at hck
  rw [hr] at hrf
  obtain ⟨av, cv, rfl⟩ := hv.len
  obtain ⟨au, cu, rfl⟩ := hu.len
  have hv0 := hv
  have hu0 := hu
  clear hv hu
  generalize smS ns dss 0 = sm at hsm hok
  replace hd := Lib.hid hd
  replace hr := Lib.hid hr
  replace hsm := Lib.hid hsm
  replace hck := Lib.hid hck
  replace hrf := Lib.hid hrf
  replace hrn := Lib.hid hrn
  replace hfi := Lib.hid hfi
  replace hok := Lib.hid hok
  go_enter Try.func5, Try.ntmps5
  go_wp2_with fail
  refine (known_any _).mono ?_
  rintro e w1 ⟨rfl, hb1⟩
  replace bP := bP.grown hb1
  have c0 := bP.cell 0 rfl
  have c1 := bP.cell 1 rfl
  replace hB := hB.trans (hb1.mono hB.size)
  replace hv1 := hv1.mono hb1
  replace hu1 := hu1.mono hb1
  have hsm1 := Lib.hid (hsm.out w1 hv1 hu1)
  clear hsm hb1
  go_wp2_with fail
  refine hsm1.out.mono ?_
  rintro e w2 ⟨rfl, hb2⟩
  replace bP := bP.grown hb2
  replace c0 := bP.cell 0 rfl
  replace c1 := bP.cell 1 rfl
  replace hB := hB.trans (hb2.mono hB.size)
  replace hv1 := hv1.mono hb2
  replace hu1 := hu1.mono hb2
  clear hsm1 hb2
  cases sm
  · clear hck hrf hfit hrn hfi hok hd hr hv1 hu1
    go_wp2_with fail
    refine (known_any _).mono ?_
    rintro e w3 ⟨rfl, hb3⟩
    go_wp2
    go_ret
    exact ⟨rfl, hB.trans (hb3.mono hB.size)⟩
  obtain ⟨hn32, hd8, hlen⟩ := hok.out rfl
  replace hfit := hfit hn32 hd8 hlen
  have hck1 := Lib.hid (hck.out w2 hv1)
  clear hok hck hlen
  go_wp2_with fail
  refine hck1.out.mono ?_
  rintro e w3 ⟨rfl, hb3⟩
  replace bP := bP.grown hb3
  replace c0 := bP.cell 0 rfl
  replace c1 := bP.cell 1 rfl
  replace hB := hB.trans (hb3.mono hB.size)
  replace hv1 := hv1.mono hb3
  replace hu1 := hu1.mono hb3
  clear hck1 hb3
  by_cases h0 : d = 0
  case neg =>
    obtain ⟨g1, g2⟩ := neq_of h0
    clear hrf hrn hfi hd hr hv1 hu1 h0
    go_wp2_with fail
    refine (known_any _).mono ?_
    rintro e w4 ⟨rfl, hb4⟩
    go_wp2
    go_ret
    exact ⟨rfl, hB.trans (hb4.mono hB.size)⟩
  subst h0
  obtain ⟨⟨hs0, hs1⟩, hp⟩ := plOk_of hd.out
  have hca := caF_of (dss := dss) hd.out hd8
  rw [hr.out] at hca
  have hrn1 := hrn.out hfit w3 hv1 hu1
  have hfi1 := hfi.out hfit
  unfold RunPost at hrn1
  unfold FirstPost FirstF at hfi1
  rw [hca] at hrn1 hfi1
  replace hrn1 := Lib.hid hrn1
  replace hfi1 := Lib.hid hfi1
  clear hrn hfi hca
  go_wp2_with fail
  refine hrn1.out.mono ?_
  rintro e w4 ⟨s, rfl, hb4, hsS, hsN⟩
  replace bP := bP.grown hb4
  replace c0 := bP.cell 0 rfl
  replace c1 := bP.cell 1 rfl
  replace hB := hB.trans (hb4.mono hB.size)
  replace hv1 := hv1.mono hb4
  replace hu1 := hu1.mono hb4
  have hf1 := Lib.hid (hfi1.out w4 hv1 hu1)
  clear hrn1 hb4 hfi1
  by_cases h0 : r = 0
  case neg =>
    obtain ⟨g1, g2⟩ := neq_of h0
    obtain rfl := hsN h0
    have hf2 := hf1.out
    rw [if_pos h0] at hf2
    replace hf2 := Lib.hid hf2
    clear hf1 hsS hsN hd hr h0
    go_wp2_with fail
    refine hf2.out.mono ?_
    rintro e w5 ⟨rfl, hb5⟩
    replace bP := bP.grown hb5
    replace c0 := bP.cell 0 rfl
    replace c1 := bP.cell 1 rfl
    replace hB := hB.trans (hb5.mono hB.size)
    have hrf1 := Lib.hid (hrf.out hfit w5 (hv1.mono hb5) (hu1.mono hb5))
    clear hf2 hrf hv1 hu1 hb5
    go_wp2_with fail
    refine hrf1.out.mono ?_
    rintro e w6 ⟨rfl, hb6⟩
    clear c0 c1 hrf1
    go_wp2
    go_ret
    exact ⟨rfl, hB.trans (hb6.mono hB.size)⟩
  subst h0
  replace hsS := hsS (by simp)
  have hds := dssOk_of hr.out
  have hdl : dss.length ≤ 1000 := by omega
  have hf2 := hf1.out
  rw [if_neg (by simp)] at hf2
  have hrun := runM_fit (sup := sup) (v := .slice av ns.length cv) (u := .slice au dss.length cu) hp hds hdl (by omega) hs1
  have hlk := fun W y hy => lackM_any y ns sup dss ns.length W hy hdl (by have := hp.len; omega) (fun i hi => (runT_len hp (by omega) hs1 hds i hi).2.2)
  have hlen := fun i hi => runT_len hp (sup := sup) (by omega) hs1 hds i hi
  generalize hL : lkS ns sup dss 0 = L at hf2 hlk
  obtain ⟨l1, l2, l3⟩ := L
  simp only at hf2 hlk
  replace hf2 := Lib.hid hf2
  replace hrun := Lib.hid hrun
  replace hlk := Lib.hid hlk
  replace hlen := Lib.hid hlen
  clear hf1 hsN hd hr hL hds
  obtain ⟨asl, csl, rfl⟩ := hsS.len
  go_wp2_with fail
  refine hf2.out.mono ?_
  rintro e w5 ⟨rfl, hb5⟩
  replace bP := bP.grown hb5
  replace c0 := bP.cell 0 rfl
  replace c1 := bP.cell 1 rfl
  replace hB := hB.trans (hb5.mono hB.size)
  replace hv1 := hv1.mono hb5
  replace hu1 := hu1.mono hb5
  replace hsS := hsS.mono hb5
  have hrf1 := Lib.hid (hrf.out hfit w5 hv1 hu1)
  clear hf2 hrf hb5
  go_wp2_with fail
  refine hrf1.out.mono ?_
  rintro e w6 ⟨rfl, hb6⟩
  replace bP := bP.grown hb6
  replace c0 := bP.cell 0 rfl
  replace c1 := bP.cell 1 rfl
  replace hB := hB.trans (hb6.mono hB.size)
  replace hv1 := hv1.mono hb6
  replace hu1 := hu1.mono hb6
  replace hsS := hsS.mono hb6
  have hr6 := Lib.hid (hrun.out w6 hv1 hu1)
  clear hrf1 hrun hb6
  go_wp2_with fail
  refine hr6.out.mono ?_
  rintro e w7 ⟨y, rfl, hdS, hb7⟩
  replace hB := hB.trans (hb7.mono hB.size)
  replace hsS := hsS.mono hb7
  clear hr6 hb7 c0 c1 hv1 hu1 bP
  obtain ⟨adl, cdl, rfl⟩ := hdS.len
  go_wp2
  go_loopw [13] (fun q W => ∃ k : Nat, k ≤ dss.length ∧ q = .int .i64 k ∧ Below w7.heap.size w7 W) (fun q _ => dss.length - (intOf q).toNat)
  case atStart => exact ⟨0, Nat.zero_le _, rfl, Below.refl _ _⟩
  case round =>
    obtain ⟨k, hk, rfl, hY⟩ := hrel
    replace hsS := hsS.mono hY
    replace hdS := hdS.mono hY
    by_cases hlt : k < dss.length
    · have hkd : (k : Int) < (dss.length : Int) := by omega
      have hdr := (Below.refl wr.heap.size wr).drew
      obtain ⟨bs, os, cps, hes, hbs, hcs⟩ := hsS.at hlt
      obtain ⟨bd, od, cpd, hed, hbd, hcd⟩ := hdS.at hlt
      cases hes
      cases hed
      obtain ⟨s1, s2, s3, cs1, cs2, cs3, hS⟩ := hcs k hlt
      obtain ⟨t1, t2, t3, ct1, ct2, ct3, hT⟩ := hcd k hlt
      obtain ⟨m1, m2, m3⟩ := hlen.out k hlt
      clear hcs hcd
      generalize runT ns sup dss (k + 1) = A at hS hT m1 m2 m3
      have hn30 := hp.len
      have hsm := same_any s1 s2 s3 t1 t2 t3 A A wr.drew (hS.mono hdr) (hT.mono hdr) ⟨by omega, by omega, by omega⟩
      rw [sameS_refl] at hsm
      obtain ⟨a1, p1, rfl⟩ := hS.lv.lenV m1
      obtain ⟨a2, p2, rfl⟩ := hS.tk.lenV m2
      obtain ⟨a3, p3, rfl⟩ := hS.lk.lenV m3
      obtain ⟨b1, r1, rfl⟩ := hT.lv.lenV m1
      obtain ⟨b2, r2, rfl⟩ := hT.tk.lenV m2
      obtain ⟨b3, r3, rfl⟩ := hT.lk.lenV m3
      replace hsm := Lib.hid hsm
      clear m1 m2 m3 hS hT
      go_wp2_with fail
      have hU : ∀ X, Below wr.heap.size wr X → X.cell? ⟨bs, os + k * 3, none⟩ = some (.slice a1 ns.length p1) ∧ X.cell? ⟨bs, os + k * 3 + 1, none⟩ = some (.slice a2 ns.length p2) ∧ X.cell? ⟨bs, os + k * 3 + 2, none⟩ = some (.slice a3 ns.length p3) ∧
        X.cell? ⟨bd, od + k * 3, none⟩ = some (.slice b1 ns.length r1) ∧ X.cell? ⟨bd, od + k * 3 + 1, none⟩ = some (.slice b2 ns.length r2) ∧ X.cell? ⟨bd, od + k * 3 + 2, none⟩ = some (.slice b3 ns.length r3) := fun X hb =>
        ⟨(hb.cell (p := ⟨bs, os + k * 3, none⟩) hbs).trans cs1, (hb.cell (p := ⟨bs, os + k * 3 + 1, none⟩) hbs).trans cs2, (hb.cell (p := ⟨bs, os + k * 3 + 2, none⟩) hbs).trans cs3,
          (hb.cell (p := ⟨bd, od + k * 3, none⟩) hbd).trans ct1, (hb.cell (p := ⟨bd, od + k * 3 + 1, none⟩) hbd).trans ct2, (hb.cell (p := ⟨bd, od + k * 3 + 2, none⟩) hbd).trans ct3⟩
      have hu0 := hU _ hdr
      replace hU := Lib.hid hU
      go_region_held3 (fun X => X.cell? ⟨bs, os + k * 3, none⟩ = some (.slice a1 ns.length p1) ∧ X.cell? ⟨bs, os + k * 3 + 1, none⟩ = some (.slice a2 ns.length p2) ∧ X.cell? ⟨bs, os + k * 3 + 2, none⟩ = some (.slice a3 ns.length p3) ∧
        X.cell? ⟨bd, od + k * 3, none⟩ = some (.slice b1 ns.length r1) ∧ X.cell? ⟨bd, od + k * 3 + 1, none⟩ = some (.slice b2 ns.length r2) ∧ X.cell? ⟨bd, od + k * 3 + 2, none⟩ = some (.slice b3 ns.length r3)) (first | exact hu0 | exact hu1)
        (first | (go_at_call 22; refine hsm.out.mono ?_; rintro e wq ⟨rfl, hbq⟩; have hu1 := hU.out _ (hdr.trans (hbq.mono hdr.size))))
      go_wp2
      go_roundw
      case rel => exact ⟨k + 1, by omega, by go_num, hY.trans ((hdr.trans (hbq.mono hdr.size)).mono hY.size)⟩
      case measure => simp [intOf]; omega
    · obtain rfl : k = dss.length := by omega
      have hlk1 := Lib.hid (hlk.out wr _ hdS)
      have hl3 : (l3 == l3) = true := by simp
      go_wp2_with fail
      refine hlk1.out.mono ?_
      rintro e w9 ⟨rfl, rfl⟩
      go_wp2
      go_ret
      exact ⟨rfl, hB.trans (hY.mono hB.size)⟩
end Go.Proofs.Ytfefocgekmeahaa
