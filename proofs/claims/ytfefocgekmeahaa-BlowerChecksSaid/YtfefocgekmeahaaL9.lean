/- The walk of BlowerSteps. Conditions: lists that fit. -/
import Derived.Test.YtfefocgekmeahaaW31
import Derived.Test.YtfefocgekmeahaaL5
namespace Go.Proofs.Ytfefocgekmeahaa
open Go.RowKit Go.Shelf

set_option maxRecDepth 100000 in
set_option maxHeartbeats 8000000 in
theorem law9_any (sup : Int) (v : Value) (ns : List Nd) (u1 u2 u3 : Value) (s : St) (x : Value) (dm : List Int) (w : World) (hv : NdSl w v ns) (hu : StSl w u1 u2 u3 s) (hx : NumSl .i64 w x dm) (hm : ns.length ≤ 9223372036854775807) (hm2 : s.lv.length ≤ 9223372036854775807) (hm3 : dm.length ≤ 9223372036854775807) :
    Calls Try.prog 9 #[plV sup v, .agg #[u1, u2, u3], x] w fun e w' => e = .returned (.bool true) ∧ Below w.heap.size w w' := by
  have hB : Below w.heap.size w ((w.alloc (.cells #[.int .i64 sup, v] 24)).alloc (.cells #[u1, u2, u3] 44)) := ((Below.refl _ w).alloc (Nat.le_refl _) _).alloc (by simp) _
  have bP := (BoxC.new w 24 #[.int .i64 sup, v]).alloc (.cells #[u1, u2, u3] 44)
  have bS := BoxC.new (w.alloc (.cells #[.int .i64 sup, v] 24)) 44 #[u1, u2, u3]
  rw [World.size_alloc] at bS
  have hck := fun W (hb : Below w.heap.size w W) => lcheck_any sup v ns W (hv.mono hb) hm
  have hst := fun (h : dm.length ≤ 32) h2 h3 W (hb : Below w.heap.size w W) => Step_any sup v ns u1 u2 u3 s.lv x dm W (hv.mono hb) (hu.lv.mono hb) (hx.mono hb) hm (by omega) h2 h3
  have hlv := fun (h : ns.length ≤ 32) W (hb : Below w.heap.size w W) => levels_any sup v ns u1 s.lv W (hv.mono hb) (by omega) (hu.lv.mono hb)
  have hdd := fun (h : dm.length ≤ 32) W (hb : Below w.heap.size w W) => demanded_any sup v ns x dm W (hv.mono hb) (hx.mono hb) (by omega)
  have hsp := fun hp hl hd hs0 hs1 W (hb : Below w.heap.size w W) => stepM_any sup v ns u1 s.lv x dm W (hv.mono hb) (hu.lv.mono hb) (hx.mono hb) hp hl hd hs0 hs1
  obtain ⟨d, hd⟩ : ∃ d, ckF sup ns = d := ⟨_, rfl⟩
  rw [hd] at hck
  obtain ⟨av, cv, rfl⟩ := hv.len
  obtain ⟨a1, p1, rfl⟩ := hu.lv.len
  obtain ⟨a2, p2, rfl⟩ := hu.tk.len
  obtain ⟨a3, p3, rfl⟩ := hu.lk.len
  obtain ⟨ax, cx, rfl⟩ := hx.len
  clear hv hu hx
  replace hd := Lib.hid hd
  replace hck := Lib.hid hck
  replace hst := Lib.hid hst
  replace hlv := Lib.hid hlv
  replace hdd := Lib.hid hdd
  replace hsp := Lib.hid hsp
  go_enter Try.func9, Try.ntmps9
  go_wp2_with fail
  refine (known_any _).mono ?_
  rintro e w1 ⟨rfl, hb1⟩
  replace bP := bP.grown hb1
  replace bS := bS.grown hb1
  have c0 := bP.cell 0 rfl
  have c1 := bP.cell 1 rfl
  have s0 := bS.cell 0 rfl
  have s1 := bS.cell 1 rfl
  have s2 := bS.cell 2 rfl
  replace hB := hB.trans (hb1.mono hB.size)
  clear hb1
  by_cases hA : 32 < ns.length
  case pos =>
    have hA2 : (32 : Int) < (ns.length : Int) := by omega
    have hA3 : decide ((32 : Int) < (ns.length : Int)) = true := decide_eq_true hA2
    clear hst hlv hdd hck hsp hd
    go_wp2_with fail
    refine (known_any _).mono ?_
    rintro e w3 ⟨rfl, hb3⟩
    go_wp2
    go_ret
    exact ⟨rfl, hB.trans (hb3.mono hB.size)⟩
  have hA2 : ¬ (32 : Int) < (ns.length : Int) := by omega
  have hA3 : decide ((32 : Int) < (ns.length : Int)) = false := decide_eq_false hA2
  by_cases hC : 32 < s.lv.length
  case pos =>
    have hC2 : (32 : Int) < (s.lv.length : Int) := by omega
    have hC3 : decide ((32 : Int) < (s.lv.length : Int)) = true := decide_eq_true hC2
    clear hst hlv hdd hck hsp hd
    go_wp2_with fail
    refine (known_any _).mono ?_
    rintro e w3 ⟨rfl, hb3⟩
    go_wp2
    go_ret
    exact ⟨rfl, hB.trans (hb3.mono hB.size)⟩
  have hC2 : ¬ (32 : Int) < (s.lv.length : Int) := by omega
  have hC3 : decide ((32 : Int) < (s.lv.length : Int)) = false := decide_eq_false hC2
  by_cases hE : 32 < dm.length
  case pos =>
    have hE2 : (32 : Int) < (dm.length : Int) := by omega
    have hE3 : decide ((32 : Int) < (dm.length : Int)) = true := decide_eq_true hE2
    clear hst hlv hdd hck hsp hd
    go_wp2_with fail
    refine (known_any _).mono ?_
    rintro e w3 ⟨rfl, hb3⟩
    go_wp2
    go_ret
    exact ⟨rfl, hB.trans (hb3.mono hB.size)⟩
  have hE2 : ¬ (32 : Int) < (dm.length : Int) := by omega
  have hE3 : decide ((32 : Int) < (dm.length : Int)) = false := decide_eq_false hE2
  have hck1 := Lib.hid (hck.out w1 hB)
  clear hck
  go_wp2_with fail
  refine hck1.out.mono ?_
  rintro e w2 ⟨rfl, hb2⟩
  replace bP := bP.grown hb2
  replace bS := bS.grown hb2
  replace c0 := bP.cell 0 rfl
  replace c1 := bP.cell 1 rfl
  replace s0 := bS.cell 0 rfl
  replace s1 := bS.cell 1 rfl
  replace s2 := bS.cell 2 rfl
  replace hB := hB.trans (hb2.mono hB.size)
  clear hck1 hb2
  by_cases h0 : d = 0
  case neg =>
    obtain ⟨g1, g2⟩ := neq_of h0
    clear hst hlv hdd hsp hd h0
    go_wp2_with fail
    refine (known_any _).mono ?_
    rintro e w4 ⟨rfl, hb4⟩
    go_wp2
    go_ret
    exact ⟨rfl, hB.trans (hb4.mono hB.size)⟩
  subst h0
  obtain ⟨⟨hs0, hs1⟩, hp⟩ := plOk_of hd.out
  have hspf : spF sup ns s.lv dm = if lvF ns s.lv ≠ 0 then lvF ns s.lv else deF ns dm := by unfold spF; rw [if_neg (by simp [hd.out])]
  have hll := lvOk_of (ns := ns) (l := s.lv)
  have hdl := dmOk_of (ns := ns) (d := dm)
  have hst1 := hst.out (by omega) ⟨_, _, _, rfl⟩ ⟨_, _, _, rfl⟩ w2 hB
  have hlv1 := hlv.out (by omega)
  have hdd1 := hdd.out (by omega)
  rw [hspf] at hst1
  generalize lvF ns s.lv = e1 at hst1 hlv1 hll
  generalize deF ns dm = e2 at hst1 hdd1 hdl
  replace hll := Lib.hid hll
  replace hdl := Lib.hid hdl
  replace hlv1 := Lib.hid hlv1
  replace hdd1 := Lib.hid hdd1
  clear hst hlv hdd hd hspf
  by_cases h1 : e1 = 0
  case neg =>
    obtain ⟨g1, g2⟩ := neq_of h1
    rw [if_pos h1, stOut_bad h1] at hst1
    replace hst1 := Lib.hid hst1
    clear hsp hll hdl hdd1 h1
    go_wp2_with fail
    refine hst1.out.mono ?_
    rintro e w3 ⟨v1, v2, v3, rfl, hS, hb3⟩
    replace bP := bP.grown hb3
    replace bS := bS.grown hb3
    replace hB := hB.trans (hb3.mono hB.size)
    obtain ⟨b1, q1, rfl⟩ := hS.lv.lenV (n := 0) rfl
    obtain ⟨b2, q2, rfl⟩ := hS.tk.lenV (n := 0) rfl
    obtain ⟨b3, q3, rfl⟩ := hS.lk.lenV (n := 0) rfl
    have hx := (Below.refl w3.heap.size w3).alloc (Nat.le_refl _) (.cells #[.slice b1 0 q1, .slice b2 0 q2, .slice b3 0 q3] 44)
    have bT := BoxC.new w3 44 #[.slice b1 0 q1, .slice b2 0 q2, .slice b3 0 q3]
    replace c0 := (bP.grown hx).cell 0 rfl
    replace c1 := (bP.grown hx).cell 1 rfl
    replace s0 := (bS.grown hx).cell 0 rfl
    replace hB := hB.trans (hx.mono hB.size)
    replace hS := hS.mono hx
    have hl1 := Lib.hid (hlv1.out _ hB)
    clear hst1 hlv1 hb3 s1 s2
    go_wp2_with fail
    refine hl1.out.mono ?_
    rintro e w4 ⟨rfl, hb4⟩
    have bT4 := bT.grown hb4
    have t0 := bT4.cell 0 rfl
    have t1 := bT4.cell 1 rfl
    have t2 := bT4.cell 2 rfl
    have hzr := zero_any _ _ _ noSt w4 (hS.mono hb4) ⟨by simp [noSt], by simp [noSt], by simp [noSt]⟩
    rw [show sameS noSt ⟨[], [], []⟩ = true from sameS_refl _] at hzr
    replace hzr := Lib.hid hzr
    replace hB := hB.trans (hb4.mono hB.size)
    clear hl1 hb4 c0 c1 s0 hS
    go_wp2_with fail
    refine hzr.out.mono ?_
    rintro e w5 ⟨rfl, hb5⟩
    go_wp2
    go_ret
    exact ⟨rfl, hB.trans (hb5.mono hB.size)⟩
  subst h1
  have hlo := hll.out rfl
  rw [if_neg (by simp)] at hst1
  clear hll
  by_cases h2 : e2 = 0
  case neg =>
    obtain ⟨g1, g2⟩ := neq_of h2
    rw [stOut_bad h2] at hst1
    replace hst1 := Lib.hid hst1
    clear hsp hdl h2
    go_wp2_with fail
    refine hst1.out.mono ?_
    rintro e w3 ⟨v1, v2, v3, rfl, hS, hb3⟩
    replace bP := bP.grown hb3
    replace bS := bS.grown hb3
    replace hB := hB.trans (hb3.mono hB.size)
    obtain ⟨b1, q1, rfl⟩ := hS.lv.lenV (n := 0) rfl
    obtain ⟨b2, q2, rfl⟩ := hS.tk.lenV (n := 0) rfl
    obtain ⟨b3, q3, rfl⟩ := hS.lk.lenV (n := 0) rfl
    have hx := (Below.refl w3.heap.size w3).alloc (Nat.le_refl _) (.cells #[.slice b1 0 q1, .slice b2 0 q2, .slice b3 0 q3] 44)
    have bT := BoxC.new w3 44 #[.slice b1 0 q1, .slice b2 0 q2, .slice b3 0 q3]
    replace bP := bP.grown hx
    replace c0 := bP.cell 0 rfl
    replace c1 := bP.cell 1 rfl
    replace s0 := (bS.grown hx).cell 0 rfl
    replace hB := hB.trans (hx.mono hB.size)
    replace hS := hS.mono hx
    have hl1 := Lib.hid (hlv1.out _ hB)
    clear hst1 hlv1 hb3 s1 s2
    go_wp2_with fail
    refine hl1.out.mono ?_
    rintro e w4 ⟨rfl, hb4⟩
    replace bT := bT.grown hb4
    replace c0 := (bP.grown hb4).cell 0 rfl
    replace c1 := (bP.grown hb4).cell 1 rfl
    replace hB := hB.trans (hb4.mono hB.size)
    replace hS := hS.mono hb4
    have hl2 := Lib.hid (hdd1.out _ hB)
    clear hl1 hb4 s0
    go_wp2_with fail
    refine hl2.out.mono ?_
    rintro e w5 ⟨rfl, hb5⟩
    have bT4 := bT.grown hb5
    have t0 := bT4.cell 0 rfl
    have t1 := bT4.cell 1 rfl
    have t2 := bT4.cell 2 rfl
    have hzr := zero_any _ _ _ noSt w5 (hS.mono hb5) ⟨by simp [noSt], by simp [noSt], by simp [noSt]⟩
    rw [show sameS noSt ⟨[], [], []⟩ = true from sameS_refl _] at hzr
    replace hzr := Lib.hid hzr
    replace hB := hB.trans (hb5.mono hB.size)
    clear hl2 hb5 c0 c1 hS
    go_wp2_with fail
    refine hzr.out.mono ?_
    rintro e w6 ⟨rfl, hb6⟩
    go_wp2
    go_ret
    exact ⟨rfl, hB.trans (hb6.mono hB.size)⟩
  subst h2
  have hdo := hdl.out rfl
  have hok := stepOk (sup := sup) hp hlo hdo hs0
  have hsp1 := fun W hb => hsp.out hp hlo hdo (by omega) hs1 W hb
  have hlens : (stepF ns sup s.lv dm).lv.length = ns.length ∧ (stepF ns sup s.lv dm).tk.length = ns.length ∧ (stepF ns sup s.lv dm).lk.length = ns.length := ⟨hok.l1, hok.l2, hok.l3⟩
  rw [stOut_ok] at hst1
  generalize stepF ns sup s.lv dm = S at hst1 hsp1 hlens
  obtain ⟨k1, k2, k3⟩ := hlens
  replace hst1 := Lib.hid hst1
  replace hsp1 := Lib.hid hsp1
  clear hsp hdl hok hlo hdo
  go_wp2_with fail
  refine hst1.out.mono ?_
  rintro e w3 ⟨v1, v2, v3, rfl, hS, hb3⟩
  replace bP := bP.grown hb3
  replace bS := bS.grown hb3
  replace hB := hB.trans (hb3.mono hB.size)
  obtain ⟨b1, q1, rfl⟩ := hS.lv.lenV k1
  obtain ⟨b2, q2, rfl⟩ := hS.tk.lenV k2
  obtain ⟨b3, q3, rfl⟩ := hS.lk.lenV k3
  have hx := (Below.refl w3.heap.size w3).alloc (Nat.le_refl _) (.cells #[.slice b1 ns.length q1, .slice b2 ns.length q2, .slice b3 ns.length q3] 44)
  have bT := BoxC.new w3 44 #[.slice b1 ns.length q1, .slice b2 ns.length q2, .slice b3 ns.length q3]
  replace bP := bP.grown hx
  replace bS := bS.grown hx
  replace c0 := bP.cell 0 rfl
  replace c1 := bP.cell 1 rfl
  replace s0 := bS.cell 0 rfl
  replace hB := hB.trans (hx.mono hB.size)
  replace hS := hS.mono hx
  have hl1 := Lib.hid (hlv1.out _ hB)
  replace k1 := Lib.hid k1
  replace k2 := Lib.hid k2
  replace k3 := Lib.hid k3
  clear hst1 hlv1 hb3 s1 s2
  go_wp2_with fail
  refine hl1.out.mono ?_
  rintro e w4 ⟨rfl, hb4⟩
  replace bT := bT.grown hb4
  replace bP := bP.grown hb4
  replace bS := bS.grown hb4
  replace c0 := bP.cell 0 rfl
  replace c1 := bP.cell 1 rfl
  replace hB := hB.trans (hb4.mono hB.size)
  replace hS := hS.mono hb4
  have hl2 := Lib.hid (hdd1.out _ hB)
  clear hl1 hb4 s0
  go_wp2_with fail
  refine hl2.out.mono ?_
  rintro e w5 ⟨rfl, hb5⟩
  replace bT := bT.grown hb5
  replace bP := bP.grown hb5
  replace bS := bS.grown hb5
  replace hB := hB.trans (hb5.mono hB.size)
  replace hS := hS.mono hb5
  clear hl2 hb5 c0 c1
  have hdr := (Below.refl w5.heap.size w5).drew
  have hU : ∀ X, Below w5.heap.size w5 X → X.cell? ⟨w3.heap.size, 0, none⟩ = some (.slice b1 ns.length q1) ∧ X.cell? ⟨w3.heap.size, 1, none⟩ = some (.slice b2 ns.length q2) ∧ X.cell? ⟨w3.heap.size, 2, none⟩ = some (.slice b3 ns.length q3) ∧
      X.cell? ⟨w.heap.size, 0, none⟩ = some (.int .i64 sup) ∧ X.cell? ⟨w.heap.size, 1, none⟩ = some (.slice av ns.length cv) ∧ X.cell? ⟨w.heap.size + 1, 0, none⟩ = some (.slice a1 s.lv.length p1) := fun X hb =>
    ⟨(bT.grown hb).cell 0 rfl, (bT.grown hb).cell 1 rfl, (bT.grown hb).cell 2 rfl, (bP.grown hb).cell 0 rfl, (bP.grown hb).cell 1 rfl, (bS.grown hb).cell 0 rfl⟩
  have hu0 := hU _ hdr
  replace hU := Lib.hid hU
  have hc1 := Lib.hid (hsp1.out w5.drew (hB.trans (hdr.mono hB.size)))
  have hn30 := hp.len
  go_wp2_with fail
  go_region_held3 (fun X => X.cell? ⟨w3.heap.size, 0, none⟩ = some (.slice b1 ns.length q1) ∧ X.cell? ⟨w3.heap.size, 1, none⟩ = some (.slice b2 ns.length q2) ∧ X.cell? ⟨w3.heap.size, 2, none⟩ = some (.slice b3 ns.length q3) ∧
      X.cell? ⟨w.heap.size, 0, none⟩ = some (.int .i64 sup) ∧ X.cell? ⟨w.heap.size, 1, none⟩ = some (.slice av ns.length cv) ∧ X.cell? ⟨w.heap.size + 1, 0, none⟩ = some (.slice a1 s.lv.length p1)) (first | exact hu0 | exact hu1 | exact hu2)
    (first | (go_at_call 33; refine hc1.out.mono ?_; rintro e wq ⟨t1, t2, t3, rfl, n1, n2, n3, hbq⟩; have hbx := hdr.trans (hbq.mono hdr.size); have hu1 := hU.out _ hbx; have hsm := same_any _ _ _ _ _ _ S S wq (hS.mono hbx) ⟨n1.1, n2.1, n3.1⟩ ⟨by rw [k1.out]; omega, by rw [k2.out]; omega, by rw [k3.out]; omega⟩; rw [sameS_refl] at hsm; replace hsm := Lib.hid hsm)
           | (go_at_call 22; refine hsm.out.mono ?_; rintro e wr ⟨rfl, hbr⟩; have hu2 := hU.out _ (hbx.trans (hbr.mono hbx.size))))
  go_wp2
  go_ret
  exact ⟨rfl, hB.trans ((hbx.trans (hbr.mono hbx.size)).mono hB.size)⟩
end Go.Proofs.Ytfefocgekmeahaa
