/- The contract of the model's do for the events of the kinds 6 to 10. Conditions: consoles of plans, sound states, possible events. -/
import Derived.Test.YtgnamahdchefnaaB6
namespace Go.Proofs.Ytgnamahdchefnaa
open Go.RowKit Go.Shelf

set_option linter.unusedVariables false in
set_option maxRecDepth 100000 in
set_option maxHeartbeats 8000000 in
theorem ldo_k6 (x y xd xg xv xp : Value) (C : Con) (st : St) (d i : Int) (w : World) (hC : C.Ok) (hr : ConR w x y C) (hst : StR w xd xg xv xp st) (hS : SoundP C st) (hpos : posF C st 6 d i = 0) :
    Calls Try.prog 28 #[conV x y C.co C.ge C.lv, stV xd st.d.c st.d.o st.l xg xv xp, evV 6 d i] w (LDoPost (doF C st 6 d i) w) := by
  have hdo : doF C st 6 d i = pushF st (actF C st 6 d.toNat i.toNat) := by unfold doF; rw [if_neg (by decide)]
  rw [hdo]
  clear hdo
  obtain ⟨st1, hst1⟩ : ∃ st1, actF C st 6 d.toNat i.toNat = st1 := ⟨_, rfl⟩
  rw [hst1]
  have hpos0 := hpos
  unfold posF at hpos
  simp at hpos
  obtain ⟨m, rfl⟩ : ∃ m : Nat, i = m := ⟨i.toNat, by omega⟩
  obtain ⟨lN, hlN⟩ : ∃ lN : Nat, st.l = lN := ⟨st.l.toNat, by have := hS.l; omega⟩
  have hlg : lN < st.g.length ∧ (C.lv : Int) = st.g.length := by have := hS.l; have := hS.gn; omega
  have hll := hlg.1
  have hml : m < (get st.g lN).length := by have := hS.gl lN hll; omega
  clear hlg
  replace hlN := Lib.hid hlN
  try simp only [Int.toNat_natCast] at hst1
  replace hst1 := Lib.hid hst1
  obtain ⟨a1, cap1, rfl⟩ := hr.s.len
  obtain ⟨a2, cap2, rfl⟩ := hr.d.lenV hC.dl
  obtain ⟨a3, cap3, rfl⟩ := hst.d.len
  obtain ⟨a4, cap4, rfl⟩ := SlOf.len hst.g
  obtain ⟨a5, cap5, rfl⟩ := SlOf.len hst.v
  obtain ⟨a6, cap6, rfl⟩ := hst.p.len
  have hB := ((((Below.refl w.heap.size w).alloc (Nat.le_refl _) (.cells #[.slice a1 C.s.length cap1, .int .i64 C.co, .int .i64 C.ge, .slice a2 C.s.length cap2, .int .i64 C.lv] 32)).alloc (by simp) (.cells #[.slice a3 st.d.s.length cap3, .int .u64 st.d.c, .int .u64 st.d.o, .int .i64 st.l, .slice a4 st.g.length cap4, .slice a5 st.v.length cap5, .slice a6 st.p.length cap6] 42)).alloc (by simp; omega) (.cells #[.int .i64 6, .int .i64 d, .int .i64 (m : Int)] 28)).alloc (by simp; omega) (.cells #[.slice none 0 0, .int .u64 0, .int .u64 0, .int .i64 0, .slice none 0 0, .slice none 0 0, .slice none 0 0] 42)
  have bC := (((BoxC.new w 32 #[.slice a1 C.s.length cap1, .int .i64 C.co, .int .i64 C.ge, .slice a2 C.s.length cap2, .int .i64 C.lv]).alloc (.cells #[.slice a3 st.d.s.length cap3, .int .u64 st.d.c, .int .u64 st.d.o, .int .i64 st.l, .slice a4 st.g.length cap4, .slice a5 st.v.length cap5, .slice a6 st.p.length cap6] 42)).alloc (.cells #[.int .i64 6, .int .i64 d, .int .i64 (m : Int)] 28)).alloc (.cells #[.slice none 0 0, .int .u64 0, .int .u64 0, .int .i64 0, .slice none 0 0, .slice none 0 0, .slice none 0 0] 42)
  have bS := ((BoxC.new (w.alloc (.cells #[.slice a1 C.s.length cap1, .int .i64 C.co, .int .i64 C.ge, .slice a2 C.s.length cap2, .int .i64 C.lv] 32)) 42 #[.slice a3 st.d.s.length cap3, .int .u64 st.d.c, .int .u64 st.d.o, .int .i64 st.l, .slice a4 st.g.length cap4, .slice a5 st.v.length cap5, .slice a6 st.p.length cap6]).alloc (.cells #[.int .i64 6, .int .i64 d, .int .i64 (m : Int)] 28)).alloc (.cells #[.slice none 0 0, .int .u64 0, .int .u64 0, .int .i64 0, .slice none 0 0, .slice none 0 0, .slice none 0 0] 42)
  have bE := (BoxC.new ((w.alloc (.cells #[.slice a1 C.s.length cap1, .int .i64 C.co, .int .i64 C.ge, .slice a2 C.s.length cap2, .int .i64 C.lv] 32)).alloc (.cells #[.slice a3 st.d.s.length cap3, .int .u64 st.d.c, .int .u64 st.d.o, .int .i64 st.l, .slice a4 st.g.length cap4, .slice a5 st.v.length cap5, .slice a6 st.p.length cap6] 42)) 28 #[.int .i64 6, .int .i64 d, .int .i64 (m : Int)]).alloc (.cells #[.slice none 0 0, .int .u64 0, .int .u64 0, .int .i64 0, .slice none 0 0, .slice none 0 0, .slice none 0 0] 42)
  have bR := BoxC.new (((w.alloc (.cells #[.slice a1 C.s.length cap1, .int .i64 C.co, .int .i64 C.ge, .slice a2 C.s.length cap2, .int .i64 C.lv] 32)).alloc (.cells #[.slice a3 st.d.s.length cap3, .int .u64 st.d.c, .int .u64 st.d.o, .int .i64 st.l, .slice a4 st.g.length cap4, .slice a5 st.v.length cap5, .slice a6 st.p.length cap6] 42)).alloc (.cells #[.int .i64 6, .int .i64 d, .int .i64 (m : Int)] 28)) 42 #[.slice none 0 0, .int .u64 0, .int .u64 0, .int .i64 0, .slice none 0 0, .slice none 0 0, .slice none 0 0]
  simp only [World.size_alloc] at bS bE bR
  have hpp := lawPossible_any (.slice a1 C.s.length cap1) (.slice a2 C.s.length cap2) (.slice a3 st.d.s.length cap3) (.slice a4 st.g.length cap4) (.slice a5 st.v.length cap5) (.slice a6 st.p.length cap6) C st 6 d (m : Int) _ hC (hr.mono hB) (hst.mono hB)
  rw [hpos0] at hpp
  replace hpp := Lib.hid hpp
  have hF := hS.fit hC
  have hsl : st.d.s.length ≤ 1000 := hF.d
  have hslC := Lib.hid hS.d.n
  have hpn := hS.pn
  have hS0 := Lib.hid hS
  have hC0 := Lib.hid hC
  have hst0 := Lib.hid (hst.mono hB)
  have hr0 := Lib.hid (hr.mono hB)
  clear hS hC hst hr hpos0
  go_enter Try.func28, Try.ntmps28
  go_wp2_with fail
  generalize hW : (((w.alloc (.cells #[.slice a1 C.s.length cap1, .int .i64 C.co, .int .i64 C.ge, .slice a2 C.s.length cap2, .int .i64 C.lv] 32)).alloc (.cells #[.slice a3 st.d.s.length cap3, .int .u64 st.d.c, .int .u64 st.d.o, .int .i64 st.l, .slice a4 st.g.length cap4, .slice a5 st.v.length cap5, .slice a6 st.p.length cap6] 42)).alloc (.cells #[.int .i64 6, .int .i64 d, .int .i64 (m : Int)] 28)).alloc (.cells #[.slice none 0 0, .int .u64 0, .int .u64 0, .int .i64 0, .slice none 0 0, .slice none 0 0, .slice none 0 0] 42) = W at hB bC bS bE bR hpp hst0 hr0 ⊢
  have hWs : W.heap.size = w.heap.size + 4 := by rw [← hW]; simp
  clear hW
  replace hWs := Lib.hid hWs
  refine hpp.out.mono ?_
  rintro e w1 ⟨rfl, hb1⟩
  have bS1 := bS.grown hb1
  have htw := twin_any (.slice a3 st.d.s.length cap3) (.slice a4 st.g.length cap4) (.slice a5 st.v.length cap5) (.slice a6 st.p.length cap6) st w1 (hst0.out.mono hb1) hF
  replace htw := Lib.hid htw
  have x0 := bS1.cell 0 rfl
  have x1 := bS1.cell 1 rfl
  have x2 := bS1.cell 2 rfl
  have x3 := bS1.cell 3 rfl
  have x4 := bS1.cell 4 rfl
  have x5 := bS1.cell 5 rfl
  have x6 := bS1.cell 6 rfl
  clear bS1
  go_wp2_with fail
  refine htw.out.mono ?_
  rintro e w2 ⟨yd, yg, yv, yp, κ, rfl, hO, hb2⟩
  obtain ⟨g3, q3, rfl⟩ := hO.d.len
  obtain ⟨g4, q4, rfl⟩ := SlOf.len hO.g.rd
  obtain ⟨g5, q5, rfl⟩ := SlOf.len hO.v.rd
  obtain ⟨g6, q6, rfl⟩ := hO.p.rd.len
  have hb12 := hb1.trans (hb2.mono hb1.size)
  have hb3 := (Below.refl w2.heap.size w2).alloc (Nat.le_refl _) (.cells #[.slice g3 st.d.s.length q3, .int .u64 st.d.c, .int .u64 st.d.o, .int .i64 st.l, .slice g4 st.g.length q4, .slice g5 st.v.length q5, .slice g6 st.p.length q6] 42)
  have M : LMid W.heap.size κ W w2.heap.size st (.slice g3 st.d.s.length q3) (.slice g4 st.g.length q4) (.slice g5 st.v.length q5) (.slice g6 st.p.length q6) (w2.alloc (.cells #[.slice g3 st.d.s.length q3, .int .u64 st.d.c, .int .u64 st.d.o, .int .i64 st.l, .slice g4 st.g.length q4, .slice g5 st.v.length q5, .slice g6 st.p.length q6] 42)) := {
    b := BoxC.new w2 42 _
    o := (hO.mv (Mv.low _ hb1.size)).below hb3
    bl := hb12.trans (hb3.mono hb12.size)
    le := hb12.size
    ls := Nat.le_trans hb12.size hb3.size }
  have z0 := (bE.grown hb12).cell 0 rfl
  have z1 := (bE.grown hb12).cell 1 rfl
  have z2 := (bE.grown hb12).cell 2 rfl
  have hzE := (bE.grown hb12).lt
  clear htw hO x0 x1 x2 x3 x4 x5 x6 hpp
  go_upto_region 15 with (fail)
  generalize w2.alloc (.cells #[.slice g3 st.d.s.length q3, .int .u64 st.d.c, .int .u64 st.d.o, .int .i64 st.l, .slice g4 st.g.length q4, .slice g5 st.v.length q5, .slice g6 st.p.length q6] 42) = Z at M hb3 ⊢
  generalize w2.heap.size = B at M hb3 ⊢
  have bE' := bE.grown M.bl
  have hZ4 : w.heap.size + 4 ≤ B := by have := M.le; have := hWs.out; omega
  generalize κ = κ1 at M
  clear hb12 hb3 hb2 hb1 z0 z1 z2 hzE
  have hsZ := hst0.out.mono M.bl
  have bSZ := bS.grown M.bl
  obtain ⟨us, hrow, hels⟩ := M.o.g
  obtain ⟨g1, o1, cp1, he, hg1, hk1, hgl1, hnc1, hmx1, hcur1, hcell1, hfz1⟩ := hrow.at2 (by omega)
  cases he
  obtain ⟨us2, hrow2, hels2⟩ := hels lN hll
  obtain ⟨g2, o2, cp2, hu2, hg2, hk2, hgl2, hnc2, hmx2, hcur2, hcell2, hfz2⟩ := hrow2.at2 (by omega)
  have x4 : Z.drew.cell? ⟨B, 4, none⟩ = some (.slice (some ⟨g1, o1, none⟩) st.g.length q4) := M.b.cell 4 rfl
  have s3 : Z.drew.cell? ⟨w.heap.size + 1, 3, none⟩ = some (.int .i64 (lN : Int)) := by rw [← hlN.out]; exact bSZ.cell 3 rfl
  have y2 : Z.drew.cell? ⟨w.heap.size + 1 + 1, 2, none⟩ = some (.int .i64 (m : Int)) := bE'.cell 2 rfl
  have c1 : Z.drew.cell? ⟨g1, o1 + lN, none⟩ = some (.slice (some ⟨g2, o2, none⟩) (get st.g lN).length cp2) := by rw [← hu2]; exact hcell1 lN (by omega)
  have s0 : Z.drew.cell? ⟨w.heap.size + 1, 0, none⟩ = some (.slice a3 st.d.s.length cap3) := bSZ.cell 0 rfl
  have s1 : Z.drew.cell? ⟨w.heap.size + 1, 1, none⟩ = some (.int .u64 st.d.c) := bSZ.cell 1 rfl
  have s2 : Z.drew.cell? ⟨w.heap.size + 1, 2, none⟩ = some (.int .u64 st.d.o) := bSZ.cell 2 rfl
  have t0 : Z.drew.cell? ⟨g2, o2 + m * 3, none⟩ = some (us2 m) := by rw [← regC0 us2 (get st.g lN) m]; exact hcell2 _ (by omega)
  have t1 : Z.drew.cell? ⟨g2, o2 + m * 3 + 1, none⟩ = some (.int .u64 (get (get st.g lN) m).c) := by rw [← regC1 us2 (get st.g lN) m, Nat.add_assoc]; exact hcell2 _ (by omega)
  have t2 : Z.drew.cell? ⟨g2, o2 + m * 3 + 2, none⟩ = some (.int .u64 (get (get st.g lN) m).o) := by rw [← regC2 us2 (get st.g lN) m, Nat.add_assoc]; exact hcell2 _ (by omega)
  have hcp2 := Lib.hid (lawClone_any (.slice a3 st.d.s.length cap3) st.d Z.drew (hsZ.d.mono (Below.refl _ _).drew) hsl)
  have hli : (lN : Int) < (st.g.length : Int) := by omega
  have hmi : (m : Int) < ((get st.g lN).length : Int) := by omega
  have hact : st1 = ⟨st.d, st.l, st.g.set lN ((get st.g lN).set m st.d), st.v, st.p⟩ := by rw [← hst1.out]; simp [actF, hlN.out]
  have hgB2 : B ≠ g2 := M.b.ne_row hcur2 (by decide)
  have hg12 : g1 ≠ g2 := row_ne hcur1 hcur2 (by decide)
  have hge2 : w.heap.size + 1 + 1 ≠ g2 := bE'.ne_row hcur2 (by decide)
  have hgs2 : w.heap.size + 1 ≠ g2 := bSZ.ne_row hcur2 (by decide)
  replace hact := Lib.hid hact
  have hrowH := Lib.hid hrow
  have helsH := Lib.hid hels
  have hrow2H := Lib.hid hrow2
  have hels2H := Lib.hid hels2
  have hu2H := Lib.hid hu2
  clear hrow hels hrow2 hels2 hu2 hcell1 hfz1 hcell2 hsZ bSZ
  have hs0 : (fun X : World => X.cell? ⟨B, 4, none⟩ = some (.slice (some ⟨g1, o1, none⟩) st.g.length q4) ∧ X.cell? ⟨w.heap.size + 1, 3, none⟩ = some (.int .i64 (lN : Int)) ∧ X.cell? ⟨w.heap.size + 1 + 1, 2, none⟩ = some (.int .i64 (m : Int)) ∧ X.cell? ⟨g1, o1 + lN, none⟩ = some (.slice (some ⟨g2, o2, none⟩) (get st.g lN).length cp2) ∧ X.cell? ⟨w.heap.size + 1, 0, none⟩ = some (.slice a3 st.d.s.length cap3) ∧ X.cell? ⟨w.heap.size + 1, 1, none⟩ = some (.int .u64 st.d.c) ∧ X.cell? ⟨w.heap.size + 1, 2, none⟩ = some (.int .u64 st.d.o)) Z.drew := ⟨x4, s3, y2, c1, s0, s1, s2⟩
  have hfz2H := Lib.hid hfz2
  clear hfz2
  go_region_held3 (fun X : World => X.cell? ⟨B, 4, none⟩ = some (.slice (some ⟨g1, o1, none⟩) st.g.length q4) ∧ X.cell? ⟨w.heap.size + 1, 3, none⟩ = some (.int .i64 (lN : Int)) ∧ X.cell? ⟨w.heap.size + 1 + 1, 2, none⟩ = some (.int .i64 (m : Int)) ∧ X.cell? ⟨g1, o1 + lN, none⟩ = some (.slice (some ⟨g2, o2, none⟩) (get st.g lN).length cp2) ∧ X.cell? ⟨w.heap.size + 1, 0, none⟩ = some (.slice a3 st.d.s.length cap3) ∧ X.cell? ⟨w.heap.size + 1, 1, none⟩ = some (.int .u64 st.d.c) ∧ X.cell? ⟨w.heap.size + 1, 2, none⟩ = some (.int .u64 st.d.o))
    (first | (with_reducible exact hs0) | (with_reducible exact hs1) | (with_reducible exact hs2))
    ((go_at_call 18; (with_reducible refine hcp2.out.mono ?_); rintro e w3 ⟨xn, rfl, hn, hb3⟩; obtain ⟨an, capn, rfl⟩ := hn.num.len; have M2 := M.drew.grown (N := Z.drew.heap.size) hb3 (3, lN, m) (Nat.le_refl _); have hn2 : RowU W.heap.size (kfrom κ1 Z.drew.heap.size (3, lN, m)) (3, lN, m) (.slice an st.d.s.length capn) st.d.s w3 := hn.row M.ls κ1 (3, lN, m); have hb30 : Below Z.heap.size Z w3 := (Below.refl _ _).drew.trans (hb3.mono (Nat.le_refl _)); have mv := (fun S => Mv.newkM (lo := W.heap.size) (κ := κ1) (r := (3, lN, m)) S hb30 (Nat.le_refl _)); have hrow' := mv (fun _ => True) _ _ _ _ _ _ trivial (by decide) hrowH.out; have hels' : ∀ i, i < st.g.length → RegsO W.heap.size (kfrom κ1 Z.drew.heap.size (3, lN, m)) (2, i, 0) (fun j => (3, i, j)) (us i) (get st.g i) w3 := (fun i hi => (helsH.out i hi).map (fun v n C h => mv (fun _ => True) _ _ _ _ _ _ trivial (by decide) h) (fun j _ v n C h => mv (fun _ => True) _ _ _ _ _ _ trivial (by decide) h)); have hrow2' := mv (fun _ => True) _ _ _ _ _ _ trivial (by decide) hrow2H.out; have hels2' : ∀ j, j < (get st.g lN).length → RowU W.heap.size (kfrom κ1 Z.drew.heap.size (3, lN, m)) (3, lN, j) (us2 j) (get (get st.g lN) j).s w3 := (fun j hj => mv (fun _ => True) _ _ _ _ _ _ trivial (by decide) (hels2H.out j hj)); have hk2' : kfrom κ1 Z.drew.heap.size (3, lN, m) g2 = (2, lN, 0) := (by rw [kfrom_old (by exact hgl2)]; exact hk2); have hcur2' : ∃ cur, w3.heap[g2]? = some (.cells cur 37 (0, 0)) := (by obtain ⟨cur, hc⟩ := hcur2; exact ⟨cur, (hb30.block g2 hgl2).trans hc⟩); have hGp := GenO.put hrow' hels' hll hrow2' hels2' hu2H.out hg2 hk2' hml st.d (.slice an st.d.s.length capn) hn2; have M1 := M2.putG hg2 hk2' hcur2' _ _ _ hGp; have cb : ∀ {z : Addr} {u : Value}, Z.drew.cell? z = some u → w3.cell? z = some u := (fun h => (hb3.cell (lt_of_cell h)).trans h); have e0 := cb t0; have e1 := cb t1; have e2 := cb t2; have f0 : w3.frozen? ⟨g2, o2 + m * 3, none⟩ = false := (hb30.frozen (p := ⟨g2, _, none⟩) hgl2).trans (hfz2H.out _); have f1 : w3.frozen? ⟨g2, o2 + m * 3 + 1, none⟩ = false := (hb30.frozen (p := ⟨g2, _, none⟩) hgl2).trans (hfz2H.out _); have f2 : w3.frozen? ⟨g2, o2 + m * 3 + 2, none⟩ = false := (hb30.frozen (p := ⟨g2, _, none⟩) hgl2).trans (hfz2H.out _); have hs1 : (fun X : World => X.cell? ⟨B, 4, none⟩ = some (.slice (some ⟨g1, o1, none⟩) st.g.length q4) ∧ X.cell? ⟨w.heap.size + 1, 3, none⟩ = some (.int .i64 (lN : Int)) ∧ X.cell? ⟨w.heap.size + 1 + 1, 2, none⟩ = some (.int .i64 (m : Int)) ∧ X.cell? ⟨g1, o1 + lN, none⟩ = some (.slice (some ⟨g2, o2, none⟩) (get st.g lN).length cp2) ∧ X.cell? ⟨w.heap.size + 1, 0, none⟩ = some (.slice a3 st.d.s.length cap3) ∧ X.cell? ⟨w.heap.size + 1, 1, none⟩ = some (.int .u64 st.d.c) ∧ X.cell? ⟨w.heap.size + 1, 2, none⟩ = some (.int .u64 st.d.o)) w3 := ⟨cb x4, cb s3, cb y2, cb c1, cb s0, cb s1, cb s2⟩; have cq : ∀ {b o : Nat} {u : Value}, b ≠ g2 → w3.cell? ⟨b, o, none⟩ = some u → (((w3.setCell ⟨g2, o2 + m * 3, none⟩ (.slice an st.d.s.length capn)).setCell ⟨g2, o2 + m * 3 + 1, none⟩ (.int .u64 st.d.c)).setCell ⟨g2, o2 + m * 3 + 2, none⟩ (.int .u64 st.d.o)).cell? ⟨b, o, none⟩ = some u := (fun hne h => (World.cell?_of_block (heap_set3 _ _ _ hne)).trans h); have hs2 : (fun X : World => X.cell? ⟨B, 4, none⟩ = some (.slice (some ⟨g1, o1, none⟩) st.g.length q4) ∧ X.cell? ⟨w.heap.size + 1, 3, none⟩ = some (.int .i64 (lN : Int)) ∧ X.cell? ⟨w.heap.size + 1 + 1, 2, none⟩ = some (.int .i64 (m : Int)) ∧ X.cell? ⟨g1, o1 + lN, none⟩ = some (.slice (some ⟨g2, o2, none⟩) (get st.g lN).length cp2) ∧ X.cell? ⟨w.heap.size + 1, 0, none⟩ = some (.slice a3 st.d.s.length cap3) ∧ X.cell? ⟨w.heap.size + 1, 1, none⟩ = some (.int .u64 st.d.c) ∧ X.cell? ⟨w.heap.size + 1, 2, none⟩ = some (.int .u64 st.d.o)) (((w3.setCell ⟨g2, o2 + m * 3, none⟩ (.slice an st.d.s.length capn)).setCell ⟨g2, o2 + m * 3 + 1, none⟩ (.int .u64 st.d.c)).setCell ⟨g2, o2 + m * 3 + 2, none⟩ (.int .u64 st.d.o)) := ⟨cq hgB2 (cb x4), cq hgs2 (cb s3), cq hge2 (cb y2), cq hg12 (cb c1), cq hgs2 (cb s0), cq hgs2 (cb s1), cq hgs2 (cb s2)⟩))
  replace hact := hact.out
  rw [show ({ st with g := st.g.set lN ((get st.g lN).set m st.d) } : St) = st1 from hact.symm] at M1
  clear hGp hels' hels2' hrow' hrow2'
  generalize kfrom κ1 Z.drew.heap.size (3, lN, m) = κ3 at *
  go_upto_region 28 with (fail)
  change LMid _ _ _ _ _ _ _ _ _ (((w3.setCell ⟨g2, o2 + m * 3, none⟩ (.slice an st.d.s.length capn)).setCell ⟨g2, o2 + m * 3 + 1, none⟩ (.int .u64 st.d.c)).setCell ⟨g2, o2 + m * 3 + 2, none⟩ (.int .u64 st.d.o)) at M1
  generalize (((w3.setCell ⟨g2, o2 + m * 3, none⟩ (.slice an st.d.s.length capn)).setCell ⟨g2, o2 + m * 3 + 1, none⟩ (.int .u64 st.d.c)).setCell ⟨g2, o2 + m * 3 + 2, none⟩ (.int .u64 st.d.o)) = Y at M1 ⊢
  generalize κ3 = κ1 at *
  clear M M2 x4 s3 y2 c1 s0 s1 s2 e0 e1 e2 f0 f1 f2 t0 t1 t2 hcp2 hn hn2 hb3 hb30 hcur1 hcur2 hcur2' hs0 hs1 hs2 cb cq mv hk2' hk2 hk1
  have hp1 : st1.p.length = st.p.length := by rw [hact]
  have hs1 : st1.d.s.length = C.s.length := by rw [hact]; exact hslC.out
  have hn3 := hC0.out.n
  clear hact
  have bS' := bS.grown M1.bl
  have hsY := hst0.out.mono M1.bl
  have heq := lawEqual_any (.slice g3 st.d.s.length q3) (.slice a3 st.d.s.length cap3) st1.d st.d Y M1.o.d.num hsY.d (by omega)
  have r0 := M1.b.cell 0 rfl
  have r1 := M1.b.cell 1 rfl
  have r2 := M1.b.cell 2 rfl
  have t0 := bS'.cell 0 rfl
  have t1 := bS'.cell 1 rfl
  have t2 := bS'.cell 2 rfl
  replace hp1 := Lib.hid hp1
  replace hs1 := Lib.hid hs1
  clear hsY
  cases hq : eqB st1.d st.d
  · rw [hq] at heq
    have hpu : pushF st st1 = { st1 with p := (st1.p ++ [st.d]).drop ((st1.p ++ [st.d]).length - 20) } := by
      unfold pushF
      rw [if_neg (by simp [hq])]
    clear hq
    replace heq := Lib.hid heq
    have hpuH := Lib.hid hpu
    clear hpu
    go_wp2_with fail
    refine heq.out.mono ?_
    rintro e Y2 ⟨rfl, hb4⟩
    have M2 := M1.below hb4
    have bS2 := bS'.grown hb4
    have hp20 : st1.p.length ≤ 20 := by rw [hp1.out]; exact hpn
    rw [← hp1.out] at M2
    clear r0 r1 r2 t0 t1 t2 heq M1 bS' hb4
    go_wp2_with fail
    refine reg29 hsl hp20 bS2 ⟨rfl, rfl, rfl⟩ hst0.out.d M2 ?_
    intro s p7 κ2 g7 o7 c7 Y5 M5 hc7 hm7
    have x6 := M5.b.cell 6 rfl
    have e6 := M5.b.frozen 6
    have hlB5 := M5.b.lt
    have bR5 := bR.grown M5.bl
    have hcl7 : (st1.p.length : Int) + 1 ≤ (c7 : Int) := by omega
    have hpu := hpuH.out
    clear M2 bS2 hpuH
    by_cases h20 : st1.p.length + 1 ≤ 20
    · have hif : (if (st1.p.length : Int) + 1 - 20 < 0 then (0 : Int) else (st1.p.length : Int) + 1 - 20) = 0 := by split <;> omega
      have hdr0 : (st1.p ++ [st.d]).drop ((st1.p ++ [st.d]).length - 20) = st1.p ++ [st.d] := by
        rw [List.length_append, List.length_singleton, show st1.p.length + 1 - 20 = 0 by omega, List.drop_zero]
      rw [hdr0] at hpu
      replace hpu := Lib.hid hpu
      clear h20 hdr0
      go_upto_region 31 with (fail)
      have M6 := M5.put (st' := { st1 with p := st1.p ++ [st.d] }) 6 (.slice (some ⟨g7, o7, none⟩) (st1.p.length + 1) c7) rfl rfl rfl rfl rfl
      generalize Y5.setCell ⟨B, 6, none⟩ (.slice (some ⟨g7, o7, none⟩) (st1.p.length + 1) c7) = Y6 at M6 ⊢
      have bR6 := bR.grown M6.bl
      clear M5 x6 e6 hlB5 bR5 hif
      generalize hst6 : ({ st1 with p := st1.p ++ [st.d] } : St) = s6 at M6 hpu
      replace hst6 := Lib.hid hst6
      have x0 := M6.b.cell 0 rfl
      have x1 := M6.b.cell 1 rfl
      have x2 := M6.b.cell 2 rfl
      have x3 := M6.b.cell 3 rfl
      have x4 := M6.b.cell 4 rfl
      have x5 := M6.b.cell 5 rfl
      have x6 := M6.b.cell 6 rfl
      have r0 := bR6.cell 0 rfl
      have r1 := bR6.cell 1 rfl
      have r2 := bR6.cell 2 rfl
      have r3 := bR6.cell 3 rfl
      have r4 := bR6.cell 4 rfl
      have r5 := bR6.cell 5 rfl
      have r6 := bR6.cell 6 rfl
      have e0 := bR6.frozen 0
      have e1 := bR6.frozen 1
      have e2 := bR6.frozen 2
      have e3 := bR6.frozen 3
      have e4 := bR6.frozen 4
      have e5 := bR6.frozen 5
      have e6 := bR6.frozen 6
      have hWs2 := hWs.out
      have hW4 := hB.trans (M6.bl.mono hB.size)
      go_wp2
      refine bodyPost_ret (ret_cell_tmp Try.results28 rfl rfl (bR6.put7 _ _ _ _ _ _ _) Try.underlying42 size42) rfl ?_
      rw [hpu.out]
      exact ⟨_, _, _, _, κ2, rfl, (M6.o.mv (Mv.low _ hB.size)).mv (Mv.put7 _ bR6 _ _ _ _ _ _ _), below_put7 _ _ _ _ _ _ _ hW4 (by omega)⟩
    · have hif : (if (st1.p.length : Int) + 1 - 20 < 0 then (0 : Int) else (st1.p.length : Int) + 1 - 20) = 1 := by split <;> omega
      have hdr0 : (st1.p ++ [st.d]).drop ((st1.p ++ [st.d]).length - 20) = (st1.p ++ [st.d]).drop 1 := by
        rw [List.length_append, List.length_singleton, show st1.p.length + 1 - 20 = 1 by omega]
      have hc71 : ¬ c7 = 1 := by omega
      have hle1 : (1 : Int) ≤ (st1.p.length : Int) + 1 := by omega
      rw [hdr0] at hpu
      replace hpu := Lib.hid hpu
      clear h20 hdr0
      have hl19 := Lib.hid (show st1.p.length - 19 = 1 by omega)
      go_upto_region 31 with (fail)
      rw [hl19.out, Nat.one_mul]
      have M6 := M5.cut (by simp) (by omega)
      generalize Y5.setCell ⟨B, 6, none⟩ (.slice (some ⟨g7, o7 + 3, none⟩) (st1.p.length + 1 - 1) (c7 - 1)) = Y6 at M6 ⊢
      have bR6 := bR.grown M6.bl
      clear M5 x6 e6 hlB5 bR5 hif hc71 hle1
      generalize hst6 : ({ st1 with p := (st1.p ++ [st.d]).drop 1 } : St) = s6 at M6 hpu
      replace hst6 := Lib.hid hst6
      have x0 := M6.b.cell 0 rfl
      have x1 := M6.b.cell 1 rfl
      have x2 := M6.b.cell 2 rfl
      have x3 := M6.b.cell 3 rfl
      have x4 := M6.b.cell 4 rfl
      have x5 := M6.b.cell 5 rfl
      have x6 := M6.b.cell 6 rfl
      have r0 := bR6.cell 0 rfl
      have r1 := bR6.cell 1 rfl
      have r2 := bR6.cell 2 rfl
      have r3 := bR6.cell 3 rfl
      have r4 := bR6.cell 4 rfl
      have r5 := bR6.cell 5 rfl
      have r6 := bR6.cell 6 rfl
      have e0 := bR6.frozen 0
      have e1 := bR6.frozen 1
      have e2 := bR6.frozen 2
      have e3 := bR6.frozen 3
      have e4 := bR6.frozen 4
      have e5 := bR6.frozen 5
      have e6 := bR6.frozen 6
      have hWs2 := hWs.out
      have hW4 := hB.trans (M6.bl.mono hB.size)
      go_wp2
      refine bodyPost_ret (ret_cell_tmp Try.results28 rfl rfl (bR6.put7 _ _ _ _ _ _ _) Try.underlying42 size42) rfl ?_
      rw [hpu.out]
      exact ⟨_, _, _, _, kshift κ2, rfl, (M6.o.mv (Mv.low _ hB.size)).mv (Mv.put7 _ bR6 _ _ _ _ _ _ _), below_put7 _ _ _ _ _ _ _ hW4 (by omega)⟩
  · rw [hq] at heq
    have hpu : pushF st st1 = st1 := by
      unfold pushF
      rw [if_pos hq]
    replace hpu := Lib.hid hpu
    clear hq
    replace heq := Lib.hid heq
    go_wp2_with fail
    refine heq.out.mono ?_
    rintro e Y6 ⟨rfl, hb4⟩
    have M6 := M1.below hb4
    have bR6 := bR.grown M6.bl
    clear r0 r1 r2 t0 t1 t2 heq M1 bS' hb4
    have x0 := M6.b.cell 0 rfl
    have x1 := M6.b.cell 1 rfl
    have x2 := M6.b.cell 2 rfl
    have x3 := M6.b.cell 3 rfl
    have x4 := M6.b.cell 4 rfl
    have x5 := M6.b.cell 5 rfl
    have x6 := M6.b.cell 6 rfl
    have r0 := bR6.cell 0 rfl
    have r1 := bR6.cell 1 rfl
    have r2 := bR6.cell 2 rfl
    have r3 := bR6.cell 3 rfl
    have r4 := bR6.cell 4 rfl
    have r5 := bR6.cell 5 rfl
    have r6 := bR6.cell 6 rfl
    have e0 := bR6.frozen 0
    have e1 := bR6.frozen 1
    have e2 := bR6.frozen 2
    have e3 := bR6.frozen 3
    have e4 := bR6.frozen 4
    have e5 := bR6.frozen 5
    have e6 := bR6.frozen 6
    have hWs2 := hWs.out
    have hW4 := hB.trans (M6.bl.mono hB.size)
    go_wp2
    refine bodyPost_ret (ret_cell_tmp Try.results28 rfl rfl (bR6.put7 _ _ _ _ _ _ _) Try.underlying42 size42) rfl ?_
    rw [hpu.out]
    exact ⟨_, _, _, _, κ1, rfl, (M6.o.mv (Mv.low _ hB.size)).mv (Mv.put7 _ bR6 _ _ _ _ _ _ _), below_put7 _ _ _ _ _ _ _ hW4 (by omega)⟩
end Go.Proofs.Ytgnamahdchefnaa
namespace Go.Proofs.Ytgnamahdchefnaa
open Go.RowKit Go.Shelf

set_option linter.unusedVariables false in
set_option maxRecDepth 100000 in
set_option maxHeartbeats 8000000 in
theorem ldo_k7 (x y xd xg xv xp : Value) (C : Con) (st : St) (d i : Int) (w : World) (hC : C.Ok) (hr : ConR w x y C) (hst : StR w xd xg xv xp st) (hS : SoundP C st) (hpos : posF C st 7 d i = 0) :
    Calls Try.prog 28 #[conV x y C.co C.ge C.lv, stV xd st.d.c st.d.o st.l xg xv xp, evV 7 d i] w (LDoPost (doF C st 7 d i) w) := by
  have hdo : doF C st 7 d i = pushF st (actF C st 7 d.toNat i.toNat) := by unfold doF; rw [if_neg (by decide)]
  rw [hdo]
  clear hdo
  obtain ⟨st1, hst1⟩ : ∃ st1, actF C st 7 d.toNat i.toNat = st1 := ⟨_, rfl⟩
  rw [hst1]
  have hpos0 := hpos
  unfold posF at hpos
  simp at hpos
  obtain ⟨n, rfl⟩ : ∃ n : Nat, d = n := ⟨d.toNat, by omega⟩
  obtain ⟨m, rfl⟩ : ∃ m : Nat, i = m := ⟨i.toNat, by omega⟩
  obtain ⟨lN, hlN⟩ : ∃ lN : Nat, st.l = lN := ⟨st.l.toNat, by have := hS.l; omega⟩
  have hlg : lN < st.v.length ∧ (C.lv : Int) = st.v.length := by have := hS.l; have := hS.vn; omega
  have hll := hlg.1
  have hnl : n < C.s.length := by omega
  have hvl := hS.vl lN hll
  have hnv : n < (get st.v lN).length := by omega
  have hmv : m < (get (get st.v lN) n).length := by have := hS.vd lN n hll hnl; simp at hpos; omega
  have hsn := hS.d.n
  have hnd : n < st.d.s.length := by omega
  clear hlg hsn hvl
  replace hlN := Lib.hid hlN
  try simp only [Int.toNat_natCast] at hst1
  replace hst1 := Lib.hid hst1
  obtain ⟨a1, cap1, rfl⟩ := hr.s.len
  obtain ⟨a2, cap2, rfl⟩ := hr.d.lenV hC.dl
  obtain ⟨a3, cap3, rfl⟩ := hst.d.len
  obtain ⟨a4, cap4, rfl⟩ := SlOf.len hst.g
  obtain ⟨a5, cap5, rfl⟩ := SlOf.len hst.v
  obtain ⟨a6, cap6, rfl⟩ := hst.p.len
  have hB := ((((Below.refl w.heap.size w).alloc (Nat.le_refl _) (.cells #[.slice a1 C.s.length cap1, .int .i64 C.co, .int .i64 C.ge, .slice a2 C.s.length cap2, .int .i64 C.lv] 32)).alloc (by simp) (.cells #[.slice a3 st.d.s.length cap3, .int .u64 st.d.c, .int .u64 st.d.o, .int .i64 st.l, .slice a4 st.g.length cap4, .slice a5 st.v.length cap5, .slice a6 st.p.length cap6] 42)).alloc (by simp; omega) (.cells #[.int .i64 7, .int .i64 (n : Int), .int .i64 (m : Int)] 28)).alloc (by simp; omega) (.cells #[.slice none 0 0, .int .u64 0, .int .u64 0, .int .i64 0, .slice none 0 0, .slice none 0 0, .slice none 0 0] 42)
  have bC := (((BoxC.new w 32 #[.slice a1 C.s.length cap1, .int .i64 C.co, .int .i64 C.ge, .slice a2 C.s.length cap2, .int .i64 C.lv]).alloc (.cells #[.slice a3 st.d.s.length cap3, .int .u64 st.d.c, .int .u64 st.d.o, .int .i64 st.l, .slice a4 st.g.length cap4, .slice a5 st.v.length cap5, .slice a6 st.p.length cap6] 42)).alloc (.cells #[.int .i64 7, .int .i64 (n : Int), .int .i64 (m : Int)] 28)).alloc (.cells #[.slice none 0 0, .int .u64 0, .int .u64 0, .int .i64 0, .slice none 0 0, .slice none 0 0, .slice none 0 0] 42)
  have bS := ((BoxC.new (w.alloc (.cells #[.slice a1 C.s.length cap1, .int .i64 C.co, .int .i64 C.ge, .slice a2 C.s.length cap2, .int .i64 C.lv] 32)) 42 #[.slice a3 st.d.s.length cap3, .int .u64 st.d.c, .int .u64 st.d.o, .int .i64 st.l, .slice a4 st.g.length cap4, .slice a5 st.v.length cap5, .slice a6 st.p.length cap6]).alloc (.cells #[.int .i64 7, .int .i64 (n : Int), .int .i64 (m : Int)] 28)).alloc (.cells #[.slice none 0 0, .int .u64 0, .int .u64 0, .int .i64 0, .slice none 0 0, .slice none 0 0, .slice none 0 0] 42)
  have bE := (BoxC.new ((w.alloc (.cells #[.slice a1 C.s.length cap1, .int .i64 C.co, .int .i64 C.ge, .slice a2 C.s.length cap2, .int .i64 C.lv] 32)).alloc (.cells #[.slice a3 st.d.s.length cap3, .int .u64 st.d.c, .int .u64 st.d.o, .int .i64 st.l, .slice a4 st.g.length cap4, .slice a5 st.v.length cap5, .slice a6 st.p.length cap6] 42)) 28 #[.int .i64 7, .int .i64 (n : Int), .int .i64 (m : Int)]).alloc (.cells #[.slice none 0 0, .int .u64 0, .int .u64 0, .int .i64 0, .slice none 0 0, .slice none 0 0, .slice none 0 0] 42)
  have bR := BoxC.new (((w.alloc (.cells #[.slice a1 C.s.length cap1, .int .i64 C.co, .int .i64 C.ge, .slice a2 C.s.length cap2, .int .i64 C.lv] 32)).alloc (.cells #[.slice a3 st.d.s.length cap3, .int .u64 st.d.c, .int .u64 st.d.o, .int .i64 st.l, .slice a4 st.g.length cap4, .slice a5 st.v.length cap5, .slice a6 st.p.length cap6] 42)).alloc (.cells #[.int .i64 7, .int .i64 (n : Int), .int .i64 (m : Int)] 28)) 42 #[.slice none 0 0, .int .u64 0, .int .u64 0, .int .i64 0, .slice none 0 0, .slice none 0 0, .slice none 0 0]
  simp only [World.size_alloc] at bS bE bR
  have hpp := lawPossible_any (.slice a1 C.s.length cap1) (.slice a2 C.s.length cap2) (.slice a3 st.d.s.length cap3) (.slice a4 st.g.length cap4) (.slice a5 st.v.length cap5) (.slice a6 st.p.length cap6) C st 7 (n : Int) (m : Int) _ hC (hr.mono hB) (hst.mono hB)
  rw [hpos0] at hpp
  replace hpp := Lib.hid hpp
  have hF := hS.fit hC
  have hsl : st.d.s.length ≤ 1000 := hF.d
  have hslC := Lib.hid hS.d.n
  have hpn := hS.pn
  have hS0 := Lib.hid hS
  have hC0 := Lib.hid hC
  have hst0 := Lib.hid (hst.mono hB)
  have hr0 := Lib.hid (hr.mono hB)
  clear hS hC hst hr hpos0
  go_enter Try.func28, Try.ntmps28
  go_wp2_with fail
  generalize hW : (((w.alloc (.cells #[.slice a1 C.s.length cap1, .int .i64 C.co, .int .i64 C.ge, .slice a2 C.s.length cap2, .int .i64 C.lv] 32)).alloc (.cells #[.slice a3 st.d.s.length cap3, .int .u64 st.d.c, .int .u64 st.d.o, .int .i64 st.l, .slice a4 st.g.length cap4, .slice a5 st.v.length cap5, .slice a6 st.p.length cap6] 42)).alloc (.cells #[.int .i64 7, .int .i64 (n : Int), .int .i64 (m : Int)] 28)).alloc (.cells #[.slice none 0 0, .int .u64 0, .int .u64 0, .int .i64 0, .slice none 0 0, .slice none 0 0, .slice none 0 0] 42) = W at hB bC bS bE bR hpp hst0 hr0 ⊢
  have hWs : W.heap.size = w.heap.size + 4 := by rw [← hW]; simp
  clear hW
  replace hWs := Lib.hid hWs
  refine hpp.out.mono ?_
  rintro e w1 ⟨rfl, hb1⟩
  have bS1 := bS.grown hb1
  have htw := twin_any (.slice a3 st.d.s.length cap3) (.slice a4 st.g.length cap4) (.slice a5 st.v.length cap5) (.slice a6 st.p.length cap6) st w1 (hst0.out.mono hb1) hF
  replace htw := Lib.hid htw
  have x0 := bS1.cell 0 rfl
  have x1 := bS1.cell 1 rfl
  have x2 := bS1.cell 2 rfl
  have x3 := bS1.cell 3 rfl
  have x4 := bS1.cell 4 rfl
  have x5 := bS1.cell 5 rfl
  have x6 := bS1.cell 6 rfl
  clear bS1
  go_wp2_with fail
  refine htw.out.mono ?_
  rintro e w2 ⟨yd, yg, yv, yp, κ, rfl, hO, hb2⟩
  obtain ⟨g3, q3, rfl⟩ := hO.d.len
  obtain ⟨g4, q4, rfl⟩ := SlOf.len hO.g.rd
  obtain ⟨g5, q5, rfl⟩ := SlOf.len hO.v.rd
  obtain ⟨g6, q6, rfl⟩ := hO.p.rd.len
  have hb12 := hb1.trans (hb2.mono hb1.size)
  have hb3 := (Below.refl w2.heap.size w2).alloc (Nat.le_refl _) (.cells #[.slice g3 st.d.s.length q3, .int .u64 st.d.c, .int .u64 st.d.o, .int .i64 st.l, .slice g4 st.g.length q4, .slice g5 st.v.length q5, .slice g6 st.p.length q6] 42)
  have M : LMid W.heap.size κ W w2.heap.size st (.slice g3 st.d.s.length q3) (.slice g4 st.g.length q4) (.slice g5 st.v.length q5) (.slice g6 st.p.length q6) (w2.alloc (.cells #[.slice g3 st.d.s.length q3, .int .u64 st.d.c, .int .u64 st.d.o, .int .i64 st.l, .slice g4 st.g.length q4, .slice g5 st.v.length q5, .slice g6 st.p.length q6] 42)) := {
    b := BoxC.new w2 42 _
    o := (hO.mv (Mv.low _ hb1.size)).below hb3
    bl := hb12.trans (hb3.mono hb12.size)
    le := hb12.size
    ls := Nat.le_trans hb12.size hb3.size }
  have z0 := (bE.grown hb12).cell 0 rfl
  have z1 := (bE.grown hb12).cell 1 rfl
  have z2 := (bE.grown hb12).cell 2 rfl
  have hzE := (bE.grown hb12).lt
  clear htw hO x0 x1 x2 x3 x4 x5 x6 hpp
  go_upto_region 19 with (fail)
  generalize w2.alloc (.cells #[.slice g3 st.d.s.length q3, .int .u64 st.d.c, .int .u64 st.d.o, .int .i64 st.l, .slice g4 st.g.length q4, .slice g5 st.v.length q5, .slice g6 st.p.length q6] 42) = Z at M hb3 ⊢
  generalize w2.heap.size = B at M hb3 ⊢
  have bE' := bE.grown M.bl
  have hZ4 : w.heap.size + 4 ≤ B := by have := M.le; have := hWs.out; omega
  generalize κ = κ1 at M
  clear hb12 hb3 hb2 hb1 z0 z1 z2 hzE
  have hsZ := hst0.out.mono M.bl
  have bSZ := bS.grown M.bl
  have s3 : Z.drew.cell? ⟨w.heap.size + 1, 3, none⟩ = some (.int .i64 (lN : Int)) := by rw [← hlN.out]; exact bSZ.cell 3 rfl
  have y1 : Z.drew.cell? ⟨w.heap.size + 1 + 1, 1, none⟩ = some (.int .i64 (n : Int)) := bE'.cell 1 rfl
  have y2 : Z.drew.cell? ⟨w.heap.size + 1 + 1, 2, none⟩ = some (.int .i64 (m : Int)) := bE'.cell 2 rfl
  obtain ⟨us, hrow, hels⟩ := M.o.v
  obtain ⟨g1, o1, cp1, he, hg1, hk1, hgl1, hnc1, hmx1, hcur1, hcell1, hfz1⟩ := hrow.at2 (by omega)
  cases he
  obtain ⟨us2, hrow2, hels2⟩ := hels lN hll
  obtain ⟨g2, o2, cp2, hu2, hg2, hk2, hgl2, hnc2, hmx2, hcur2, hcell2, hfz2⟩ := hrow2.at2 (by omega)
  obtain ⟨h3, o3, cp3, hu3, hg3, hk3, hgl3, hnc3, hmx3, hcur3, hcell3, hfz3⟩ := RowX.at2 (hels2 n hnv) (by omega)
  obtain ⟨g, off, cp, he, hcs⟩ := NumSl.at hsZ.d hnd
  cases he
  have s0 : Z.drew.cell? ⟨w.heap.size + 1, 0, none⟩ = some (.slice (some ⟨g, off, none⟩) st.d.s.length cap3) := bSZ.cell 0 rfl
  have x5 : Z.drew.cell? ⟨B, 5, none⟩ = some (.slice (some ⟨g1, o1, none⟩) st.v.length q5) := M.b.cell 5 rfl
  have c1 : Z.drew.cell? ⟨g1, o1 + lN, none⟩ = some (.slice (some ⟨g2, o2, none⟩) (get st.v lN).length cp2) := by rw [← hu2]; exact hcell1 lN (by omega)
  have c2 : Z.drew.cell? ⟨g2, o2 + n, none⟩ = some (.slice (some ⟨h3, o3, none⟩) (get (get st.v lN) n).length cp3) := by rw [← hu3]; exact hcell2 n (by omega)
  have c3 : Z.drew.cell? ⟨h3, o3 + m, none⟩ = some (.int .u64 (nth (get (get st.v lN) n) m)) := hcell3 m (by omega)
  have c0 : Z.drew.cell? ⟨g, off + n, none⟩ = some (.int .u64 (nth st.d.s n)) := hcs n hnd
  have f3 : Z.drew.frozen? ⟨h3, o3 + m, none⟩ = false := hfz3 _
  have hni : (n : Int) < (st.d.s.length : Int) := by omega
  have hli : (lN : Int) < (st.v.length : Int) := by omega
  have hnvi : (n : Int) < ((get st.v lN).length : Int) := by omega
  have hmvi : (m : Int) < ((get (get st.v lN) n).length : Int) := by omega
  clear hcs hcell1 hfz1 hcell2 hfz2 hcell3 hfz3 hgl1 hgl2 hgl3 hnc1 hnc2 hnc3 hmx1 hmx2 hmx3 hsZ bSZ
  generalize hzv : nth st.d.s n = zv at c0
  have hact : st1 = ⟨st.d, st.l, st.g, st.v.set lN ((get st.v lN).set n ((get (get st.v lN) n).set m zv)), st.p⟩ := by rw [← hst1.out, ← hzv]; simp [actF, hlN.out]
  have hV := DivO.put hrow hels hll hnv hrow2 hels2 hu3 hg3 hk3 hmv zv
  have M1 := (M.putV hg3 hk3 hcur3 (.int .u64 zv) hV).drew
  rw [show ({ st with v := st.v.set lN ((get st.v lN).set n ((get (get st.v lN) n).set m zv)) } : St) = st1 from hact.symm] at M1
  replace hact := Lib.hid hact
  replace hzv := Lib.hid hzv
  clear hrow hels hrow2 hels2 hu2 hu3 hk1 hk2 hk3 hV
  go_still_tail 20, (by kernel_rfl)
  change wpList _ _ _ _ _ Z.drew
  go_upto_region 28 with (fail)
  replace hact := hact.out
  generalize (Z.setCell ⟨h3, o3 + m, none⟩ (.int .u64 zv)).drew = Y at M1 ⊢
  clear M s0 x5 s3 y1 y2 c0 c1 c2 c3 f3 hcur1 hcur2 hcur3
  have hp1 : st1.p.length = st.p.length := by rw [hact]
  have hs1 : st1.d.s.length = C.s.length := by rw [hact]; exact hslC.out
  have hn3 := hC0.out.n
  clear hact
  have bS' := bS.grown M1.bl
  have hsY := hst0.out.mono M1.bl
  have heq := lawEqual_any (.slice g3 st.d.s.length q3) (.slice (some ⟨g, off, none⟩) st.d.s.length cap3) st1.d st.d Y M1.o.d.num hsY.d (by omega)
  have r0 := M1.b.cell 0 rfl
  have r1 := M1.b.cell 1 rfl
  have r2 := M1.b.cell 2 rfl
  have t0 := bS'.cell 0 rfl
  have t1 := bS'.cell 1 rfl
  have t2 := bS'.cell 2 rfl
  replace hp1 := Lib.hid hp1
  replace hs1 := Lib.hid hs1
  clear hsY
  cases hq : eqB st1.d st.d
  · rw [hq] at heq
    have hpu : pushF st st1 = { st1 with p := (st1.p ++ [st.d]).drop ((st1.p ++ [st.d]).length - 20) } := by
      unfold pushF
      rw [if_neg (by simp [hq])]
    clear hq
    replace heq := Lib.hid heq
    have hpuH := Lib.hid hpu
    clear hpu
    go_wp2_with fail
    refine heq.out.mono ?_
    rintro e Y2 ⟨rfl, hb4⟩
    have M2 := M1.below hb4
    have bS2 := bS'.grown hb4
    have hp20 : st1.p.length ≤ 20 := by rw [hp1.out]; exact hpn
    rw [← hp1.out] at M2
    clear r0 r1 r2 t0 t1 t2 heq M1 bS' hb4
    go_wp2_with fail
    refine reg29 hsl hp20 bS2 ⟨rfl, rfl, rfl⟩ hst0.out.d M2 ?_
    intro s p7 κ2 g7 o7 c7 Y5 M5 hc7 hm7
    have x6 := M5.b.cell 6 rfl
    have e6 := M5.b.frozen 6
    have hlB5 := M5.b.lt
    have bR5 := bR.grown M5.bl
    have hcl7 : (st1.p.length : Int) + 1 ≤ (c7 : Int) := by omega
    have hpu := hpuH.out
    clear M2 bS2 hpuH
    by_cases h20 : st1.p.length + 1 ≤ 20
    · have hif : (if (st1.p.length : Int) + 1 - 20 < 0 then (0 : Int) else (st1.p.length : Int) + 1 - 20) = 0 := by split <;> omega
      have hdr0 : (st1.p ++ [st.d]).drop ((st1.p ++ [st.d]).length - 20) = st1.p ++ [st.d] := by
        rw [List.length_append, List.length_singleton, show st1.p.length + 1 - 20 = 0 by omega, List.drop_zero]
      rw [hdr0] at hpu
      replace hpu := Lib.hid hpu
      clear h20 hdr0
      go_upto_region 31 with (fail)
      have M6 := M5.put (st' := { st1 with p := st1.p ++ [st.d] }) 6 (.slice (some ⟨g7, o7, none⟩) (st1.p.length + 1) c7) rfl rfl rfl rfl rfl
      generalize Y5.setCell ⟨B, 6, none⟩ (.slice (some ⟨g7, o7, none⟩) (st1.p.length + 1) c7) = Y6 at M6 ⊢
      have bR6 := bR.grown M6.bl
      clear M5 x6 e6 hlB5 bR5 hif
      generalize hst6 : ({ st1 with p := st1.p ++ [st.d] } : St) = s6 at M6 hpu
      replace hst6 := Lib.hid hst6
      have x0 := M6.b.cell 0 rfl
      have x1 := M6.b.cell 1 rfl
      have x2 := M6.b.cell 2 rfl
      have x3 := M6.b.cell 3 rfl
      have x4 := M6.b.cell 4 rfl
      have x5 := M6.b.cell 5 rfl
      have x6 := M6.b.cell 6 rfl
      have r0 := bR6.cell 0 rfl
      have r1 := bR6.cell 1 rfl
      have r2 := bR6.cell 2 rfl
      have r3 := bR6.cell 3 rfl
      have r4 := bR6.cell 4 rfl
      have r5 := bR6.cell 5 rfl
      have r6 := bR6.cell 6 rfl
      have e0 := bR6.frozen 0
      have e1 := bR6.frozen 1
      have e2 := bR6.frozen 2
      have e3 := bR6.frozen 3
      have e4 := bR6.frozen 4
      have e5 := bR6.frozen 5
      have e6 := bR6.frozen 6
      have hWs2 := hWs.out
      have hW4 := hB.trans (M6.bl.mono hB.size)
      go_wp2
      refine bodyPost_ret (ret_cell_tmp Try.results28 rfl rfl (bR6.put7 _ _ _ _ _ _ _) Try.underlying42 size42) rfl ?_
      rw [hpu.out]
      exact ⟨_, _, _, _, κ2, rfl, (M6.o.mv (Mv.low _ hB.size)).mv (Mv.put7 _ bR6 _ _ _ _ _ _ _), below_put7 _ _ _ _ _ _ _ hW4 (by omega)⟩
    · have hif : (if (st1.p.length : Int) + 1 - 20 < 0 then (0 : Int) else (st1.p.length : Int) + 1 - 20) = 1 := by split <;> omega
      have hdr0 : (st1.p ++ [st.d]).drop ((st1.p ++ [st.d]).length - 20) = (st1.p ++ [st.d]).drop 1 := by
        rw [List.length_append, List.length_singleton, show st1.p.length + 1 - 20 = 1 by omega]
      have hc71 : ¬ c7 = 1 := by omega
      have hle1 : (1 : Int) ≤ (st1.p.length : Int) + 1 := by omega
      rw [hdr0] at hpu
      replace hpu := Lib.hid hpu
      clear h20 hdr0
      have hl19 := Lib.hid (show st1.p.length - 19 = 1 by omega)
      go_upto_region 31 with (fail)
      rw [hl19.out, Nat.one_mul]
      have M6 := M5.cut (by simp) (by omega)
      generalize Y5.setCell ⟨B, 6, none⟩ (.slice (some ⟨g7, o7 + 3, none⟩) (st1.p.length + 1 - 1) (c7 - 1)) = Y6 at M6 ⊢
      have bR6 := bR.grown M6.bl
      clear M5 x6 e6 hlB5 bR5 hif hc71 hle1
      generalize hst6 : ({ st1 with p := (st1.p ++ [st.d]).drop 1 } : St) = s6 at M6 hpu
      replace hst6 := Lib.hid hst6
      have x0 := M6.b.cell 0 rfl
      have x1 := M6.b.cell 1 rfl
      have x2 := M6.b.cell 2 rfl
      have x3 := M6.b.cell 3 rfl
      have x4 := M6.b.cell 4 rfl
      have x5 := M6.b.cell 5 rfl
      have x6 := M6.b.cell 6 rfl
      have r0 := bR6.cell 0 rfl
      have r1 := bR6.cell 1 rfl
      have r2 := bR6.cell 2 rfl
      have r3 := bR6.cell 3 rfl
      have r4 := bR6.cell 4 rfl
      have r5 := bR6.cell 5 rfl
      have r6 := bR6.cell 6 rfl
      have e0 := bR6.frozen 0
      have e1 := bR6.frozen 1
      have e2 := bR6.frozen 2
      have e3 := bR6.frozen 3
      have e4 := bR6.frozen 4
      have e5 := bR6.frozen 5
      have e6 := bR6.frozen 6
      have hWs2 := hWs.out
      have hW4 := hB.trans (M6.bl.mono hB.size)
      go_wp2
      refine bodyPost_ret (ret_cell_tmp Try.results28 rfl rfl (bR6.put7 _ _ _ _ _ _ _) Try.underlying42 size42) rfl ?_
      rw [hpu.out]
      exact ⟨_, _, _, _, kshift κ2, rfl, (M6.o.mv (Mv.low _ hB.size)).mv (Mv.put7 _ bR6 _ _ _ _ _ _ _), below_put7 _ _ _ _ _ _ _ hW4 (by omega)⟩
  · rw [hq] at heq
    have hpu : pushF st st1 = st1 := by
      unfold pushF
      rw [if_pos hq]
    replace hpu := Lib.hid hpu
    clear hq
    replace heq := Lib.hid heq
    go_wp2_with fail
    refine heq.out.mono ?_
    rintro e Y6 ⟨rfl, hb4⟩
    have M6 := M1.below hb4
    have bR6 := bR.grown M6.bl
    clear r0 r1 r2 t0 t1 t2 heq M1 bS' hb4
    have x0 := M6.b.cell 0 rfl
    have x1 := M6.b.cell 1 rfl
    have x2 := M6.b.cell 2 rfl
    have x3 := M6.b.cell 3 rfl
    have x4 := M6.b.cell 4 rfl
    have x5 := M6.b.cell 5 rfl
    have x6 := M6.b.cell 6 rfl
    have r0 := bR6.cell 0 rfl
    have r1 := bR6.cell 1 rfl
    have r2 := bR6.cell 2 rfl
    have r3 := bR6.cell 3 rfl
    have r4 := bR6.cell 4 rfl
    have r5 := bR6.cell 5 rfl
    have r6 := bR6.cell 6 rfl
    have e0 := bR6.frozen 0
    have e1 := bR6.frozen 1
    have e2 := bR6.frozen 2
    have e3 := bR6.frozen 3
    have e4 := bR6.frozen 4
    have e5 := bR6.frozen 5
    have e6 := bR6.frozen 6
    have hWs2 := hWs.out
    have hW4 := hB.trans (M6.bl.mono hB.size)
    go_wp2
    refine bodyPost_ret (ret_cell_tmp Try.results28 rfl rfl (bR6.put7 _ _ _ _ _ _ _) Try.underlying42 size42) rfl ?_
    rw [hpu.out]
    exact ⟨_, _, _, _, κ1, rfl, (M6.o.mv (Mv.low _ hB.size)).mv (Mv.put7 _ bR6 _ _ _ _ _ _ _), below_put7 _ _ _ _ _ _ _ hW4 (by omega)⟩
end Go.Proofs.Ytgnamahdchefnaa
namespace Go.Proofs.Ytgnamahdchefnaa
open Go.RowKit Go.Shelf

set_option linter.unusedVariables false in
set_option maxRecDepth 100000 in
set_option maxHeartbeats 8000000 in
theorem ldo_k8 (x y xd xg xv xp : Value) (C : Con) (st : St) (d i : Int) (w : World) (hC : C.Ok) (hr : ConR w x y C) (hst : StR w xd xg xv xp st) (hS : SoundP C st) (hpos : posF C st 8 d i = 0) :
    Calls Try.prog 28 #[conV x y C.co C.ge C.lv, stV xd st.d.c st.d.o st.l xg xv xp, evV 8 d i] w (LDoPost (doF C st 8 d i) w) := by
  have hdo : doF C st 8 d i = pushF st (actF C st 8 d.toNat i.toNat) := by unfold doF; rw [if_neg (by decide)]
  rw [hdo]
  clear hdo
  obtain ⟨st1, hst1⟩ : ∃ st1, actF C st 8 d.toNat i.toNat = st1 := ⟨_, rfl⟩
  rw [hst1]
  have hpos0 := hpos
  unfold posF at hpos
  simp at hpos
  obtain ⟨m, rfl⟩ : ∃ m : Nat, i = m := ⟨i.toNat, by omega⟩
  try simp only [Int.toNat_natCast] at hst1
  replace hst1 := Lib.hid hst1
  obtain ⟨a1, cap1, rfl⟩ := hr.s.len
  obtain ⟨a2, cap2, rfl⟩ := hr.d.lenV hC.dl
  obtain ⟨a3, cap3, rfl⟩ := hst.d.len
  obtain ⟨a4, cap4, rfl⟩ := SlOf.len hst.g
  obtain ⟨a5, cap5, rfl⟩ := SlOf.len hst.v
  obtain ⟨a6, cap6, rfl⟩ := hst.p.len
  have hB := ((((Below.refl w.heap.size w).alloc (Nat.le_refl _) (.cells #[.slice a1 C.s.length cap1, .int .i64 C.co, .int .i64 C.ge, .slice a2 C.s.length cap2, .int .i64 C.lv] 32)).alloc (by simp) (.cells #[.slice a3 st.d.s.length cap3, .int .u64 st.d.c, .int .u64 st.d.o, .int .i64 st.l, .slice a4 st.g.length cap4, .slice a5 st.v.length cap5, .slice a6 st.p.length cap6] 42)).alloc (by simp; omega) (.cells #[.int .i64 8, .int .i64 d, .int .i64 (m : Int)] 28)).alloc (by simp; omega) (.cells #[.slice none 0 0, .int .u64 0, .int .u64 0, .int .i64 0, .slice none 0 0, .slice none 0 0, .slice none 0 0] 42)
  have bC := (((BoxC.new w 32 #[.slice a1 C.s.length cap1, .int .i64 C.co, .int .i64 C.ge, .slice a2 C.s.length cap2, .int .i64 C.lv]).alloc (.cells #[.slice a3 st.d.s.length cap3, .int .u64 st.d.c, .int .u64 st.d.o, .int .i64 st.l, .slice a4 st.g.length cap4, .slice a5 st.v.length cap5, .slice a6 st.p.length cap6] 42)).alloc (.cells #[.int .i64 8, .int .i64 d, .int .i64 (m : Int)] 28)).alloc (.cells #[.slice none 0 0, .int .u64 0, .int .u64 0, .int .i64 0, .slice none 0 0, .slice none 0 0, .slice none 0 0] 42)
  have bS := ((BoxC.new (w.alloc (.cells #[.slice a1 C.s.length cap1, .int .i64 C.co, .int .i64 C.ge, .slice a2 C.s.length cap2, .int .i64 C.lv] 32)) 42 #[.slice a3 st.d.s.length cap3, .int .u64 st.d.c, .int .u64 st.d.o, .int .i64 st.l, .slice a4 st.g.length cap4, .slice a5 st.v.length cap5, .slice a6 st.p.length cap6]).alloc (.cells #[.int .i64 8, .int .i64 d, .int .i64 (m : Int)] 28)).alloc (.cells #[.slice none 0 0, .int .u64 0, .int .u64 0, .int .i64 0, .slice none 0 0, .slice none 0 0, .slice none 0 0] 42)
  have bE := (BoxC.new ((w.alloc (.cells #[.slice a1 C.s.length cap1, .int .i64 C.co, .int .i64 C.ge, .slice a2 C.s.length cap2, .int .i64 C.lv] 32)).alloc (.cells #[.slice a3 st.d.s.length cap3, .int .u64 st.d.c, .int .u64 st.d.o, .int .i64 st.l, .slice a4 st.g.length cap4, .slice a5 st.v.length cap5, .slice a6 st.p.length cap6] 42)) 28 #[.int .i64 8, .int .i64 d, .int .i64 (m : Int)]).alloc (.cells #[.slice none 0 0, .int .u64 0, .int .u64 0, .int .i64 0, .slice none 0 0, .slice none 0 0, .slice none 0 0] 42)
  have bR := BoxC.new (((w.alloc (.cells #[.slice a1 C.s.length cap1, .int .i64 C.co, .int .i64 C.ge, .slice a2 C.s.length cap2, .int .i64 C.lv] 32)).alloc (.cells #[.slice a3 st.d.s.length cap3, .int .u64 st.d.c, .int .u64 st.d.o, .int .i64 st.l, .slice a4 st.g.length cap4, .slice a5 st.v.length cap5, .slice a6 st.p.length cap6] 42)).alloc (.cells #[.int .i64 8, .int .i64 d, .int .i64 (m : Int)] 28)) 42 #[.slice none 0 0, .int .u64 0, .int .u64 0, .int .i64 0, .slice none 0 0, .slice none 0 0, .slice none 0 0]
  simp only [World.size_alloc] at bS bE bR
  have hpp := lawPossible_any (.slice a1 C.s.length cap1) (.slice a2 C.s.length cap2) (.slice a3 st.d.s.length cap3) (.slice a4 st.g.length cap4) (.slice a5 st.v.length cap5) (.slice a6 st.p.length cap6) C st 8 d (m : Int) _ hC (hr.mono hB) (hst.mono hB)
  rw [hpos0] at hpp
  replace hpp := Lib.hid hpp
  have hF := hS.fit hC
  have hsl : st.d.s.length ≤ 1000 := hF.d
  have hslC := Lib.hid hS.d.n
  have hpn := hS.pn
  have hS0 := Lib.hid hS
  have hC0 := Lib.hid hC
  have hst0 := Lib.hid (hst.mono hB)
  have hr0 := Lib.hid (hr.mono hB)
  clear hS hC hst hr hpos0
  go_enter Try.func28, Try.ntmps28
  go_wp2_with fail
  generalize hW : (((w.alloc (.cells #[.slice a1 C.s.length cap1, .int .i64 C.co, .int .i64 C.ge, .slice a2 C.s.length cap2, .int .i64 C.lv] 32)).alloc (.cells #[.slice a3 st.d.s.length cap3, .int .u64 st.d.c, .int .u64 st.d.o, .int .i64 st.l, .slice a4 st.g.length cap4, .slice a5 st.v.length cap5, .slice a6 st.p.length cap6] 42)).alloc (.cells #[.int .i64 8, .int .i64 d, .int .i64 (m : Int)] 28)).alloc (.cells #[.slice none 0 0, .int .u64 0, .int .u64 0, .int .i64 0, .slice none 0 0, .slice none 0 0, .slice none 0 0] 42) = W at hB bC bS bE bR hpp hst0 hr0 ⊢
  have hWs : W.heap.size = w.heap.size + 4 := by rw [← hW]; simp
  clear hW
  replace hWs := Lib.hid hWs
  refine hpp.out.mono ?_
  rintro e w1 ⟨rfl, hb1⟩
  have bS1 := bS.grown hb1
  have htw := twin_any (.slice a3 st.d.s.length cap3) (.slice a4 st.g.length cap4) (.slice a5 st.v.length cap5) (.slice a6 st.p.length cap6) st w1 (hst0.out.mono hb1) hF
  replace htw := Lib.hid htw
  have x0 := bS1.cell 0 rfl
  have x1 := bS1.cell 1 rfl
  have x2 := bS1.cell 2 rfl
  have x3 := bS1.cell 3 rfl
  have x4 := bS1.cell 4 rfl
  have x5 := bS1.cell 5 rfl
  have x6 := bS1.cell 6 rfl
  clear bS1
  go_wp2_with fail
  refine htw.out.mono ?_
  rintro e w2 ⟨yd, yg, yv, yp, κ, rfl, hO, hb2⟩
  obtain ⟨g3, q3, rfl⟩ := hO.d.len
  obtain ⟨g4, q4, rfl⟩ := SlOf.len hO.g.rd
  obtain ⟨g5, q5, rfl⟩ := SlOf.len hO.v.rd
  obtain ⟨g6, q6, rfl⟩ := hO.p.rd.len
  have hb12 := hb1.trans (hb2.mono hb1.size)
  have hb3 := (Below.refl w2.heap.size w2).alloc (Nat.le_refl _) (.cells #[.slice g3 st.d.s.length q3, .int .u64 st.d.c, .int .u64 st.d.o, .int .i64 st.l, .slice g4 st.g.length q4, .slice g5 st.v.length q5, .slice g6 st.p.length q6] 42)
  have M : LMid W.heap.size κ W w2.heap.size st (.slice g3 st.d.s.length q3) (.slice g4 st.g.length q4) (.slice g5 st.v.length q5) (.slice g6 st.p.length q6) (w2.alloc (.cells #[.slice g3 st.d.s.length q3, .int .u64 st.d.c, .int .u64 st.d.o, .int .i64 st.l, .slice g4 st.g.length q4, .slice g5 st.v.length q5, .slice g6 st.p.length q6] 42)) := {
    b := BoxC.new w2 42 _
    o := (hO.mv (Mv.low _ hb1.size)).below hb3
    bl := hb12.trans (hb3.mono hb12.size)
    le := hb12.size
    ls := Nat.le_trans hb12.size hb3.size }
  have z0 := (bE.grown hb12).cell 0 rfl
  have z1 := (bE.grown hb12).cell 1 rfl
  have z2 := (bE.grown hb12).cell 2 rfl
  have hzE := (bE.grown hb12).lt
  clear htw hO x0 x1 x2 x3 x4 x5 x6 hpp
  go_upto_region 21 with (fail)
  generalize w2.alloc (.cells #[.slice g3 st.d.s.length q3, .int .u64 st.d.c, .int .u64 st.d.o, .int .i64 st.l, .slice g4 st.g.length q4, .slice g5 st.v.length q5, .slice g6 st.p.length q6] 42) = Z at M hb3 ⊢
  generalize w2.heap.size = B at M hb3 ⊢
  have bE' := bE.grown M.bl
  have hZ4 : w.heap.size + 4 ≤ B := by have := M.le; have := hWs.out; omega
  generalize κ = κ1 at M
  clear hb12 hb3 hb2 hb1 z0 z1 z2 hzE
  have hact : st1 = ⟨st.d, (m : Int), st.g, st.v, st.p⟩ := by rw [← hst1.out]; simp [actF]
  have y2 := bE'.cell 2 rfl
  have x3 := M.b.cell 3 rfl
  have f3 := M.b.frozen 3
  go_upto_region 28 with (fail)
  have M1 : LMid W.heap.size κ1 W B st1 (.slice g3 st.d.s.length q3) (.slice g4 st.g.length q4) (.slice g5 st.v.length q5) (.slice g6 st.p.length q6) (Z.setCell ⟨B, 3, none⟩ (.int .i64 (m : Int))) := by
    rw [hact]
    exact M.put (st' := ⟨st.d, (m : Int), st.g, st.v, st.p⟩) 3 (.int .i64 (m : Int)) rfl rfl rfl rfl rfl
  generalize Z.setCell ⟨B, 3, none⟩ (.int .i64 (m : Int)) = Y at M1 ⊢
  clear M y2 x3 f3
  have hp1 : st1.p.length = st.p.length := by rw [hact]
  have hs1 : st1.d.s.length = C.s.length := by rw [hact]; exact hslC.out
  have hn3 := hC0.out.n
  clear hact
  have bS' := bS.grown M1.bl
  have hsY := hst0.out.mono M1.bl
  have heq := lawEqual_any (.slice g3 st.d.s.length q3) (.slice a3 st.d.s.length cap3) st1.d st.d Y M1.o.d.num hsY.d (by omega)
  have r0 := M1.b.cell 0 rfl
  have r1 := M1.b.cell 1 rfl
  have r2 := M1.b.cell 2 rfl
  have t0 := bS'.cell 0 rfl
  have t1 := bS'.cell 1 rfl
  have t2 := bS'.cell 2 rfl
  replace hp1 := Lib.hid hp1
  replace hs1 := Lib.hid hs1
  clear hsY
  cases hq : eqB st1.d st.d
  · rw [hq] at heq
    have hpu : pushF st st1 = { st1 with p := (st1.p ++ [st.d]).drop ((st1.p ++ [st.d]).length - 20) } := by
      unfold pushF
      rw [if_neg (by simp [hq])]
    clear hq
    replace heq := Lib.hid heq
    have hpuH := Lib.hid hpu
    clear hpu
    go_wp2_with fail
    refine heq.out.mono ?_
    rintro e Y2 ⟨rfl, hb4⟩
    have M2 := M1.below hb4
    have bS2 := bS'.grown hb4
    have hp20 : st1.p.length ≤ 20 := by rw [hp1.out]; exact hpn
    rw [← hp1.out] at M2
    clear r0 r1 r2 t0 t1 t2 heq M1 bS' hb4
    go_wp2_with fail
    refine reg29 hsl hp20 bS2 ⟨rfl, rfl, rfl⟩ hst0.out.d M2 ?_
    intro s p7 κ2 g7 o7 c7 Y5 M5 hc7 hm7
    have x6 := M5.b.cell 6 rfl
    have e6 := M5.b.frozen 6
    have hlB5 := M5.b.lt
    have bR5 := bR.grown M5.bl
    have hcl7 : (st1.p.length : Int) + 1 ≤ (c7 : Int) := by omega
    have hpu := hpuH.out
    clear M2 bS2 hpuH
    by_cases h20 : st1.p.length + 1 ≤ 20
    · have hif : (if (st1.p.length : Int) + 1 - 20 < 0 then (0 : Int) else (st1.p.length : Int) + 1 - 20) = 0 := by split <;> omega
      have hdr0 : (st1.p ++ [st.d]).drop ((st1.p ++ [st.d]).length - 20) = st1.p ++ [st.d] := by
        rw [List.length_append, List.length_singleton, show st1.p.length + 1 - 20 = 0 by omega, List.drop_zero]
      rw [hdr0] at hpu
      replace hpu := Lib.hid hpu
      clear h20 hdr0
      go_upto_region 31 with (fail)
      have M6 := M5.put (st' := { st1 with p := st1.p ++ [st.d] }) 6 (.slice (some ⟨g7, o7, none⟩) (st1.p.length + 1) c7) rfl rfl rfl rfl rfl
      generalize Y5.setCell ⟨B, 6, none⟩ (.slice (some ⟨g7, o7, none⟩) (st1.p.length + 1) c7) = Y6 at M6 ⊢
      have bR6 := bR.grown M6.bl
      clear M5 x6 e6 hlB5 bR5 hif
      generalize hst6 : ({ st1 with p := st1.p ++ [st.d] } : St) = s6 at M6 hpu
      replace hst6 := Lib.hid hst6
      have x0 := M6.b.cell 0 rfl
      have x1 := M6.b.cell 1 rfl
      have x2 := M6.b.cell 2 rfl
      have x3 := M6.b.cell 3 rfl
      have x4 := M6.b.cell 4 rfl
      have x5 := M6.b.cell 5 rfl
      have x6 := M6.b.cell 6 rfl
      have r0 := bR6.cell 0 rfl
      have r1 := bR6.cell 1 rfl
      have r2 := bR6.cell 2 rfl
      have r3 := bR6.cell 3 rfl
      have r4 := bR6.cell 4 rfl
      have r5 := bR6.cell 5 rfl
      have r6 := bR6.cell 6 rfl
      have e0 := bR6.frozen 0
      have e1 := bR6.frozen 1
      have e2 := bR6.frozen 2
      have e3 := bR6.frozen 3
      have e4 := bR6.frozen 4
      have e5 := bR6.frozen 5
      have e6 := bR6.frozen 6
      have hWs2 := hWs.out
      have hW4 := hB.trans (M6.bl.mono hB.size)
      go_wp2
      refine bodyPost_ret (ret_cell_tmp Try.results28 rfl rfl (bR6.put7 _ _ _ _ _ _ _) Try.underlying42 size42) rfl ?_
      rw [hpu.out]
      exact ⟨_, _, _, _, κ2, rfl, (M6.o.mv (Mv.low _ hB.size)).mv (Mv.put7 _ bR6 _ _ _ _ _ _ _), below_put7 _ _ _ _ _ _ _ hW4 (by omega)⟩
    · have hif : (if (st1.p.length : Int) + 1 - 20 < 0 then (0 : Int) else (st1.p.length : Int) + 1 - 20) = 1 := by split <;> omega
      have hdr0 : (st1.p ++ [st.d]).drop ((st1.p ++ [st.d]).length - 20) = (st1.p ++ [st.d]).drop 1 := by
        rw [List.length_append, List.length_singleton, show st1.p.length + 1 - 20 = 1 by omega]
      have hc71 : ¬ c7 = 1 := by omega
      have hle1 : (1 : Int) ≤ (st1.p.length : Int) + 1 := by omega
      rw [hdr0] at hpu
      replace hpu := Lib.hid hpu
      clear h20 hdr0
      have hl19 := Lib.hid (show st1.p.length - 19 = 1 by omega)
      go_upto_region 31 with (fail)
      rw [hl19.out, Nat.one_mul]
      have M6 := M5.cut (by simp) (by omega)
      generalize Y5.setCell ⟨B, 6, none⟩ (.slice (some ⟨g7, o7 + 3, none⟩) (st1.p.length + 1 - 1) (c7 - 1)) = Y6 at M6 ⊢
      have bR6 := bR.grown M6.bl
      clear M5 x6 e6 hlB5 bR5 hif hc71 hle1
      generalize hst6 : ({ st1 with p := (st1.p ++ [st.d]).drop 1 } : St) = s6 at M6 hpu
      replace hst6 := Lib.hid hst6
      have x0 := M6.b.cell 0 rfl
      have x1 := M6.b.cell 1 rfl
      have x2 := M6.b.cell 2 rfl
      have x3 := M6.b.cell 3 rfl
      have x4 := M6.b.cell 4 rfl
      have x5 := M6.b.cell 5 rfl
      have x6 := M6.b.cell 6 rfl
      have r0 := bR6.cell 0 rfl
      have r1 := bR6.cell 1 rfl
      have r2 := bR6.cell 2 rfl
      have r3 := bR6.cell 3 rfl
      have r4 := bR6.cell 4 rfl
      have r5 := bR6.cell 5 rfl
      have r6 := bR6.cell 6 rfl
      have e0 := bR6.frozen 0
      have e1 := bR6.frozen 1
      have e2 := bR6.frozen 2
      have e3 := bR6.frozen 3
      have e4 := bR6.frozen 4
      have e5 := bR6.frozen 5
      have e6 := bR6.frozen 6
      have hWs2 := hWs.out
      have hW4 := hB.trans (M6.bl.mono hB.size)
      go_wp2
      refine bodyPost_ret (ret_cell_tmp Try.results28 rfl rfl (bR6.put7 _ _ _ _ _ _ _) Try.underlying42 size42) rfl ?_
      rw [hpu.out]
      exact ⟨_, _, _, _, kshift κ2, rfl, (M6.o.mv (Mv.low _ hB.size)).mv (Mv.put7 _ bR6 _ _ _ _ _ _ _), below_put7 _ _ _ _ _ _ _ hW4 (by omega)⟩
  · rw [hq] at heq
    have hpu : pushF st st1 = st1 := by
      unfold pushF
      rw [if_pos hq]
    replace hpu := Lib.hid hpu
    clear hq
    replace heq := Lib.hid heq
    go_wp2_with fail
    refine heq.out.mono ?_
    rintro e Y6 ⟨rfl, hb4⟩
    have M6 := M1.below hb4
    have bR6 := bR.grown M6.bl
    clear r0 r1 r2 t0 t1 t2 heq M1 bS' hb4
    have x0 := M6.b.cell 0 rfl
    have x1 := M6.b.cell 1 rfl
    have x2 := M6.b.cell 2 rfl
    have x3 := M6.b.cell 3 rfl
    have x4 := M6.b.cell 4 rfl
    have x5 := M6.b.cell 5 rfl
    have x6 := M6.b.cell 6 rfl
    have r0 := bR6.cell 0 rfl
    have r1 := bR6.cell 1 rfl
    have r2 := bR6.cell 2 rfl
    have r3 := bR6.cell 3 rfl
    have r4 := bR6.cell 4 rfl
    have r5 := bR6.cell 5 rfl
    have r6 := bR6.cell 6 rfl
    have e0 := bR6.frozen 0
    have e1 := bR6.frozen 1
    have e2 := bR6.frozen 2
    have e3 := bR6.frozen 3
    have e4 := bR6.frozen 4
    have e5 := bR6.frozen 5
    have e6 := bR6.frozen 6
    have hWs2 := hWs.out
    have hW4 := hB.trans (M6.bl.mono hB.size)
    go_wp2
    refine bodyPost_ret (ret_cell_tmp Try.results28 rfl rfl (bR6.put7 _ _ _ _ _ _ _) Try.underlying42 size42) rfl ?_
    rw [hpu.out]
    exact ⟨_, _, _, _, κ1, rfl, (M6.o.mv (Mv.low _ hB.size)).mv (Mv.put7 _ bR6 _ _ _ _ _ _ _), below_put7 _ _ _ _ _ _ _ hW4 (by omega)⟩
end Go.Proofs.Ytgnamahdchefnaa
namespace Go.Proofs.Ytgnamahdchefnaa
open Go.RowKit Go.Shelf

set_option linter.unusedVariables false in
set_option maxRecDepth 100000 in
set_option maxHeartbeats 8000000 in
theorem ldo_k9 (x y xd xg xv xp : Value) (C : Con) (st : St) (d i : Int) (w : World) (hC : C.Ok) (hr : ConR w x y C) (hst : StR w xd xg xv xp st) (hS : SoundP C st) (hpos : posF C st 9 d i = 0) :
    Calls Try.prog 28 #[conV x y C.co C.ge C.lv, stV xd st.d.c st.d.o st.l xg xv xp, evV 9 d i] w (LDoPost (doF C st 9 d i) w) := by
  have hdo : doF C st 9 d i = pushF st (actF C st 9 d.toNat i.toNat) := by unfold doF; rw [if_neg (by decide)]
  rw [hdo]
  clear hdo
  obtain ⟨st1, hst1⟩ : ∃ st1, actF C st 9 d.toNat i.toNat = st1 := ⟨_, rfl⟩
  rw [hst1]
  have hpos0 := hpos
  unfold posF at hpos
  simp at hpos
  try simp only [Int.toNat_natCast] at hst1
  replace hst1 := Lib.hid hst1
  obtain ⟨a1, cap1, rfl⟩ := hr.s.len
  obtain ⟨a2, cap2, rfl⟩ := hr.d.lenV hC.dl
  obtain ⟨a3, cap3, rfl⟩ := hst.d.len
  obtain ⟨a4, cap4, rfl⟩ := SlOf.len hst.g
  obtain ⟨a5, cap5, rfl⟩ := SlOf.len hst.v
  obtain ⟨a6, cap6, rfl⟩ := hst.p.len
  have hB := ((((Below.refl w.heap.size w).alloc (Nat.le_refl _) (.cells #[.slice a1 C.s.length cap1, .int .i64 C.co, .int .i64 C.ge, .slice a2 C.s.length cap2, .int .i64 C.lv] 32)).alloc (by simp) (.cells #[.slice a3 st.d.s.length cap3, .int .u64 st.d.c, .int .u64 st.d.o, .int .i64 st.l, .slice a4 st.g.length cap4, .slice a5 st.v.length cap5, .slice a6 st.p.length cap6] 42)).alloc (by simp; omega) (.cells #[.int .i64 9, .int .i64 d, .int .i64 i] 28)).alloc (by simp; omega) (.cells #[.slice none 0 0, .int .u64 0, .int .u64 0, .int .i64 0, .slice none 0 0, .slice none 0 0, .slice none 0 0] 42)
  have bC := (((BoxC.new w 32 #[.slice a1 C.s.length cap1, .int .i64 C.co, .int .i64 C.ge, .slice a2 C.s.length cap2, .int .i64 C.lv]).alloc (.cells #[.slice a3 st.d.s.length cap3, .int .u64 st.d.c, .int .u64 st.d.o, .int .i64 st.l, .slice a4 st.g.length cap4, .slice a5 st.v.length cap5, .slice a6 st.p.length cap6] 42)).alloc (.cells #[.int .i64 9, .int .i64 d, .int .i64 i] 28)).alloc (.cells #[.slice none 0 0, .int .u64 0, .int .u64 0, .int .i64 0, .slice none 0 0, .slice none 0 0, .slice none 0 0] 42)
  have bS := ((BoxC.new (w.alloc (.cells #[.slice a1 C.s.length cap1, .int .i64 C.co, .int .i64 C.ge, .slice a2 C.s.length cap2, .int .i64 C.lv] 32)) 42 #[.slice a3 st.d.s.length cap3, .int .u64 st.d.c, .int .u64 st.d.o, .int .i64 st.l, .slice a4 st.g.length cap4, .slice a5 st.v.length cap5, .slice a6 st.p.length cap6]).alloc (.cells #[.int .i64 9, .int .i64 d, .int .i64 i] 28)).alloc (.cells #[.slice none 0 0, .int .u64 0, .int .u64 0, .int .i64 0, .slice none 0 0, .slice none 0 0, .slice none 0 0] 42)
  have bE := (BoxC.new ((w.alloc (.cells #[.slice a1 C.s.length cap1, .int .i64 C.co, .int .i64 C.ge, .slice a2 C.s.length cap2, .int .i64 C.lv] 32)).alloc (.cells #[.slice a3 st.d.s.length cap3, .int .u64 st.d.c, .int .u64 st.d.o, .int .i64 st.l, .slice a4 st.g.length cap4, .slice a5 st.v.length cap5, .slice a6 st.p.length cap6] 42)) 28 #[.int .i64 9, .int .i64 d, .int .i64 i]).alloc (.cells #[.slice none 0 0, .int .u64 0, .int .u64 0, .int .i64 0, .slice none 0 0, .slice none 0 0, .slice none 0 0] 42)
  have bR := BoxC.new (((w.alloc (.cells #[.slice a1 C.s.length cap1, .int .i64 C.co, .int .i64 C.ge, .slice a2 C.s.length cap2, .int .i64 C.lv] 32)).alloc (.cells #[.slice a3 st.d.s.length cap3, .int .u64 st.d.c, .int .u64 st.d.o, .int .i64 st.l, .slice a4 st.g.length cap4, .slice a5 st.v.length cap5, .slice a6 st.p.length cap6] 42)).alloc (.cells #[.int .i64 9, .int .i64 d, .int .i64 i] 28)) 42 #[.slice none 0 0, .int .u64 0, .int .u64 0, .int .i64 0, .slice none 0 0, .slice none 0 0, .slice none 0 0]
  simp only [World.size_alloc] at bS bE bR
  have hpp := lawPossible_any (.slice a1 C.s.length cap1) (.slice a2 C.s.length cap2) (.slice a3 st.d.s.length cap3) (.slice a4 st.g.length cap4) (.slice a5 st.v.length cap5) (.slice a6 st.p.length cap6) C st 9 d i _ hC (hr.mono hB) (hst.mono hB)
  rw [hpos0] at hpp
  replace hpp := Lib.hid hpp
  have hF := hS.fit hC
  have hsl : st.d.s.length ≤ 1000 := hF.d
  have hslC := Lib.hid hS.d.n
  have hpn := hS.pn
  have hS0 := Lib.hid hS
  have hC0 := Lib.hid hC
  have hst0 := Lib.hid (hst.mono hB)
  have hr0 := Lib.hid (hr.mono hB)
  clear hS hC hst hr hpos0
  go_enter Try.func28, Try.ntmps28
  go_wp2_with fail
  generalize hW : (((w.alloc (.cells #[.slice a1 C.s.length cap1, .int .i64 C.co, .int .i64 C.ge, .slice a2 C.s.length cap2, .int .i64 C.lv] 32)).alloc (.cells #[.slice a3 st.d.s.length cap3, .int .u64 st.d.c, .int .u64 st.d.o, .int .i64 st.l, .slice a4 st.g.length cap4, .slice a5 st.v.length cap5, .slice a6 st.p.length cap6] 42)).alloc (.cells #[.int .i64 9, .int .i64 d, .int .i64 i] 28)).alloc (.cells #[.slice none 0 0, .int .u64 0, .int .u64 0, .int .i64 0, .slice none 0 0, .slice none 0 0, .slice none 0 0] 42) = W at hB bC bS bE bR hpp hst0 hr0 ⊢
  have hWs : W.heap.size = w.heap.size + 4 := by rw [← hW]; simp
  clear hW
  replace hWs := Lib.hid hWs
  refine hpp.out.mono ?_
  rintro e w1 ⟨rfl, hb1⟩
  have bS1 := bS.grown hb1
  have htw := twin_any (.slice a3 st.d.s.length cap3) (.slice a4 st.g.length cap4) (.slice a5 st.v.length cap5) (.slice a6 st.p.length cap6) st w1 (hst0.out.mono hb1) hF
  replace htw := Lib.hid htw
  have x0 := bS1.cell 0 rfl
  have x1 := bS1.cell 1 rfl
  have x2 := bS1.cell 2 rfl
  have x3 := bS1.cell 3 rfl
  have x4 := bS1.cell 4 rfl
  have x5 := bS1.cell 5 rfl
  have x6 := bS1.cell 6 rfl
  clear bS1
  go_wp2_with fail
  refine htw.out.mono ?_
  rintro e w2 ⟨yd, yg, yv, yp, κ, rfl, hO, hb2⟩
  obtain ⟨g3, q3, rfl⟩ := hO.d.len
  obtain ⟨g4, q4, rfl⟩ := SlOf.len hO.g.rd
  obtain ⟨g5, q5, rfl⟩ := SlOf.len hO.v.rd
  obtain ⟨g6, q6, rfl⟩ := hO.p.rd.len
  have hb12 := hb1.trans (hb2.mono hb1.size)
  have hb3 := (Below.refl w2.heap.size w2).alloc (Nat.le_refl _) (.cells #[.slice g3 st.d.s.length q3, .int .u64 st.d.c, .int .u64 st.d.o, .int .i64 st.l, .slice g4 st.g.length q4, .slice g5 st.v.length q5, .slice g6 st.p.length q6] 42)
  have M : LMid W.heap.size κ W w2.heap.size st (.slice g3 st.d.s.length q3) (.slice g4 st.g.length q4) (.slice g5 st.v.length q5) (.slice g6 st.p.length q6) (w2.alloc (.cells #[.slice g3 st.d.s.length q3, .int .u64 st.d.c, .int .u64 st.d.o, .int .i64 st.l, .slice g4 st.g.length q4, .slice g5 st.v.length q5, .slice g6 st.p.length q6] 42)) := {
    b := BoxC.new w2 42 _
    o := (hO.mv (Mv.low _ hb1.size)).below hb3
    bl := hb12.trans (hb3.mono hb12.size)
    le := hb12.size
    ls := Nat.le_trans hb12.size hb3.size }
  have z0 := (bE.grown hb12).cell 0 rfl
  have z1 := (bE.grown hb12).cell 1 rfl
  have z2 := (bE.grown hb12).cell 2 rfl
  have hzE := (bE.grown hb12).lt
  clear htw hO x0 x1 x2 x3 x4 x5 x6 hpp
  go_upto_region 23 with (fail)
  generalize w2.alloc (.cells #[.slice g3 st.d.s.length q3, .int .u64 st.d.c, .int .u64 st.d.o, .int .i64 st.l, .slice g4 st.g.length q4, .slice g5 st.v.length q5, .slice g6 st.p.length q6] 42) = Z at M hb3 ⊢
  generalize w2.heap.size = B at M hb3 ⊢
  have bE' := bE.grown M.bl
  have hZ4 : w.heap.size + 4 ≤ B := by have := M.le; have := hWs.out; omega
  generalize κ = κ1 at M
  clear hb12 hb3 hb2 hb1 z0 z1 z2 hzE
  have hact : st1 = ⟨noneR C, st.l, st.g, st.v, st.p⟩ := by rw [← hst1.out]; simp [actF]
  have bC' := bC.grown M.bl
  have hnone := Drawn_any (.slice a1 C.s.length cap1) (.slice a2 C.s.length cap2) (.slice none 0 0) C [] Z hC0.out (hr0.out.mono M.bl) (num_nil _ _) (fun k hk => by simp at hk) (by simp)
  rw [draw_nil] at hnone
  replace hnone := Lib.hid hnone
  have p0 := bC'.cell 0 rfl
  have p1 := bC'.cell 1 rfl
  have p2 := bC'.cell 2 rfl
  have p3 := bC'.cell 3 rfl
  have p4 := bC'.cell 4 rfl
  go_wp2_with fail
  refine hnone.out.mono ?_
  rintro e w3 ⟨xn, rfl, hn, hb3⟩
  obtain ⟨an, capn, rfl⟩ := hn.num.len
  have M2 := M.grown (N := Z.heap.size) hb3 (0, 0, 0) (Nat.le_refl _)
  have hn2 : RowU W.heap.size (kfrom κ1 Z.heap.size (0, 0, 0)) (0, 0, 0) (.slice an (noneR C).s.length capn) (noneR C).s w3 := hn.row M.ls κ1 (0, 0, 0)
  have M1 := M2.draw (noneR C) (.slice an (noneR C).s.length capn) hn2
  rw [show ({ st with d := noneR C } : St) = st1 from hact.symm] at M1
  have e0 := M2.b.cell 0 rfl
  have e1 := M2.b.cell 1 rfl
  have e2 := M2.b.cell 2 rfl
  have f0 := M2.b.frozen 0
  have f1 := M2.b.frozen 1
  have f2 := M2.b.frozen 2
  generalize hnl9 : (noneR C).s.length = nl9 at *
  generalize hnc9 : (noneR C).c = nc9 at *
  generalize hno9 : (noneR C).o = no9 at *
  replace hact := Lib.hid hact
  replace hnl9 := Lib.hid hnl9
  clear hnc9 hno9 hnone hn hn2 p0 p1 p2 p3 p4 bC'
  go_upto_region 28 with (fail)
  replace hact := hact.out
  generalize kfrom κ1 Z.heap.size (0, 0, 0) = κ3 at *
  change LMid _ _ _ _ _ _ _ _ _ (((w3.setCell ⟨B, 0, none⟩ (.slice an nl9 capn)).setCell ⟨B, 1, none⟩ (.int .u64 nc9)).setCell ⟨B, 2, none⟩ (.int .u64 no9)) at M1
  generalize ((w3.setCell ⟨B, 0, none⟩ (.slice an nl9 capn)).setCell ⟨B, 1, none⟩ (.int .u64 nc9)).setCell ⟨B, 2, none⟩ (.int .u64 no9) = Y at M1 ⊢
  generalize κ3 = κ1 at *
  clear M M2 e0 e1 e2 f0 f1 f2 hb3
  have hp1 : st1.p.length = st.p.length := by rw [hact]
  have hs1 : st1.d.s.length = C.s.length := by rw [hact]; simp [noneR, zeros_len]
  have hn3 := hC0.out.n
  clear hact
  have bS' := bS.grown M1.bl
  have hsY := hst0.out.mono M1.bl
  have heq := lawEqual_any (.slice an nl9 capn) (.slice a3 st.d.s.length cap3) st1.d st.d Y M1.o.d.num hsY.d (by omega)
  have r0 := M1.b.cell 0 rfl
  have r1 := M1.b.cell 1 rfl
  have r2 := M1.b.cell 2 rfl
  have t0 := bS'.cell 0 rfl
  have t1 := bS'.cell 1 rfl
  have t2 := bS'.cell 2 rfl
  replace hp1 := Lib.hid hp1
  replace hs1 := Lib.hid hs1
  clear hsY
  cases hq : eqB st1.d st.d
  · rw [hq] at heq
    have hpu : pushF st st1 = { st1 with p := (st1.p ++ [st.d]).drop ((st1.p ++ [st.d]).length - 20) } := by
      unfold pushF
      rw [if_neg (by simp [hq])]
    clear hq
    replace heq := Lib.hid heq
    have hpuH := Lib.hid hpu
    clear hpu
    go_wp2_with fail
    refine heq.out.mono ?_
    rintro e Y2 ⟨rfl, hb4⟩
    have M2 := M1.below hb4
    have bS2 := bS'.grown hb4
    have hp20 : st1.p.length ≤ 20 := by rw [hp1.out]; exact hpn
    rw [← hp1.out] at M2
    clear r0 r1 r2 t0 t1 t2 heq M1 bS' hb4
    go_wp2_with fail
    refine reg29 hsl hp20 bS2 ⟨rfl, rfl, rfl⟩ hst0.out.d M2 ?_
    intro s p7 κ2 g7 o7 c7 Y5 M5 hc7 hm7
    have x6 := M5.b.cell 6 rfl
    have e6 := M5.b.frozen 6
    have hlB5 := M5.b.lt
    have bR5 := bR.grown M5.bl
    have hcl7 : (st1.p.length : Int) + 1 ≤ (c7 : Int) := by omega
    have hpu := hpuH.out
    clear M2 bS2 hpuH
    by_cases h20 : st1.p.length + 1 ≤ 20
    · have hif : (if (st1.p.length : Int) + 1 - 20 < 0 then (0 : Int) else (st1.p.length : Int) + 1 - 20) = 0 := by split <;> omega
      have hdr0 : (st1.p ++ [st.d]).drop ((st1.p ++ [st.d]).length - 20) = st1.p ++ [st.d] := by
        rw [List.length_append, List.length_singleton, show st1.p.length + 1 - 20 = 0 by omega, List.drop_zero]
      rw [hdr0] at hpu
      replace hpu := Lib.hid hpu
      clear h20 hdr0
      go_upto_region 31 with (fail)
      have M6 := M5.put (st' := { st1 with p := st1.p ++ [st.d] }) 6 (.slice (some ⟨g7, o7, none⟩) (st1.p.length + 1) c7) rfl rfl rfl rfl rfl
      generalize Y5.setCell ⟨B, 6, none⟩ (.slice (some ⟨g7, o7, none⟩) (st1.p.length + 1) c7) = Y6 at M6 ⊢
      have bR6 := bR.grown M6.bl
      clear M5 x6 e6 hlB5 bR5 hif
      generalize hst6 : ({ st1 with p := st1.p ++ [st.d] } : St) = s6 at M6 hpu
      replace hst6 := Lib.hid hst6
      have x0 := M6.b.cell 0 rfl
      have x1 := M6.b.cell 1 rfl
      have x2 := M6.b.cell 2 rfl
      have x3 := M6.b.cell 3 rfl
      have x4 := M6.b.cell 4 rfl
      have x5 := M6.b.cell 5 rfl
      have x6 := M6.b.cell 6 rfl
      have r0 := bR6.cell 0 rfl
      have r1 := bR6.cell 1 rfl
      have r2 := bR6.cell 2 rfl
      have r3 := bR6.cell 3 rfl
      have r4 := bR6.cell 4 rfl
      have r5 := bR6.cell 5 rfl
      have r6 := bR6.cell 6 rfl
      have e0 := bR6.frozen 0
      have e1 := bR6.frozen 1
      have e2 := bR6.frozen 2
      have e3 := bR6.frozen 3
      have e4 := bR6.frozen 4
      have e5 := bR6.frozen 5
      have e6 := bR6.frozen 6
      have hWs2 := hWs.out
      have hW4 := hB.trans (M6.bl.mono hB.size)
      go_wp2
      refine bodyPost_ret (ret_cell_tmp Try.results28 rfl rfl (bR6.put7 _ _ _ _ _ _ _) Try.underlying42 size42) rfl ?_
      rw [hpu.out]
      exact ⟨_, _, _, _, κ2, rfl, (M6.o.mv (Mv.low _ hB.size)).mv (Mv.put7 _ bR6 _ _ _ _ _ _ _), below_put7 _ _ _ _ _ _ _ hW4 (by omega)⟩
    · have hif : (if (st1.p.length : Int) + 1 - 20 < 0 then (0 : Int) else (st1.p.length : Int) + 1 - 20) = 1 := by split <;> omega
      have hdr0 : (st1.p ++ [st.d]).drop ((st1.p ++ [st.d]).length - 20) = (st1.p ++ [st.d]).drop 1 := by
        rw [List.length_append, List.length_singleton, show st1.p.length + 1 - 20 = 1 by omega]
      have hc71 : ¬ c7 = 1 := by omega
      have hle1 : (1 : Int) ≤ (st1.p.length : Int) + 1 := by omega
      rw [hdr0] at hpu
      replace hpu := Lib.hid hpu
      clear h20 hdr0
      have hl19 := Lib.hid (show st1.p.length - 19 = 1 by omega)
      go_upto_region 31 with (fail)
      rw [hl19.out, Nat.one_mul]
      have M6 := M5.cut (by simp) (by omega)
      generalize Y5.setCell ⟨B, 6, none⟩ (.slice (some ⟨g7, o7 + 3, none⟩) (st1.p.length + 1 - 1) (c7 - 1)) = Y6 at M6 ⊢
      have bR6 := bR.grown M6.bl
      clear M5 x6 e6 hlB5 bR5 hif hc71 hle1
      generalize hst6 : ({ st1 with p := (st1.p ++ [st.d]).drop 1 } : St) = s6 at M6 hpu
      replace hst6 := Lib.hid hst6
      have x0 := M6.b.cell 0 rfl
      have x1 := M6.b.cell 1 rfl
      have x2 := M6.b.cell 2 rfl
      have x3 := M6.b.cell 3 rfl
      have x4 := M6.b.cell 4 rfl
      have x5 := M6.b.cell 5 rfl
      have x6 := M6.b.cell 6 rfl
      have r0 := bR6.cell 0 rfl
      have r1 := bR6.cell 1 rfl
      have r2 := bR6.cell 2 rfl
      have r3 := bR6.cell 3 rfl
      have r4 := bR6.cell 4 rfl
      have r5 := bR6.cell 5 rfl
      have r6 := bR6.cell 6 rfl
      have e0 := bR6.frozen 0
      have e1 := bR6.frozen 1
      have e2 := bR6.frozen 2
      have e3 := bR6.frozen 3
      have e4 := bR6.frozen 4
      have e5 := bR6.frozen 5
      have e6 := bR6.frozen 6
      have hWs2 := hWs.out
      have hW4 := hB.trans (M6.bl.mono hB.size)
      go_wp2
      refine bodyPost_ret (ret_cell_tmp Try.results28 rfl rfl (bR6.put7 _ _ _ _ _ _ _) Try.underlying42 size42) rfl ?_
      rw [hpu.out]
      exact ⟨_, _, _, _, kshift κ2, rfl, (M6.o.mv (Mv.low _ hB.size)).mv (Mv.put7 _ bR6 _ _ _ _ _ _ _), below_put7 _ _ _ _ _ _ _ hW4 (by omega)⟩
  · rw [hq] at heq
    have hpu : pushF st st1 = st1 := by
      unfold pushF
      rw [if_pos hq]
    replace hpu := Lib.hid hpu
    clear hq
    replace heq := Lib.hid heq
    go_wp2_with fail
    refine heq.out.mono ?_
    rintro e Y6 ⟨rfl, hb4⟩
    have M6 := M1.below hb4
    have bR6 := bR.grown M6.bl
    clear r0 r1 r2 t0 t1 t2 heq M1 bS' hb4
    have x0 := M6.b.cell 0 rfl
    have x1 := M6.b.cell 1 rfl
    have x2 := M6.b.cell 2 rfl
    have x3 := M6.b.cell 3 rfl
    have x4 := M6.b.cell 4 rfl
    have x5 := M6.b.cell 5 rfl
    have x6 := M6.b.cell 6 rfl
    have r0 := bR6.cell 0 rfl
    have r1 := bR6.cell 1 rfl
    have r2 := bR6.cell 2 rfl
    have r3 := bR6.cell 3 rfl
    have r4 := bR6.cell 4 rfl
    have r5 := bR6.cell 5 rfl
    have r6 := bR6.cell 6 rfl
    have e0 := bR6.frozen 0
    have e1 := bR6.frozen 1
    have e2 := bR6.frozen 2
    have e3 := bR6.frozen 3
    have e4 := bR6.frozen 4
    have e5 := bR6.frozen 5
    have e6 := bR6.frozen 6
    have hWs2 := hWs.out
    have hW4 := hB.trans (M6.bl.mono hB.size)
    go_wp2
    refine bodyPost_ret (ret_cell_tmp Try.results28 rfl rfl (bR6.put7 _ _ _ _ _ _ _) Try.underlying42 size42) rfl ?_
    rw [hpu.out]
    exact ⟨_, _, _, _, κ1, rfl, (M6.o.mv (Mv.low _ hB.size)).mv (Mv.put7 _ bR6 _ _ _ _ _ _ _), below_put7 _ _ _ _ _ _ _ hW4 (by omega)⟩
end Go.Proofs.Ytgnamahdchefnaa
namespace Go.Proofs.Ytgnamahdchefnaa
open Go.RowKit Go.Shelf

set_option linter.unusedVariables false in
set_option maxRecDepth 100000 in
set_option maxHeartbeats 8000000 in
theorem ldo_k10 (x y xd xg xv xp : Value) (C : Con) (st : St) (d i : Int) (w : World) (hC : C.Ok) (hr : ConR w x y C) (hst : StR w xd xg xv xp st) (hS : SoundP C st) (hpos : posF C st 10 d i = 0) :
    Calls Try.prog 28 #[conV x y C.co C.ge C.lv, stV xd st.d.c st.d.o st.l xg xv xp, evV 10 d i] w (LDoPost (doF C st 10 d i) w) := by
  have hdo : doF C st 10 d i = undoF st := by unfold doF; rw [if_pos rfl]
  rw [hdo]
  clear hdo
  obtain ⟨st1, hst1⟩ : ∃ st1, undoF st = st1 := ⟨_, rfl⟩
  rw [hst1]
  have hpos0 := hpos
  unfold posF at hpos
  have hpl : st.p.length ≠ 0 := fun e => by simp [e] at hpos
  clear hpos
  have hpl1 : 1 ≤ st.p.length := by omega
  try simp only [Int.toNat_natCast] at hst1
  replace hst1 := Lib.hid hst1
  obtain ⟨a1, cap1, rfl⟩ := hr.s.len
  obtain ⟨a2, cap2, rfl⟩ := hr.d.lenV hC.dl
  obtain ⟨a3, cap3, rfl⟩ := hst.d.len
  obtain ⟨a4, cap4, rfl⟩ := SlOf.len hst.g
  obtain ⟨a5, cap5, rfl⟩ := SlOf.len hst.v
  obtain ⟨a6, cap6, rfl⟩ := hst.p.len
  have hB := ((((Below.refl w.heap.size w).alloc (Nat.le_refl _) (.cells #[.slice a1 C.s.length cap1, .int .i64 C.co, .int .i64 C.ge, .slice a2 C.s.length cap2, .int .i64 C.lv] 32)).alloc (by simp) (.cells #[.slice a3 st.d.s.length cap3, .int .u64 st.d.c, .int .u64 st.d.o, .int .i64 st.l, .slice a4 st.g.length cap4, .slice a5 st.v.length cap5, .slice a6 st.p.length cap6] 42)).alloc (by simp; omega) (.cells #[.int .i64 10, .int .i64 d, .int .i64 i] 28)).alloc (by simp; omega) (.cells #[.slice none 0 0, .int .u64 0, .int .u64 0, .int .i64 0, .slice none 0 0, .slice none 0 0, .slice none 0 0] 42)
  have bC := (((BoxC.new w 32 #[.slice a1 C.s.length cap1, .int .i64 C.co, .int .i64 C.ge, .slice a2 C.s.length cap2, .int .i64 C.lv]).alloc (.cells #[.slice a3 st.d.s.length cap3, .int .u64 st.d.c, .int .u64 st.d.o, .int .i64 st.l, .slice a4 st.g.length cap4, .slice a5 st.v.length cap5, .slice a6 st.p.length cap6] 42)).alloc (.cells #[.int .i64 10, .int .i64 d, .int .i64 i] 28)).alloc (.cells #[.slice none 0 0, .int .u64 0, .int .u64 0, .int .i64 0, .slice none 0 0, .slice none 0 0, .slice none 0 0] 42)
  have bS := ((BoxC.new (w.alloc (.cells #[.slice a1 C.s.length cap1, .int .i64 C.co, .int .i64 C.ge, .slice a2 C.s.length cap2, .int .i64 C.lv] 32)) 42 #[.slice a3 st.d.s.length cap3, .int .u64 st.d.c, .int .u64 st.d.o, .int .i64 st.l, .slice a4 st.g.length cap4, .slice a5 st.v.length cap5, .slice a6 st.p.length cap6]).alloc (.cells #[.int .i64 10, .int .i64 d, .int .i64 i] 28)).alloc (.cells #[.slice none 0 0, .int .u64 0, .int .u64 0, .int .i64 0, .slice none 0 0, .slice none 0 0, .slice none 0 0] 42)
  have bE := (BoxC.new ((w.alloc (.cells #[.slice a1 C.s.length cap1, .int .i64 C.co, .int .i64 C.ge, .slice a2 C.s.length cap2, .int .i64 C.lv] 32)).alloc (.cells #[.slice a3 st.d.s.length cap3, .int .u64 st.d.c, .int .u64 st.d.o, .int .i64 st.l, .slice a4 st.g.length cap4, .slice a5 st.v.length cap5, .slice a6 st.p.length cap6] 42)) 28 #[.int .i64 10, .int .i64 d, .int .i64 i]).alloc (.cells #[.slice none 0 0, .int .u64 0, .int .u64 0, .int .i64 0, .slice none 0 0, .slice none 0 0, .slice none 0 0] 42)
  have bR := BoxC.new (((w.alloc (.cells #[.slice a1 C.s.length cap1, .int .i64 C.co, .int .i64 C.ge, .slice a2 C.s.length cap2, .int .i64 C.lv] 32)).alloc (.cells #[.slice a3 st.d.s.length cap3, .int .u64 st.d.c, .int .u64 st.d.o, .int .i64 st.l, .slice a4 st.g.length cap4, .slice a5 st.v.length cap5, .slice a6 st.p.length cap6] 42)).alloc (.cells #[.int .i64 10, .int .i64 d, .int .i64 i] 28)) 42 #[.slice none 0 0, .int .u64 0, .int .u64 0, .int .i64 0, .slice none 0 0, .slice none 0 0, .slice none 0 0]
  simp only [World.size_alloc] at bS bE bR
  have hpp := lawPossible_any (.slice a1 C.s.length cap1) (.slice a2 C.s.length cap2) (.slice a3 st.d.s.length cap3) (.slice a4 st.g.length cap4) (.slice a5 st.v.length cap5) (.slice a6 st.p.length cap6) C st 10 d i _ hC (hr.mono hB) (hst.mono hB)
  rw [hpos0] at hpp
  replace hpp := Lib.hid hpp
  have hF := hS.fit hC
  have hsl : st.d.s.length ≤ 1000 := hF.d
  have hslC := Lib.hid hS.d.n
  have hpn := hS.pn
  have hS0 := Lib.hid hS
  have hC0 := Lib.hid hC
  have hst0 := Lib.hid (hst.mono hB)
  have hr0 := Lib.hid (hr.mono hB)
  clear hS hC hst hr hpos0
  go_enter Try.func28, Try.ntmps28
  go_wp2_with fail
  generalize hW : (((w.alloc (.cells #[.slice a1 C.s.length cap1, .int .i64 C.co, .int .i64 C.ge, .slice a2 C.s.length cap2, .int .i64 C.lv] 32)).alloc (.cells #[.slice a3 st.d.s.length cap3, .int .u64 st.d.c, .int .u64 st.d.o, .int .i64 st.l, .slice a4 st.g.length cap4, .slice a5 st.v.length cap5, .slice a6 st.p.length cap6] 42)).alloc (.cells #[.int .i64 10, .int .i64 d, .int .i64 i] 28)).alloc (.cells #[.slice none 0 0, .int .u64 0, .int .u64 0, .int .i64 0, .slice none 0 0, .slice none 0 0, .slice none 0 0] 42) = W at hB bC bS bE bR hpp hst0 hr0 ⊢
  have hWs : W.heap.size = w.heap.size + 4 := by rw [← hW]; simp
  clear hW
  replace hWs := Lib.hid hWs
  refine hpp.out.mono ?_
  rintro e w1 ⟨rfl, hb1⟩
  have bS1 := bS.grown hb1
  have htw := twin_any (.slice a3 st.d.s.length cap3) (.slice a4 st.g.length cap4) (.slice a5 st.v.length cap5) (.slice a6 st.p.length cap6) st w1 (hst0.out.mono hb1) hF
  replace htw := Lib.hid htw
  have x0 := bS1.cell 0 rfl
  have x1 := bS1.cell 1 rfl
  have x2 := bS1.cell 2 rfl
  have x3 := bS1.cell 3 rfl
  have x4 := bS1.cell 4 rfl
  have x5 := bS1.cell 5 rfl
  have x6 := bS1.cell 6 rfl
  clear bS1
  go_wp2_with fail
  refine htw.out.mono ?_
  rintro e w2 ⟨yd, yg, yv, yp, κ, rfl, hO, hb2⟩
  obtain ⟨g3, q3, rfl⟩ := hO.d.len
  obtain ⟨g4, q4, rfl⟩ := SlOf.len hO.g.rd
  obtain ⟨g5, q5, rfl⟩ := SlOf.len hO.v.rd
  obtain ⟨g6, q6, rfl⟩ := hO.p.rd.len
  have hb12 := hb1.trans (hb2.mono hb1.size)
  have hb3 := (Below.refl w2.heap.size w2).alloc (Nat.le_refl _) (.cells #[.slice g3 st.d.s.length q3, .int .u64 st.d.c, .int .u64 st.d.o, .int .i64 st.l, .slice g4 st.g.length q4, .slice g5 st.v.length q5, .slice g6 st.p.length q6] 42)
  have M : LMid W.heap.size κ W w2.heap.size st (.slice g3 st.d.s.length q3) (.slice g4 st.g.length q4) (.slice g5 st.v.length q5) (.slice g6 st.p.length q6) (w2.alloc (.cells #[.slice g3 st.d.s.length q3, .int .u64 st.d.c, .int .u64 st.d.o, .int .i64 st.l, .slice g4 st.g.length q4, .slice g5 st.v.length q5, .slice g6 st.p.length q6] 42)) := {
    b := BoxC.new w2 42 _
    o := (hO.mv (Mv.low _ hb1.size)).below hb3
    bl := hb12.trans (hb3.mono hb12.size)
    le := hb12.size
    ls := Nat.le_trans hb12.size hb3.size }
  have z0 := (bE.grown hb12).cell 0 rfl
  have z1 := (bE.grown hb12).cell 1 rfl
  have z2 := (bE.grown hb12).cell 2 rfl
  have hzE := (bE.grown hb12).lt
  clear htw hO x0 x1 x2 x3 x4 x5 x6 hpp
  go_upto_region 25 with (fail)
  generalize w2.alloc (.cells #[.slice g3 st.d.s.length q3, .int .u64 st.d.c, .int .u64 st.d.o, .int .i64 st.l, .slice g4 st.g.length q4, .slice g5 st.v.length q5, .slice g6 st.p.length q6] 42) = Z at M hb3 ⊢
  generalize w2.heap.size = B at M hb3 ⊢
  have bE' := bE.grown M.bl
  have hZ4 : w.heap.size + 4 ≤ B := by have := M.le; have := hWs.out; omega
  generalize κ = κ1 at M
  clear hb12 hb3 hb2 hb1 z0 z1 z2 hzE
  obtain ⟨us, hrow, hels⟩ := M.o.p
  obtain ⟨g, off, cp, he, hg, hk, hgl, hnc, hmx, hcur, hcell, hfz⟩ := hrow.at2 (by omega)
  cases he
  obtain ⟨np, hnp⟩ : ∃ np, st.p.length - 1 = np := ⟨_, rfl⟩
  have hnpl : np < st.p.length := by omega
  have hR := hels np hnpl
  have hRn := hR.num
  obtain ⟨a9, cap9, hu9⟩ := hRn.len
  have x6 := M.b.cell 6 rfl
  have d0 : Z.cell? ⟨g, off + np * 3, none⟩ = some (.slice a9 (get st.p np).s.length cap9) := by rw [← hu9, ← regC0 us st.p np]; exact hcell _ (by omega)
  have d1 : Z.cell? ⟨g, off + np * 3 + 1, none⟩ = some (.int .u64 (get st.p np).c) := by rw [← regC1 us st.p np, Nat.add_assoc]; exact hcell _ (by omega)
  have d2 : Z.cell? ⟨g, off + np * 3 + 2, none⟩ = some (.int .u64 (get st.p np).o) := by rw [← regC2 us st.p np, Nat.add_assoc]; exact hcell _ (by omega)
  have hO2 := StO.back M.o (by omega) hrow hels
  rw [hnp, hu9] at hO2
  have i1 : (st.p.length : Int) - 1 = (np : Int) := by omega
  have i2 : (np : Int) < (st.p.length : Int) := by omega
  have i3 : np ≤ q6 := by omega
  have i4 : (np : Int) ≤ (q6 : Int) := by omega
  have e0 := M.b.cell 0 rfl
  have e1 := M.b.cell 1 rfl
  have e2 := M.b.cell 2 rfl
  have f0 := M.b.frozen 0
  have f1 := M.b.frozen 1
  have f2 := M.b.frozen 2
  have f6 := M.b.frozen 6
  have hlB := M.b.lt
  have hact : st1 = ⟨get st.p np, st.l, st.g, st.v, st.p.take np⟩ := by rw [← hst1.out]; simp [undoF, hnp]
  replace hact := Lib.hid hact
  replace hnp := Lib.hid hnp
  clear hcell hfz hu9 hrow hels hR hRn hslC hS0 hC0
  go_upto_region 27 with (fail)
  have m0 := fun S => Mv.box (lo := W.heap.size) (κ := kback κ1 np) S M.b 0 (.slice a9 (get st.p np).s.length cap9)
  have b1 := M.b.set 0 (.slice a9 (get st.p np).s.length cap9)
  have m1 := fun S => Mv.box (lo := W.heap.size) (κ := kback κ1 np) S b1 1 (.int .u64 (get st.p np).c)
  have b2 := b1.set 1 (.int .u64 (get st.p np).c)
  have m2 := fun S => Mv.box (lo := W.heap.size) (κ := kback κ1 np) S b2 2 (.int .u64 (get st.p np).o)
  have b3 := b2.set 2 (.int .u64 (get st.p np).o)
  have m3 := fun S => Mv.box (lo := W.heap.size) (κ := kback κ1 np) S b3 6 (.slice (some ⟨g, off, none⟩) np q6)
  have b4 := b3.set 6 (.slice (some ⟨g, off, none⟩) np q6)
  simp only [List.setIfInBounds_toArray, List.set_cons_zero, List.set_cons_succ] at b4
  have hO3 := hO2.mv ((((m0 _).trans (m1 _)).trans (m2 _)).trans (m3 _))
  rw [hst1.out] at hO3
  have htl : (st.p.take np).length = np := by rw [List.length_take]; omega
  have M6 : LMid W.heap.size (kback κ1 np) W B st1 (.slice a9 (get st.p np).s.length cap9) (.slice g4 st.g.length q4) (.slice g5 st.v.length q5) (.slice (some ⟨g, off, none⟩) np q6) ((((Z.setCell ⟨B, 0, none⟩ (.slice a9 (get st.p np).s.length cap9)).setCell ⟨B, 1, none⟩ (.int .u64 (get st.p np).c)).setCell ⟨B, 2, none⟩ (.int .u64 (get st.p np).o)).setCell ⟨B, 6, none⟩ (.slice (some ⟨g, off, none⟩) np q6)) :=
    ⟨by rw [hact.out]; exact b4, hO3, (((M.bl.setCell (p := ⟨B, 0, none⟩) M.le _).setCell (p := ⟨B, 1, none⟩) M.le _).setCell (p := ⟨B, 2, none⟩) M.le _).setCell (p := ⟨B, 6, none⟩) M.le _, M.le, Nat.le_trans M.ls (by simp)⟩
  generalize (((Z.setCell ⟨B, 0, none⟩ (.slice a9 (get st.p np).s.length cap9)).setCell ⟨B, 1, none⟩ (.int .u64 (get st.p np).c)).setCell ⟨B, 2, none⟩ (.int .u64 (get st.p np).o)).setCell ⟨B, 6, none⟩ (.slice (some ⟨g, off, none⟩) np q6) = Y6 at M6 ⊢
  have bR6 := bR.grown M6.bl
  clear x6 d0 d1 d2 e0 e1 e2 f0 f1 f2 f6 hlB m0 m1 m2 m3 b1 b2 b3 b4 hO2 hO3 M
  replace htl := Lib.hid htl
  have hpu : st1 = st1 := rfl
  replace hpu := Lib.hid hpu
  have x0 := M6.b.cell 0 rfl
  have x1 := M6.b.cell 1 rfl
  have x2 := M6.b.cell 2 rfl
  have x3 := M6.b.cell 3 rfl
  have x4 := M6.b.cell 4 rfl
  have x5 := M6.b.cell 5 rfl
  have x6 := M6.b.cell 6 rfl
  have r0 := bR6.cell 0 rfl
  have r1 := bR6.cell 1 rfl
  have r2 := bR6.cell 2 rfl
  have r3 := bR6.cell 3 rfl
  have r4 := bR6.cell 4 rfl
  have r5 := bR6.cell 5 rfl
  have r6 := bR6.cell 6 rfl
  have e0 := bR6.frozen 0
  have e1 := bR6.frozen 1
  have e2 := bR6.frozen 2
  have e3 := bR6.frozen 3
  have e4 := bR6.frozen 4
  have e5 := bR6.frozen 5
  have e6 := bR6.frozen 6
  have hWs2 := hWs.out
  have hW4 := hB.trans (M6.bl.mono hB.size)
  go_wp2
  refine bodyPost_ret (ret_cell_tmp Try.results28 rfl rfl (bR6.put7 _ _ _ _ _ _ _) Try.underlying42 size42) rfl ?_
  exact ⟨_, _, _, _, kback κ1 np, rfl, (M6.o.mv (Mv.low _ hB.size)).mv (Mv.put7 _ bR6 _ _ _ _ _ _ _), below_put7 _ _ _ _ _ _ _ hW4 (by omega)⟩
end Go.Proofs.Ytgnamahdchefnaa
