/- The contract of do for events of kind 6. Conditions: consoles of plans, sound states, possible events. -/
import Derived.Test.YtgnamahdchefnaaR5
import Derived.Laws.BitsAllLaws
import Derived.IntWalk
namespace Go.Proofs.Ytgnamahdchefnaa
open Go.RowKit Go.Shelf

set_option linter.unusedVariables false in
set_option maxRecDepth 100000 in
set_option maxHeartbeats 4000000 in
theorem do_k6 (x y xd xg xv xp : Value) (C : Con) (st : St) (lo B : Nat) (κ : Nat → Role) (d i : Int) (w : World) (hC : C.Ok) (hS : SoundP C st) (hr : ∀ X, Below lo w X → ConR X x y C) (bB : BoxC w B 42 (stCs st xd xg xv xp)) (hO : StO lo κ st xd xg xv xp w)
    (hlo : lo ≤ w.heap.size) (hle : lo ≤ B) (hpos : posF C st 6 d i = 0) : Calls Try.prog 34 #[conV x y C.co C.ge C.lv, .pointer (some ⟨B, 0, none⟩), evV 6 d i] w (DoPost lo B (doF C st 6 d i) w) := by
  have hdo : doF C st 6 d i = pushF st (actF C st 6 d.toNat i.toNat) := by unfold doF; rw [if_neg (by decide)]
  rw [hdo]
  clear hdo
  obtain ⟨st1, hst1⟩ : ∃ st1, actF C st 6 d.toNat i.toNat = st1 := ⟨_, rfl⟩
  rw [hst1]
  unfold posF at hpos
  simp at hpos
  obtain ⟨m, rfl⟩ : ∃ m : Nat, i = m := ⟨i.toNat, by omega⟩
  obtain ⟨lN, hlN⟩ : ∃ lN : Nat, st.l = lN := ⟨st.l.toNat, by have := hS.l; omega⟩
  have hlg : lN < st.g.length ∧ (C.lv : Int) = st.g.length := by have := hS.l; have := hS.gn; omega
  have hll := hlg.1
  have hml : m < (get st.g lN).length := by have := hS.gl lN hll; omega
  clear hlg
  replace hlN := Lib.hid hlN
  try simp only [Int.toNat_natCast] at hst1
  replace hst1 := Lib.hid hst1
  have hr0 := hr w (Below.refl _ _)
  obtain ⟨a1, cap1, rfl⟩ := hr0.s.len
  obtain ⟨a2, cap2, rfl⟩ := hr0.d.lenV hC.dl
  obtain ⟨a3, cap3, rfl⟩ := hO.d.len
  obtain ⟨a4, cap4, rfl⟩ := SlOf.len hO.g.rd
  obtain ⟨a5, cap5, rfl⟩ := SlOf.len hO.v.rd
  obtain ⟨a6, cap6, rfl⟩ := hO.p.rd.len
  have hB := ((Below.refl w.heap.size w).alloc (Nat.le_refl _) (.cells #[.slice a1 C.s.length cap1, .int .i64 C.co, .int .i64 C.ge, .slice a2 C.s.length cap2, .int .i64 C.lv] 32)).alloc (by simp) (.cells #[.int .i64 6, .int .i64 d, .int .i64 (m : Int)] 28)
  have b32 := (BoxC.new w 32 #[.slice a1 C.s.length cap1, .int .i64 C.co, .int .i64 C.ge, .slice a2 C.s.length cap2, .int .i64 C.lv]).alloc (.cells #[.int .i64 6, .int .i64 d, .int .i64 (m : Int)] 28)
  have b28 := BoxC.new (w.alloc (.cells #[.slice a1 C.s.length cap1, .int .i64 C.co, .int .i64 C.ge, .slice a2 C.s.length cap2, .int .i64 C.lv] 32)) 28 #[.int .i64 6, .int .i64 d, .int .i64 (m : Int)]
  simp only [World.size_alloc] at b28
  have bB1 := bB.grown hB
  have hO1 := hO.below hB
  have hsl : st.d.s.length ≤ 1000 := by have := hS.d.n; have := hC.n; omega
  have hcp := copied_any (.slice a3 st.d.s.length cap3) st.d _ hO1.d.num hsl
  replace hcp := Lib.hid hcp
  have hslC := hS.d.n
  have hpn := hS.pn
  replace hslC := Lib.hid hslC
  have hS0 := Lib.hid hS
  have hC0 := Lib.hid hC
  replace hr := Lib.hid hr
  have hBs := hB.size
  have x0 := bB1.cell 0 rfl
  have x1 := bB1.cell 1 rfl
  have x2 := bB1.cell 2 rfl
  have hbl := bB.lt
  have y0 := bB.cell 0 rfl
  have y1 := bB.cell 1 rfl
  have y2 := bB.cell 2 rfl
  clear hS hC hr0 hO bB
  go_enter Try.func34, Try.ntmps34
  go_wp2_with fail
  generalize hW : (w.alloc (.cells #[.slice a1 C.s.length cap1, .int .i64 C.co, .int .i64 C.ge, .slice a2 C.s.length cap2, .int .i64 C.lv] 32)).alloc (.cells #[.int .i64 6, .int .i64 d, .int .i64 (m : Int)] 28) = W at *
  have hWs : W.heap.size = w.heap.size + 2 := by rw [← hW]; simp
  clear hW
  refine hcp.out.mono ?_
  rintro e w2 ⟨xb, rfl, hnx, hb2⟩
  obtain ⟨ab, capb, rfl⟩ := hnx.num.len
  have h3 := (Below.refl w2.heap.size w2).alloc (Nat.le_refl _) (.cells #[.slice ab st.d.s.length capb, .int .u64 st.d.c, .int .u64 st.d.o] 37)
  have hb2s := hb2.size
  have M : DoMid lo (kfrom κ W.heap.size (8, st.p.length, 0)) w B w2.heap.size st st (.slice ab st.d.s.length capb) (.slice a3 st.d.s.length cap3) (.slice a4 st.g.length cap4) (.slice a5 st.v.length cap5) (.slice a6 st.p.length cap6) (w2.alloc (.cells #[.slice ab st.d.s.length capb, .int .u64 st.d.c, .int .u64 st.d.o] 37)) := {
    b := (bB1.grown hb2).alloc _
    o := (hO1.mv (Mv.newk _ hb2)).below h3
    x := RowX.below (hnx.row (by omega) κ (8, st.p.length, 0)) h3
    b6 := BoxC.new w2 37 _
    bl := ((hB.mono hlo).trans ((hb2.mono (by omega)))).trans (h3.mono (by omega))
    le := hle
    ls := by have := h3.size; omega
    n6 := by omega
    k6 := by rw [kfrom_new (by omega)]; simp }
  have b32' := (b32.grown hb2).alloc (.cells #[.slice ab st.d.s.length capb, .int .u64 st.d.c, .int .u64 st.d.o] 37)
  have b28' := (b28.grown hb2).alloc (.cells #[.slice ab st.d.s.length capb, .int .u64 st.d.c, .int .u64 st.d.o] 37)
  have z0 := (b28.grown hb2).cell 0 rfl
  have z1 := (b28.grown hb2).cell 1 rfl
  have z2 := (b28.grown hb2).cell 2 rfl
  have hz28 := (b28.grown hb2).lt
  clear hcp hnx hO1 bB1 b32 b28 x0 x1 x2 y0 y1 y2
  go_wp2_with fail
  have hX3s : (w2.alloc (.cells #[.slice ab st.d.s.length capb, .int .u64 st.d.c, .int .u64 st.d.o] 37)).heap.size = w2.heap.size + 1 := by simp
  generalize w2.alloc (.cells #[.slice ab st.d.s.length capb, .int .u64 st.d.c, .int .u64 st.d.o] 37) = Z at M b32' b28' h3 hX3s ⊢
  have M6 : kfrom κ W.heap.size (8, st.p.length, 0) w2.heap.size = (8, st.p.length, 0) := kfrom_new (by omega)
  generalize kfrom κ W.heap.size (8, st.p.length, 0) = κ1 at M M6
  have hb6 : w.heap.size + 2 ≤ w2.heap.size := by omega
  generalize w2.heap.size = B6 at M M6 hb6 hX3s ⊢
  clear h3 hb2 hb2s hBs hB hX3s z0 z1 z2 hz28
  have z0 := b28'.cell 0 rfl
  have z1 := b28'.cell 1 rfl
  have z2 := b28'.cell 2 rfl
  obtain ⟨us, hrow, hels⟩ := M.o.g
  obtain ⟨g1, o1, cp1, he, hg1, hk1, hgl1, hnc1, hmx1, hcur1, hcell1, hfz1⟩ := hrow.at2 (by omega)
  cases he
  obtain ⟨us2, hrow2, hels2⟩ := hels lN hll
  obtain ⟨g2, o2, cp2, hu2, hg2, hk2, hgl2, hnc2, hmx2, hcur2, hcell2, hfz2⟩ := hrow2.at2 (by omega)
  have x4 : Z.drew.cell? ⟨B, 4, none⟩ = some (.slice (some ⟨g1, o1, none⟩) st.g.length cap4) := M.b.cell 4 rfl
  have x3 : Z.drew.cell? ⟨B, 3, none⟩ = some (.int .i64 (lN : Int)) := by rw [← hlN.out]; exact M.b.cell 3 rfl
  have y2 : Z.drew.cell? ⟨w.heap.size + 1, 2, none⟩ = some (.int .i64 (m : Int)) := b28'.cell 2 rfl
  have c1 : Z.drew.cell? ⟨g1, o1 + lN, none⟩ = some (.slice (some ⟨g2, o2, none⟩) (get st.g lN).length cp2) := by rw [← hu2]; exact hcell1 lN (by omega)
  have d0 : Z.drew.cell? ⟨B, 0, none⟩ = some (.slice a3 st.d.s.length cap3) := M.b.cell 0 rfl
  have d1 : Z.drew.cell? ⟨B, 1, none⟩ = some (.int .u64 st.d.c) := M.b.cell 1 rfl
  have d2 : Z.drew.cell? ⟨B, 2, none⟩ = some (.int .u64 st.d.o) := M.b.cell 2 rfl
  have t0 : Z.drew.cell? ⟨g2, o2 + m * 3, none⟩ = some (us2 m) := by rw [← regC0 us2 (get st.g lN) m]; exact hcell2 _ (by omega)
  have t1 : Z.drew.cell? ⟨g2, o2 + m * 3 + 1, none⟩ = some (.int .u64 (get (get st.g lN) m).c) := by rw [← regC1 us2 (get st.g lN) m, Nat.add_assoc]; exact hcell2 _ (by omega)
  have t2 : Z.drew.cell? ⟨g2, o2 + m * 3 + 2, none⟩ = some (.int .u64 (get (get st.g lN) m).o) := by rw [← regC2 us2 (get st.g lN) m, Nat.add_assoc]; exact hcell2 _ (by omega)
  have hcp2 := Lib.hid (copied_any (.slice a3 st.d.s.length cap3) st.d Z.drew M.o.d.num hsl)
  have hli : (lN : Int) < (st.g.length : Int) := by omega
  have hmi : (m : Int) < ((get st.g lN).length : Int) := by omega
  have hact : st1 = ⟨st.d, st.l, st.g.set lN ((get st.g lN).set m st.d), st.v, st.p⟩ := by rw [← hst1.out]; simp [actF, hlN.out]
  have hgB1 : g1 ≠ B := (M.b.ne_row hcur1 (by decide)).symm
  have hgB2 : B ≠ g2 := M.b.ne_row hcur2 (by decide)
  have hg12 : g1 ≠ g2 := row_ne hcur1 hcur2 (by decide)
  have hge2 : w.heap.size + 1 ≠ g2 := b28'.ne_row hcur2 (by decide)
  have hg6 : g2 ≠ B6 := fun e => by
    have h1 := M.k6
    have h2 := M6
    rw [← e, hk2] at h2
    simp at h2
  replace hlN := Lib.hid hlN
  replace hact := Lib.hid hact
  have hrowH := Lib.hid hrow
  have helsH := Lib.hid hels
  have hrow2H := Lib.hid hrow2
  have hels2H := Lib.hid hels2
  have hu2H := Lib.hid hu2
  clear hrow hels hrow2 hels2 hu2 hcell1 hfz1 hcell2
  have hs0 : (fun X : World => X.cell? ⟨B, 4, none⟩ = some (.slice (some ⟨g1, o1, none⟩) st.g.length cap4) ∧ X.cell? ⟨B, 3, none⟩ = some (.int .i64 (lN : Int)) ∧ X.cell? ⟨w.heap.size + 1, 2, none⟩ = some (.int .i64 (m : Int)) ∧ X.cell? ⟨g1, o1 + lN, none⟩ = some (.slice (some ⟨g2, o2, none⟩) (get st.g lN).length cp2) ∧ X.cell? ⟨B, 0, none⟩ = some (.slice a3 st.d.s.length cap3) ∧ X.cell? ⟨B, 1, none⟩ = some (.int .u64 st.d.c) ∧ X.cell? ⟨B, 2, none⟩ = some (.int .u64 st.d.o)) Z.drew := ⟨x4, x3, y2, c1, d0, d1, d2⟩
  have hfz2H := Lib.hid hfz2
  clear hfz2
  go_region_held3 (fun X => X.cell? ⟨B, 4, none⟩ = some (.slice (some ⟨g1, o1, none⟩) st.g.length cap4) ∧ X.cell? ⟨B, 3, none⟩ = some (.int .i64 (lN : Int)) ∧ X.cell? ⟨w.heap.size + 1, 2, none⟩ = some (.int .i64 (m : Int)) ∧ X.cell? ⟨g1, o1 + lN, none⟩ = some (.slice (some ⟨g2, o2, none⟩) (get st.g lN).length cp2) ∧ X.cell? ⟨B, 0, none⟩ = some (.slice a3 st.d.s.length cap3) ∧ X.cell? ⟨B, 1, none⟩ = some (.int .u64 st.d.c) ∧ X.cell? ⟨B, 2, none⟩ = some (.int .u64 st.d.o))
    (first | (with_reducible exact hs0) | (with_reducible exact hs1) | (with_reducible exact hs2))
    ((go_at_call 50; (with_reducible refine hcp2.out.mono ?_); rintro e w3 ⟨xn, rfl, hn, hb3⟩; obtain ⟨an, capn, rfl⟩ := hn.num.len; have M2 := M.drew.grown (N := Z.drew.heap.size) hb3 (3, lN, m) (Nat.le_refl _); have hn2 : RowU lo (kfrom κ1 Z.drew.heap.size (3, lN, m)) (3, lN, m) (.slice an st.d.s.length capn) st.d.s w3 := hn.row M.ls κ1 (3, lN, m); have hb30 : Below Z.heap.size Z w3 := (Below.refl _ _).drew.trans (hb3.mono (Nat.le_refl _)); have mv := (fun S => Mv.newkM (lo := lo) (κ := κ1) (r := (3, lN, m)) S hb30 (Nat.le_refl _)); have hrow' := mv (fun _ => True) _ _ _ _ _ _ trivial (by decide) hrowH.out; have hels' : ∀ i, i < st.g.length → RegsO lo (kfrom κ1 Z.drew.heap.size (3, lN, m)) (2, i, 0) (fun j => (3, i, j)) (us i) (get st.g i) w3 := (fun i hi => (helsH.out i hi).map (fun v n C h => mv (fun _ => True) _ _ _ _ _ _ trivial (by decide) h) (fun j _ v n C h => mv (fun _ => True) _ _ _ _ _ _ trivial (by decide) h)); have hrow2' := mv (fun _ => True) _ _ _ _ _ _ trivial (by decide) hrow2H.out; have hels2' : ∀ j, j < (get st.g lN).length → RowU lo (kfrom κ1 Z.drew.heap.size (3, lN, m)) (3, lN, j) (us2 j) (get (get st.g lN) j).s w3 := (fun j hj => mv (fun _ => True) _ _ _ _ _ _ trivial (by decide) (hels2H.out j hj)); have hk2' : kfrom κ1 Z.drew.heap.size (3, lN, m) g2 = (2, lN, 0) := (by rw [kfrom_old (by exact hgl2)]; exact hk2); have hcur2' : ∃ cur, w3.heap[g2]? = some (.cells cur 37 (0, 0)) := (by obtain ⟨cur, hc⟩ := hcur2; exact ⟨cur, (hb30.block g2 hgl2).trans hc⟩); have hGp := GenO.put hrow' hels' hll hrow2' hels2' hu2H.out hg2 hk2' hml st.d (.slice an st.d.s.length capn) hn2; have M1 := M2.putG hg2 hk2' hg6 hcur2' _ _ _ hGp; have cb : ∀ {z : Addr} {u : Value}, Z.drew.cell? z = some u → w3.cell? z = some u := (fun h => (hb3.cell (lt_of_cell h)).trans h); have e0 := cb t0; have e1 := cb t1; have e2 := cb t2; have f0 : w3.frozen? ⟨g2, o2 + m * 3, none⟩ = false := (hb30.frozen (p := ⟨g2, _, none⟩) hgl2).trans (hfz2H.out _); have f1 : w3.frozen? ⟨g2, o2 + m * 3 + 1, none⟩ = false := (hb30.frozen (p := ⟨g2, _, none⟩) hgl2).trans (hfz2H.out _); have f2 : w3.frozen? ⟨g2, o2 + m * 3 + 2, none⟩ = false := (hb30.frozen (p := ⟨g2, _, none⟩) hgl2).trans (hfz2H.out _); have hs1 : (fun X : World => X.cell? ⟨B, 4, none⟩ = some (.slice (some ⟨g1, o1, none⟩) st.g.length cap4) ∧ X.cell? ⟨B, 3, none⟩ = some (.int .i64 (lN : Int)) ∧ X.cell? ⟨w.heap.size + 1, 2, none⟩ = some (.int .i64 (m : Int)) ∧ X.cell? ⟨g1, o1 + lN, none⟩ = some (.slice (some ⟨g2, o2, none⟩) (get st.g lN).length cp2) ∧ X.cell? ⟨B, 0, none⟩ = some (.slice a3 st.d.s.length cap3) ∧ X.cell? ⟨B, 1, none⟩ = some (.int .u64 st.d.c) ∧ X.cell? ⟨B, 2, none⟩ = some (.int .u64 st.d.o)) w3 := ⟨cb x4, cb x3, cb y2, cb c1, cb d0, cb d1, cb d2⟩; have cq : ∀ {b o : Nat} {u : Value}, b ≠ g2 → w3.cell? ⟨b, o, none⟩ = some u → (((w3.setCell ⟨g2, o2 + m * 3, none⟩ (.slice an st.d.s.length capn)).setCell ⟨g2, o2 + m * 3 + 1, none⟩ (.int .u64 st.d.c)).setCell ⟨g2, o2 + m * 3 + 2, none⟩ (.int .u64 st.d.o)).cell? ⟨b, o, none⟩ = some u := (fun hne h => (World.cell?_of_block (heap_set3 _ _ _ hne)).trans h); have hs2 : (fun X : World => X.cell? ⟨B, 4, none⟩ = some (.slice (some ⟨g1, o1, none⟩) st.g.length cap4) ∧ X.cell? ⟨B, 3, none⟩ = some (.int .i64 (lN : Int)) ∧ X.cell? ⟨w.heap.size + 1, 2, none⟩ = some (.int .i64 (m : Int)) ∧ X.cell? ⟨g1, o1 + lN, none⟩ = some (.slice (some ⟨g2, o2, none⟩) (get st.g lN).length cp2) ∧ X.cell? ⟨B, 0, none⟩ = some (.slice a3 st.d.s.length cap3) ∧ X.cell? ⟨B, 1, none⟩ = some (.int .u64 st.d.c) ∧ X.cell? ⟨B, 2, none⟩ = some (.int .u64 st.d.o)) (((w3.setCell ⟨g2, o2 + m * 3, none⟩ (.slice an st.d.s.length capn)).setCell ⟨g2, o2 + m * 3 + 1, none⟩ (.int .u64 st.d.c)).setCell ⟨g2, o2 + m * 3 + 2, none⟩ (.int .u64 st.d.o)) := ⟨cq hgB2 (cb x4), cq hgB2 (cb x3), cq hge2 (cb y2), cq hg12 (cb c1), cq hgB2 (cb d0), cq hgB2 (cb d1), cq hgB2 (cb d2)⟩))
  replace hact := hact.out
  rw [show ({ st with g := st.g.set lN ((get st.g lN).set m st.d) } : St) = st1 from hact.symm] at M1
  clear hGp hels' hels2' hrow' hrow2'
  generalize kfrom κ1 Z.drew.heap.size (3, lN, m) = κ3 at *
  go_wp2_with fail
  change DoMid _ _ _ _ _ _ _ _ _ _ _ _ (((w3.setCell ⟨g2, o2 + m * 3, none⟩ (.slice an st.d.s.length capn)).setCell ⟨g2, o2 + m * 3 + 1, none⟩ (.int .u64 st.d.c)).setCell ⟨g2, o2 + m * 3 + 2, none⟩ (.int .u64 st.d.o)) at M1
  generalize ((w3.setCell ⟨g2, o2 + m * 3, none⟩ (.slice an st.d.s.length capn)).setCell ⟨g2, o2 + m * 3 + 1, none⟩ (.int .u64 st.d.c)).setCell ⟨g2, o2 + m * 3 + 2, none⟩ (.int .u64 st.d.o) = Y at M1 ⊢
  generalize κ3 = κ1 at *
  clear M M2 x4 x3 y2 c1 d0 d1 d2 e0 e1 e2 f0 f1 f2 t0 t1 t2 hcp2 hn hn2 hb3 hb30 hcur1 hcur2 hcur2' hs0 hs1 hs2 cb cq mv hk2' hk2 hk1 M6
  have hp1 : st1.p.length = st.p.length := by rw [hact]
  have hs1 : st1.d.s.length = C.s.length := by rw [hact]; exact hslC.out
  have hn3 := hC0.out.n
  have heq := Equal_any (.slice ab st.d.s.length capb) (.slice a3 st.d.s.length cap3) st.d st1.d Y.drew M1.x.num M1.o.d.num (by omega)
  clear hact
  clear hS0 hC0 hr b32' b28' z0 z1 z2 hs1
  have q0 : Y.drew.cell? ⟨B6, 0, none⟩ = some (.slice ab st.d.s.length capb) := M1.b6.cell 0 rfl
  have q1 : Y.drew.cell? ⟨B6, 1, none⟩ = some (.int .u64 st.d.c) := M1.b6.cell 1 rfl
  have q2 : Y.drew.cell? ⟨B6, 2, none⟩ = some (.int .u64 st.d.o) := M1.b6.cell 2 rfl
  have r0 : Y.drew.cell? ⟨B, 0, none⟩ = some (.slice a3 st.d.s.length cap3) := M1.b.cell 0 rfl
  have r1 : Y.drew.cell? ⟨B, 1, none⟩ = some (.int .u64 st1.d.c) := M1.b.cell 1 rfl
  have r2 : Y.drew.cell? ⟨B, 2, none⟩ = some (.int .u64 st1.d.o) := M1.b.cell 2 rfl
  have hdY : Below Y.heap.size Y Y.drew := (Below.refl _ _).drew
  cases hq : eqB st.d st1.d
  · rw [hq] at heq
    have hpu : pushF st st1 = { st1 with p := (st1.p ++ [st.d]).drop ((st1.p ++ [st.d]).length - 20) } := by
      unfold pushF
      rw [eqB_comm, if_neg (by simp [hq])]
    replace hpu := Lib.hid hpu
    clear hq
    replace heq := Lib.hid heq
    go_still_tail 5, (by kernel_rfl)
    change wpList _ _ _ _ _ Y.drew
    go_wp2_with fail
    refine heq.out.mono ?_
    rintro e Y2 ⟨rfl, hb4⟩
    have hb5 : Below Y.heap.size Y Y2 := hdY.trans (hb4.mono (Nat.le_refl _))
    have b2 := M1.b.grown hb5
    have b62 := M1.b6.grown hb5
    have o2 := M1.o.below hb5
    have x2 := RowX.below M1.x hb5
    have bl2 := M1.bl.trans (hb5.mono M1.ls)
    have ls2 : lo ≤ Y2.heap.size := Nat.le_trans M1.ls hb5.size
    have k62 := M1.k6
    clear hb4 hb5 heq q0 q1 q2 r0 r1 r2 hdY
    go_wp2_with fail
    obtain ⟨us, hrow, hels⟩ := o2.p
    have q0 : Y2.drew.cell? ⟨B6, 0, none⟩ = some (.slice ab st.d.s.length capb) := b62.cell 0 rfl
    have q1 : Y2.drew.cell? ⟨B6, 1, none⟩ = some (.int .u64 st.d.c) := b62.cell 1 rfl
    have q2 : Y2.drew.cell? ⟨B6, 2, none⟩ = some (.int .u64 st.d.o) := b62.cell 2 rfl
    have r6 : Y2.drew.cell? ⟨B, 6, none⟩ = some (.slice a6 st.p.length cap6) := b2.cell 6 rfl
    have r6' : Y2.cell? ⟨B, 6, none⟩ = some (.slice a6 st.p.length cap6) := b2.cell 6 rfl
    have hlB := b2.lt
    have hl6 := b62.lt
    have hp20 : st1.p.length ≤ 20 := by omega
    replace hp1 := Lib.hid hp1
    go_region_law ((refine step_apX ap40 (by rfl) _ _ (by rfl) (by rfl) (hrow.alloc _).drew (by simp; omega) ⟨Y2.heap.size, 0, none⟩ 1 [.slice ab st.d.s.length capb, .int .u64 st.d.c, .int .u64 st.d.o] (by rfl) (by rfl) (laid_news Y2 _ 37) (by simp [Value.oneCell']) (by unfold maxLen; omega) (by omega) ?_; intro v' w4 hrow4 hfr4 hoth4; obtain ⟨g7, o7, c7, rfl, hg7, hk7, hl7, hn7, hm7, hc7, hcell7, hfz7⟩ := hrow4.at2 (by omega); have bX4 := ((b2.alloc (.cells #[.slice ab st.d.s.length capb, .int .u64 st.d.c, .int .u64 st.d.o] 37)).drew).oth hoth4 (by decide); have x6 := bX4.cell 6 rfl; have e6 := bX4.frozen 6; have hbl4 := bX4.lt))
    all_goals
      have hY3 : Below Y2.heap.size Y2 ((Y2.alloc (.cells #[.slice ab st.d.s.length capb, .int .u64 st.d.c, .int .u64 st.d.o] 37)).drew) := ((Below.refl _ _).alloc (Nat.le_refl _) _).drew
      have mS := fun S hS => (Mv.below (lo := lo) (κ := κ1) S hY3).trans (Mv.push S hfr4 hS)
      have hP4 := RegsO.mk_push (rg := st.d) (rs := fun j => (8, j, 0)) hrow4 (fun j hj => mS (fun t => t = 8) (fun q h e => by rw [e] at h; simp at h) _ _ _ _ _ _ rfl (by decide) (hels j hj)) (mS (fun t => t = 8) (fun q h e => by rw [e] at h; simp at h) _ _ _ _ _ _ rfl (by decide) (by rw [hp1.out]; exact x2))
      have hD4 : RowU _ _ _ _ _ w4 := mS (fun t => t = 0) (fun q h e => by rw [e] at h; simp at h) _ _ _ _ _ _ rfl (by decide) o2.d
      have hG4 := o2.g.mv (mS _ (fun q h e => by rw [e] at h; simp at h))
      have hV4 := o2.v.mv (mS _ (fun q h e => by rw [e] at h; simp at h))
      have bl4 := (bl2.trans (hY3.mono ls2)).trans (hfr4.below (Nat.le_trans ls2 hY3.size))
      have mB := fun S => Mv.box (lo := lo) (κ := kfrom κ1 ((Y2.alloc (.cells #[.slice ab st.d.s.length capb, .int .u64 st.d.c, .int .u64 st.d.o] 37)).drew).heap.size (7, 0, 0)) S bX4 6 (.slice (some ⟨g7, o7, none⟩) (st1.p.length + 1) c7)
      have bX5 := bX4.set 6 (.slice (some ⟨g7, o7, none⟩) (st1.p.length + 1) c7)
      simp only [List.setIfInBounds_toArray, List.set_cons_zero, List.set_cons_succ] at bX5
      have bl5 := bl4.setCell (p := ⟨B, 6, none⟩) M1.le (.slice (some ⟨g7, o7, none⟩) (st1.p.length + 1) c7)
      replace hP4 := PastO.mv hP4 (mB _)
      replace hD4 : RowU _ _ _ _ _ _ := mB (fun t => t = 0) _ _ _ _ _ _ rfl (by decide) hD4
      replace hG4 := hG4.mv (mB _)
      replace hV4 := hV4.mv (mB _)
      generalize kfrom κ1 ((Y2.alloc (.cells #[.slice ab st.d.s.length capb, .int .u64 st.d.c, .int .u64 st.d.o] 37)).drew).heap.size (7, 0, 0) = κ2 at *
      have hle' := M1.le
      clear mB mS hfr4 hoth4 hrow4 hcell7 hfz7 hc7 bX4 x6 e6 hbl4 hY3 o2 x2 b2 b62 hrow hels M1 q0 q1 q2 r6 r6' hk7 hl7 bl4
      go_wp2_with fail
      generalize w4.setCell ⟨B, 6, none⟩ (.slice (some ⟨g7, o7, none⟩) (st1.p.length + 1) c7) = Y5 at *
      have r6 : Y5.drew.cell? ⟨B, 6, none⟩ = some (.slice (some ⟨g7, o7, none⟩) (st1.p.length + 1) c7) := bX5.cell 6 rfl
      have e6 : Y5.drew.frozen? ⟨B, 6, none⟩ = false := bX5.frozen 6
      have hlB5 := bX5.lt
      by_cases h20 : st1.p.length + 1 ≤ 20
      · have hwr : IntKind.i64.wrap ((st1.p.length : Int) + 1 - 20) = (st1.p.length : Int) - 19 := by rw [IntWalk.i64_in _ (by omega)]; omega
        have hif : (if (st1.p.length : Int) - 19 < 0 then (0 : Int) else (st1.p.length : Int) - 19) = 0 := by split <;> omega
        have hc70 : ¬ c7 = 0 := by omega
        have hle0 : (0 : Int) ≤ (st1.p.length : Int) + 1 := by omega
        have hdr0 : (st1.p ++ [st.d]).drop ((st1.p ++ [st.d]).length - 20) = st1.p ++ [st.d] := by
          rw [List.length_append, List.length_singleton, show st1.p.length + 1 - 20 = 0 by omega, List.drop_zero]
        replace hdr0 := Lib.hid hdr0
        clear h20
        go_still_tail 15, (by kernel_rfl)
        change wpList _ _ _ _ _ Y5.drew
        go_wp2_with fail
        have bX6 := bX5.set 6 (.slice (some ⟨g7, o7, none⟩) (st1.p.length + 1) c7)
        simp only [List.setIfInBounds_toArray, List.set_cons_zero, List.set_cons_succ] at bX6
        have mB := fun S => Mv.box (lo := lo) (κ := κ2) S bX5 6 (.slice (some ⟨g7, o7, none⟩) (st1.p.length + 1) c7)
        go_end0
        rw [hpu.out, hdr0.out]
        exact ⟨κ2, _, _, _, _, rfl, bX6.drew, StO.below (w := Y5.setCell ⟨B, 6, none⟩ (.slice (some ⟨g7, o7, none⟩) (st1.p.length + 1) c7)) ⟨mB (fun t => t = 0) _ _ _ _ _ _ rfl (by decide) hD4, hG4.mv (mB _), hV4.mv (mB _), PastO.mv hP4 (mB _)⟩ (Below.refl _ _).drew, (bl5.setCell (p := ⟨B, 6, none⟩) hle' _).drew⟩
      · have hwr : IntKind.i64.wrap ((st1.p.length : Int) + 1 - 20) = (st1.p.length : Int) - 19 := by rw [IntWalk.i64_in _ (by omega)]; omega
        have hif : (if (st1.p.length : Int) - 19 < 0 then (0 : Int) else (st1.p.length : Int) - 19) = 1 := by split <;> omega
        have hc70 : ¬ c7 = 1 := by omega
        have hle0 : (0 : Int) ≤ (st1.p.length : Int) := by omega
        have hle1 : (1 : Int) ≤ (st1.p.length : Int) + 1 := by omega
        have hdr0 : (st1.p ++ [st.d]).drop ((st1.p ++ [st.d]).length - 20) = (st1.p ++ [st.d]).drop 1 := by
          rw [List.length_append, List.length_singleton, show st1.p.length + 1 - 20 = 1 by omega]
        replace hdr0 := Lib.hid hdr0
        have hP5 := hP4.drop1 (by simp) (by omega)
        clear h20
        go_still_tail 15, (by kernel_rfl)
        change wpList _ _ _ _ _ Y5.drew
        go_wp2_with fail
        have bX6 := bX5.set 6 (.slice (some ⟨g7, o7 + 3, none⟩) (st1.p.length + 1 - 1) (c7 - 1))
        simp only [List.setIfInBounds_toArray, List.set_cons_zero, List.set_cons_succ] at bX6
        have mB := fun S => Mv.box (lo := lo) (κ := kshift κ2) S bX5 6 (.slice (some ⟨g7, o7 + 3, none⟩) (st1.p.length + 1 - 1) (c7 - 1))
        have mK := fun S hS => Mv.kshift (lo := lo) (κ := κ2) (w := Y5) S hS
        go_end0
        rw [hpu.out, hdr0.out]
        exact ⟨kshift κ2, _, _, _, _, rfl, bX6.drew, StO.below (w := Y5.setCell ⟨B, 6, none⟩ (.slice (some ⟨g7, o7 + 3, none⟩) (st1.p.length + 1 - 1) (c7 - 1))) ⟨mB (fun t => t = 0) _ _ _ _ _ _ rfl (by decide) (mK (fun t => t = 0) (fun t h => by omega) _ _ _ _ _ _ rfl (by decide) hD4), (hG4.mv (mK _ (fun t h => by omega))).mv (mB _), (hV4.mv (mK _ (fun t h => by omega))).mv (mB _), PastO.mv hP5 (mB _)⟩ (Below.refl _ _).drew, (bl5.setCell (p := ⟨B, 6, none⟩) hle' _).drew⟩
  · rw [hq] at heq
    have hpu : pushF st st1 = st1 := by
      unfold pushF
      rw [eqB_comm, if_pos hq]
    replace hpu := Lib.hid hpu
    clear hq
    replace heq := Lib.hid heq
    go_still_tail 5, (by kernel_rfl)
    change wpList _ _ _ _ _ Y.drew
    go_wp2_with fail
    refine heq.out.mono ?_
    rintro e Y2 ⟨rfl, hb4⟩
    have hb5 : Below Y.heap.size Y Y2 := hdY.trans (hb4.mono (Nat.le_refl _))
    have b2 := M1.b.grown hb5
    have o2 := M1.o.below hb5
    have bl2 := M1.bl.trans (hb5.mono M1.ls)
    clear hb4 hb5 heq q0 q1 q2 r0 r1 r2 hdY M1
    go_wp2_with fail
    go_end0
    rw [hpu.out]
    exact ⟨κ1, _, _, _, _, rfl, b2, o2, bl2⟩
end Go.Proofs.Ytgnamahdchefnaa
