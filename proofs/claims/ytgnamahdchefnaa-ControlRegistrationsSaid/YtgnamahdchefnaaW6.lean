/- The contract of clone: a state of its own. Conditions: states of at most 1000 elements in each list. -/
import Derived.Test.YtgnamahdchefnaaR3
namespace Go.Proofs.Ytgnamahdchefnaa
open Go.RowKit Go.Shelf

/-- no list of a state is long -/
structure St.Fit (st : St) : Prop where
  d : st.d.s.length ≤ 1000
  g : st.g.length ≤ 1000
  gl : ∀ i, i < st.g.length → (get st.g i).length ≤ 1000
  gr : ∀ i j, i < st.g.length → j < (get st.g i).length → (get (get st.g i) j).s.length ≤ 1000
  v : st.v.length ≤ 1000
  vl : ∀ i, i < st.v.length → (get st.v i).length ≤ 1000
  vd : ∀ i j, i < st.v.length → j < (get st.v i).length → (get (get st.v i) j).length ≤ 1000
  p : st.p.length ≤ 1000
  pr : ∀ j, j < st.p.length → (get st.p j).s.length ≤ 1000
def StPost (st : St) (w : World) (e : Ending) (w' : World) : Prop := ∃ x xg xv xp κ, e = .returned (stV x st.d.c st.d.o st.l xg xv xp) ∧ StO w.heap.size κ st x xg xv xp w' ∧ Below w.heap.size w w'

/-- a state's box behind the first region of clone -/
structure Built (lo : Nat) (W : World) (st : St) (x vp : Value) (B : Nat) (X : World) : Prop where
  b : BoxC X B 42 #[x, .int .u64 st.d.c, .int .u64 st.d.o, .int .i64 st.l, .slice none 0 0, .slice none 0 0, vp]
  le : W.heap.size ≤ B
  bl : Below W.heap.size W X
  o : ∃ κ, RowU lo κ (0, 0, 0) x st.d.s X ∧ PastO lo κ vp st.p X
theorem built_new {lo : Nat} {W X : World} {st : St} {x vp : Value} (hb : Below W.heap.size W X) (ho : ∃ κ, RowU lo κ (0, 0, 0) x st.d.s X ∧ PastO lo κ vp st.p X) :
    Built lo W st x vp X.heap.size (X.alloc (.cells #[x, .int .u64 st.d.c, .int .u64 st.d.o, .int .i64 st.l, .slice none 0 0, .slice none 0 0, vp] 42)) := by
  obtain ⟨κ, h1, h2⟩ := ho
  have ha := (Below.refl X.heap.size X).alloc (Nat.le_refl _) (.cells #[x, .int .u64 st.d.c, .int .u64 st.d.o, .int .i64 st.l, .slice none 0 0, .slice none 0 0, vp] 42)
  exact ⟨BoxC.new X 42 _, hb.size, hb.alloc hb.size _, κ, RowX.below h1 ha, h2.mv (Mv.below _ ha)⟩
theorem built_put {lo B : Nat} {W X : World} {st : St} {x vp a b c d e f g : Value} (hB : BoxC X B 42 #[a, b, c, d, e, f, g]) (hle : W.heap.size ≤ B) (hb : Below W.heap.size W X) (ho : ∃ κ, RowU lo κ (0, 0, 0) x st.d.s X ∧ PastO lo κ vp st.p X) :
    Built lo W st x vp B (put7 X B x (.int .u64 st.d.c) (.int .u64 st.d.o) (.int .i64 st.l) (.slice none 0 0) (.slice none 0 0) vp) := by
  obtain ⟨κ, h1, h2⟩ := ho
  exact ⟨hB.put7 _ _ _ _ _ _ _, hle, below_put7 _ _ _ _ _ _ _ hb hle, κ, Mv.put7 (fun _ => True) hB _ _ _ _ _ _ _ _ _ _ _ _ _ trivial (by decide) h1, h2.mv (Mv.put7 _ hB _ _ _ _ _ _ _)⟩

set_option maxRecDepth 100000 in
set_option maxHeartbeats 4000000 in
theorem clone_any (x xg xv xp : Value) (st : St) (w : World) (hst : StR w x xg xv xp st) (hF : st.Fit) : Calls Try.prog 32 #[stV x st.d.c st.d.o st.l xg xv xp] w (StPost st w) := by
  have hB := ((Below.refl w.heap.size w).alloc (Nat.le_refl _) (.cells #[x, .int .u64 st.d.c, .int .u64 st.d.o, .int .i64 st.l, xg, xv, xp] 42)).alloc (by simp) (.cells #[.slice none 0 0, .int .u64 0, .int .u64 0, .int .i64 0, .slice none 0 0, .slice none 0 0, .slice none 0 0] 42)
  have bP := (BoxC.new w 42 #[x, .int .u64 st.d.c, .int .u64 st.d.o, .int .i64 st.l, xg, xv, xp]).alloc (.cells #[.slice none 0 0, .int .u64 0, .int .u64 0, .int .i64 0, .slice none 0 0, .slice none 0 0, .slice none 0 0] 42)
  have bR := BoxC.new (w.alloc (.cells #[x, .int .u64 st.d.c, .int .u64 st.d.o, .int .i64 st.l, xg, xv, xp] 42)) 42 #[.slice none 0 0, .int .u64 0, .int .u64 0, .int .i64 0, .slice none 0 0, .slice none 0 0, .slice none 0 0]
  simp only [World.size_alloc] at bR
  have hst1 := hst.mono hB
  obtain ⟨a1, cap1, rfl⟩ := hst.d.len
  obtain ⟨a2, cap2, rfl⟩ := SlOf.len hst.g
  obtain ⟨a3, cap3, rfl⟩ := SlOf.len hst.v
  obtain ⟨a4, cap4, rfl⟩ := hst.p.len
  have hcp := fun X h => copied_any (.slice a1 st.d.s.length cap1) st.d X h hF.d
  have hsv := fun X h => several_any (.slice a4 st.p.length cap4) st.p X h hF.p hF.pr
  have hsg := fun i hi u X h => several_any u (get st.g i) X h (hF.gl i hi) (fun j hj => hF.gr i j hi hj)
  have hcl := fun i j hi hj u X h => Clone_any u (get (get st.v i) j) X h (hF.vd i j hi hj)
  have hst0 := Lib.hid hst
  clear hst
  replace hcp := Lib.hid hcp
  replace hsv := Lib.hid hsv
  replace hsg := Lib.hid hsg
  replace hcl := Lib.hid hcl
  replace hst1 := Lib.hid hst1
  go_enter Try.func32, Try.ntmps32
  go_wp2_with fail
  generalize hW : (w.alloc (.cells #[.slice a1 st.d.s.length cap1, .int .u64 st.d.c, .int .u64 st.d.o, .int .i64 st.l, .slice a2 st.g.length cap2, .slice a3 st.v.length cap3, .slice a4 st.p.length cap4] 42)).alloc (.cells #[.slice none 0 0, .int .u64 0, .int .u64 0, .int .i64 0, .slice none 0 0, .slice none 0 0, .slice none 0 0] 42) = W at hB bP bR hst1 ⊢
  have hWs : W.heap.size = w.heap.size + 2 := by rw [← hW]; simp
  clear hW
  have hS : ∀ X, Below W.heap.size W X → X.cell? ⟨w.heap.size, 0, none⟩ = some (.slice a1 st.d.s.length cap1) ∧ X.cell? ⟨w.heap.size, 1, none⟩ = some (.int .u64 st.d.c) ∧ X.cell? ⟨w.heap.size, 2, none⟩ = some (.int .u64 st.d.o) ∧ X.cell? ⟨w.heap.size, 3, none⟩ = some (.int .i64 st.l) ∧ X.cell? ⟨w.heap.size, 6, none⟩ = some (.slice a4 st.p.length cap4) := fun X h =>
    have b := bP.grown h
    ⟨b.cell 0 rfl, b.cell 1 rfl, b.cell 2 rfl, b.cell 3 rfl, b.cell 6 rfl⟩
  replace hS := Lib.hid hS
  replace hWs := Lib.hid hWs
  have hD : Below W.heap.size W W.drew := (Below.refl _ _).drew
  have hDa := ((Below.refl W.heap.size W).alloc (Nat.le_refl _) (.cells #[.slice none 0 0, .int .u64 0, .int .u64 0, .int .i64 0, .slice none 0 0, .slice none 0 0, .slice none 0 0] 42)).drew
  have hle1 : W.heap.size ≤ W.heap.size := Nat.le_refl _
  have hc1 := hcp.out W.drew (hst1.out.mono hD).d
  have hc1a := hcp.out _ (hst1.out.mono hDa).d
  replace hc1 := Lib.hid hc1
  replace hc1a := Lib.hid hc1a
  go_region_held3 (fun X => X.cell? ⟨w.heap.size, 0, none⟩ = some (.slice a1 st.d.s.length cap1) ∧ X.cell? ⟨w.heap.size, 1, none⟩ = some (.int .u64 st.d.c) ∧ X.cell? ⟨w.heap.size, 2, none⟩ = some (.int .u64 st.d.o) ∧ X.cell? ⟨w.heap.size, 3, none⟩ = some (.int .i64 st.l) ∧ X.cell? ⟨w.heap.size, 6, none⟩ = some (.slice a4 st.p.length cap4))
    (first | (with_reducible exact hS.out _ hD) | (with_reducible exact hS.out _ hDa) | (with_reducible exact hS.out _ hDc) | (with_reducible exact hS.out _ hDca) | (with_reducible exact hS.out _ hDz) | (with_reducible exact hS.out _ (hDz.alloc hDz.size _))
           | (with_reducible exact hS.out _ (((((((hDz.setCell (p := ⟨_, 0, none⟩) hle1 _).setCell (p := ⟨_, 1, none⟩) hle1 _).setCell (p := ⟨_, 2, none⟩) hle1 _).setCell (p := ⟨_, 3, none⟩) hle1 _).setCell (p := ⟨_, 4, none⟩) hle1 _).setCell (p := ⟨_, 5, none⟩) hle1 _).setCell (p := ⟨_, 6, none⟩) hle1 _))
           | (with_reducible exact hS.out _ (((((((hDz.setCell (p := ⟨_, 0, none⟩) hDc.size _).setCell (p := ⟨_, 1, none⟩) hDc.size _).setCell (p := ⟨_, 2, none⟩) hDc.size _).setCell (p := ⟨_, 3, none⟩) hDc.size _).setCell (p := ⟨_, 4, none⟩) hDc.size _).setCell (p := ⟨_, 5, none⟩) hDc.size _).setCell (p := ⟨_, 6, none⟩) hDc.size _)))
    (first | (go_at_call 50; (with_reducible refine hc1.out.mono ?_); rintro e w1 ⟨x1, rfl, hnx, hb1⟩; obtain ⟨b1, q1, rfl⟩ := hnx.num.len; have hDc := hD.trans (hb1.mono hD.size); have hDca := hDc.alloc hDc.size (.cells #[.slice none 0 0, .int .u64 0, .int .u64 0, .int .i64 0, .slice none 0 0, .slice none 0 0, .slice none 0 0] 42); have hs2 := Lib.hid (hsv.out _ (hst1.out.mono hDc).p); have hs2a := Lib.hid (hsv.out _ (hst1.out.mono hDca).p))
           | (go_at_call 51; (with_reducible refine hs2a.out.mono ?_); rintro e wz ⟨p1, κp, rfl, hnp, hbz⟩; obtain ⟨b2, q2, rfl⟩ := hnp.rd.len; have hDz := hDca.trans (hbz.mono hDca.size); have bA2 := (BoxC.new w1 42 #[.slice none 0 0, .int .u64 0, .int .u64 0, .int .i64 0, .slice none 0 0, .slice none 0 0, .slice none 0 0]).grown hbz; have k0 := bA2.cell 0 rfl; have k1 := bA2.cell 1 rfl; have k2 := bA2.cell 2 rfl; have k3 := bA2.cell 3 rfl; have k4 := bA2.cell 4 rfl; have k5 := bA2.cell 5 rfl; have k6 := bA2.cell 6 rfl; have e0 := bA2.frozen 0; have e1 := bA2.frozen 1; have e2 := bA2.frozen 2; have e3 := bA2.frozen 3; have e4 := bA2.frozen 4; have e5 := bA2.frozen 5; have e6 := bA2.frozen 6)
           | (go_at_call 51; (with_reducible refine hs2.out.mono ?_); rintro e wz ⟨p1, κp, rfl, hnp, hbz⟩; obtain ⟨b2, q2, rfl⟩ := hnp.rd.len; have hDz := hDc.trans (hbz.mono hDc.size); have bA2 := bA.grown hbz; have k0 := bA2.cell 0 rfl; have k1 := bA2.cell 1 rfl; have k2 := bA2.cell 2 rfl; have k3 := bA2.cell 3 rfl; have k4 := bA2.cell 4 rfl; have k5 := bA2.cell 5 rfl; have k6 := bA2.cell 6 rfl; have e0 := bA2.frozen 0; have e1 := bA2.frozen 1; have e2 := bA2.frozen 2; have e3 := bA2.frozen 3; have e4 := bA2.frozen 4; have e5 := bA2.frozen 5; have e6 := bA2.frozen 6)
           | (go_at_call 51; (with_reducible refine hs2.out.mono ?_); rintro e wz ⟨p1, κp, rfl, hnp, hbz⟩; obtain ⟨b2, q2, rfl⟩ := hnp.rd.len; have hDz := hDc.trans (hbz.mono hDc.size))
           | (go_at_call 50; (with_reducible refine hc1a.out.mono ?_); rintro e w1 ⟨x1, rfl, hnx, hb1⟩; obtain ⟨b1, q1, rfl⟩ := hnx.num.len; have hDc := hDa.trans (hb1.mono hDa.size); have hDca := hDc.alloc hDc.size (.cells #[.slice none 0 0, .int .u64 0, .int .u64 0, .int .i64 0, .slice none 0 0, .slice none 0 0, .slice none 0 0] 42); have bA := ((BoxC.new W 42 #[.slice none 0 0, .int .u64 0, .int .u64 0, .int .i64 0, .slice none 0 0, .slice none 0 0, .slice none 0 0]).drew).grown hb1; have hs2 := Lib.hid (hsv.out _ (hst1.out.mono hDc).p); have hs2a := Lib.hid (hsv.out _ (hst1.out.mono hDca).p)))
  all_goals
    have hlw : w.heap.size ≤ W.heap.size := by rw [hWs.out]; omega
    first
    | (have hBt := built_new (lo := w.heap.size) (st := st) hDz (own_xp hnx hlw hb1.size hnp hbz)
       generalize wz.alloc (.cells #[.slice b1 st.d.s.length q1, .int .u64 st.d.c, .int .u64 st.d.o, .int .i64 st.l, .slice none 0 0, .slice none 0 0, .slice b2 st.p.length q2] 42) = Wf at hBt ⊢
       generalize wz.heap.size = B3 at hBt ⊢)
    | (have hBt := built_put (lo := w.heap.size) (st := st) bA2 hDc.size hDz (own_xp (hnx.below ((Below.refl w1.heap.size w1).alloc (Nat.le_refl _) (.cells #[.slice none 0 0, .int .u64 0, .int .u64 0, .int .i64 0, .slice none 0 0, .slice none 0 0, .slice none 0 0] 42))) hlw (Nat.le_trans hb1.size (by simp)) hnp hbz)
       change Built w.heap.size W st _ _ w1.heap.size (((((((wz.setCell ⟨w1.heap.size, 0, none⟩ (.slice b1 st.d.s.length q1)).setCell ⟨w1.heap.size, 1, none⟩ (.int .u64 st.d.c)).setCell ⟨w1.heap.size, 2, none⟩ (.int .u64 st.d.o)).setCell ⟨w1.heap.size, 3, none⟩ (.int .i64 st.l)).setCell ⟨w1.heap.size, 4, none⟩ (.slice none 0 0)).setCell ⟨w1.heap.size, 5, none⟩ (.slice none 0 0)).setCell ⟨w1.heap.size, 6, none⟩ (.slice b2 st.p.length q2)) at hBt
       generalize ((((((wz.setCell ⟨w1.heap.size, 0, none⟩ (.slice b1 st.d.s.length q1)).setCell ⟨w1.heap.size, 1, none⟩ (.int .u64 st.d.c)).setCell ⟨w1.heap.size, 2, none⟩ (.int .u64 st.d.o)).setCell ⟨w1.heap.size, 3, none⟩ (.int .i64 st.l)).setCell ⟨w1.heap.size, 4, none⟩ (.slice none 0 0)).setCell ⟨w1.heap.size, 5, none⟩ (.slice none 0 0)).setCell ⟨w1.heap.size, 6, none⟩ (.slice b2 st.p.length q2) = Wf at hBt ⊢
       generalize w1.heap.size = B3 at hBt ⊢)
    | (have hBt := built_put (lo := w.heap.size) (st := st) bA2 (Nat.le_refl _) hDz (own_xp hnx (by simp; omega) hb1.size hnp hbz)
       change Built w.heap.size W st _ _ W.heap.size (((((((wz.setCell ⟨W.heap.size, 0, none⟩ (.slice b1 st.d.s.length q1)).setCell ⟨W.heap.size, 1, none⟩ (.int .u64 st.d.c)).setCell ⟨W.heap.size, 2, none⟩ (.int .u64 st.d.o)).setCell ⟨W.heap.size, 3, none⟩ (.int .i64 st.l)).setCell ⟨W.heap.size, 4, none⟩ (.slice none 0 0)).setCell ⟨W.heap.size, 5, none⟩ (.slice none 0 0)).setCell ⟨W.heap.size, 6, none⟩ (.slice b2 st.p.length q2)) at hBt
       generalize ((((((wz.setCell ⟨W.heap.size, 0, none⟩ (.slice b1 st.d.s.length q1)).setCell ⟨W.heap.size, 1, none⟩ (.int .u64 st.d.c)).setCell ⟨W.heap.size, 2, none⟩ (.int .u64 st.d.o)).setCell ⟨W.heap.size, 3, none⟩ (.int .i64 st.l)).setCell ⟨W.heap.size, 4, none⟩ (.slice none 0 0)).setCell ⟨W.heap.size, 5, none⟩ (.slice none 0 0)).setCell ⟨W.heap.size, 6, none⟩ (.slice b2 st.p.length q2) = Wf at hBt ⊢
       generalize hB3 : W.heap.size = B3 at hBt ⊢)
  all_goals
    obtain ⟨bB, hBle, hBW, κ0, hX0, hP0⟩ := hBt
    have hB3w : w.heap.size + 2 ≤ B3 := by rw [← hWs.out]; exact hBle
    have hBw := hB.trans (hBW.mono hB.size)
    have bP1 := bP.grown hBW
    have bR1 := bR.grown hBW
    try clear hB3
    clear hcp hsv hst1 hS hD hDa hc1 hc1a hnx hb1 hnp hbz hDz hBle hBW hlw hB bP bR
    have p4 := bP1.cell 4 rfl
    have hgn := hF.g
    go_wp2_with fail
    go_loopw [23] (fun i X => ∃ (k : Nat) (κ : Nat → Role) (ug : Value), k ≤ st.g.length ∧ i = .int .i64 k ∧ BoxC X B3 42 #[.slice b1 st.d.s.length q1, .int .u64 st.d.c, .int .u64 st.d.o, .int .i64 st.l, ug, .slice none 0 0, .slice b2 st.p.length q2] ∧ BoxC X w.heap.size 42 #[.slice a1 st.d.s.length cap1, .int .u64 st.d.c, .int .u64 st.d.o, .int .i64 st.l, .slice a2 st.g.length cap2, .slice a3 st.v.length cap3, .slice a4 st.p.length cap4] ∧ BoxC X (w.heap.size + 1) 42 #[.slice none 0 0, .int .u64 0, .int .u64 0, .int .i64 0, .slice none 0 0, .slice none 0 0, .slice none 0 0] ∧
      RowU w.heap.size κ (0, 0, 0) (.slice b1 st.d.s.length q1) st.d.s X ∧ PastO w.heap.size κ (.slice b2 st.p.length q2) st.p X ∧ GenO w.heap.size κ ug (st.g.take k) X ∧ Below w.heap.size w X) (fun i _ => st.g.length - (intOf i).toNat)
    case atStart => exact ⟨0, κ0, _, Nat.zero_le _, rfl, bB, bP1, bR1, hX0, hP0, by rw [List.take_zero]; exact OwL.nil _ _ _ _ _ _, hBw⟩
    case round =>
      clear bB hX0 hP0 hBw bP1 bR1 p4
      obtain ⟨k, κ, ug, hk, rfl, bX, bP, bR, hX, hP, hG, hBX⟩ := hrel
      have hstX := hst0.out.mono hBX
      by_cases hlt : k < st.g.length
      · obtain ⟨b, off, cap', he, hc⟩ := SlOf.at hstX.g hlt
        cases he
        obtain ⟨u, d0, hu⟩ := hc k hlt
        have hki : (k : Int) < (st.g.length : Int) := by omega
        have hdr : Below wr.heap.size wr wr.drew := (Below.refl _ _).drew
        have hs1 := Lib.hid (hsg.out k hlt u wr.drew (hu.mono hdr))
        have hbl := bX.lt
        have x4 : wr.drew.cell? ⟨B3, 4, none⟩ = some ug := bX.cell 4 rfl
        have hlk := take_get hlt
        have hgl : (st.g.take k).length ≤ 1000 := Nat.le_trans (List.length_take_le _ _) (by omega)
        generalize st.g.take k = gk at hG hlk hgl
        replace hlk := Lib.hid hlk
        clear hc hu
        obtain ⟨us, hrow, hels⟩ := hG
        have hwr := hBX.size
        go_wp2_with fail
        have hent : ∀ (args : Array Value) (X : World), (callFunc 51 args).run Try.prog X = .ok (.enter 51 args) X := by intro _ _; rfl
        go_region_law (first
          | (refine step_enter 51 #[u] (by rfl) (by simp [go_sem, hent]) ?_; (with_reducible refine hs1.out.mono ?_); rintro e w2 ⟨v2, κp, rfl, hnp, hb2⟩; obtain ⟨a5, cap5, rfl⟩ := hnp.rd.len; have x5 := ((bX.drew).grown hb2).cell 4 rfl; have hbl2 := hb2.size; have hbl3 : B3 < w2.heap.size := Nat.lt_of_lt_of_le hbl hb2.size; have hw2 : Below wr.heap.size wr w2 := hdr.trans (hb2.mono (Nat.le_refl _)); refine ⟨_, rfl, ?_⟩)
          | (refine step_apX ap38 (by rfl) _ _ (by rfl) (by rfl) (((hrow.mix (N := wr.drew.heap.size) (κ := κp) (f := fGen gk.length) (Nat.le_refl _)).below hw2).alloc _) (by have := hw2.size; simp; omega) ⟨w2.heap.size, 0, none⟩ 1 [.slice a5 (get st.g k).length cap5] (by rfl) (by rfl) (laid_news w2 _ 40) (by simp [Value.oneCell']) (by unfold maxLen; omega) (by omega) ?_; intro v' w4 hrow4 hfr4 hoth4; obtain ⟨a6, cap6, rfl⟩ := hrow4.len; have bX4 := (((bX.drew).grown hb2).alloc (.cells #[.slice a5 (get st.g k).length cap5] 40)).oth hoth4 (by decide); have x6 := bX4.cell 4 rfl; have e6 := bX4.frozen 4; have hbl4 := bX4.lt))
        all_goals
          have hb3 := (Below.refl w2.heap.size w2).alloc (Nat.le_refl _) (.cells #[.slice a5 (get st.g k).length cap5] 40)
          have hG' := gen_push hels hw2 (Nat.le_refl _) hwr hnp hb3 hrow4 hfr4
          rw [← hlk.out] at hG'
          have hw4 : Below w.heap.size w w4 := by
            have h1 := hBX.trans (hw2.mono hBX.size)
            have h2 := h1.trans (hb3.mono h1.size)
            exact h2.trans (hfr4.below h2.size)
          have st2 : ∀ S : Nat → Prop, (∀ q : Role, S q.1 → q ≠ (1, 0, 0)) → Mv w.heap.size κ wr w.heap.size (kfrom (kmix κ wr.drew.heap.size κp (fGen gk.length)) (w2.alloc (.cells #[.slice a5 (get st.g k).length cap5] 40)).heap.size (1, 0, 0)) w4 S := fun S hS =>
            ((Mv.mix S hw2 (Nat.le_refl _)).trans (Mv.below S hb3)).trans (Mv.push S hfr4 hS)
          have bP4 := ((bP.grown hw2).alloc (.cells #[.slice a5 (get st.g k).length cap5] 40)).oth hoth4 (by decide)
          have bR4 := ((bR.grown hw2).alloc (.cells #[.slice a5 (get st.g k).length cap5] 40)).oth hoth4 (by decide)
          have hX4 : RowU _ _ _ _ _ w4 := st2 (fun t => t = 0) (fun q h e => by rw [e] at h; cases h) _ _ _ _ _ _ rfl (by decide) hX
          have hP4 := hP.mv (st2 _ (fun q h e => by rw [e] at h; simp at h))
          have mB := fun S => Mv.box (lo := w.heap.size) (κ := kfrom (kmix κ wr.drew.heap.size κp (fGen gk.length)) (w2.alloc (.cells #[.slice a5 (get st.g k).length cap5] 40)).heap.size (1, 0, 0)) S bX4 4 (.slice a6 (gk.length + 1) cap6)
          have bX5 := bX4.set 4 (.slice a6 (gk.length + 1) cap6)
          simp only [List.setIfInBounds_toArray, List.set_cons_zero, List.set_cons_succ] at bX5
          go_wp2_with fail
          go_roundw
          case rel => exact ⟨k + 1, _, _, by omega, by go_num, bX5, bP4.other (p := ⟨B3, 4, none⟩) (by show w.heap.size ≠ B3; omega) _, bR4.other (p := ⟨B3, 4, none⟩) (by show w.heap.size + 1 ≠ B3; omega) _, mB (fun t => t = 0) _ _ _ _ _ _ rfl (by decide) hX4, hP4.mv (mB _), hG'.mv (mB _), hw4.setCell (p := ⟨B3, 4, none⟩) (by show w.heap.size ≤ B3; omega) _⟩
          case measure => simp [intOf]; omega
      · obtain rfl : k = st.g.length := by omega
        rw [List.take_length] at hG
        obtain ⟨a7, cap7, rfl⟩ := SlOf.len hG.rd
        have p5 := bP.cell 5 rfl
        have hvn := hF.v
        clear hstX
        go_wp2_with fail
        go_loopw [38] (fun i X => ∃ (k : Nat) (κ : Nat → Role) (uv : Value), k ≤ st.v.length ∧ i = .int .i64 k ∧ BoxC X B3 42 #[.slice b1 st.d.s.length q1, .int .u64 st.d.c, .int .u64 st.d.o, .int .i64 st.l, .slice a7 st.g.length cap7, uv, .slice b2 st.p.length q2] ∧ BoxC X w.heap.size 42 #[.slice a1 st.d.s.length cap1, .int .u64 st.d.c, .int .u64 st.d.o, .int .i64 st.l, .slice a2 st.g.length cap2, .slice a3 st.v.length cap3, .slice a4 st.p.length cap4] ∧ BoxC X (w.heap.size + 1) 42 #[.slice none 0 0, .int .u64 0, .int .u64 0, .int .i64 0, .slice none 0 0, .slice none 0 0, .slice none 0 0] ∧
          RowU w.heap.size κ (0, 0, 0) (.slice b1 st.d.s.length q1) st.d.s X ∧ PastO w.heap.size κ (.slice b2 st.p.length q2) st.p X ∧ GenO w.heap.size κ (.slice a7 st.g.length cap7) st.g X ∧ DivO w.heap.size κ uv (st.v.take k) X ∧ Below w.heap.size w X) (fun i _ => st.v.length - (intOf i).toNat)
        case atStart => exact ⟨0, κ, _, Nat.zero_le _, rfl, bX, bP, bR, hX, hP, hG, by rw [List.take_zero]; exact OwL.nil _ _ _ _ _ _, hBX⟩
        case round =>
          clear bX bP bR hX hP hG hBX p5
          obtain ⟨k, κ, uv, hk, rfl, bX, bP, bR, hX, hP, hG, hV, hBX⟩ := hrel
          have hstX := hst0.out.mono hBX
          by_cases hlt : k < st.v.length
          · obtain ⟨b, off, cap', he, hc⟩ := SlOf.at hstX.v hlt
            cases he
            obtain ⟨u, d0, hu⟩ := hc k hlt
            have hki : (k : Int) < (st.v.length : Int) := by omega
            obtain ⟨a8, cap8, rfl⟩ := SlOf.len hu
            have hml := hF.vl k hlt
            have hwr := hBX.size
            clear hc hstX
            go_wp2_with fail
            obtain ⟨W2, hW2⟩ : ∃ W2, W2 = wr := ⟨_, rfl⟩
            subst hW2
            go_loopw [8, 44] (fun ul i X => ∃ (j : Nat) (κl : Nat → Role), j ≤ (get st.v k).length ∧ i = .int .i64 j ∧ LvlC W2.heap.size κl ul ((get st.v k).take j) X ∧ Below W2.heap.size W2 X) (fun _ i _ => (get st.v k).length - (intOf i).toNat)
            case atStart => exact ⟨0, fun _ => (0, 0, 0), Nat.zero_le _, rfl, by rw [List.take_zero]; exact OwL.nil _ _ _ _ _ _, Below.refl _ _⟩
            case round =>
              obtain ⟨j, κl, hj, rfl, hL, hBY⟩ := hrel
              by_cases hlt2 : j < (get st.v k).length
              · obtain ⟨b', off', cap9, he2, hc2⟩ := SlOf.at (LvlSl.mono hu hBY) hlt2
                cases he2
                obtain ⟨u2, e0, hu2⟩ := hc2 j hlt2
                have hji : (j : Int) < ((get st.v k).length : Int) := by omega
                have hc1 := Lib.hid (hcl.out k j hlt hlt2 u2 wr hu2)
                have hlk := take_get hlt2
                have hgl : ((get st.v k).take j).length ≤ 1000 := Nat.le_trans (List.length_take_le _ _) (by omega)
                generalize (get st.v k).take j = gk at hL hlk hgl
                replace hlk := Lib.hid hlk
                obtain ⟨us, hrow, hels⟩ := hL
                have hYs := hBY.size
                clear hc2 hu2
                go_wp2_with fail
                refine hc1.out.mono ?_
                rintro e w2 ⟨v2, rfl, hnew, hb2⟩
                obtain ⟨a9, cap9, rfl⟩ := hnew.num.len
                have hb2s := hb2.size
                have hb3 := (Below.refl w2.heap.size w2).alloc (Nat.le_refl _) (.cells #[.slice a9 (get (get st.v k) j).length cap9] 34)
                go_wp2_with (at_builtin; refine wpList_apX ap59 rfl _ _ rfl rfl ((hrow.newk (r := (2, gk.length, 0)) hb2).alloc _) (by simp; omega) ⟨w2.heap.size, 0, none⟩ 1 [.slice a9 (get (get st.v k) j).length cap9] rfl rfl (laid_news w2 _ 34) (by simp [Value.oneCell']) (by unfold maxLen; omega) (by omega) ?_; intro v' w4 hrow4 hfr4 hoth4)
                have hL' := lvl_push hels hb2 (Nat.le_refl _) hYs hnew hb3 hrow4 hfr4
                rw [← hlk.out] at hL'
                have h1 := hBY.trans (hb2.mono hYs)
                have h2 := h1.trans (hb3.mono h1.size)
                have h4 := h2.trans (hfr4.below h2.size)
                go_roundw
                case rel => exact ⟨j + 1, _, by omega, by go_num, hL', h4⟩
                case measure => simp [intOf]; omega
              · obtain rfl : j = (get st.v k).length := by omega
                rw [List.take_length] at hL
                obtain ⟨a9, cap9, rfl⟩ := SlOf.len hL.rd
                obtain ⟨us, hrow, hels⟩ := hV
                have hlk := take_get hlt
                have hgl : (st.v.take k).length ≤ 1000 := Nat.le_trans (List.length_take_le _ _) (by omega)
                generalize st.v.take k = gk at hrow hels hlk hgl
                replace hlk := Lib.hid hlk
                have hb3 := (Below.refl wr.heap.size wr).alloc (Nat.le_refl _) (.cells #[.slice a9 (get st.v k).length cap9] 59)
                have bX2 := bX.grown hBY
                have x5 := bX2.cell 5 rfl
                have hbl := bX2.lt
                have hYs := hBY.size
                go_wp2_with (at_builtin; refine wpList_apX ap39 rfl _ _ rfl rfl (((hrow.mix (N := W2.heap.size) (κ := κl) (f := fDiv gk.length) (Nat.le_refl _)).below hBY).alloc _) (by simp; omega) ⟨wr.heap.size, 0, none⟩ 1 [.slice a9 (get st.v k).length cap9] rfl rfl (laid_news wr _ 59) (by simp [Value.oneCell']) (by unfold maxLen; omega) (by omega) ?_; intro v' w4 hrow4 hfr4 hoth4; obtain ⟨a6, cap6, rfl⟩ := hrow4.len; have bX4 := (bX2.alloc (.cells #[.slice a9 (get st.v k).length cap9] 59)).oth hoth4 (by decide); have x6 := bX4.cell 5 rfl; have e6 := bX4.frozen 5; have hbl4 := bX4.lt)
                have hV' := div_push hels hBY (Nat.le_refl _) hwr hL hb3 hrow4 hfr4
                rw [← hlk.out] at hV'
                have hw4 : Below w.heap.size w w4 := by
                  have h1 := hBX.trans (hBY.mono hBX.size)
                  have h2 := h1.trans (hb3.mono h1.size)
                  exact h2.trans (hfr4.below h2.size)
                have st2 : ∀ S : Nat → Prop, (∀ q : Role, S q.1 → q ≠ (4, 0, 0)) → Mv w.heap.size κ W2 w.heap.size (kfrom (kmix κ W2.heap.size κl (fDiv gk.length)) (wr.alloc (.cells #[.slice a9 (get st.v k).length cap9] 59)).heap.size (4, 0, 0)) w4 S := fun S hS =>
                  ((Mv.mix S hBY (Nat.le_refl _)).trans (Mv.below S hb3)).trans (Mv.push S hfr4 hS)
                have bP4 := ((bP.grown hBY).alloc (.cells #[.slice a9 (get st.v k).length cap9] 59)).oth hoth4 (by decide)
                have bR4 := ((bR.grown hBY).alloc (.cells #[.slice a9 (get st.v k).length cap9] 59)).oth hoth4 (by decide)
                have hX4 : RowU _ _ _ _ _ w4 := st2 (fun t => t = 0) (fun q h e => by rw [e] at h; cases h) _ _ _ _ _ _ rfl (by decide) hX
                have hP4 := hP.mv (st2 _ (fun q h e => by rw [e] at h; simp at h))
                have hG4 := hG.mv (st2 _ (fun q h e => by rw [e] at h; simp at h))
                have mB := fun S => Mv.box (lo := w.heap.size) (κ := kfrom (kmix κ W2.heap.size κl (fDiv gk.length)) (wr.alloc (.cells #[.slice a9 (get st.v k).length cap9] 59)).heap.size (4, 0, 0)) S bX4 5 (.slice a6 (gk.length + 1) cap6)
                have bX5 := bX4.set 5 (.slice a6 (gk.length + 1) cap6)
                simp only [List.setIfInBounds_toArray, List.set_cons_zero, List.set_cons_succ] at bX5
                go_roundw
                case rel => exact ⟨k + 1, _, _, by omega, by go_num, bX5, bP4.other (p := ⟨B3, 5, none⟩) (by show w.heap.size ≠ B3; omega) _, bR4.other (p := ⟨B3, 5, none⟩) (by show w.heap.size + 1 ≠ B3; omega) _, mB (fun t => t = 0) _ _ _ _ _ _ rfl (by decide) hX4, hP4.mv (mB _), hG4.mv (mB _), hV'.mv (mB _), hw4.setCell (p := ⟨B3, 5, none⟩) (by show w.heap.size ≤ B3; omega) _⟩
                case measure => simp [intOf]; omega
          · obtain rfl : k = st.v.length := by omega
            rw [List.take_length] at hV
            obtain ⟨a8, cap8, rfl⟩ := SlOf.len hV.rd
            have x0 := bX.cell 0 rfl
            have x1 := bX.cell 1 rfl
            have x2 := bX.cell 2 rfl
            have x3 := bX.cell 3 rfl
            have x4 := bX.cell 4 rfl
            have x5 := bX.cell 5 rfl
            have x6 := bX.cell 6 rfl
            have r0 := bR.cell 0 rfl
            have r1 := bR.cell 1 rfl
            have r2 := bR.cell 2 rfl
            have r3 := bR.cell 3 rfl
            have r4 := bR.cell 4 rfl
            have r5 := bR.cell 5 rfl
            have r6 := bR.cell 6 rfl
            have e0 := bR.frozen 0
            have e1 := bR.frozen 1
            have e2 := bR.frozen 2
            have e3 := bR.frozen 3
            have e4 := bR.frozen 4
            have e5 := bR.frozen 5
            have e6 := bR.frozen 6
            clear hstX
            go_wp2
            have hS : StO w.heap.size κ st (.slice b1 st.d.s.length q1) (.slice a7 st.g.length cap7) (.slice a8 st.v.length cap8) (.slice b2 st.p.length q2) wr := ⟨hX, hG, hV, hP⟩
            exact bodyPost_ret (ret_cell Try.results32 rfl (bR.put7 _ _ _ _ _ _ _) Try.underlying42 size42) rfl ⟨_, _, _, _, κ, rfl, hS.mv (Mv.put7 _ bR _ _ _ _ _ _ _), below_put7 _ _ _ _ _ _ _ hBX (by omega)⟩
end Go.Proofs.Ytgnamahdchefnaa
