/- The contract of twin: a state of its own, by the model. Conditions: states of at most 1000 elements in each list. -/
import Derived.Test.YtgnamahdchefnaaW6
namespace Go.Proofs.Ytgnamahdchefnaa
open Go.RowKit Go.Shelf

/-- a state's box behind the first region of twin -/
structure BuiltT (lo : Nat) (W : World) (st : St) (x : Value) (B : Nat) (X : World) : Prop where
  b : BoxC X B 42 #[x, .int .u64 st.d.c, .int .u64 st.d.o, .int .i64 st.l, .slice none 0 0, .slice none 0 0, .slice none 0 0]
  le : W.heap.size ≤ B
  bl : Below W.heap.size W X
  o : ∃ κ, RowU lo κ (0, 0, 0) x st.d.s X
theorem builtT_new {lo N : Nat} {W X : World} {st : St} {x : Value} (hb : Below W.heap.size W X) (hx : NewU N st.d.s x X) (hl : lo ≤ N) :
    BuiltT lo W st x X.heap.size (X.alloc (.cells #[x, .int .u64 st.d.c, .int .u64 st.d.o, .int .i64 st.l, .slice none 0 0, .slice none 0 0, .slice none 0 0] 42)) := by
  have ha := (Below.refl X.heap.size X).alloc (Nat.le_refl _) (.cells #[x, .int .u64 st.d.c, .int .u64 st.d.o, .int .i64 st.l, .slice none 0 0, .slice none 0 0, .slice none 0 0] 42)
  exact ⟨BoxC.new X 42 _, hb.size, hb.alloc hb.size _, _, RowX.below (hx.row hl (fun _ => (0, 0, 0)) (0, 0, 0)) ha⟩
theorem builtT_put {lo N B : Nat} {W X : World} {st : St} {x a b c d e f g : Value} (hB : BoxC X B 42 #[a, b, c, d, e, f, g]) (hle : W.heap.size ≤ B) (hb : Below W.heap.size W X) (hx : NewU N st.d.s x X) (hl : lo ≤ N) :
    BuiltT lo W st x B (put7 X B x (.int .u64 st.d.c) (.int .u64 st.d.o) (.int .i64 st.l) (.slice none 0 0) (.slice none 0 0) (.slice none 0 0)) :=
  ⟨hB.put7 _ _ _ _ _ _ _, hle, below_put7 _ _ _ _ _ _ _ hb hle, _, Mv.put7 (fun _ => True) hB _ _ _ _ _ _ _ _ _ _ _ _ _ trivial (by decide) (hx.row hl (fun _ => (0, 0, 0)) (0, 0, 0))⟩

set_option maxRecDepth 100000 in
set_option maxHeartbeats 4000000 in
theorem twin_any (x xg xv xp : Value) (st : St) (w : World) (hst : StR w x xg xv xp st) (hF : st.Fit) : Calls Try.prog 16 #[stV x st.d.c st.d.o st.l xg xv xp] w (StPost st w) := by
  have hB := ((Below.refl w.heap.size w).alloc (Nat.le_refl _) (.cells #[x, .int .u64 st.d.c, .int .u64 st.d.o, .int .i64 st.l, xg, xv, xp] 42)).alloc (by simp) (.cells #[.slice none 0 0, .int .u64 0, .int .u64 0, .int .i64 0, .slice none 0 0, .slice none 0 0, .slice none 0 0] 42)
  have bP := (BoxC.new w 42 #[x, .int .u64 st.d.c, .int .u64 st.d.o, .int .i64 st.l, xg, xv, xp]).alloc (.cells #[.slice none 0 0, .int .u64 0, .int .u64 0, .int .i64 0, .slice none 0 0, .slice none 0 0, .slice none 0 0] 42)
  have bR := BoxC.new (w.alloc (.cells #[x, .int .u64 st.d.c, .int .u64 st.d.o, .int .i64 st.l, xg, xv, xp] 42)) 42 #[.slice none 0 0, .int .u64 0, .int .u64 0, .int .i64 0, .slice none 0 0, .slice none 0 0, .slice none 0 0]
  simp only [World.size_alloc] at bR
  have hst1 := hst.mono hB
  obtain ⟨a1, cap1, rfl⟩ := hst.d.len
  obtain ⟨a2, cap2, rfl⟩ := SlOf.len hst.g
  obtain ⟨a3, cap3, rfl⟩ := SlOf.len hst.v
  obtain ⟨a4, cap4, rfl⟩ := hst.p.len
  have hcp := fun (r : Rg) u X h => lawClone_any u r X h
  have hcl := fun i j hi hj u X h => Clone_any u (get (get st.v i) j) X h (hF.vd i j hi hj)
  have hst0 := Lib.hid hst
  clear hst
  replace hcp := Lib.hid hcp
  replace hcl := Lib.hid hcl
  replace hst1 := Lib.hid hst1
  have hent : ∀ (args : Array Value) (X : World), (callFunc 18 args).run Try.prog X = .ok (.enter 18 args) X := by intro _ _; rfl
  go_enter Try.func16, Try.ntmps16
  go_wp2_with fail
  generalize hW : (w.alloc (.cells #[.slice a1 st.d.s.length cap1, .int .u64 st.d.c, .int .u64 st.d.o, .int .i64 st.l, .slice a2 st.g.length cap2, .slice a3 st.v.length cap3, .slice a4 st.p.length cap4] 42)).alloc (.cells #[.slice none 0 0, .int .u64 0, .int .u64 0, .int .i64 0, .slice none 0 0, .slice none 0 0, .slice none 0 0] 42) = W at hB bP bR hst1 ⊢
  have hWs : W.heap.size = w.heap.size + 2 := by rw [← hW]; simp
  clear hW
  have hS : ∀ X, Below W.heap.size W X → X.cell? ⟨w.heap.size, 0, none⟩ = some (.slice a1 st.d.s.length cap1) ∧ X.cell? ⟨w.heap.size, 1, none⟩ = some (.int .u64 st.d.c) ∧ X.cell? ⟨w.heap.size, 2, none⟩ = some (.int .u64 st.d.o) ∧ X.cell? ⟨w.heap.size, 3, none⟩ = some (.int .i64 st.l) := fun X h =>
    have b := bP.grown h
    ⟨b.cell 0 rfl, b.cell 1 rfl, b.cell 2 rfl, b.cell 3 rfl⟩
  replace hS := Lib.hid hS
  replace hWs := Lib.hid hWs
  have hD : Below W.heap.size W W.drew := (Below.refl _ _).drew
  have hDa := ((Below.refl W.heap.size W).alloc (Nat.le_refl _) (.cells #[.slice none 0 0, .int .u64 0, .int .u64 0, .int .i64 0, .slice none 0 0, .slice none 0 0, .slice none 0 0] 42)).drew
  have hle1 : W.heap.size ≤ W.heap.size := Nat.le_refl _
  have hc1 := hcp.out st.d _ W.drew (hst1.out.mono hD).d hF.d
  have hc1a := hcp.out st.d _ _ (hst1.out.mono hDa).d hF.d
  replace hc1 := Lib.hid hc1
  replace hc1a := Lib.hid hc1a
  go_region_held3 (fun X => X.cell? ⟨w.heap.size, 0, none⟩ = some (.slice a1 st.d.s.length cap1) ∧ X.cell? ⟨w.heap.size, 1, none⟩ = some (.int .u64 st.d.c) ∧ X.cell? ⟨w.heap.size, 2, none⟩ = some (.int .u64 st.d.o) ∧ X.cell? ⟨w.heap.size, 3, none⟩ = some (.int .i64 st.l))
    (first | (with_reducible exact hS.out _ hD) | (with_reducible exact hS.out _ hDa) | (with_reducible exact hS.out _ hDz) | (with_reducible exact hS.out _ (hDz.alloc hDz.size _))
           | (with_reducible exact hS.out _ (((((((hDz.setCell (p := ⟨_, 0, none⟩) hle1 _).setCell (p := ⟨_, 1, none⟩) hle1 _).setCell (p := ⟨_, 2, none⟩) hle1 _).setCell (p := ⟨_, 3, none⟩) hle1 _).setCell (p := ⟨_, 4, none⟩) hle1 _).setCell (p := ⟨_, 5, none⟩) hle1 _).setCell (p := ⟨_, 6, none⟩) hle1 _)))
    (first | (go_at_call 18; (with_reducible refine hc1.out.mono ?_); rintro e wz ⟨x1, rfl, hnx, hb1⟩; obtain ⟨b1, q1, rfl⟩ := hnx.num.len; have hDz := hD.trans (hb1.mono hD.size))
           | (go_at_call 18; (with_reducible refine hc1a.out.mono ?_); rintro e wz ⟨x1, rfl, hnx, hb1⟩; obtain ⟨b1, q1, rfl⟩ := hnx.num.len; have hDz := hDa.trans (hb1.mono hDa.size); have bA2 := ((BoxC.new W 42 #[.slice none 0 0, .int .u64 0, .int .u64 0, .int .i64 0, .slice none 0 0, .slice none 0 0, .slice none 0 0]).drew).grown hb1; have k0 := bA2.cell 0 rfl; have k1 := bA2.cell 1 rfl; have k2 := bA2.cell 2 rfl; have k3 := bA2.cell 3 rfl; have k4 := bA2.cell 4 rfl; have k5 := bA2.cell 5 rfl; have k6 := bA2.cell 6 rfl; have e0 := bA2.frozen 0; have e1 := bA2.frozen 1; have e2 := bA2.frozen 2; have e3 := bA2.frozen 3; have e4 := bA2.frozen 4; have e5 := bA2.frozen 5; have e6 := bA2.frozen 6))
  all_goals
    have hlw : w.heap.size ≤ W.heap.size := by rw [hWs.out]; omega
    first
    | (have hBt := builtT_new (lo := w.heap.size) hDz hnx hlw
       generalize wz.alloc (.cells #[.slice b1 st.d.s.length q1, .int .u64 st.d.c, .int .u64 st.d.o, .int .i64 st.l, .slice none 0 0, .slice none 0 0, .slice none 0 0] 42) = Wf at hBt ⊢
       generalize wz.heap.size = B3 at hBt ⊢)
    | (have hBt := builtT_put (lo := w.heap.size) bA2 (Nat.le_refl _) hDz hnx (by simp; omega)
       change BuiltT w.heap.size W st _ W.heap.size (((((((wz.setCell ⟨W.heap.size, 0, none⟩ (.slice b1 st.d.s.length q1)).setCell ⟨W.heap.size, 1, none⟩ (.int .u64 st.d.c)).setCell ⟨W.heap.size, 2, none⟩ (.int .u64 st.d.o)).setCell ⟨W.heap.size, 3, none⟩ (.int .i64 st.l)).setCell ⟨W.heap.size, 4, none⟩ (.slice none 0 0)).setCell ⟨W.heap.size, 5, none⟩ (.slice none 0 0)).setCell ⟨W.heap.size, 6, none⟩ (.slice none 0 0)) at hBt
       generalize ((((((wz.setCell ⟨W.heap.size, 0, none⟩ (.slice b1 st.d.s.length q1)).setCell ⟨W.heap.size, 1, none⟩ (.int .u64 st.d.c)).setCell ⟨W.heap.size, 2, none⟩ (.int .u64 st.d.o)).setCell ⟨W.heap.size, 3, none⟩ (.int .i64 st.l)).setCell ⟨W.heap.size, 4, none⟩ (.slice none 0 0)).setCell ⟨W.heap.size, 5, none⟩ (.slice none 0 0)).setCell ⟨W.heap.size, 6, none⟩ (.slice none 0 0) = Wf at hBt ⊢
       generalize hB3 : W.heap.size = B3 at hBt ⊢)
  all_goals
    obtain ⟨bB, hBle, hBW, κ0, hX0⟩ := hBt
    have hB3w : w.heap.size + 2 ≤ B3 := by rw [← hWs.out]; exact hBle
    have hBw := hB.trans (hBW.mono hB.size)
    have bP1 := bP.grown hBW
    have bR1 := bR.grown hBW
    try clear hB3
    clear hst1 hS hD hDa hc1 hc1a hnx hb1 hDz hBle hBW hlw hB bP bR
    have p4 := bP1.cell 4 rfl
    have hgn := hF.g
    go_wp2_with fail
    go_loopw [25] (fun i X => ∃ (k : Nat) (κ : Nat → Role) (ug : Value), k ≤ st.g.length ∧ i = .int .i64 k ∧ BoxC X B3 42 #[.slice b1 st.d.s.length q1, .int .u64 st.d.c, .int .u64 st.d.o, .int .i64 st.l, ug, .slice none 0 0, .slice none 0 0] ∧ BoxC X w.heap.size 42 #[.slice a1 st.d.s.length cap1, .int .u64 st.d.c, .int .u64 st.d.o, .int .i64 st.l, .slice a2 st.g.length cap2, .slice a3 st.v.length cap3, .slice a4 st.p.length cap4] ∧ BoxC X (w.heap.size + 1) 42 #[.slice none 0 0, .int .u64 0, .int .u64 0, .int .i64 0, .slice none 0 0, .slice none 0 0, .slice none 0 0] ∧
      RowU w.heap.size κ (0, 0, 0) (.slice b1 st.d.s.length q1) st.d.s X ∧ GenO w.heap.size κ ug (st.g.take k) X ∧ Below w.heap.size w X) (fun i _ => st.g.length - (intOf i).toNat)
    case atStart => exact ⟨0, κ0, _, Nat.zero_le _, rfl, bB, bP1, bR1, hX0, by rw [List.take_zero]; exact OwL.nil _ _ _ _ _ _, hBw⟩
    case round =>
      clear bB hX0 hBw bP1 bR1 p4
      obtain ⟨k, κ, ug, hk, rfl, bX, bP, bR, hX, hG, hBX⟩ := hrel
      have hstX := hst0.out.mono hBX
      by_cases hlt : k < st.g.length
      · obtain ⟨b, off, cap', he, hc⟩ := SlOf.at hstX.g hlt
        cases he
        obtain ⟨u, d0, hu⟩ := hc k hlt
        have hki : (k : Int) < (st.g.length : Int) := by omega
        obtain ⟨a8, cap8, rfl⟩ := hu.len
        have hml := hF.gl k hlt
        have hwr := hBX.size
        clear hc hstX
        go_wp2_with fail
        obtain ⟨W2, hW2⟩ : ∃ W2, W2 = wr := ⟨_, rfl⟩
        subst hW2
        go_loopw [6, 31] (fun ul i X => ∃ (j : Nat) (κl : Nat → Role), j ≤ (get st.g k).length ∧ i = .int .i64 j ∧ RegsO W2.heap.size κl (1, 0, 0) (fun j => (2, j, 0)) ul ((get st.g k).take j) X ∧ Below W2.heap.size W2 X) (fun _ i _ => (get st.g k).length - (intOf i).toNat)
        case atStart => exact ⟨0, fun _ => (0, 0, 0), Nat.zero_le _, rfl, by rw [List.take_zero]; exact RegsO.nil _ _ _ _ _, Below.refl _ _⟩
        case round =>
          obtain ⟨j, κl, hj, rfl, hL, hBY⟩ := hrel
          by_cases hlt2 : j < (get st.g k).length
          · obtain ⟨b', off', cap9, he2, hc2⟩ := (hu.mono hBY).at hlt2
            cases he2
            obtain ⟨u2, d0', hsn, d1, d2⟩ := hc2 j hlt2
            have hji : (j : Int) < ((get st.g k).length : Int) := by omega
            have hB1 := (Below.refl wr.heap.size wr).alloc (Nat.le_refl _) (.cells #[u2, .int .u64 (get (get st.g k) j).c, .int .u64 (get (get st.g k) j).o] 37)
            have bQ := BoxC.new wr 37 #[u2, .int .u64 (get (get st.g k) j).c, .int .u64 (get (get st.g k) j).o]
            have hc1 := Lib.hid (hcp.out (get (get st.g k) j) u2 _ (hsn.mono hB1) (hF.gr k j hlt hlt2))
            obtain ⟨a9, cap9, rfl⟩ := hsn.len
            have hlk := take_get hlt2
            have hgl : ((get st.g k).take j).length ≤ 1000 := Nat.le_trans (List.length_take_le _ _) (by omega)
            generalize (get st.g k).take j = gk at hL hlk hgl
            replace hlk := Lib.hid hlk
            obtain ⟨us, hrow, hels⟩ := hL
            have hYs := hBY.size
            have q0 := bQ.cell 0 rfl
            have q1' := bQ.cell 1 rfl
            have q2 := bQ.cell 2 rfl
            clear hc2 hsn
            go_wp2_with fail
            refine hc1.out.mono ?_
            rintro e w2 ⟨v2, rfl, hnew, hb2⟩
            obtain ⟨a10, cap10, rfl⟩ := hnew.num.len
            have hb2s := hb2.size
            simp only [World.size_alloc] at hb2s
            have hw2 := hB1.trans (hb2.mono hB1.size)
            have hb3 := (Below.refl w2.heap.size w2).alloc (Nat.le_refl _) (.cells #[.slice a10 (get (get st.g k) j).s.length cap10, .int .u64 (get (get st.g k) j).c, .int .u64 (get (get st.g k) j).o] 37)
            have hrow2 := Mv.newkM (r := (2, gk.length, 0)) (M := (wr.alloc (.cells #[.slice a9 (get (get st.g k) j).s.length cap9, .int .u64 (get (get st.g k) j).c, .int .u64 (get (get st.g k) j).o] 37)).heap.size) (fun _ => True) hw2 hB1.size _ _ _ _ _ _ trivial (by decide) hrow
            go_wp2_with (at_builtin; refine wpList_apX ap40 rfl _ _ rfl rfl (hrow2.alloc _) (by simp; omega) ⟨w2.heap.size, 0, none⟩ 1 [.slice a10 (get (get st.g k) j).s.length cap10, .int .u64 (get (get st.g k) j).c, .int .u64 (get (get st.g k) j).o] rfl rfl (laid_news w2 _ 37) (by simp [Value.oneCell']) (by unfold maxLen; omega) (by omega) ?_; intro v' w4 hrow4 hfr4 hoth4)
            have hL' := regs_push (rg := get (get st.g k) j) (rs := fun j => (2, j, 0)) (fun j => by simp) hels hw2 hB1.size (by simp; omega) hnew hb3 hrow4 hfr4
            rw [← hlk.out] at hL'
            have h1 := hBY.trans (hw2.mono hYs)
            have h2 := h1.trans (hb3.mono h1.size)
            have h4 := h2.trans (hfr4.below h2.size)
            go_roundw
            case rel => exact ⟨j + 1, _, by omega, by go_num, hL', h4⟩
            case measure => simp [intOf]; omega
          · obtain rfl : j = (get st.g k).length := by omega
            rw [List.take_length] at hL
            obtain ⟨a9, cap9, rfl⟩ := hL.rd.len
            obtain ⟨us, hrow, hels⟩ := hG
            have hlk := take_get hlt
            have hgl : (st.g.take k).length ≤ 1000 := Nat.le_trans (List.length_take_le _ _) (by omega)
            generalize st.g.take k = gk at hrow hels hlk hgl
            replace hlk := Lib.hid hlk
            have hb3 := (Below.refl wr.heap.size wr).alloc (Nat.le_refl _) (.cells #[.slice a9 (get st.g k).length cap9] 40)
            have bX2 := bX.grown hBY
            have x4 := bX2.cell 4 rfl
            have hbl := bX2.lt
            have hYs := hBY.size
            go_wp2_with (at_builtin; refine wpList_apX ap38 rfl _ _ rfl rfl (((hrow.mix (N := W2.heap.size) (κ := κl) (f := fGen gk.length) (Nat.le_refl _)).below hBY).alloc _) (by simp; omega) ⟨wr.heap.size, 0, none⟩ 1 [.slice a9 (get st.g k).length cap9] rfl rfl (laid_news wr _ 40) (by simp [Value.oneCell']) (by unfold maxLen; omega) (by omega) ?_; intro v' w4 hrow4 hfr4 hoth4; obtain ⟨a6, cap6, rfl⟩ := hrow4.len; have bX4 := (bX2.alloc (.cells #[.slice a9 (get st.g k).length cap9] 40)).oth hoth4 (by decide); have x6 := bX4.cell 4 rfl; have e6 := bX4.frozen 4; have hbl4 := bX4.lt)
            have hG' := gen_push hels hBY (Nat.le_refl _) hwr hL hb3 hrow4 hfr4
            rw [← hlk.out] at hG'
            have hw4 : Below w.heap.size w w4 := by
              have h1 := hBX.trans (hBY.mono hBX.size)
              have h2 := h1.trans (hb3.mono h1.size)
              exact h2.trans (hfr4.below h2.size)
            have st2 : ∀ S : Nat → Prop, (∀ q : Role, S q.1 → q ≠ (1, 0, 0)) → Mv w.heap.size κ W2 w.heap.size (kfrom (kmix κ W2.heap.size κl (fGen gk.length)) (wr.alloc (.cells #[.slice a9 (get st.g k).length cap9] 40)).heap.size (1, 0, 0)) w4 S := fun S hS =>
              ((Mv.mix S hBY (Nat.le_refl _)).trans (Mv.below S hb3)).trans (Mv.push S hfr4 hS)
            have bP4 := ((bP.grown hBY).alloc (.cells #[.slice a9 (get st.g k).length cap9] 40)).oth hoth4 (by decide)
            have bR4 := ((bR.grown hBY).alloc (.cells #[.slice a9 (get st.g k).length cap9] 40)).oth hoth4 (by decide)
            have hX4 : RowU _ _ _ _ _ w4 := st2 (fun t => t = 0) (fun q h e => by rw [e] at h; cases h) _ _ _ _ _ _ rfl (by decide) hX
            have mB := fun S => Mv.box (lo := w.heap.size) (κ := kfrom (kmix κ W2.heap.size κl (fGen gk.length)) (wr.alloc (.cells #[.slice a9 (get st.g k).length cap9] 40)).heap.size (1, 0, 0)) S bX4 4 (.slice a6 (gk.length + 1) cap6)
            have bX5 := bX4.set 4 (.slice a6 (gk.length + 1) cap6)
            simp only [List.setIfInBounds_toArray, List.set_cons_zero, List.set_cons_succ] at bX5
            go_roundw
            case rel => exact ⟨k + 1, _, _, by omega, by go_num, bX5, bP4.other (p := ⟨B3, 4, none⟩) (by show w.heap.size ≠ B3; omega) _, bR4.other (p := ⟨B3, 4, none⟩) (by show w.heap.size + 1 ≠ B3; omega) _, mB (fun t => t = 0) _ _ _ _ _ _ rfl (by decide) hX4, hG'.mv (mB _), hw4.setCell (p := ⟨B3, 4, none⟩) (by show w.heap.size ≤ B3; omega) _⟩
            case measure => simp [intOf]; omega
      · obtain rfl : k = st.g.length := by omega
        rw [List.take_length] at hG
        obtain ⟨a7, cap7, rfl⟩ := SlOf.len hG.rd
        have p5 := bP.cell 5 rfl
        have hvn := hF.v
        clear hstX
        go_wp2_with fail
        go_loopw [51] (fun i X => ∃ (k : Nat) (κ : Nat → Role) (uv : Value), k ≤ st.v.length ∧ i = .int .i64 k ∧ BoxC X B3 42 #[.slice b1 st.d.s.length q1, .int .u64 st.d.c, .int .u64 st.d.o, .int .i64 st.l, .slice a7 st.g.length cap7, uv, .slice none 0 0] ∧ BoxC X w.heap.size 42 #[.slice a1 st.d.s.length cap1, .int .u64 st.d.c, .int .u64 st.d.o, .int .i64 st.l, .slice a2 st.g.length cap2, .slice a3 st.v.length cap3, .slice a4 st.p.length cap4] ∧ BoxC X (w.heap.size + 1) 42 #[.slice none 0 0, .int .u64 0, .int .u64 0, .int .i64 0, .slice none 0 0, .slice none 0 0, .slice none 0 0] ∧
          RowU w.heap.size κ (0, 0, 0) (.slice b1 st.d.s.length q1) st.d.s X ∧ GenO w.heap.size κ (.slice a7 st.g.length cap7) st.g X ∧ DivO w.heap.size κ uv (st.v.take k) X ∧ Below w.heap.size w X) (fun i _ => st.v.length - (intOf i).toNat)
        case atStart => exact ⟨0, κ, _, Nat.zero_le _, rfl, bX, bP, bR, hX, hG, by rw [List.take_zero]; exact OwL.nil _ _ _ _ _ _, hBX⟩
        case round =>
          clear bX bP bR hX hG hBX p5
          obtain ⟨k, κ, uv, hk, rfl, bX, bP, bR, hX, hG, hV, hBX⟩ := hrel
          have hstX := hst0.out.mono hBX
          by_cases hlt : k < st.v.length
          · obtain ⟨b, off, cap', he, hc⟩ := SlOf.at hstX.v hlt
            cases he
            obtain ⟨u, d0, hu⟩ := hc k hlt
            have hki : (k : Int) < (st.v.length : Int) := by omega
            obtain ⟨a8, cap8, rfl⟩ := SlOf.len hu
            have hml := hF.vl k hlt
            have hwr := hBX.size
            clear hc hstX
            go_wp2_with fail
            obtain ⟨W2, hW2⟩ : ∃ W2, W2 = wr := ⟨_, rfl⟩
            subst hW2
            go_loopw [11, 57] (fun ul i X => ∃ (j : Nat) (κl : Nat → Role), j ≤ (get st.v k).length ∧ i = .int .i64 j ∧ LvlC W2.heap.size κl ul ((get st.v k).take j) X ∧ Below W2.heap.size W2 X) (fun _ i _ => (get st.v k).length - (intOf i).toNat)
            case atStart => exact ⟨0, fun _ => (0, 0, 0), Nat.zero_le _, rfl, by rw [List.take_zero]; exact OwL.nil _ _ _ _ _ _, Below.refl _ _⟩
            case round =>
              obtain ⟨j, κl, hj, rfl, hL, hBY⟩ := hrel
              by_cases hlt2 : j < (get st.v k).length
              · obtain ⟨b', off', cap9, he2, hc2⟩ := SlOf.at (LvlSl.mono hu hBY) hlt2
                cases he2
                obtain ⟨u2, e0, hu2⟩ := hc2 j hlt2
                have hji : (j : Int) < ((get st.v k).length : Int) := by omega
                have hc1 := Lib.hid (hcl.out k j hlt hlt2 u2 wr hu2)
                have hlk := take_get hlt2
                have hgl : ((get st.v k).take j).length ≤ 1000 := Nat.le_trans (List.length_take_le _ _) (by omega)
                generalize (get st.v k).take j = gk at hL hlk hgl
                replace hlk := Lib.hid hlk
                obtain ⟨us, hrow, hels⟩ := hL
                have hYs := hBY.size
                clear hc2 hu2
                go_wp2_with fail
                refine hc1.out.mono ?_
                rintro e w2 ⟨v2, rfl, hnew, hb2⟩
                obtain ⟨a9, cap9, rfl⟩ := hnew.num.len
                have hb2s := hb2.size
                have hb3 := (Below.refl w2.heap.size w2).alloc (Nat.le_refl _) (.cells #[.slice a9 (get (get st.v k) j).length cap9] 34)
                go_wp2_with (at_builtin; refine wpList_apX ap59 rfl _ _ rfl rfl ((hrow.newk (r := (2, gk.length, 0)) hb2).alloc _) (by simp; omega) ⟨w2.heap.size, 0, none⟩ 1 [.slice a9 (get (get st.v k) j).length cap9] rfl rfl (laid_news w2 _ 34) (by simp [Value.oneCell']) (by unfold maxLen; omega) (by omega) ?_; intro v' w4 hrow4 hfr4 hoth4)
                have hL' := lvl_push hels hb2 (Nat.le_refl _) hYs hnew hb3 hrow4 hfr4
                rw [← hlk.out] at hL'
                have h1 := hBY.trans (hb2.mono hYs)
                have h2 := h1.trans (hb3.mono h1.size)
                have h4 := h2.trans (hfr4.below h2.size)
                go_roundw
                case rel => exact ⟨j + 1, _, by omega, by go_num, hL', h4⟩
                case measure => simp [intOf]; omega
              · obtain rfl : j = (get st.v k).length := by omega
                rw [List.take_length] at hL
                obtain ⟨a9, cap9, rfl⟩ := SlOf.len hL.rd
                obtain ⟨us, hrow, hels⟩ := hV
                have hlk := take_get hlt
                have hgl : (st.v.take k).length ≤ 1000 := Nat.le_trans (List.length_take_le _ _) (by omega)
                generalize st.v.take k = gk at hrow hels hlk hgl
                replace hlk := Lib.hid hlk
                have hb3 := (Below.refl wr.heap.size wr).alloc (Nat.le_refl _) (.cells #[.slice a9 (get st.v k).length cap9] 59)
                have bX2 := bX.grown hBY
                have x5 := bX2.cell 5 rfl
                have hbl := bX2.lt
                have hYs := hBY.size
                go_wp2_with (at_builtin; refine wpList_apX ap39 rfl _ _ rfl rfl (((hrow.mix (N := W2.heap.size) (κ := κl) (f := fDiv gk.length) (Nat.le_refl _)).below hBY).alloc _) (by simp; omega) ⟨wr.heap.size, 0, none⟩ 1 [.slice a9 (get st.v k).length cap9] rfl rfl (laid_news wr _ 59) (by simp [Value.oneCell']) (by unfold maxLen; omega) (by omega) ?_; intro v' w4 hrow4 hfr4 hoth4; obtain ⟨a6, cap6, rfl⟩ := hrow4.len; have bX4 := (bX2.alloc (.cells #[.slice a9 (get st.v k).length cap9] 59)).oth hoth4 (by decide); have x6 := bX4.cell 5 rfl; have e6 := bX4.frozen 5; have hbl4 := bX4.lt)
                have hV' := div_push hels hBY (Nat.le_refl _) hwr hL hb3 hrow4 hfr4
                rw [← hlk.out] at hV'
                have hw4 : Below w.heap.size w w4 := by
                  have h1 := hBX.trans (hBY.mono hBX.size)
                  have h2 := h1.trans (hb3.mono h1.size)
                  exact h2.trans (hfr4.below h2.size)
                have st2 : ∀ S : Nat → Prop, (∀ q : Role, S q.1 → q ≠ (4, 0, 0)) → Mv w.heap.size κ W2 w.heap.size (kfrom (kmix κ W2.heap.size κl (fDiv gk.length)) (wr.alloc (.cells #[.slice a9 (get st.v k).length cap9] 59)).heap.size (4, 0, 0)) w4 S := fun S hS =>
                  ((Mv.mix S hBY (Nat.le_refl _)).trans (Mv.below S hb3)).trans (Mv.push S hfr4 hS)
                have bP4 := ((bP.grown hBY).alloc (.cells #[.slice a9 (get st.v k).length cap9] 59)).oth hoth4 (by decide)
                have bR4 := ((bR.grown hBY).alloc (.cells #[.slice a9 (get st.v k).length cap9] 59)).oth hoth4 (by decide)
                have hX4 : RowU _ _ _ _ _ w4 := st2 (fun t => t = 0) (fun q h e => by rw [e] at h; cases h) _ _ _ _ _ _ rfl (by decide) hX
                have hG4 := hG.mv (st2 _ (fun q h e => by rw [e] at h; simp at h))
                have mB := fun S => Mv.box (lo := w.heap.size) (κ := kfrom (kmix κ W2.heap.size κl (fDiv gk.length)) (wr.alloc (.cells #[.slice a9 (get st.v k).length cap9] 59)).heap.size (4, 0, 0)) S bX4 5 (.slice a6 (gk.length + 1) cap6)
                have bX5 := bX4.set 5 (.slice a6 (gk.length + 1) cap6)
                simp only [List.setIfInBounds_toArray, List.set_cons_zero, List.set_cons_succ] at bX5
                go_roundw
                case rel => exact ⟨k + 1, _, _, by omega, by go_num, bX5, bP4.other (p := ⟨B3, 5, none⟩) (by show w.heap.size ≠ B3; omega) _, bR4.other (p := ⟨B3, 5, none⟩) (by show w.heap.size + 1 ≠ B3; omega) _, mB (fun t => t = 0) _ _ _ _ _ _ rfl (by decide) hX4, hG4.mv (mB _), hV'.mv (mB _), hw4.setCell (p := ⟨B3, 5, none⟩) (by show w.heap.size ≤ B3; omega) _⟩
                case measure => simp [intOf]; omega
          · obtain rfl : k = st.v.length := by omega
            rw [List.take_length] at hV
            obtain ⟨a8, cap8, rfl⟩ := SlOf.len hV.rd
            have p6 := bP.cell 6 rfl
            have hpn := hF.p
            clear hstX
            go_wp2_with fail
            go_loopw [77] (fun i X => ∃ (k : Nat) (κ : Nat → Role) (up : Value), k ≤ st.p.length ∧ i = .int .i64 k ∧ BoxC X B3 42 #[.slice b1 st.d.s.length q1, .int .u64 st.d.c, .int .u64 st.d.o, .int .i64 st.l, .slice a7 st.g.length cap7, .slice a8 st.v.length cap8, up] ∧ BoxC X w.heap.size 42 #[.slice a1 st.d.s.length cap1, .int .u64 st.d.c, .int .u64 st.d.o, .int .i64 st.l, .slice a2 st.g.length cap2, .slice a3 st.v.length cap3, .slice a4 st.p.length cap4] ∧ BoxC X (w.heap.size + 1) 42 #[.slice none 0 0, .int .u64 0, .int .u64 0, .int .i64 0, .slice none 0 0, .slice none 0 0, .slice none 0 0] ∧
              RowU w.heap.size κ (0, 0, 0) (.slice b1 st.d.s.length q1) st.d.s X ∧ GenO w.heap.size κ (.slice a7 st.g.length cap7) st.g X ∧ DivO w.heap.size κ (.slice a8 st.v.length cap8) st.v X ∧ PastO w.heap.size κ up (st.p.take k) X ∧ Below w.heap.size w X) (fun i _ => st.p.length - (intOf i).toNat)
            case atStart => exact ⟨0, κ, _, Nat.zero_le _, rfl, bX, bP, bR, hX, hG, hV, by rw [List.take_zero]; exact RegsO.nil _ _ _ _ _, hBX⟩
            case round =>
              clear bX bP bR hX hG hV hBX p6
              obtain ⟨k, κ, up, hk, rfl, bX, bP, bR, hX, hG, hV, hP, hBX⟩ := hrel
              have hstX := hst0.out.mono hBX
              by_cases hlt : k < st.p.length
              · obtain ⟨b, off, cap', he, hc⟩ := hstX.p.at hlt
                cases he
                obtain ⟨u2, d0, hsn, d1, d2⟩ := hc k hlt
                have hki : (k : Int) < (st.p.length : Int) := by omega
                have hB1 := (Below.refl wr.heap.size wr).alloc (Nat.le_refl _) (.cells #[u2, .int .u64 (get st.p k).c, .int .u64 (get st.p k).o] 37)
                have bQ := BoxC.new wr 37 #[u2, .int .u64 (get st.p k).c, .int .u64 (get st.p k).o]
                have hc1 := hcp.out (get st.p k) u2 _ ((hsn.mono hB1).mono (Below.refl _ _).drew) (hF.pr k hlt)
                replace hc1 := Lib.hid hc1
                obtain ⟨a9, cap9, rfl⟩ := hsn.len
                have hlk := take_get hlt
                have hgl : (st.p.take k).length ≤ 1000 := Nat.le_trans (List.length_take_le _ _) (by omega)
                generalize st.p.take k = gk at hP hlk hgl
                replace hlk := Lib.hid hlk
                obtain ⟨us, hrow, hels⟩ := hP
                have hwr := hBX.size
                have hbl := bX.lt
                clear hc hsn hstX
                go_wp2_with fail
                generalize hZ : wr.alloc (.cells #[.slice a9 (get st.p k).s.length cap9, .int .u64 (get st.p k).c, .int .u64 (get st.p k).o] 37) = Z at hB1 bQ hc1 ⊢
                have hZs : wr.heap.size + 1 = Z.heap.size := by rw [← hZ]; simp
                clear hZ
                have bXZ := bX.grown hB1
                have x6 : Z.drew.cell? ⟨B3, 6, none⟩ = some up := bXZ.cell 6 rfl
                have q0 : Z.drew.cell? ⟨wr.heap.size, 0, none⟩ = some (.slice a9 (get st.p k).s.length cap9) := bQ.cell 0 rfl
                have q1' : Z.drew.cell? ⟨wr.heap.size, 1, none⟩ = some (.int .u64 (get st.p k).c) := bQ.cell 1 rfl
                have q2' : Z.drew.cell? ⟨wr.heap.size, 2, none⟩ = some (.int .u64 (get st.p k).o) := bQ.cell 2 rfl
                have hblZ := bXZ.lt
                have hrowZ := hrow.below hB1
                have helsZ : ∀ j, j < gk.length → RowU w.heap.size κ (8, j, 0) (us j) (get gk j).s Z := fun j hj => RowX.below (hels j hj) hB1
                have hwZ : w.heap.size ≤ Z.heap.size := by omega
                have hdr : Below Z.heap.size Z Z.drew := (Below.refl _ _).drew
                go_region_law (first
                  | (refine step_enter 18 #[.agg #[.slice a9 (get st.p k).s.length cap9, .int .u64 (get st.p k).c, .int .u64 (get st.p k).o]] (by rfl) (by simp [go_sem, hent]) ?_; (with_reducible refine hc1.out.mono ?_); rintro e w2 ⟨v2, rfl, hnew, hb2⟩; obtain ⟨a5, cap5, rfl⟩ := hnew.num.len; have x5 := ((bXZ.drew).grown hb2).cell 6 rfl; have hbl2 := hb2.size; have hbl3 : B3 < w2.heap.size := Nat.lt_of_lt_of_le hblZ hb2.size; have hw2 : Below Z.heap.size Z w2 := hdr.trans (hb2.mono (Nat.le_refl _)); refine ⟨_, rfl, ?_⟩)
                  | (refine step_apX ap40 (by rfl) _ _ (by rfl) (by rfl) ((Mv.newkM (r := (8, gk.length, 0)) (M := Z.drew.heap.size) (fun _ => True) hw2 (Nat.le_refl _) _ _ _ _ _ _ trivial (by decide) hrowZ).alloc _) (by have := hw2.size; simp; omega) ⟨w2.heap.size, 0, none⟩ 1 [.slice a5 (get st.p k).s.length cap5, .int .u64 (get st.p k).c, .int .u64 (get st.p k).o] (by rfl) (by rfl) (laid_news w2 _ 37) (by simp [Value.oneCell']) (by unfold maxLen; omega) (by omega) ?_; intro v' w4 hrow4 hfr4 hoth4; obtain ⟨a6, cap6, rfl⟩ := hrow4.len; have bX4 := (((bXZ.drew).grown hb2).alloc (.cells #[.slice a5 (get st.p k).s.length cap5, .int .u64 (get st.p k).c, .int .u64 (get st.p k).o] 37)).oth hoth4 (by decide); have x7 := bX4.cell 6 rfl; have e7 := bX4.frozen 6; have hbl4 := bX4.lt))
                all_goals
                  have hb3 := (Below.refl w2.heap.size w2).alloc (Nat.le_refl _) (.cells #[.slice a5 (get st.p k).s.length cap5, .int .u64 (get st.p k).c, .int .u64 (get st.p k).o] 37)
                  have hP' := regs_push (rg := get st.p k) (rs := fun j => (8, j, 0)) (fun j => by simp) helsZ hw2 (Nat.le_refl _) (by show w.heap.size ≤ Z.heap.size; omega) hnew hb3 hrow4 hfr4
                  rw [← hlk.out] at hP'
                  have hw4 : Below w.heap.size w w4 := by
                    have h0 := hBX.trans (hB1.mono hBX.size)
                    have h1 := h0.trans (hw2.mono h0.size)
                    have h2 := h1.trans (hb3.mono h1.size)
                    exact h2.trans (hfr4.below h2.size)
                  have st2 : ∀ S : Nat → Prop, (∀ q : Role, S q.1 → q ≠ (7, 0, 0)) → Mv w.heap.size κ wr w.heap.size (kfrom (kfrom κ Z.drew.heap.size (8, gk.length, 0)) (w2.alloc (.cells #[.slice a5 (get st.p k).s.length cap5, .int .u64 (get st.p k).c, .int .u64 (get st.p k).o] 37)).heap.size (7, 0, 0)) w4 S := fun S hS =>
                    (((Mv.below S hB1).trans (Mv.newkM S hw2 (Nat.le_refl _))).trans (Mv.below S hb3)).trans (Mv.push S hfr4 hS)
                  have bP4 := (((bP.grown hB1).grown hw2).alloc (.cells #[.slice a5 (get st.p k).s.length cap5, .int .u64 (get st.p k).c, .int .u64 (get st.p k).o] 37)).oth hoth4 (by decide)
                  have bR4 := (((bR.grown hB1).grown hw2).alloc (.cells #[.slice a5 (get st.p k).s.length cap5, .int .u64 (get st.p k).c, .int .u64 (get st.p k).o] 37)).oth hoth4 (by decide)
                  have hX4 : RowU _ _ _ _ _ w4 := st2 (fun t => t = 0) (fun q h e => by rw [e] at h; cases h) _ _ _ _ _ _ rfl (by decide) hX
                  have hG4 := hG.mv (st2 _ (fun q h e => by rw [e] at h; simp at h))
                  have hV4 := hV.mv (st2 _ (fun q h e => by rw [e] at h; simp at h))
                  have mB := fun S => Mv.box (lo := w.heap.size) (κ := kfrom (kfrom κ Z.drew.heap.size (8, gk.length, 0)) (w2.alloc (.cells #[.slice a5 (get st.p k).s.length cap5, .int .u64 (get st.p k).c, .int .u64 (get st.p k).o] 37)).heap.size (7, 0, 0)) S bX4 6 (.slice a6 (gk.length + 1) cap6)
                  have bX5 := bX4.set 6 (.slice a6 (gk.length + 1) cap6)
                  simp only [List.setIfInBounds_toArray, List.set_cons_zero, List.set_cons_succ] at bX5
                  go_wp2_with fail
                  go_roundw
                  case rel => exact ⟨k + 1, _, _, by omega, by go_num, bX5, bP4.other (p := ⟨B3, 6, none⟩) (by show w.heap.size ≠ B3; omega) _, bR4.other (p := ⟨B3, 6, none⟩) (by show w.heap.size + 1 ≠ B3; omega) _, mB (fun t => t = 0) _ _ _ _ _ _ rfl (by decide) hX4, hG4.mv (mB _), hV4.mv (mB _), PastO.mv hP' (mB _), hw4.setCell (p := ⟨B3, 6, none⟩) (by show w.heap.size ≤ B3; omega) _⟩
                  case measure => simp [intOf]; omega
              · obtain rfl : k = st.p.length := by omega
                rw [List.take_length] at hP
                obtain ⟨a9, cap9, rfl⟩ := hP.rd.len
                have x0 := bX.cell 0 rfl
                have x1 := bX.cell 1 rfl
                have x2 := bX.cell 2 rfl
                have x3 := bX.cell 3 rfl
                have x4 := bX.cell 4 rfl
                have x5 := bX.cell 5 rfl
                have x6 := bX.cell 6 rfl
                have r0 := bR.cell 0 rfl
                have r1 := bR.cell 1 rfl
                have r2 := bR.cell 2 rfl
                have r3 := bR.cell 3 rfl
                have r4 := bR.cell 4 rfl
                have r5 := bR.cell 5 rfl
                have r6 := bR.cell 6 rfl
                have e0 := bR.frozen 0
                have e1 := bR.frozen 1
                have e2 := bR.frozen 2
                have e3 := bR.frozen 3
                have e4 := bR.frozen 4
                have e5 := bR.frozen 5
                have e6 := bR.frozen 6
                clear hstX
                go_wp2
                have hS : StO w.heap.size κ st (.slice b1 st.d.s.length q1) (.slice a7 st.g.length cap7) (.slice a8 st.v.length cap8) (.slice a9 st.p.length cap9) wr := ⟨hX, hG, hV, hP⟩
                exact bodyPost_ret (ret_cell Try.results16 rfl (bR.put7 _ _ _ _ _ _ _) Try.underlying42 size42) rfl ⟨_, _, _, _, κ, rfl, hS.mv (Mv.put7 _ bR _ _ _ _ _ _ _), below_put7 _ _ _ _ _ _ _ hBX (by omega)⟩
end Go.Proofs.Ytgnamahdchefnaa
