/- The contract of the model's run. Conditions: a right plant, right demands, a supply of at least -1. -/
import Derived.Test.YtfefocgekmeahaaW28
namespace Go.Proofs.Ytfefocgekmeahaa
open Go.RowKit Go.Shelf

theorem wp_enter {P : Program} {o : Oper} {a : Act} {X : World} {K : Act → World → Prop} {Q : Exit → Act → World → Prop} {f : FuncId} {args : Array Value} (h : (execOp a.eval o).run P X = .ok (.enter f args) X) (hk : Calls P f args X (fun e X' => ∃ v, e = .returned v ∧ K (a.put o.dst v) X')) : o.wp P a X K Q := by
  unfold Oper.wp
  rw [h]
  refine hk.mono ?_
  rintro e X' ⟨v, rfl, h2⟩
  exact h2

/-- the law of regions that make memory, from any frame on -/
theorem region_makers_at {P : Program} {ops : Array Oper} {Q : Exit → Act → World → Prop} {id : Nat} {W : World} (n : Nat) (F : (Nat → Value) → Array Value) (s0 : Nat → Value) (ds : List Deferred) (Sp : Nat → Value → World → Prop) (Base : World → Prop) (mk : Nat → Value → Option Nat)
    (hm : P.follows .mixedOrders = true) (hB : makersB ops n = true) (h0 : Base W.drew)
    (step : ∀ i o, i < n → ops[i]? = some o → ∀ (s : Nat → Value) (X : World), Base X → (∀ e ∈ o.after, Sp e.on (s e.on) X) → (∀ e ∈ o.after, ∀ e' ∈ o.after, e.on ≠ e'.on → ∀ b, mk e.on (s e.on) = some b → mk e'.on (s e'.on) ≠ some b) →
      Oper.wp P o { tmps := F s, defers := ds } X (fun a' X' => ∃ v, a' = { tmps := F (upd s i v), defers := ds } ∧ Base X' ∧ Sp i v X' ∧ Below X.heap.size X X' ∧ ∀ b, mk i v = some b → X.heap.size ≤ b ∧ b < X'.heap.size) Q)
    (stable : ∀ j u X X', Base X → Sp j u X → Below X.heap.size X X' → Sp j u X')
    (tail : ∀ o, ops[n]? = some o → ∀ (s : Nat → Value) (X : World), Base X → (∀ i, i < n → Sp i (s i) X) → (∀ i, i < n → ∀ b, mk i (s i) = some b → b < X.heap.size) → (∀ i j b, i < n → j < n → i ≠ j → mk i (s i) = some b → mk j (s j) ≠ some b) →
      Oper.wp P o { tmps := F s, defers := ds } X (Q .normal) Q) :
    (Code.region id ops true).wp P Q { tmps := F s0, defers := ds } W := by
  have hsz := makersB_size hB
  have none_yet : ∀ i, ¬ (Array.replicate ops.size false).getD i false = true := fun i hi => by
    rw [Array.getD_eq_getD_getElem?] at hi
    by_cases h : i < ops.size
    · simp [h] at hi
    · simp [h] at hi
  refine wp_region_any hm (wpAny_makers hB step stable tail ops.size _ s0 W.drew (by simp) (by simp) (by simp [hsz]) h0 (fun i hi => absurd hi (none_yet i)) (fun i hi => absurd hi (none_yet i)) (fun i _ _ hi => absurd hi (none_yet i)))

/-- behind the region: a state in its box -/
def RunM6 (n : Nat) (S : St) (W : World) (F : (Nat → Value) → Array Value) : Exit → Act → World → Prop := fun e a X =>
  e = .normal ∧ ∃ (s : Nat → Value) (B : Nat) (a1 a2 a3 : Option Addr) (c1 c2 c3 : Nat), a = { tmps := F s, defers := [] } ∧ s 7 = .pointer (some ⟨B, 0, none⟩) ∧ W.heap.size ≤ B ∧ BoxC X B 44 #[.slice a1 n c1, .slice a2 n c2, .slice a3 n c3] ∧ NumT X (.slice a1 n c1) S.lv ∧ NumT X (.slice a2 n c2) S.tk ∧ NumT X (.slice a3 n c3) S.lk ∧ Below W.heap.size W X
def rm6 (sup : Int) (n cv N cu k bu ou : Nat) (av : Option Addr) (x u6 : Value) (S : St) (W : World) : Nat → Value → World → Prop
  | 0, v, _ => v = .agg #[.int .i64 sup, .slice av n cv]
  | 1, v, _ => v = u6
  | 2, v, _ => v = .slice (some ⟨bu, ou, none⟩) N cu
  | 3, v, _ => v = .int .i64 k
  | 4, v, _ => v = .pointer (some ⟨bu, ou + k, none⟩)
  | 5, v, _ => v = x
  | 6, v, X => ∃ a1 a2 a3 c1 c2 c3, v = .agg #[.slice a1 n c1, .slice a2 n c2, .slice a3 n c3] ∧ NumT X (.slice a1 n c1) S.lv ∧ NumT X (.slice a2 n c2) S.tk ∧ NumT X (.slice a3 n c3) S.lk
  | 7, v, X => ∃ B, v = .pointer (some ⟨B, 0, none⟩) ∧ W.heap.size ≤ B ∧ BoxC X B 44 #[.slice none 0 0, .slice none 0 0, .slice none 0 0]
  | _, _, _ => True
theorem rm6_mono {sup : Int} {n cv N cu k bu ou : Nat} {av : Option Addr} {x u6 : Value} {S : St} {W X X' : World} (hb : Below X.heap.size X X') : ∀ (i : Nat) (v : Value), rm6 sup n cv N cu k bu ou av x u6 S W i v X → rm6 sup n cv N cu k bu ou av x u6 S W i v X'
  | 0, _, h => h
  | 1, _, h => h
  | 2, _, h => h
  | 3, _, h => h
  | 4, _, h => h
  | 5, _, h => h
  | 6, _, h => by
    obtain ⟨a1, a2, a3, c1, c2, c3, e, h1, h2, h3⟩ := h
    exact ⟨a1, a2, a3, c1, c2, c3, e, h1.mono hb, h2.mono hb, h3.mono hb⟩
  | 7, _, h => by
    obtain ⟨B, h1, h2, h3⟩ := h
    exact ⟨B, h1, h2, h3.grown hb⟩
  | _ + 8, _, _ => trivial

set_option maxRecDepth 100000 in
set_option maxHeartbeats 4000000 in
theorem runM_any (sup : Int) (v : Value) (ns : List Nd) (u : Value) (dss : List (List Int)) (w : World) (hv : NdSl w v ns) (hu : SlSl w u dss) (hp : PlOk ns) (hs0 : -1 ≤ sup) (hs1 : sup ≤ 1000000000) (hd : DssOk ns dss) (hdl : dss.length ≤ 1000) :
    Calls Try.prog 17 #[plV sup v, u] w (fun e w' => ∃ y, e = .returned y ∧ StsSl w' y dss.length (fun i => runT ns sup dss (i + 1)) ∧ Below w.heap.size w w') := by
  obtain ⟨i0, hi, hz0, hz1, hz2⟩ := info_parts info44
  have hB := (Below.refl w.heap.size w).alloc (Nat.le_refl _) (.cells #[.int .i64 sup, v] 24)
  have bP := BoxC.new w 24 #[.int .i64 sup, v]
  have hv1 := hv.mono hB
  have hu1 := hu.mono hB
  obtain ⟨av, cv, rfl⟩ := hv.len
  obtain ⟨au, cu, rfl⟩ := hu.len
  clear hv hu
  have hst := startM_any sup _ ns _ hv1 (by have := hp.len; omega)
  replace hst := Lib.hid hst
  go_enter Try.func17, Try.ntmps17
  go_wp2_with fail
  refine hst.out.mono ?_
  rintro e W0 ⟨y, rfl, hy, hb⟩
  replace bP := bP.grown hb
  replace hB := hB.trans (hb.mono hB.size)
  replace hv1 := hv1.mono hb
  replace hu1 := hu1.mono hb
  clear hst hb
  go_wp2
  go_loopw [5, 6, 7] (fun o bf q W => ∃ (k : Nat) (pre : List Yd), k ≤ dss.length ∧ q = .int .i64 k ∧ Hid (pre.length = k) ∧ W.ownsRow W0.heap.size 44 3 o k (preC ns.length pre) ∧ AllT ns sup dss pre W ∧ NumSl .i64 W bf (runT ns sup dss k).lv ∧ Below W0.heap.size W0 W) (fun _ _ q _ => dss.length - (intOf q).toNat)
  case atStart => exact ⟨0, [], Nat.zero_le _, rfl, Lib.hid rfl, World.ownsRow_nil _ _ _ _, fun j x h => by simp at h, hy, Below.refl _ _⟩
  case round =>
    clear hy
    obtain ⟨k, pre, hk, rfl, hpl, hrow, hA, hbf, hY⟩ := hrel
    by_cases hlt : k < dss.length
    · have hki : (k : Int) < (dss.length : Int) := by omega
      have hLv := runT_lv1 hp hs0 hs1 hd k hk
      have hDm := hd k hlt
      have hrlen := runT_len hp hs0 hs1 hd k hlt
      have hdr := (Below.refl wr.heap.size wr).drew
      have hrt : runT ns sup dss (k + 1) = stepF ns sup (runT ns sup dss k).lv (nths dss k) := rfl
      replace hrt := Lib.hid hrt
      obtain ⟨bu, ou, cpu, heu, hbu, hcu⟩ := (hu1.mono hY).at hlt
      cases heu
      obtain ⟨x, cx, hx⟩ := hcu k hlt
      clear hcu
      replace bP := bP.grown hY
      replace hv1 := hv1.mono hY
      go_wp2_with fail
      have hU : ∀ X, Below wr.heap.size wr X → X.cell? ⟨w.heap.size, 0, none⟩ = some (.int .i64 sup) ∧ X.cell? ⟨w.heap.size, 1, none⟩ = some (.slice av ns.length cv) ∧ X.cell? ⟨bu, ou + k, none⟩ = some x := fun X hb => ⟨(bP.grown hb).cell 0 rfl, (bP.grown hb).cell 1 rfl, (hb.cell (p := ⟨bu, ou + k, none⟩) hbu).trans cx⟩
      have hent : ∀ args X, (callFunc 33 args).run Try.prog X = .ok (.enter 33 args) X := enters_of Try.func33 (by kernel_rfl) rfl
      have hcl : ∀ X, Below wr.heap.size wr X → Calls Try.prog 33 #[.agg #[.int .i64 sup, .slice av ns.length cv], u6, x] X (StepMPost (stepF ns sup (runT ns sup dss k).lv (nths dss k)) X) := fun X hb => stepM_any sup _ ns _ _ _ _ X (hv1.mono hb) (hbf.mono hb) (hx.mono hb) hp hLv hDm hs0 hs1
      rw [← hrt.out] at hcl
      generalize hS : runT ns sup dss (k + 1) = S at hcl hrlen
      refine Code.wp_mono ?post (region_makers_at (Q := RunM6 ns.length S wr (fun s => #[plV sup (.slice av ns.length cv), .slice (some ⟨bu, ou, none⟩) dss.length cu, .pointer (some ⟨w.heap.size, 0, none⟩), undef, .slice none 0 0, u5, u6, .int .i64 (k : Int), s 7, .agg #[.int .i64 sup, .slice av ns.length cv], y, .int .i64 (k : Int), .slice (some ⟨bu, ou, none⟩) dss.length cu, .int .i64 (dss.length : Int), .bool true, u15, u16, s 0, s 1, s 2, s 3, s 4, s 5, s 6, u24, u25, u26, u27, u28, u29, undef])) 8 (fun s => #[plV sup (.slice av ns.length cv), .slice (some ⟨bu, ou, none⟩) dss.length cu, .pointer (some ⟨w.heap.size, 0, none⟩), undef, .slice none 0 0, u5, u6, .int .i64 (k : Int), s 7, .agg #[.int .i64 sup, .slice av ns.length cv], y, .int .i64 (k : Int), .slice (some ⟨bu, ou, none⟩) dss.length cu, .int .i64 (dss.length : Int), .bool true, u15, u16, s 0, s 1, s 2, s 3, s 4, s 5, s 6, u24, u25, u26, u27, u28, u29, undef]) (fun i => [u17, u18, u19, u20, u21, u22, u23, u8].getD i undef) [] (rm6 sup ns.length cv dss.length cu k bu ou av x u6 S wr) (fun X => Below wr.heap.size wr X) (fun _ _ => none) (by kernel_rfl) (by kernel_rfl) hdr ?step (fun j u X X' _ h hb => rm6_mono hb j u h) ?tail)
      case step =>
        intro i o hi ho s X hb hd hne
        obtain ⟨e0, e1, e2⟩ := hU X hb
        match i, hi with
        | 0, _ =>
          simp at ho
          subst ho
          refine wp_val (v := .agg #[.int .i64 sup, .slice av ns.length cv]) (X' := X) (by simp [execOp, go_sem, e0, e1]) ⟨_, by simp [Act.put, upd], hb, rfl, Below.refl _ _, fun b h => by simp at h⟩
        | 1, _ =>
          simp at ho
          subst ho
          refine wp_val (v := u6) (X' := X) (by simp [execOp, go_sem]) ⟨_, by simp [Act.put, upd], hb, rfl, Below.refl _ _, fun b h => by simp at h⟩
        | 2, _ =>
          simp at ho
          subst ho
          refine wp_val (v := .slice (some ⟨bu, ou, none⟩) dss.length cu) (X' := X) (by simp [execOp, go_sem]) ⟨_, by simp [Act.put, upd], hb, rfl, Below.refl _ _, fun b h => by simp at h⟩
        | 3, _ =>
          simp at ho
          subst ho
          refine wp_val (v := .int .i64 k) (X' := X) (by simp [execOp, go_sem]) ⟨_, by simp [Act.put, upd], hb, rfl, Below.refl _ _, fun b h => by simp at h⟩
        | 4, _ =>
          simp at ho
          subst ho
          simp at hd
          obtain ⟨h2, h3⟩ := hd
          have h2' : s 2 = .slice (some ⟨bu, ou, none⟩) dss.length cu := h2
          have h3' : s 3 = .int .i64 k := h3
          refine wp_val (v := .pointer (some ⟨bu, ou + k, none⟩)) (X' := X) (by simp [execOp, go_sem, h2', h3', hlt]) ⟨_, by simp [Act.put, upd], hb, rfl, Below.refl _ _, fun b h => by simp at h⟩
        | 5, _ =>
          simp at ho
          subst ho
          simp at hd
          have h4 : s 4 = .pointer (some ⟨bu, ou + k, none⟩) := hd
          refine wp_val (v := x) (X' := X) (by simp [execOp, go_sem, h4, e2]) ⟨_, by simp [Act.put, upd], hb, rfl, Below.refl _ _, fun b h => by simp at h⟩
        | 6, _ =>
          simp at ho
          subst ho
          simp at hd
          obtain ⟨h0, h1, h5⟩ := hd
          have h0' : s 0 = .agg #[.int .i64 sup, .slice av ns.length cv] := h0
          have h1' : s 1 = u6 := h1
          have h5' : s 5 = x := h5
          refine wp_enter (f := 33) (args := #[.agg #[.int .i64 sup, .slice av ns.length cv], u6, x]) (by simp [go_sem, h0', h1', h5', hent]) ((hcl X hb).mono ?_)
          rintro e X' ⟨v1, v2, v3, rfl, n1, n2, n3, hb2⟩
          obtain ⟨a1, c1, rfl⟩ := NumSl.lenW n1.1 hrlen.1
          obtain ⟨a2, c2, rfl⟩ := NumSl.lenW n2.1 hrlen.2.1
          obtain ⟨a3, c3, rfl⟩ := NumSl.lenW n3.1 hrlen.2.2
          exact ⟨_, rfl, _, by simp [Act.put, upd], hb.trans (hb2.mono hb.size), ⟨a1, a2, a3, c1, c2, c3, rfl, n1, n2, n3⟩, hb2, fun b h => by simp at h⟩
        | 7, _ =>
          simp at ho
          subst ho
          have hx := (Below.refl X.heap.size X).alloc (Nat.le_refl _) (.cells #[.slice none 0 0, .slice none 0 0, .slice none 0 0] 44)
          refine wp_val (v := .pointer (some ⟨X.heap.size, 0, none⟩)) (X' := X.alloc (.cells #[.slice none 0 0, .slice none 0 0, .slice none 0 0] 44)) (by simp [execOp, go_sem]) ⟨_, by simp [Act.put, upd], hb.trans (hx.mono hb.size), ⟨X.heap.size, rfl, hb.size, BoxC.new X 44 _⟩, hx, fun b h => by simp at h⟩
      case tail =>
        intro o ho s X hb hS hlt' hne
        simp at ho
        subst ho
        obtain ⟨a1, a2, a3, c1, c2, c3, e6, n1, n2, n3⟩ := hS 6 (by omega)
        obtain ⟨B, e7, hBw, bB⟩ := hS 7 (by omega)
        have d0 := bB.cell 0 rfl
        have d1 := bB.cell 1 rfl
        have d2 := bB.cell 2 rfl
        have f0 := bB.frozen 0
        have f1 := bB.frozen 1
        have f2 := bB.frozen 2
        have bF := ((bB.set 0 (.slice a1 ns.length c1)).set 1 (.slice a2 ns.length c2)).set 2 (.slice a3 ns.length c3)
        have hg := grownBy_trans (grownBy_trans (grownBy_setCell X ⟨B, 0, none⟩ (.slice a1 ns.length c1)) (grownBy_setCell _ ⟨B, 1, none⟩ (.slice a2 ns.length c2))) (grownBy_setCell _ ⟨B, 2, none⟩ (.slice a3 ns.length c3))
        have hsB : ∀ (i : Nat) (u : Value) (Y : World), Below wr.heap.size wr Y → Below wr.heap.size wr (Y.setCell ⟨B, i, none⟩ u) := fun i u Y h => h.setCell hBw u
        have hkp : ∀ {v : Value} {xs : List Int}, NumT X v xs → NumT (((X.setCell ⟨B, 0, none⟩ (.slice a1 ns.length c1)).setCell ⟨B, 1, none⟩ (.slice a2 ns.length c2)).setCell ⟨B, 2, none⟩ (.slice a3 ns.length c3)) v xs := fun {v xs} h => by
          have hne : ∀ b, v.ownBlock = some b → 0 < xs.length → some B ≠ some b := fun b hb hn e => by
            obtain ⟨cs, h2⟩ := h.2 b hb hn
            cases e
            have h3 : X.heap[B]? = some (.cells cs 3) := h2
            have h4 : X.heap[B]? = some (.cells #[.slice none 0 0, .slice none 0 0, .slice none 0 0] 44) := bB
            rw [h3] at h4
            cases h4
          exact ⟨h.1.kept hg hne, fun b hb hn => by obtain ⟨cs, h2⟩ := h.2 b hb hn; exact ⟨cs, h2.kept hg (fun e => hne b hb hn e.symm)⟩⟩
        refine wp_skip (X' := ((X.setCell ⟨B, 0, none⟩ (.slice a1 ns.length c1)).setCell ⟨B, 1, none⟩ (.slice a2 ns.length c2)).setCell ⟨B, 2, none⟩ (.slice a3 ns.length c3)) (by simp [execOp, go_sem, e7, e6, d0, d1, d2, f0, f1, f2]) ⟨rfl, s, B, a1, a2, a3, c1, c2, c3, by simp [Act.put], e7, hBw, bF, hkp n1, hkp n2, hkp n3, hsB _ _ _ (hsB _ _ _ (hsB _ _ _ hb))⟩
      case post =>
        clear hU hcl
        rintro e a X ⟨rfl, s, B, a1, a2, a3, c1, c2, c3, rfl, h8, hBw, bB, n1, n2, n3, hX⟩
        dsimp only
        rw [h8]
        obtain ⟨hl1, hl2, hl3⟩ := hrlen
        replace hS := Lib.hid hS
        have hYX := hY.trans (hX.mono hY.size)
        have hrow1 := ownsRow_kept hrow (below_grown hX) (by simp)
        have hA1 := hA.mono hX
        have hoB := fun b hb => (hrow.lt b hb).2
        have z0 := bB.cell 0 rfl
        have z1 := bB.cell 1 rfl
        have z2 := bB.cell 2 rfl
        have hsz := hYX.size
        have hx := (Below.refl X.heap.size X).alloc (Nat.le_refl _) (.cells #[.slice a1 ns.length c1, .slice a2 ns.length c2, .slice a3 ns.length c3] 44)
        have hrow2 := hrow1.alloc (.cells #[.slice a1 ns.length c1, .slice a2 ns.length c2, .slice a3 ns.length c3] 44)
        have hA2 := hA1.mono hx
        have m1 := n1.mono hx
        have m2 := n2.mono hx
        have m3 := n3.mono hx
        have bB2 := bB.grown hx
        replace hl1 := Lib.hid hl1
        replace hl2 := Lib.hid hl2
        replace hl3 := Lib.hid hl3
        clear hrow hA hY hrow1 hA1 hX hLv hDm hbf hx n1 n2 n3 bP hv1 cx
        go_wp2_with (at_builtin; refine wpList_append_own _ rfl _ _ 35 rfl W0.heap.size 44 i0 _ 3 72 Try.underlying35 hi hz0 hz1 hz2 rfl (by decide) _ _ _ rfl hrow2 ⟨X.heap.size, 0, none⟩ 1 1 [.slice a1 ns.length c1, .slice a2 ns.length c2, .slice a3 ns.length c3] rfl rfl (cells_new _ _ _) (by simp [Value.oneCell']) (by unfold maxLen; omega) (by omega) (by simp; omega) ?_; intro v' w1' hown' hgrow hnil; have bB3 := bB2.kept hgrow (fun e => by have := hoB _ e.symm; omega); have y0 := bB3.cell 0 rfl)
        have hA3 := (hA2.kept hrow2 hgrow).snoc (x := ⟨0, a1, c1, a2, c2, a3, c3⟩) hpl.out (by rw [hS.out]; exact m1.kept hrow2 hgrow) (by rw [hS.out]; exact m2.kept hrow2 hgrow) (by rw [hS.out]; exact m3.kept hrow2 hgrow)
        have hnl := (m1.kept hrow2 hgrow).1
        go_roundw
        case rel =>
          refine ⟨k + 1, pre ++ [⟨0, a1, c1, a2, c2, a3, c3⟩], by omega, by go_num, Lib.hid (by simp [hpl.out]), by rw [preC_snoc]; exact hown', hA3, by rw [hS.out]; exact hnl, (hYX.alloc (by omega) _).grown hgrow (by simp; omega) (fun i e => ownsRow_low hrow2 i e)⟩
        case measure => simp [intOf]; omega
    · obtain rfl : k = dss.length := by omega
      have hS := hA.sts hrow hpl.out rfl
      go_wp2
      go_ret
      exact ⟨_, rfl, hS, hB.trans (hY.mono hB.size)⟩
end Go.Proofs.Ytfefocgekmeahaa
