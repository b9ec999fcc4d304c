/- The contract of do for events of kind 2. Conditions: consoles of plans, sound states, possible events. -/
import Derived.Test.YtgnamahdchefnaaR5
import Derived.Laws.BitsAllLaws
import Derived.IntWalk
namespace Go.Proofs.Ytgnamahdchefnaa
open Go.RowKit Go.Shelf

set_option linter.unusedVariables false in
set_option maxRecDepth 100000 in
set_option maxHeartbeats 4000000 in
theorem do_k2 (x y xd xg xv xp : Value) (C : Con) (st : St) (lo B : Nat) (κ : Nat → Role) (d i : Int) (w : World) (hC : C.Ok) (hS : SoundP C st) (hr : ∀ X, Below lo w X → ConR X x y C) (bB : BoxC w B 42 (stCs st xd xg xv xp)) (hO : StO lo κ st xd xg xv xp w)
    (hlo : lo ≤ w.heap.size) (hle : lo ≤ B) (hpos : posF C st 2 d i = 0) : Calls Try.prog 34 #[conV x y C.co C.ge C.lv, .pointer (some ⟨B, 0, none⟩), evV 2 d i] w (DoPost lo B (doF C st 2 d i) w) := by
  have hdo : doF C st 2 d i = pushF st (actF C st 2 d.toNat i.toNat) := by unfold doF; rw [if_neg (by decide)]
  rw [hdo]
  clear hdo
  obtain ⟨st1, hst1⟩ : ∃ st1, actF C st 2 d.toNat i.toNat = st1 := ⟨_, rfl⟩
  rw [hst1]
  unfold posF at hpos
  simp at hpos
  obtain ⟨m, rfl⟩ : ∃ m : Nat, i = m := ⟨i.toNat, by omega⟩
  have hm3 : m ≤ 3 := by have := hC.co; omega
  try simp only [Int.toNat_natCast] at hst1
  replace hst1 := Lib.hid hst1
  have hr0 := hr w (Below.refl _ _)
  obtain ⟨a1, cap1, rfl⟩ := hr0.s.len
  obtain ⟨a2, cap2, rfl⟩ := hr0.d.lenV hC.dl
  obtain ⟨a3, cap3, rfl⟩ := hO.d.len
  obtain ⟨a4, cap4, rfl⟩ := SlOf.len hO.g.rd
  obtain ⟨a5, cap5, rfl⟩ := SlOf.len hO.v.rd
  obtain ⟨a6, cap6, rfl⟩ := hO.p.rd.len
  have hB := ((Below.refl w.heap.size w).alloc (Nat.le_refl _) (.cells #[.slice a1 C.s.length cap1, .int .i64 C.co, .int .i64 C.ge, .slice a2 C.s.length cap2, .int .i64 C.lv] 32)).alloc (by simp) (.cells #[.int .i64 2, .int .i64 d, .int .i64 (m : Int)] 28)
  have b32 := (BoxC.new w 32 #[.slice a1 C.s.length cap1, .int .i64 C.co, .int .i64 C.ge, .slice a2 C.s.length cap2, .int .i64 C.lv]).alloc (.cells #[.int .i64 2, .int .i64 d, .int .i64 (m : Int)] 28)
  have b28 := BoxC.new (w.alloc (.cells #[.slice a1 C.s.length cap1, .int .i64 C.co, .int .i64 C.ge, .slice a2 C.s.length cap2, .int .i64 C.lv] 32)) 28 #[.int .i64 2, .int .i64 d, .int .i64 (m : Int)]
  simp only [World.size_alloc] at b28
  have bB1 := bB.grown hB
  have hO1 := hO.below hB
  have hsl : st.d.s.length ≤ 1000 := by have := hS.d.n; have := hC.n; omega
  have hcp := copied_any (.slice a3 st.d.s.length cap3) st.d _ hO1.d.num hsl
  replace hcp := Lib.hid hcp
  have hslC := hS.d.n
  have hpn := hS.pn
  replace hslC := Lib.hid hslC
  have hS0 := Lib.hid hS
  have hC0 := Lib.hid hC
  replace hr := Lib.hid hr
  have hBs := hB.size
  have x0 := bB1.cell 0 rfl
  have x1 := bB1.cell 1 rfl
  have x2 := bB1.cell 2 rfl
  have hbl := bB.lt
  have y0 := bB.cell 0 rfl
  have y1 := bB.cell 1 rfl
  have y2 := bB.cell 2 rfl
  clear hS hC hr0 hO bB
  go_enter Try.func34, Try.ntmps34
  go_wp2_with fail
  generalize hW : (w.alloc (.cells #[.slice a1 C.s.length cap1, .int .i64 C.co, .int .i64 C.ge, .slice a2 C.s.length cap2, .int .i64 C.lv] 32)).alloc (.cells #[.int .i64 2, .int .i64 d, .int .i64 (m : Int)] 28) = W at *
  have hWs : W.heap.size = w.heap.size + 2 := by rw [← hW]; simp
  clear hW
  refine hcp.out.mono ?_
  rintro e w2 ⟨xb, rfl, hnx, hb2⟩
  obtain ⟨ab, capb, rfl⟩ := hnx.num.len
  have h3 := (Below.refl w2.heap.size w2).alloc (Nat.le_refl _) (.cells #[.slice ab st.d.s.length capb, .int .u64 st.d.c, .int .u64 st.d.o] 37)
  have hb2s := hb2.size
  have M : DoMid lo (kfrom κ W.heap.size (8, st.p.length, 0)) w B w2.heap.size st st (.slice ab st.d.s.length capb) (.slice a3 st.d.s.length cap3) (.slice a4 st.g.length cap4) (.slice a5 st.v.length cap5) (.slice a6 st.p.length cap6) (w2.alloc (.cells #[.slice ab st.d.s.length capb, .int .u64 st.d.c, .int .u64 st.d.o] 37)) := {
    b := (bB1.grown hb2).alloc _
    o := (hO1.mv (Mv.newk _ hb2)).below h3
    x := RowX.below (hnx.row (by omega) κ (8, st.p.length, 0)) h3
    b6 := BoxC.new w2 37 _
    bl := ((hB.mono hlo).trans ((hb2.mono (by omega)))).trans (h3.mono (by omega))
    le := hle
    ls := by have := h3.size; omega
    n6 := by omega
    k6 := by rw [kfrom_new (by omega)]; simp }
  have b32' := (b32.grown hb2).alloc (.cells #[.slice ab st.d.s.length capb, .int .u64 st.d.c, .int .u64 st.d.o] 37)
  have b28' := (b28.grown hb2).alloc (.cells #[.slice ab st.d.s.length capb, .int .u64 st.d.c, .int .u64 st.d.o] 37)
  have z0 := (b28.grown hb2).cell 0 rfl
  have z1 := (b28.grown hb2).cell 1 rfl
  have z2 := (b28.grown hb2).cell 2 rfl
  have hz28 := (b28.grown hb2).lt
  clear hcp hnx hO1 bB1 b32 b28 x0 x1 x2 y0 y1 y2
  go_wp2_with fail
  have hX3s : (w2.alloc (.cells #[.slice ab st.d.s.length capb, .int .u64 st.d.c, .int .u64 st.d.o] 37)).heap.size = w2.heap.size + 1 := by simp
  generalize w2.alloc (.cells #[.slice ab st.d.s.length capb, .int .u64 st.d.c, .int .u64 st.d.o] 37) = Z at M b32' b28' h3 hX3s ⊢
  generalize kfrom κ W.heap.size (8, st.p.length, 0) = κ1 at M
  have hb6 : w.heap.size + 2 ≤ w2.heap.size := by omega
  generalize w2.heap.size = B6 at M hb6 hX3s ⊢
  clear h3 hb2 hb2s hBs hB hX3s z0 z1 z2 hz28
  have z0 := b28'.cell 0 rfl
  have z1 := b28'.cell 1 rfl
  have z2 := b28'.cell 2 rfl
  have x1 : Z.drew.cell? ⟨B, 1, none⟩ = some (.int .u64 st.d.c) := M.b.cell 1 rfl
  have f1 : Z.drew.frozen? ⟨B, 1, none⟩ = false := M.b.frozen 1
  have y2 : Z.drew.cell? ⟨w.heap.size + 1, 2, none⟩ = some (.int .i64 (m : Int)) := b28'.cell 2 rfl
  go_still_tail 9, (by kernel_rfl)
  change wpList _ _ _ _ _ Z.drew
  go_wp2_with fail
  have hact : st1 = ⟨⟨st.d.s, tog st.d.c m, st.d.o⟩, st.l, st.g, st.v, st.p⟩ := by rw [← hst1.out]; simp [actF]
  have M1 : DoMid lo κ1 w B B6 st st1 (.slice ab st.d.s.length capb) (.slice a3 st.d.s.length cap3) (.slice a4 st.g.length cap4) (.slice a5 st.v.length cap5) (.slice a6 st.p.length cap6) ((Z.setCell ⟨B, 1, none⟩ (.int .u64 (bits BinOp.xor IntKind.u64 st.d.c (IntKind.u64.wrap (2 ^ m))))).drew) := by
    rw [hact]
    have mB := fun S => Mv.box (lo := lo) (κ := κ1) S M.b 1 (.int .u64 (bits BinOp.xor IntKind.u64 st.d.c (IntKind.u64.wrap (2 ^ m))))
    have ho := M.o.mv (mB _)
    have h2 := M.b.set 1 (.int .u64 (bits BinOp.xor IntKind.u64 st.d.c (IntKind.u64.wrap (2 ^ m))))
    simp only [List.setIfInBounds_toArray, List.set_cons_zero, List.set_cons_succ] at h2
    exact { b := h2.drew, o := ⟨ho.d, ho.g, ho.v, ho.p⟩, x := mB (fun t => t = 8) _ _ _ _ _ _ rfl (by decide) M.x, b6 := (M.b6.other (p := ⟨B, 1, none⟩) (M.b6.ne_box M.b (by decide)) _).drew, bl := (M.bl.setCell (p := ⟨B, 1, none⟩) M.le _).drew, le := M.le, ls := by simpa using M.ls, n6 := M.n6, k6 := M.k6 }
  generalize (Z.setCell ⟨B, 1, none⟩ (.int .u64 (bits BinOp.xor IntKind.u64 st.d.c (IntKind.u64.wrap (2 ^ m))))).drew = Y at M1 ⊢
  clear M x1 f1 y2
  have hp1 : st1.p.length = st.p.length := by rw [hact]
  have hs1 : st1.d.s.length = C.s.length := by rw [hact]; exact hslC.out
  have hn3 := hC0.out.n
  have heq := Equal_any (.slice ab st.d.s.length capb) (.slice a3 st.d.s.length cap3) st.d st1.d Y.drew M1.x.num M1.o.d.num (by omega)
  clear hact
  clear hS0 hC0 hr b32' b28' z0 z1 z2 hs1
  have q0 : Y.drew.cell? ⟨B6, 0, none⟩ = some (.slice ab st.d.s.length capb) := M1.b6.cell 0 rfl
  have q1 : Y.drew.cell? ⟨B6, 1, none⟩ = some (.int .u64 st.d.c) := M1.b6.cell 1 rfl
  have q2 : Y.drew.cell? ⟨B6, 2, none⟩ = some (.int .u64 st.d.o) := M1.b6.cell 2 rfl
  have r0 : Y.drew.cell? ⟨B, 0, none⟩ = some (.slice a3 st.d.s.length cap3) := M1.b.cell 0 rfl
  have r1 : Y.drew.cell? ⟨B, 1, none⟩ = some (.int .u64 st1.d.c) := M1.b.cell 1 rfl
  have r2 : Y.drew.cell? ⟨B, 2, none⟩ = some (.int .u64 st1.d.o) := M1.b.cell 2 rfl
  have hdY : Below Y.heap.size Y Y.drew := (Below.refl _ _).drew
  cases hq : eqB st.d st1.d
  · rw [hq] at heq
    have hpu : pushF st st1 = { st1 with p := (st1.p ++ [st.d]).drop ((st1.p ++ [st.d]).length - 20) } := by
      unfold pushF
      rw [eqB_comm, if_neg (by simp [hq])]
    replace hpu := Lib.hid hpu
    clear hq
    replace heq := Lib.hid heq
    go_still_tail 5, (by kernel_rfl)
    change wpList _ _ _ _ _ Y.drew
    go_wp2_with fail
    refine heq.out.mono ?_
    rintro e Y2 ⟨rfl, hb4⟩
    have hb5 : Below Y.heap.size Y Y2 := hdY.trans (hb4.mono (Nat.le_refl _))
    have b2 := M1.b.grown hb5
    have b62 := M1.b6.grown hb5
    have o2 := M1.o.below hb5
    have x2 := RowX.below M1.x hb5
    have bl2 := M1.bl.trans (hb5.mono M1.ls)
    have ls2 : lo ≤ Y2.heap.size := Nat.le_trans M1.ls hb5.size
    have k62 := M1.k6
    clear hb4 hb5 heq q0 q1 q2 r0 r1 r2 hdY
    go_wp2_with fail
    obtain ⟨us, hrow, hels⟩ := o2.p
    have q0 : Y2.drew.cell? ⟨B6, 0, none⟩ = some (.slice ab st.d.s.length capb) := b62.cell 0 rfl
    have q1 : Y2.drew.cell? ⟨B6, 1, none⟩ = some (.int .u64 st.d.c) := b62.cell 1 rfl
    have q2 : Y2.drew.cell? ⟨B6, 2, none⟩ = some (.int .u64 st.d.o) := b62.cell 2 rfl
    have r6 : Y2.drew.cell? ⟨B, 6, none⟩ = some (.slice a6 st.p.length cap6) := b2.cell 6 rfl
    have r6' : Y2.cell? ⟨B, 6, none⟩ = some (.slice a6 st.p.length cap6) := b2.cell 6 rfl
    have hlB := b2.lt
    have hl6 := b62.lt
    have hp20 : st1.p.length ≤ 20 := by omega
    replace hp1 := Lib.hid hp1
    go_region_law ((refine step_apX ap40 (by rfl) _ _ (by rfl) (by rfl) (hrow.alloc _).drew (by simp; omega) ⟨Y2.heap.size, 0, none⟩ 1 [.slice ab st.d.s.length capb, .int .u64 st.d.c, .int .u64 st.d.o] (by rfl) (by rfl) (laid_news Y2 _ 37) (by simp [Value.oneCell']) (by unfold maxLen; omega) (by omega) ?_; intro v' w4 hrow4 hfr4 hoth4; obtain ⟨g7, o7, c7, rfl, hg7, hk7, hl7, hn7, hm7, hc7, hcell7, hfz7⟩ := hrow4.at2 (by omega); have bX4 := ((b2.alloc (.cells #[.slice ab st.d.s.length capb, .int .u64 st.d.c, .int .u64 st.d.o] 37)).drew).oth hoth4 (by decide); have x6 := bX4.cell 6 rfl; have e6 := bX4.frozen 6; have hbl4 := bX4.lt))
    all_goals
      have hY3 : Below Y2.heap.size Y2 ((Y2.alloc (.cells #[.slice ab st.d.s.length capb, .int .u64 st.d.c, .int .u64 st.d.o] 37)).drew) := ((Below.refl _ _).alloc (Nat.le_refl _) _).drew
      have mS := fun S hS => (Mv.below (lo := lo) (κ := κ1) S hY3).trans (Mv.push S hfr4 hS)
      have hP4 := RegsO.mk_push (rg := st.d) (rs := fun j => (8, j, 0)) hrow4 (fun j hj => mS (fun t => t = 8) (fun q h e => by rw [e] at h; simp at h) _ _ _ _ _ _ rfl (by decide) (hels j hj)) (mS (fun t => t = 8) (fun q h e => by rw [e] at h; simp at h) _ _ _ _ _ _ rfl (by decide) (by rw [hp1.out]; exact x2))
      have hD4 : RowU _ _ _ _ _ w4 := mS (fun t => t = 0) (fun q h e => by rw [e] at h; simp at h) _ _ _ _ _ _ rfl (by decide) o2.d
      have hG4 := o2.g.mv (mS _ (fun q h e => by rw [e] at h; simp at h))
      have hV4 := o2.v.mv (mS _ (fun q h e => by rw [e] at h; simp at h))
      have bl4 := (bl2.trans (hY3.mono ls2)).trans (hfr4.below (Nat.le_trans ls2 hY3.size))
      have mB := fun S => Mv.box (lo := lo) (κ := kfrom κ1 ((Y2.alloc (.cells #[.slice ab st.d.s.length capb, .int .u64 st.d.c, .int .u64 st.d.o] 37)).drew).heap.size (7, 0, 0)) S bX4 6 (.slice (some ⟨g7, o7, none⟩) (st1.p.length + 1) c7)
      have bX5 := bX4.set 6 (.slice (some ⟨g7, o7, none⟩) (st1.p.length + 1) c7)
      simp only [List.setIfInBounds_toArray, List.set_cons_zero, List.set_cons_succ] at bX5
      have bl5 := bl4.setCell (p := ⟨B, 6, none⟩) M1.le (.slice (some ⟨g7, o7, none⟩) (st1.p.length + 1) c7)
      replace hP4 := PastO.mv hP4 (mB _)
      replace hD4 : RowU _ _ _ _ _ _ := mB (fun t => t = 0) _ _ _ _ _ _ rfl (by decide) hD4
      replace hG4 := hG4.mv (mB _)
      replace hV4 := hV4.mv (mB _)
      generalize kfrom κ1 ((Y2.alloc (.cells #[.slice ab st.d.s.length capb, .int .u64 st.d.c, .int .u64 st.d.o] 37)).drew).heap.size (7, 0, 0) = κ2 at *
      have hle' := M1.le
      clear mB mS hfr4 hoth4 hrow4 hcell7 hfz7 hc7 bX4 x6 e6 hbl4 hY3 o2 x2 b2 b62 hrow hels M1 q0 q1 q2 r6 r6' hk7 hl7 bl4
      go_wp2_with fail
      generalize w4.setCell ⟨B, 6, none⟩ (.slice (some ⟨g7, o7, none⟩) (st1.p.length + 1) c7) = Y5 at *
      have r6 : Y5.drew.cell? ⟨B, 6, none⟩ = some (.slice (some ⟨g7, o7, none⟩) (st1.p.length + 1) c7) := bX5.cell 6 rfl
      have e6 : Y5.drew.frozen? ⟨B, 6, none⟩ = false := bX5.frozen 6
      have hlB5 := bX5.lt
      by_cases h20 : st1.p.length + 1 ≤ 20
      · have hwr : IntKind.i64.wrap ((st1.p.length : Int) + 1 - 20) = (st1.p.length : Int) - 19 := by rw [IntWalk.i64_in _ (by omega)]; omega
        have hif : (if (st1.p.length : Int) - 19 < 0 then (0 : Int) else (st1.p.length : Int) - 19) = 0 := by split <;> omega
        have hc70 : ¬ c7 = 0 := by omega
        have hle0 : (0 : Int) ≤ (st1.p.length : Int) + 1 := by omega
        have hdr0 : (st1.p ++ [st.d]).drop ((st1.p ++ [st.d]).length - 20) = st1.p ++ [st.d] := by
          rw [List.length_append, List.length_singleton, show st1.p.length + 1 - 20 = 0 by omega, List.drop_zero]
        replace hdr0 := Lib.hid hdr0
        clear h20
        go_still_tail 15, (by kernel_rfl)
        change wpList _ _ _ _ _ Y5.drew
        go_wp2_with fail
        have bX6 := bX5.set 6 (.slice (some ⟨g7, o7, none⟩) (st1.p.length + 1) c7)
        simp only [List.setIfInBounds_toArray, List.set_cons_zero, List.set_cons_succ] at bX6
        have mB := fun S => Mv.box (lo := lo) (κ := κ2) S bX5 6 (.slice (some ⟨g7, o7, none⟩) (st1.p.length + 1) c7)
        go_end0
        rw [hpu.out, hdr0.out]
        exact ⟨κ2, _, _, _, _, rfl, bX6.drew, StO.below (w := Y5.setCell ⟨B, 6, none⟩ (.slice (some ⟨g7, o7, none⟩) (st1.p.length + 1) c7)) ⟨mB (fun t => t = 0) _ _ _ _ _ _ rfl (by decide) hD4, hG4.mv (mB _), hV4.mv (mB _), PastO.mv hP4 (mB _)⟩ (Below.refl _ _).drew, (bl5.setCell (p := ⟨B, 6, none⟩) hle' _).drew⟩
      · have hwr : IntKind.i64.wrap ((st1.p.length : Int) + 1 - 20) = (st1.p.length : Int) - 19 := by rw [IntWalk.i64_in _ (by omega)]; omega
        have hif : (if (st1.p.length : Int) - 19 < 0 then (0 : Int) else (st1.p.length : Int) - 19) = 1 := by split <;> omega
        have hc70 : ¬ c7 = 1 := by omega
        have hle0 : (0 : Int) ≤ (st1.p.length : Int) := by omega
        have hle1 : (1 : Int) ≤ (st1.p.length : Int) + 1 := by omega
        have hdr0 : (st1.p ++ [st.d]).drop ((st1.p ++ [st.d]).length - 20) = (st1.p ++ [st.d]).drop 1 := by
          rw [List.length_append, List.length_singleton, show st1.p.length + 1 - 20 = 1 by omega]
        replace hdr0 := Lib.hid hdr0
        have hP5 := hP4.drop1 (by simp) (by omega)
        clear h20
        go_still_tail 15, (by kernel_rfl)
        change wpList _ _ _ _ _ Y5.drew
        go_wp2_with fail
        have bX6 := bX5.set 6 (.slice (some ⟨g7, o7 + 3, none⟩) (st1.p.length + 1 - 1) (c7 - 1))
        simp only [List.setIfInBounds_toArray, List.set_cons_zero, List.set_cons_succ] at bX6
        have mB := fun S => Mv.box (lo := lo) (κ := kshift κ2) S bX5 6 (.slice (some ⟨g7, o7 + 3, none⟩) (st1.p.length + 1 - 1) (c7 - 1))
        have mK := fun S hS => Mv.kshift (lo := lo) (κ := κ2) (w := Y5) S hS
        go_end0
        rw [hpu.out, hdr0.out]
        exact ⟨kshift κ2, _, _, _, _, rfl, bX6.drew, StO.below (w := Y5.setCell ⟨B, 6, none⟩ (.slice (some ⟨g7, o7 + 3, none⟩) (st1.p.length + 1 - 1) (c7 - 1))) ⟨mB (fun t => t = 0) _ _ _ _ _ _ rfl (by decide) (mK (fun t => t = 0) (fun t h => by omega) _ _ _ _ _ _ rfl (by decide) hD4), (hG4.mv (mK _ (fun t h => by omega))).mv (mB _), (hV4.mv (mK _ (fun t h => by omega))).mv (mB _), PastO.mv hP5 (mB _)⟩ (Below.refl _ _).drew, (bl5.setCell (p := ⟨B, 6, none⟩) hle' _).drew⟩
  · rw [hq] at heq
    have hpu : pushF st st1 = st1 := by
      unfold pushF
      rw [eqB_comm, if_pos hq]
    replace hpu := Lib.hid hpu
    clear hq
    replace heq := Lib.hid heq
    go_still_tail 5, (by kernel_rfl)
    change wpList _ _ _ _ _ Y.drew
    go_wp2_with fail
    refine heq.out.mono ?_
    rintro e Y2 ⟨rfl, hb4⟩
    have hb5 : Below Y.heap.size Y Y2 := hdY.trans (hb4.mono (Nat.le_refl _))
    have b2 := M1.b.grown hb5
    have o2 := M1.o.below hb5
    have bl2 := M1.bl.trans (hb5.mono M1.ls)
    clear hb4 hb5 heq q0 q1 q2 r0 r1 r2 hdY M1
    go_wp2_with fail
    go_end0
    rw [hpu.out]
    exact ⟨κ1, _, _, _, _, rfl, b2, o2, bl2⟩
end Go.Proofs.Ytgnamahdchefnaa
