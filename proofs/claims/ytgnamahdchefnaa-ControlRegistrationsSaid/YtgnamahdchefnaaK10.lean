/- The contract of do for events of kind 10. Conditions: consoles of plans, sound states, possible events. -/
import Derived.Test.YtgnamahdchefnaaR5
import Derived.Laws.BitsAllLaws
import Derived.IntWalk
namespace Go.Proofs.Ytgnamahdchefnaa
open Go.RowKit Go.Shelf

set_option linter.unusedVariables false in
set_option maxRecDepth 100000 in
set_option maxHeartbeats 4000000 in
theorem do_k10 (x y xd xg xv xp : Value) (C : Con) (st : St) (lo B : Nat) (κ : Nat → Role) (d i : Int) (w : World) (hC : C.Ok) (hS : SoundP C st) (hr : ∀ X, Below lo w X → ConR X x y C) (bB : BoxC w B 42 (stCs st xd xg xv xp)) (hO : StO lo κ st xd xg xv xp w)
    (hlo : lo ≤ w.heap.size) (hle : lo ≤ B) (hpos : posF C st 10 d i = 0) : Calls Try.prog 34 #[conV x y C.co C.ge C.lv, .pointer (some ⟨B, 0, none⟩), evV 10 d i] w (DoPost lo B (doF C st 10 d i) w) := by
  have hdo : doF C st 10 d i = undoF st := by unfold doF; rw [if_pos rfl]
  rw [hdo]
  clear hdo
  obtain ⟨st1, hst1⟩ : ∃ st1, undoF st = st1 := ⟨_, rfl⟩
  rw [hst1]
  unfold posF at hpos
  have hpl : st.p.length ≠ 0 := fun e => by simp [e] at hpos
  clear hpos
  try simp only [Int.toNat_natCast] at hst1
  replace hst1 := Lib.hid hst1
  have hr0 := hr w (Below.refl _ _)
  obtain ⟨a1, cap1, rfl⟩ := hr0.s.len
  obtain ⟨a2, cap2, rfl⟩ := hr0.d.lenV hC.dl
  obtain ⟨a3, cap3, rfl⟩ := hO.d.len
  obtain ⟨a4, cap4, rfl⟩ := SlOf.len hO.g.rd
  obtain ⟨a5, cap5, rfl⟩ := SlOf.len hO.v.rd
  obtain ⟨a6, cap6, rfl⟩ := hO.p.rd.len
  have hB := ((Below.refl w.heap.size w).alloc (Nat.le_refl _) (.cells #[.slice a1 C.s.length cap1, .int .i64 C.co, .int .i64 C.ge, .slice a2 C.s.length cap2, .int .i64 C.lv] 32)).alloc (by simp) (.cells #[.int .i64 10, .int .i64 d, .int .i64 i] 28)
  have b32 := (BoxC.new w 32 #[.slice a1 C.s.length cap1, .int .i64 C.co, .int .i64 C.ge, .slice a2 C.s.length cap2, .int .i64 C.lv]).alloc (.cells #[.int .i64 10, .int .i64 d, .int .i64 i] 28)
  have b28 := BoxC.new (w.alloc (.cells #[.slice a1 C.s.length cap1, .int .i64 C.co, .int .i64 C.ge, .slice a2 C.s.length cap2, .int .i64 C.lv] 32)) 28 #[.int .i64 10, .int .i64 d, .int .i64 i]
  simp only [World.size_alloc] at b28
  have bB1 := bB.grown hB
  have hO1 := hO.below hB
  have hsl : st.d.s.length ≤ 1000 := by have := hS.d.n; have := hC.n; omega
  have hcp := copied_any (.slice a3 st.d.s.length cap3) st.d _ hO1.d.num hsl
  replace hcp := Lib.hid hcp
  have hslC := hS.d.n
  have hpn := hS.pn
  replace hslC := Lib.hid hslC
  have hS0 := Lib.hid hS
  have hC0 := Lib.hid hC
  replace hr := Lib.hid hr
  have hBs := hB.size
  have x0 := bB1.cell 0 rfl
  have x1 := bB1.cell 1 rfl
  have x2 := bB1.cell 2 rfl
  have hbl := bB.lt
  have y0 := bB.cell 0 rfl
  have y1 := bB.cell 1 rfl
  have y2 := bB.cell 2 rfl
  clear hS hC hr0 hO bB
  go_enter Try.func34, Try.ntmps34
  go_wp2_with fail
  generalize hW : (w.alloc (.cells #[.slice a1 C.s.length cap1, .int .i64 C.co, .int .i64 C.ge, .slice a2 C.s.length cap2, .int .i64 C.lv] 32)).alloc (.cells #[.int .i64 10, .int .i64 d, .int .i64 i] 28) = W at *
  have hWs : W.heap.size = w.heap.size + 2 := by rw [← hW]; simp
  clear hW
  refine hcp.out.mono ?_
  rintro e w2 ⟨xb, rfl, hnx, hb2⟩
  obtain ⟨ab, capb, rfl⟩ := hnx.num.len
  have h3 := (Below.refl w2.heap.size w2).alloc (Nat.le_refl _) (.cells #[.slice ab st.d.s.length capb, .int .u64 st.d.c, .int .u64 st.d.o] 37)
  have hb2s := hb2.size
  have M : DoMid lo (kfrom κ W.heap.size (8, st.p.length, 0)) w B w2.heap.size st st (.slice ab st.d.s.length capb) (.slice a3 st.d.s.length cap3) (.slice a4 st.g.length cap4) (.slice a5 st.v.length cap5) (.slice a6 st.p.length cap6) (w2.alloc (.cells #[.slice ab st.d.s.length capb, .int .u64 st.d.c, .int .u64 st.d.o] 37)) := {
    b := (bB1.grown hb2).alloc _
    o := (hO1.mv (Mv.newk _ hb2)).below h3
    x := RowX.below (hnx.row (by omega) κ (8, st.p.length, 0)) h3
    b6 := BoxC.new w2 37 _
    bl := ((hB.mono hlo).trans ((hb2.mono (by omega)))).trans (h3.mono (by omega))
    le := hle
    ls := by have := h3.size; omega
    n6 := by omega
    k6 := by rw [kfrom_new (by omega)]; simp }
  have b32' := (b32.grown hb2).alloc (.cells #[.slice ab st.d.s.length capb, .int .u64 st.d.c, .int .u64 st.d.o] 37)
  have b28' := (b28.grown hb2).alloc (.cells #[.slice ab st.d.s.length capb, .int .u64 st.d.c, .int .u64 st.d.o] 37)
  have z0 := (b28.grown hb2).cell 0 rfl
  have z1 := (b28.grown hb2).cell 1 rfl
  have z2 := (b28.grown hb2).cell 2 rfl
  have hz28 := (b28.grown hb2).lt
  have zb6 := (bB1.grown hb2).cell 6 rfl
  have hzB := (bB1.grown hb2).lt
  have hpl1 : 1 ≤ st.p.length := by omega
  clear hcp hnx hO1 bB1 b32 b28 x0 x1 x2 y0 y1 y2
  go_wp2_with fail
  have hX3s : (w2.alloc (.cells #[.slice ab st.d.s.length capb, .int .u64 st.d.c, .int .u64 st.d.o] 37)).heap.size = w2.heap.size + 1 := by simp
  generalize w2.alloc (.cells #[.slice ab st.d.s.length capb, .int .u64 st.d.c, .int .u64 st.d.o] 37) = Z at M b32' b28' h3 hX3s ⊢
  generalize kfrom κ W.heap.size (8, st.p.length, 0) = κ1 at M
  have hb6 : w.heap.size + 2 ≤ w2.heap.size := by omega
  generalize w2.heap.size = B6 at M hb6 hX3s ⊢
  clear h3 hb2 hb2s hBs hB hX3s z0 z1 z2 hz28
  have z0 := b28'.cell 0 rfl
  have z1 := b28'.cell 1 rfl
  have z2 := b28'.cell 2 rfl
  obtain ⟨us, hrow, hels⟩ := M.o.p
  obtain ⟨g, off, cp, he, hg, hk, hgl, hnc, hmx, hcur, hcell, hfz⟩ := hrow.at2 (by omega)
  cases he
  obtain ⟨np, hnp⟩ : ∃ np, st.p.length - 1 = np := ⟨_, rfl⟩
  have hnpl : np < st.p.length := by omega
  have hR := hels np hnpl
  have hRn := hR.num
  obtain ⟨a9, cap9, hu9⟩ := hRn.len
  have x6 : Z.drew.cell? ⟨B, 6, none⟩ = some (.slice (some ⟨g, off, none⟩) st.p.length cap6) := M.b.cell 6 rfl
  have d0 : Z.drew.cell? ⟨g, off + np * 3, none⟩ = some (.slice a9 (get st.p np).s.length cap9) := by rw [← hu9, ← regC0 us st.p np]; exact hcell _ (by omega)
  have d1 : Z.drew.cell? ⟨g, off + np * 3 + 1, none⟩ = some (.int .u64 (get st.p np).c) := by rw [← regC1 us st.p np, Nat.add_assoc]; exact hcell _ (by omega)
  have d2 : Z.drew.cell? ⟨g, off + np * 3 + 2, none⟩ = some (.int .u64 (get st.p np).o) := by rw [← regC2 us st.p np, Nat.add_assoc]; exact hcell _ (by omega)
  have hO2 := StO.back M.o (by omega) hrow hels
  rw [hnp, hu9] at hO2
  have hb0 : BoxC Z B 42 (stCs st (.slice a3 st.d.s.length cap3) (.slice a4 st.g.length cap4) (.slice a5 st.v.length cap5) (.slice (some ⟨g, off, none⟩) st.p.length cap6)) := M.b
  have i1 : (st.p.length : Int) - 1 = (np : Int) := by omega
  have i2 : (np : Int) < (st.p.length : Int) := by omega
  have i3 : np ≤ cap6 := by omega
  have i4 : (np : Int) ≤ (cap6 : Int) := by omega
  have e0 := M.b.cell 0 rfl
  have e1 := M.b.cell 1 rfl
  have e2 := M.b.cell 2 rfl
  have f0 : Z.drew.frozen? ⟨B, 0, none⟩ = false := M.b.frozen 0
  have f1 : Z.drew.frozen? ⟨B, 1, none⟩ = false := M.b.frozen 1
  have f2 : Z.drew.frozen? ⟨B, 2, none⟩ = false := M.b.frozen 2
  have f6 : Z.drew.frozen? ⟨B, 6, none⟩ = false := M.b.frozen 6
  have z0' : Z.drew.cell? ⟨B, 0, none⟩ = some (.slice a3 st.d.s.length cap3) := e0
  have z1' : Z.drew.cell? ⟨B, 1, none⟩ = some (.int .u64 st.d.c) := e1
  have z2' : Z.drew.cell? ⟨B, 2, none⟩ = some (.int .u64 st.d.o) := e2
  have hact : st1 = ⟨get st.p np, st.l, st.g, st.v, st.p.take np⟩ := by rw [← hst1.out]; simp [undoF, hnp]
  replace hact := Lib.hid hact
  replace hnp := Lib.hid hnp
  clear hcell hfz hu9 hrow hels hR hRn hslC hS0 hC0 hr
  have f0' := M.b.frozen 0
  have f1' := M.b.frozen 1
  have f2' := M.b.frozen 2
  have f6' := M.b.frozen 6
  have e6 := M.b.cell 6 rfl
  have hlB := M.b.lt
  go_region_law (fail)
  all_goals
    go_wp2_with fail
    have m0 := fun S => Mv.box (lo := lo) (κ := kback κ1 np) S M.b 0 (.slice a9 (get st.p np).s.length cap9)
    have b1 := M.b.set 0 (.slice a9 (get st.p np).s.length cap9)
    have m1 := fun S => Mv.box (lo := lo) (κ := kback κ1 np) S b1 1 (.int .u64 (get st.p np).c)
    have b2 := b1.set 1 (.int .u64 (get st.p np).c)
    have m2 := fun S => Mv.box (lo := lo) (κ := kback κ1 np) S b2 2 (.int .u64 (get st.p np).o)
    have b3 := b2.set 2 (.int .u64 (get st.p np).o)
    have m3 := fun S => Mv.box (lo := lo) (κ := kback κ1 np) S b3 6 (.slice (some ⟨g, off, none⟩) np cap6)
    have b4 := b3.set 6 (.slice (some ⟨g, off, none⟩) np cap6)
    simp only [List.setIfInBounds_toArray, List.set_cons_zero, List.set_cons_succ] at b4
    have hO3 := hO2.mv ((((m0 _).trans (m1 _)).trans (m2 _)).trans (m3 _))
    rw [hst1.out] at hO3
    refine bodyPost_ret (results_none rfl _ _ _) rfl ⟨kback κ1 np, _, _, _, _, rfl, ?_, hO3.below (Below.refl _ _).drew, ((((M.bl.setCell (p := ⟨B, 0, none⟩) M.le _).setCell (p := ⟨B, 1, none⟩) M.le _).setCell (p := ⟨B, 2, none⟩) M.le _).setCell (p := ⟨B, 6, none⟩) M.le _).drew⟩
    rw [hact.out]
    exact b4.drew
end Go.Proofs.Ytgnamahdchefnaa
