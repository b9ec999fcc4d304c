/- The contracts of the model's do and of after. Conditions: consoles of plans, sound states, at most 1000 events. -/
import Derived.Test.YtgnamahdchefnaaNA
import Derived.Test.YtgnamahdchefnaaNA
import Derived.Test.YtgnamahdchefnaaNA
import Derived.Test.YtgnamahdchefnaaNA
import Derived.Test.YtgnamahdchefnaaNA
import Derived.Test.YtgnamahdchefnaaNB
import Derived.Test.YtgnamahdchefnaaNB
import Derived.Test.YtgnamahdchefnaaNB
import Derived.Test.YtgnamahdchefnaaNB
import Derived.Test.YtgnamahdchefnaaNB
import Derived.Test.YtgnamahdchefnaaDB
namespace Go.Proofs.Ytgnamahdchefnaa
open Go.RowKit Go.Shelf

def LDoBad (p : Int) (w : World) (e : Ending) (w' : World) : Prop := e = .returned (.tuple #[zeroSt, .int .i64 p]) ∧ Below w.heap.size w w'
set_option linter.unusedVariables false in
set_option maxRecDepth 100000 in
set_option maxHeartbeats 4000000 in
theorem ldo_bad (x y xd xg xv xp : Value) (C : Con) (st : St) (k d i p : Int) (w : World) (hC : C.Ok) (hr : ConR w x y C) (hst : StR w xd xg xv xp st) (hpos : posF C st k d i = p) (hp : p ≠ 0) :
    Calls Try.prog 28 #[conV x y C.co C.ge C.lv, stV xd st.d.c st.d.o st.l xg xv xp, evV k d i] w (LDoBad p w) := by
  obtain ⟨a1, cap1, rfl⟩ := hr.s.len
  obtain ⟨a2, cap2, rfl⟩ := hr.d.lenV hC.dl
  obtain ⟨a3, cap3, rfl⟩ := hst.d.len
  obtain ⟨a4, cap4, rfl⟩ := SlOf.len hst.g
  obtain ⟨a5, cap5, rfl⟩ := SlOf.len hst.v
  obtain ⟨a6, cap6, rfl⟩ := hst.p.len
  have hB := ((((Below.refl w.heap.size w).alloc (Nat.le_refl _) (.cells #[.slice a1 C.s.length cap1, .int .i64 C.co, .int .i64 C.ge, .slice a2 C.s.length cap2, .int .i64 C.lv] 32)).alloc (by simp) (.cells #[.slice a3 st.d.s.length cap3, .int .u64 st.d.c, .int .u64 st.d.o, .int .i64 st.l, .slice a4 st.g.length cap4, .slice a5 st.v.length cap5, .slice a6 st.p.length cap6] 42)).alloc (by simp; omega) (.cells #[.int .i64 k, .int .i64 d, .int .i64 i] 28)).alloc (by simp; omega) (.cells #[.slice none 0 0, .int .u64 0, .int .u64 0, .int .i64 0, .slice none 0 0, .slice none 0 0, .slice none 0 0] 42)
  have bC := (((BoxC.new w 32 #[.slice a1 C.s.length cap1, .int .i64 C.co, .int .i64 C.ge, .slice a2 C.s.length cap2, .int .i64 C.lv]).alloc (.cells #[.slice a3 st.d.s.length cap3, .int .u64 st.d.c, .int .u64 st.d.o, .int .i64 st.l, .slice a4 st.g.length cap4, .slice a5 st.v.length cap5, .slice a6 st.p.length cap6] 42)).alloc (.cells #[.int .i64 k, .int .i64 d, .int .i64 i] 28)).alloc (.cells #[.slice none 0 0, .int .u64 0, .int .u64 0, .int .i64 0, .slice none 0 0, .slice none 0 0, .slice none 0 0] 42)
  have bS := ((BoxC.new (w.alloc (.cells #[.slice a1 C.s.length cap1, .int .i64 C.co, .int .i64 C.ge, .slice a2 C.s.length cap2, .int .i64 C.lv] 32)) 42 #[.slice a3 st.d.s.length cap3, .int .u64 st.d.c, .int .u64 st.d.o, .int .i64 st.l, .slice a4 st.g.length cap4, .slice a5 st.v.length cap5, .slice a6 st.p.length cap6]).alloc (.cells #[.int .i64 k, .int .i64 d, .int .i64 i] 28)).alloc (.cells #[.slice none 0 0, .int .u64 0, .int .u64 0, .int .i64 0, .slice none 0 0, .slice none 0 0, .slice none 0 0] 42)
  have bE := (BoxC.new ((w.alloc (.cells #[.slice a1 C.s.length cap1, .int .i64 C.co, .int .i64 C.ge, .slice a2 C.s.length cap2, .int .i64 C.lv] 32)).alloc (.cells #[.slice a3 st.d.s.length cap3, .int .u64 st.d.c, .int .u64 st.d.o, .int .i64 st.l, .slice a4 st.g.length cap4, .slice a5 st.v.length cap5, .slice a6 st.p.length cap6] 42)) 28 #[.int .i64 k, .int .i64 d, .int .i64 i]).alloc (.cells #[.slice none 0 0, .int .u64 0, .int .u64 0, .int .i64 0, .slice none 0 0, .slice none 0 0, .slice none 0 0] 42)
  have bR := BoxC.new (((w.alloc (.cells #[.slice a1 C.s.length cap1, .int .i64 C.co, .int .i64 C.ge, .slice a2 C.s.length cap2, .int .i64 C.lv] 32)).alloc (.cells #[.slice a3 st.d.s.length cap3, .int .u64 st.d.c, .int .u64 st.d.o, .int .i64 st.l, .slice a4 st.g.length cap4, .slice a5 st.v.length cap5, .slice a6 st.p.length cap6] 42)).alloc (.cells #[.int .i64 k, .int .i64 d, .int .i64 i] 28)) 42 #[.slice none 0 0, .int .u64 0, .int .u64 0, .int .i64 0, .slice none 0 0, .slice none 0 0, .slice none 0 0]
  simp only [World.size_alloc] at bS bE bR
  have hpp := lawPossible_any (.slice a1 C.s.length cap1) (.slice a2 C.s.length cap2) (.slice a3 st.d.s.length cap3) (.slice a4 st.g.length cap4) (.slice a5 st.v.length cap5) (.slice a6 st.p.length cap6) C st k d i _ hC (hr.mono hB) (hst.mono hB)
  rw [hpos] at hpp
  replace hpp := Lib.hid hpp
  have hpb : (p != 0) = true := by simpa using hp
  clear hC hst hr hpos
  go_enter Try.func28, Try.ntmps28
  go_wp2_with fail
  generalize hW : (((w.alloc (.cells #[.slice a1 C.s.length cap1, .int .i64 C.co, .int .i64 C.ge, .slice a2 C.s.length cap2, .int .i64 C.lv] 32)).alloc (.cells #[.slice a3 st.d.s.length cap3, .int .u64 st.d.c, .int .u64 st.d.o, .int .i64 st.l, .slice a4 st.g.length cap4, .slice a5 st.v.length cap5, .slice a6 st.p.length cap6] 42)).alloc (.cells #[.int .i64 k, .int .i64 d, .int .i64 i] 28)).alloc (.cells #[.slice none 0 0, .int .u64 0, .int .u64 0, .int .i64 0, .slice none 0 0, .slice none 0 0, .slice none 0 0] 42) = W at hB bC bS bE bR hpp ⊢
  have hWs : W.heap.size = w.heap.size + 4 := by rw [← hW]; simp
  clear hW
  replace hWs := Lib.hid hWs
  refine hpp.out.mono ?_
  rintro e w1 ⟨rfl, hb1⟩
  have bR6 := bR.grown hb1
  have hW4 := hB.trans (hb1.mono hB.size)
  have r0 := bR6.cell 0 rfl
  have r1 := bR6.cell 1 rfl
  have r2 := bR6.cell 2 rfl
  have r3 := bR6.cell 3 rfl
  have r4 := bR6.cell 4 rfl
  have r5 := bR6.cell 5 rfl
  have r6 := bR6.cell 6 rfl
  have e0 := bR6.frozen 0
  have e1 := bR6.frozen 1
  have e2 := bR6.frozen 2
  have e3 := bR6.frozen 3
  have e4 := bR6.frozen 4
  have e5 := bR6.frozen 5
  have e6 := bR6.frozen 6
  go_wp2
  exact bodyPost_ret (ret_cell_tmp Try.results28 rfl rfl (bR6.put7 _ _ _ _ _ _ _) Try.underlying42 size42) rfl ⟨rfl, below_put7 _ _ _ _ _ _ _ hW4 (by omega)⟩
theorem ldo_any (x y xd xg xv xp : Value) (C : Con) (st : St) (k d i : Int) (w : World) (hC : C.Ok) (hr : ConR w x y C) (hst : StR w xd xg xv xp st) (hS : SoundP C st) :
    Calls Try.prog 28 #[conV x y C.co C.ge C.lv, stV xd st.d.c st.d.o st.l xg xv xp, evV k d i] w (DoRes C st k d i w) := by
  by_cases hp : posF C st k d i = 0
  · have good : Calls Try.prog 28 #[conV x y C.co C.ge C.lv, stV xd st.d.c st.d.o st.l xg xv xp, evV k d i] w (LDoPost (doF C st k d i) w) := by
      rcases pos_kind hp with rfl | rfl | rfl | rfl | rfl | rfl | rfl | rfl | rfl | rfl
      · exact ldo_k1 x y xd xg xv xp C st d i w hC hr hst hS hp
      · exact ldo_k2 x y xd xg xv xp C st d i w hC hr hst hS hp
      · exact ldo_k3 x y xd xg xv xp C st d i w hC hr hst hS hp
      · exact ldo_k4 x y xd xg xv xp C st d i w hC hr hst hS hp
      · exact ldo_k5 x y xd xg xv xp C st d i w hC hr hst hS hp
      · exact ldo_k6 x y xd xg xv xp C st d i w hC hr hst hS hp
      · exact ldo_k7 x y xd xg xv xp C st d i w hC hr hst hS hp
      · exact ldo_k8 x y xd xg xv xp C st d i w hC hr hst hS hp
      · exact ldo_k9 x y xd xg xv xp C st d i w hC hr hst hS hp
      · exact ldo_k10 x y xd xg xv xp C st d i w hC hr hst hS hp
    refine good.mono ?_
    rintro e w' ⟨zd, zg, zv, zp, κ, h1, h2, h3⟩
    exact ⟨h3, .inr ⟨hp, zd, zg, zv, zp, κ, h1, h2⟩⟩
  · refine (ldo_bad x y xd xg xv xp C st k d i _ w hC hr hst rfl hp).mono ?_
    rintro e w' ⟨h1, h2⟩
    exact ⟨h2, .inl ⟨hp, h1⟩⟩
theorem after_any (x y ve : Value) (C : Con) (l : List Ev) (w : World) (hC : C.Ok) (hr : ConR w x y C) (hv : EvSl w ve l) (hl : l.length ≤ 1000) : Calls Try.prog 9 #[conV x y C.co C.ge C.lv, ve] w (StPost (afterF C (startF C) l) w) :=
  after_from start_any ldo_any x y ve C l w hC hr hv hl
end Go.Proofs.Ytgnamahdchefnaa
