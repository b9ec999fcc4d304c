/- The contracts of control.do and of Do. Conditions: consoles of plans, sound states. -/
import Derived.Test.YtgnamahdchefnaaK1
import Derived.Test.YtgnamahdchefnaaK2
import Derived.Test.YtgnamahdchefnaaK3
import Derived.Test.YtgnamahdchefnaaK4
import Derived.Test.YtgnamahdchefnaaK5
import Derived.Test.YtgnamahdchefnaaK6
import Derived.Test.YtgnamahdchefnaaK7
import Derived.Test.YtgnamahdchefnaaK8
import Derived.Test.YtgnamahdchefnaaK9
import Derived.Test.YtgnamahdchefnaaK10
import Derived.Test.YtgnamahdchefnaaPA
namespace Go.Proofs.Ytgnamahdchefnaa
open Go.RowKit Go.Shelf

theorem pos_kind {C : Con} {st : St} {k d i : Int} (h : posF C st k d i = 0) : k = 1 ∨ k = 2 ∨ k = 3 ∨ k = 4 ∨ k = 5 ∨ k = 6 ∨ k = 7 ∨ k = 8 ∨ k = 9 ∨ k = 10 := by
  unfold posF at h
  repeat' split at h
  all_goals omega
theorem do_any (x y xd xg xv xp : Value) (C : Con) (st : St) (lo B : Nat) (κ : Nat → Role) (k d i : Int) (w : World) (hC : C.Ok) (hS : SoundP C st) (hr : ∀ X, Below lo w X → ConR X x y C) (bB : BoxC w B 42 (stCs st xd xg xv xp)) (hO : StO lo κ st xd xg xv xp w)
    (hlo : lo ≤ w.heap.size) (hle : lo ≤ B) (hpos : posF C st k d i = 0) : Calls Try.prog 34 #[conV x y C.co C.ge C.lv, .pointer (some ⟨B, 0, none⟩), evV k d i] w (DoPost lo B (doF C st k d i) w) := by
  rcases pos_kind hpos with rfl | rfl | rfl | rfl | rfl | rfl | rfl | rfl | rfl | rfl
  · exact do_k1 x y xd xg xv xp C st lo B κ d i w hC hS hr bB hO hlo hle hpos
  · exact do_k2 x y xd xg xv xp C st lo B κ d i w hC hS hr bB hO hlo hle hpos
  · exact do_k3 x y xd xg xv xp C st lo B κ d i w hC hS hr bB hO hlo hle hpos
  · exact do_k4 x y xd xg xv xp C st lo B κ d i w hC hS hr bB hO hlo hle hpos
  · exact do_k5 x y xd xg xv xp C st lo B κ d i w hC hS hr bB hO hlo hle hpos
  · exact do_k6 x y xd xg xv xp C st lo B κ d i w hC hS hr bB hO hlo hle hpos
  · exact do_k7 x y xd xg xv xp C st lo B κ d i w hC hS hr bB hO hlo hle hpos
  · exact do_k8 x y xd xg xv xp C st lo B κ d i w hC hS hr bB hO hlo hle hpos
  · exact do_k9 x y xd xg xv xp C st lo B κ d i w hC hS hr bB hO hlo hle hpos
  · exact do_k10 x y xd xg xv xp C st lo B κ d i w hC hS hr bB hO hlo hle hpos
end Go.Proofs.Ytgnamahdchefnaa
namespace Go.Proofs.Ytgnamahdchefnaa
open Go.RowKit Go.Shelf

abbrev zeroSt : Value := .agg #[.slice none 0 0, .int .u64 0, .int .u64 0, .int .i64 0, .slice none 0 0, .slice none 0 0, .slice none 0 0]
def DoRes (C : Con) (st : St) (k d i : Int) (w : World) (e : Ending) (w' : World) : Prop := Below w.heap.size w w' ∧
  ((posF C st k d i ≠ 0 ∧ e = .returned (.tuple #[zeroSt, .int .i64 (posF C st k d i)])) ∨
   (posF C st k d i = 0 ∧ ∃ xd xg xv xp κ, e = .returned (.tuple #[.agg (stCs (doF C st k d i) xd xg xv xp), .int .i64 0]) ∧ StO w.heap.size κ (doF C st k d i) xd xg xv xp w'))

set_option linter.unusedVariables false in
set_option maxRecDepth 100000 in
set_option maxHeartbeats 4000000 in
theorem Do_any (x y xd xg xv xp : Value) (C : Con) (st : St) (k d i : Int) (w : World) (hC : C.Ok) (hr : ConR w x y C) (hst : StR w xd xg xv xp st) (hS : SoundP C st) :
    Calls Try.prog 14 #[conV x y C.co C.ge C.lv, stV xd st.d.c st.d.o st.l xg xv xp, evV k d i] w (DoRes C st k d i w) := by
  have hB0 : ∀ (W : World), Below w.heap.size w W → ConR W x y C := fun W h => hr.mono h
  have hB1 : ∀ (W : World), Below w.heap.size w W → StR W xd xg xv xp st := fun W h => hst.mono h
  obtain ⟨a1, c1, rfl⟩ := hr.s.len
  obtain ⟨a2, c2, rfl⟩ := hr.d.lenV hC.dl
  obtain ⟨a3, c3, rfl⟩ := hst.d.len
  obtain ⟨a4, c4, rfl⟩ := SlOf.len hst.g
  obtain ⟨a5, c5, rfl⟩ := SlOf.len hst.v
  obtain ⟨a6, c6, rfl⟩ := hst.p.len
  have hB := ((((Below.refl w.heap.size w).alloc (Nat.le_refl _) (.cells #[.slice a1 C.s.length c1, .int .i64 C.co, .int .i64 C.ge, .slice a2 C.s.length c2, .int .i64 C.lv] 32)).alloc (by simp) (.cells #[.slice a3 st.d.s.length c3, .int .u64 st.d.c, .int .u64 st.d.o, .int .i64 st.l, .slice a4 st.g.length c4, .slice a5 st.v.length c5, .slice a6 st.p.length c6] 42)).alloc (by simp; omega) (.cells #[.int .i64 k, .int .i64 d, .int .i64 i] 28)).alloc (by simp; omega) (.cells #[.slice none 0 0, .int .u64 0, .int .u64 0, .int .i64 0, .slice none 0 0, .slice none 0 0, .slice none 0 0] 42)
  have b1 := (((BoxC.new w 32 #[.slice a1 C.s.length c1, .int .i64 C.co, .int .i64 C.ge, .slice a2 C.s.length c2, .int .i64 C.lv]).alloc (.cells #[.slice a3 st.d.s.length c3, .int .u64 st.d.c, .int .u64 st.d.o, .int .i64 st.l, .slice a4 st.g.length c4, .slice a5 st.v.length c5, .slice a6 st.p.length c6] 42)).alloc (.cells #[.int .i64 k, .int .i64 d, .int .i64 i] 28)).alloc (.cells #[.slice none 0 0, .int .u64 0, .int .u64 0, .int .i64 0, .slice none 0 0, .slice none 0 0, .slice none 0 0] 42)
  have b2 := ((BoxC.new (w.alloc (.cells #[.slice a1 C.s.length c1, .int .i64 C.co, .int .i64 C.ge, .slice a2 C.s.length c2, .int .i64 C.lv] 32)) 42 #[.slice a3 st.d.s.length c3, .int .u64 st.d.c, .int .u64 st.d.o, .int .i64 st.l, .slice a4 st.g.length c4, .slice a5 st.v.length c5, .slice a6 st.p.length c6]).alloc (.cells #[.int .i64 k, .int .i64 d, .int .i64 i] 28)).alloc (.cells #[.slice none 0 0, .int .u64 0, .int .u64 0, .int .i64 0, .slice none 0 0, .slice none 0 0, .slice none 0 0] 42)
  have b3 := (BoxC.new ((w.alloc (.cells #[.slice a1 C.s.length c1, .int .i64 C.co, .int .i64 C.ge, .slice a2 C.s.length c2, .int .i64 C.lv] 32)).alloc (.cells #[.slice a3 st.d.s.length c3, .int .u64 st.d.c, .int .u64 st.d.o, .int .i64 st.l, .slice a4 st.g.length c4, .slice a5 st.v.length c5, .slice a6 st.p.length c6] 42)) 28 #[.int .i64 k, .int .i64 d, .int .i64 i]).alloc (.cells #[.slice none 0 0, .int .u64 0, .int .u64 0, .int .i64 0, .slice none 0 0, .slice none 0 0, .slice none 0 0] 42)
  have b4 := BoxC.new (((w.alloc (.cells #[.slice a1 C.s.length c1, .int .i64 C.co, .int .i64 C.ge, .slice a2 C.s.length c2, .int .i64 C.lv] 32)).alloc (.cells #[.slice a3 st.d.s.length c3, .int .u64 st.d.c, .int .u64 st.d.o, .int .i64 st.l, .slice a4 st.g.length c4, .slice a5 st.v.length c5, .slice a6 st.p.length c6] 42)).alloc (.cells #[.int .i64 k, .int .i64 d, .int .i64 i] 28)) 42 #[.slice none 0 0, .int .u64 0, .int .u64 0, .int .i64 0, .slice none 0 0, .slice none 0 0, .slice none 0 0]
  simp only [World.size_alloc] at b2 b3 b4
  have hF := hS.fit hC
  have hso := fun W h1 h2 => Sound_ok (.slice a1 C.s.length c1) (.slice a2 C.s.length c2) (.slice a3 st.d.s.length c3) (.slice a4 st.g.length c4) (.slice a5 st.v.length c5) (.slice a6 st.p.length c6) C st W hC h1 h2 hS
  have hpo := fun W h1 h2 => possible_any (.slice a1 C.s.length c1) (.slice a2 C.s.length c2) (.slice a3 st.d.s.length c3) (.slice a4 st.g.length c4) (.slice a5 st.v.length c5) (.slice a6 st.p.length c6) C st k d i W hC h1 h2
  have hcl := fun W h => clone_any (.slice a3 st.d.s.length c3) (.slice a4 st.g.length c4) (.slice a5 st.v.length c5) (.slice a6 st.p.length c6) st W h hF
  replace hso := Lib.hid hso
  replace hpo := Lib.hid hpo
  replace hcl := Lib.hid hcl
  have hS0 := Lib.hid hS
  have hC0 := Lib.hid hC
  replace hB0 := Lib.hid hB0
  replace hB1 := Lib.hid hB1
  clear hr hst hS hC hF
  go_enter Try.func14, Try.ntmps14
  go_wp2_with fail
  generalize hW : (((w.alloc (.cells #[.slice a1 C.s.length c1, .int .i64 C.co, .int .i64 C.ge, .slice a2 C.s.length c2, .int .i64 C.lv] 32)).alloc (.cells #[.slice a3 st.d.s.length c3, .int .u64 st.d.c, .int .u64 st.d.o, .int .i64 st.l, .slice a4 st.g.length c4, .slice a5 st.v.length c5, .slice a6 st.p.length c6] 42)).alloc (.cells #[.int .i64 k, .int .i64 d, .int .i64 i] 28)).alloc (.cells #[.slice none 0 0, .int .u64 0, .int .u64 0, .int .i64 0, .slice none 0 0, .slice none 0 0, .slice none 0 0] 42) = W at hB b1 b2 b3 b4 ⊢
  have hWs : W.heap.size = w.heap.size + 4 := by rw [← hW]; simp
  clear hW
  replace hWs := Lib.hid hWs
  refine (hso.out _ (hB0.out _ hB) (hB1.out _ hB)).mono ?_
  rintro e w1 ⟨rfl, hb1⟩
  have hBb := hB.trans (hb1.mono hB.size)
  replace b1 := b1.grown hb1
  replace b2 := b2.grown hb1
  replace b3 := b3.grown hb1
  replace b4 := b4.grown hb1
  have hs1 := hb1.size
  clear hb1 hB
  have p0 := b1.cell 0 rfl
  have p1 := b1.cell 1 rfl
  have p2 := b1.cell 2 rfl
  have p3 := b1.cell 3 rfl
  have p4 := b1.cell 4 rfl
  have q0 := b2.cell 0 rfl
  have q1 := b2.cell 1 rfl
  have q2 := b2.cell 2 rfl
  have q3 := b2.cell 3 rfl
  have q4 := b2.cell 4 rfl
  have q5 := b2.cell 5 rfl
  have q6 := b2.cell 6 rfl
  have r0 := b3.cell 0 rfl
  have r1 := b3.cell 1 rfl
  have r2 := b3.cell 2 rfl
  have s0 := b4.cell 0 rfl
  have s1 := b4.cell 1 rfl
  have s2 := b4.cell 2 rfl
  have s3 := b4.cell 3 rfl
  have s4 := b4.cell 4 rfl
  have s5 := b4.cell 5 rfl
  have s6 := b4.cell 6 rfl
  have fs0 := b4.frozen 0
  have fs1 := b4.frozen 1
  have fs2 := b4.frozen 2
  have fs3 := b4.frozen 3
  have fs4 := b4.frozen 4
  have fs5 := b4.frozen 5
  have fs6 := b4.frozen 6
  go_wp2_with fail
  refine (hpo.out _ (hB0.out _ hBb) (hB1.out _ hBb)).mono ?_
  rintro e w2 ⟨rfl, hb2⟩
  have hBc := hBb.trans (hb2.mono hBb.size)
  replace b1 := b1.grown hb2
  replace b2 := b2.grown hb2
  replace b3 := b3.grown hb2
  replace b4 := b4.grown hb2
  have hs2 := hb2.size
  clear hb2 hBb p0 p1 p2 p3 p4 q0 q1 q2 q3 q4 q5 q6 r0 r1 r2 s0 s1 s2 s3 s4 s5 s6 fs0 fs1 fs2 fs3 fs4 fs5 fs6
  have p0 := b1.cell 0 rfl
  have p1 := b1.cell 1 rfl
  have p2 := b1.cell 2 rfl
  have p3 := b1.cell 3 rfl
  have p4 := b1.cell 4 rfl
  have q0 := b2.cell 0 rfl
  have q1 := b2.cell 1 rfl
  have q2 := b2.cell 2 rfl
  have q3 := b2.cell 3 rfl
  have q4 := b2.cell 4 rfl
  have q5 := b2.cell 5 rfl
  have q6 := b2.cell 6 rfl
  have r0 := b3.cell 0 rfl
  have r1 := b3.cell 1 rfl
  have r2 := b3.cell 2 rfl
  have s0 := b4.cell 0 rfl
  have s1 := b4.cell 1 rfl
  have s2 := b4.cell 2 rfl
  have s3 := b4.cell 3 rfl
  have s4 := b4.cell 4 rfl
  have s5 := b4.cell 5 rfl
  have s6 := b4.cell 6 rfl
  have fs0 := b4.frozen 0
  have fs1 := b4.frozen 1
  have fs2 := b4.frozen 2
  have fs3 := b4.frozen 3
  have fs4 := b4.frozen 4
  have fs5 := b4.frozen 5
  have fs6 := b4.frozen 6
  by_cases hp : posF C st k d i = 0
  · have hp2 := Lib.hid hp
    rw [hp]
    go_wp2_with fail
    refine (hcl.out _ (hB1.out _ hBc)).mono ?_
    rintro e w3 ⟨xd, xg, xv, xp, κ, rfl, hO, hb3⟩
    obtain ⟨d1, e1, rfl⟩ := hO.d.len
    obtain ⟨d2, e2, rfl⟩ := SlOf.len hO.g.rd
    obtain ⟨d3, e3, rfl⟩ := SlOf.len hO.v.rd
    obtain ⟨d4, e4, rfl⟩ := hO.p.rd.len
    have hBd := hBc.trans (hb3.mono hBc.size)
    have b4c := b4
    replace b1 := b1.grown hb3
    replace b2 := b2.grown hb3
    replace b3 := b3.grown hb3
    replace b4 := b4.grown hb3
    have hs3 := hb3.size
    have hb4 := (Below.refl w3.heap.size w3).alloc (Nat.le_refl _) (.cells #[.slice d1 st.d.s.length e1, .int .u64 st.d.c, .int .u64 st.d.o, .int .i64 st.l, .slice d2 st.g.length e2, .slice d3 st.v.length e3, .slice d4 st.p.length e4] 42)
    have bS := BoxC.new w3 42 #[.slice d1 st.d.s.length e1, .int .u64 st.d.c, .int .u64 st.d.o, .int .i64 st.l, .slice d2 st.g.length e2, .slice d3 st.v.length e3, .slice d4 st.p.length e4]
    have hO4 := hO.below hb4
    have hb24 := hb3.trans (hb4.mono hb3.size)
    have hBe := hBd.trans (hb4.mono hBd.size)
    have hdo := do_any (.slice a1 C.s.length c1) (.slice a2 C.s.length c2) (.slice d1 st.d.s.length e1) (.slice d2 st.g.length e2) (.slice d3 st.v.length e3) (.slice d4 st.p.length e4) C st w2.heap.size w3.heap.size κ k d i _ hC0.out hS0.out (fun X hX => hB0.out _ (hBc.trans ((hb24.trans hX).mono hBc.size))) bS hO4 hb24.size hb3.size hp
    replace hdo := Lib.hid hdo
    have hl1 := b1.lt
    have hl2 := b2.lt
    have hl3 := b3.lt
    have hl4 := b4.lt
    clear hO hO4 p0 p1 p2 p3 p4 q0 q1 q2 q3 q4 q5 q6 r0 r1 r2 s0 s1 s2 s3 s4 s5 s6 fs0 fs1 fs2 fs3 fs4 fs5 fs6
    have p0 := b1.cell 0 rfl
    have p1 := b1.cell 1 rfl
    have p2 := b1.cell 2 rfl
    have p3 := b1.cell 3 rfl
    have p4 := b1.cell 4 rfl
    have q0 := b2.cell 0 rfl
    have q1 := b2.cell 1 rfl
    have q2 := b2.cell 2 rfl
    have q3 := b2.cell 3 rfl
    have q4 := b2.cell 4 rfl
    have q5 := b2.cell 5 rfl
    have q6 := b2.cell 6 rfl
    have r0 := b3.cell 0 rfl
    have r1 := b3.cell 1 rfl
    have r2 := b3.cell 2 rfl
    have s0 := b4.cell 0 rfl
    have s1 := b4.cell 1 rfl
    have s2 := b4.cell 2 rfl
    have s3 := b4.cell 3 rfl
    have s4 := b4.cell 4 rfl
    have s5 := b4.cell 5 rfl
    have s6 := b4.cell 6 rfl
    have fs0 := b4.frozen 0
    have fs1 := b4.frozen 1
    have fs2 := b4.frozen 2
    have fs3 := b4.frozen 3
    have fs4 := b4.frozen 4
    have fs5 := b4.frozen 5
    have fs6 := b4.frozen 6
    go_wp2_with fail
    refine hdo.out.mono ?_
    rintro e w5 ⟨κ5, yd, yg, yv, yp, rfl, bS5, hO5, hb5⟩
    have hb25 := hb24.trans hb5
    have bR := b4c.grown hb25
    have hBf := hBc.trans (hb25.mono hBc.size)
    generalize he5 : doF C st k d i = st5 at bS5 hO5
    replace he5 := Lib.hid he5
    obtain ⟨g1, h1, rfl⟩ := hO5.d.len
    obtain ⟨g2, h2, rfl⟩ := SlOf.len hO5.g.rd
    obtain ⟨g3, h3, rfl⟩ := SlOf.len hO5.v.rd
    obtain ⟨g4, h4, rfl⟩ := hO5.p.rd.len
    clear p0 p1 p2 p3 p4 q0 q1 q2 q3 q4 q5 q6 r0 r1 r2 s0 s1 s2 s3 s4 s5 s6 fs0 fs1 fs2 fs3 fs4 fs5 fs6
    have q0 := bS5.cell 0 rfl
    have q1 := bS5.cell 1 rfl
    have q2 := bS5.cell 2 rfl
    have q3 := bS5.cell 3 rfl
    have q4 := bS5.cell 4 rfl
    have q5 := bS5.cell 5 rfl
    have q6 := bS5.cell 6 rfl
    have s0 := bR.cell 0 rfl
    have s1 := bR.cell 1 rfl
    have s2 := bR.cell 2 rfl
    have s3 := bR.cell 3 rfl
    have s4 := bR.cell 4 rfl
    have s5 := bR.cell 5 rfl
    have s6 := bR.cell 6 rfl
    have fs0 := bR.frozen 0
    have fs1 := bR.frozen 1
    have fs2 := bR.frozen 2
    have fs3 := bR.frozen 3
    have fs4 := bR.frozen 4
    have fs5 := bR.frozen 5
    have fs6 := bR.frozen 6
    go_wp2
    refine bodyPost_ret (ret_cell_tmp Try.results14 rfl rfl (bR.put7 _ _ _ _ _ _ _) Try.underlying42 size42) rfl ⟨below_put7 _ _ _ _ _ _ _ hBf (by omega), .inr ⟨hp2.out, ?_⟩⟩
    have he6 := he5.out
    subst he6
    exact ⟨_, _, _, _, κ5, rfl, (hO5.mv (Mv.low _ (by have := hBc.size; omega))).mv (Mv.put7 _ bR _ _ _ _ _ _ _)⟩
  · have hp2 : ¬ posF C st k d i = 0 := hp
    generalize hpp : posF C st k d i = pp at hp ⊢
    replace hpp := Lib.hid hpp
    replace hp2 := Lib.hid hp2
    go_wp2_with fail
    have hpq := hpp.out
    subst hpq
    exact bodyPost_ret (ret_cell_tmp Try.results14 rfl rfl (b4.put7 _ _ _ _ _ _ _) Try.underlying42 size42) rfl ⟨below_put7 _ _ _ _ _ _ _ hBc (by omega), .inl ⟨hp2.out, rfl⟩⟩
end Go.Proofs.Ytgnamahdchefnaa
