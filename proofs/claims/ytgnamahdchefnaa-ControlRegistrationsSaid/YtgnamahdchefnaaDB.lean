/- The contracts of Run and of after. Conditions: consoles of plans, possible events. -/
import Derived.Test.YtgnamahdchefnaaDA
import Derived.Test.YtgnamahdchefnaaPA
namespace Go.Proofs.Ytgnamahdchefnaa
open Go.RowKit Go.Shelf

def RunRes (st : St) (w : World) (e : Ending) (w' : World) : Prop := ∃ xd xg xv xp κ, e = .returned (.tuple #[.agg (stCs st xd xg xv xp), .int .i64 0, .int .i64 0]) ∧ StO w.heap.size κ st xd xg xv xp w' ∧ Below w.heap.size w w'

set_option linter.unusedVariables false in
set_option maxRecDepth 100000 in
set_option maxHeartbeats 4000000 in
theorem Run_ok (x y xd xg xv xp ve : Value) (C : Con) (st : St) (l : List Ev) (w : World) (hC : C.Ok) (hr : ConR w x y C) (hst : StR w xd xg xv xp st) (hS : SoundP C st) (hv : EvSl w ve l) (hl : l.length ≤ 1000) (hpos : AllPos C st l) :
    Calls Try.prog 12 #[conV x y C.co C.ge C.lv, stV xd st.d.c st.d.o st.l xg xv xp, ve] w (RunRes (afterF C st l) w) := by
  have hB0 : ∀ (W : World), Below w.heap.size w W → ConR W x y C := fun W h => hr.mono h
  have hB1 : ∀ (W : World), Below w.heap.size w W → StR W xd xg xv xp st := fun W h => hst.mono h
  have hB2 : ∀ (W : World), Below w.heap.size w W → EvSl W ve l := fun W h => hv.mono h
  obtain ⟨a1, c1, rfl⟩ := hr.s.len
  obtain ⟨a2, c2, rfl⟩ := hr.d.lenV hC.dl
  obtain ⟨a3, c3, rfl⟩ := hst.d.len
  obtain ⟨a4, c4, rfl⟩ := SlOf.len hst.g
  obtain ⟨a5, c5, rfl⟩ := SlOf.len hst.v
  obtain ⟨a6, c6, rfl⟩ := hst.p.len
  obtain ⟨a7, c7, rfl⟩ := hv.len
  have hB := (((Below.refl w.heap.size w).alloc (Nat.le_refl _) (.cells #[.slice a1 C.s.length c1, .int .i64 C.co, .int .i64 C.ge, .slice a2 C.s.length c2, .int .i64 C.lv] 32)).alloc (by simp) (.cells #[.slice a3 st.d.s.length c3, .int .u64 st.d.c, .int .u64 st.d.o, .int .i64 st.l, .slice a4 st.g.length c4, .slice a5 st.v.length c5, .slice a6 st.p.length c6] 42)).alloc (by simp; omega) (.cells #[.slice none 0 0, .int .u64 0, .int .u64 0, .int .i64 0, .slice none 0 0, .slice none 0 0, .slice none 0 0] 42)
  have b1 := ((BoxC.new w 32 #[.slice a1 C.s.length c1, .int .i64 C.co, .int .i64 C.ge, .slice a2 C.s.length c2, .int .i64 C.lv]).alloc (.cells #[.slice a3 st.d.s.length c3, .int .u64 st.d.c, .int .u64 st.d.o, .int .i64 st.l, .slice a4 st.g.length c4, .slice a5 st.v.length c5, .slice a6 st.p.length c6] 42)).alloc (.cells #[.slice none 0 0, .int .u64 0, .int .u64 0, .int .i64 0, .slice none 0 0, .slice none 0 0, .slice none 0 0] 42)
  have b2 := (BoxC.new (w.alloc (.cells #[.slice a1 C.s.length c1, .int .i64 C.co, .int .i64 C.ge, .slice a2 C.s.length c2, .int .i64 C.lv] 32)) 42 #[.slice a3 st.d.s.length c3, .int .u64 st.d.c, .int .u64 st.d.o, .int .i64 st.l, .slice a4 st.g.length c4, .slice a5 st.v.length c5, .slice a6 st.p.length c6]).alloc (.cells #[.slice none 0 0, .int .u64 0, .int .u64 0, .int .i64 0, .slice none 0 0, .slice none 0 0, .slice none 0 0] 42)
  have b4 := BoxC.new ((w.alloc (.cells #[.slice a1 C.s.length c1, .int .i64 C.co, .int .i64 C.ge, .slice a2 C.s.length c2, .int .i64 C.lv] 32)).alloc (.cells #[.slice a3 st.d.s.length c3, .int .u64 st.d.c, .int .u64 st.d.o, .int .i64 st.l, .slice a4 st.g.length c4, .slice a5 st.v.length c5, .slice a6 st.p.length c6] 42)) 42 #[.slice none 0 0, .int .u64 0, .int .u64 0, .int .i64 0, .slice none 0 0, .slice none 0 0, .slice none 0 0]
  simp only [World.size_alloc] at b2 b4
  have hso := fun W h1 h2 => Sound_ok (.slice a1 C.s.length c1) (.slice a2 C.s.length c2) (.slice a3 st.d.s.length c3) (.slice a4 st.g.length c4) (.slice a5 st.v.length c5) (.slice a6 st.p.length c6) C st W hC h1 h2 hS
  have hpo := fun (s : St) yd yg yv yp k d i W h1 h2 => possible_any (.slice a1 C.s.length c1) (.slice a2 C.s.length c2) yd yg yv yp C s k d i W hC h1 h2
  have hdo := fun yd yg yv yp (s : St) lo B κ k d i W hs => do_any (.slice a1 C.s.length c1) (.slice a2 C.s.length c2) yd yg yv yp C s lo B κ k d i W hC hs
  have hcl := fun (s : St) yd yg yv yp W h (hs : SoundP C s) => clone_any yd yg yv yp s W h (hs.fit hC)
  have hsn : ∀ k, SoundP C (afterF C st (l.take k)) := fun k => after_sound hC (l.take k) st hS
  have hst1 : ∀ k, k < l.length → posF C (afterF C st (l.take k)) (get l k).k (get l k).d (get l k).i = 0 := hpos
  have hst2 : ∀ k, k < l.length → afterF C st (l.take (k + 1)) = doF C (afterF C st (l.take k)) (get l k).k (get l k).d (get l k).i := fun k hk => after_pos hpos hk
  have hst3 : afterF C st (l.take 0) = st := by rw [List.take_zero]; rfl
  have hst4 : afterF C st (l.take l.length) = afterF C st l := by rw [List.take_length]
  generalize hAF : (fun k => afterF C st (l.take k)) = AF
  have hAF2 : ∀ k, afterF C st (l.take k) = AF k := fun k => by rw [← hAF]
  simp only [hAF2] at hsn hst1 hst2 hst3 hst4
  rw [← hst4]
  clear hAF hAF2 hst4
  replace hso := Lib.hid hso
  replace hpo := Lib.hid hpo
  replace hdo := Lib.hid hdo
  replace hcl := Lib.hid hcl
  replace hsn := Lib.hid hsn
  replace hst1 := Lib.hid hst1
  replace hst2 := Lib.hid hst2
  replace hst3 := Lib.hid hst3
  replace hB0 := Lib.hid hB0
  replace hB1 := Lib.hid hB1
  replace hB2 := Lib.hid hB2
  have hS0 := Lib.hid hS
  clear hr hst hS hC hv hpos
  go_enter Try.func12, Try.ntmps12
  go_wp2_with fail
  generalize hW : ((w.alloc (.cells #[.slice a1 C.s.length c1, .int .i64 C.co, .int .i64 C.ge, .slice a2 C.s.length c2, .int .i64 C.lv] 32)).alloc (.cells #[.slice a3 st.d.s.length c3, .int .u64 st.d.c, .int .u64 st.d.o, .int .i64 st.l, .slice a4 st.g.length c4, .slice a5 st.v.length c5, .slice a6 st.p.length c6] 42)).alloc (.cells #[.slice none 0 0, .int .u64 0, .int .u64 0, .int .i64 0, .slice none 0 0, .slice none 0 0, .slice none 0 0] 42) = W at hB b1 b2 b4 ⊢
  have hWs : W.heap.size = w.heap.size + 3 := by rw [← hW]; simp
  clear hW
  replace hWs := Lib.hid hWs
  refine (hso.out _ (hB0.out _ hB) (hB1.out _ hB)).mono ?_
  rintro e w1 ⟨rfl, hb1⟩
  have hBb := hB.trans (hb1.mono hB.size)
  have hw1 : w.heap.size + 3 ≤ w1.heap.size := by have := hb1.size; have := hWs.out; omega
  replace hw1 := Lib.hid hw1
  replace b1 := b1.grown hb1
  replace b2 := b2.grown hb1
  replace b4 := b4.grown hb1
  clear hb1 hB hWs
  have hsT := hst3.out
  have p0 := b1.cell 0 rfl
  have p1 := b1.cell 1 rfl
  have p2 := b1.cell 2 rfl
  have p3 := b1.cell 3 rfl
  have p4 := b1.cell 4 rfl
  have q0 := b2.cell 0 rfl
  have q1 := b2.cell 1 rfl
  have q2 := b2.cell 2 rfl
  have q3 := b2.cell 3 rfl
  have q4 := b2.cell 4 rfl
  have q5 := b2.cell 5 rfl
  have q6 := b2.cell 6 rfl
  go_wp2_with fail
  refine (hcl.out st _ _ _ _ _ (hB1.out _ hBb) hS0.out).mono ?_
  rintro e w2 ⟨zd, zg, zv, zp, κ, rfl, hO, hb2⟩
  have hBc := hBb.trans (hb2.mono hBb.size)
  replace b1 := b1.grown hb2
  replace b4 := b4.grown hb2
  clear q0 q1 q2 q3 q4 q5 q6 hBb
  obtain ⟨g1, h1, rfl⟩ := hO.d.len
  obtain ⟨g2, h2, rfl⟩ := SlOf.len hO.g.rd
  obtain ⟨g3, h3, rfl⟩ := SlOf.len hO.v.rd
  obtain ⟨g4, h4, rfl⟩ := hO.p.rd.len
  have hO2 := (hO.mv (Mv.low (lo' := w.heap.size + 2) _ (by have := hw1.out; omega))).mv (Mv.put7 _ b4 (.slice g1 st.d.s.length h1) (.int .u64 st.d.c) (.int .u64 st.d.o) (.int .i64 st.l) (.slice g2 st.g.length h2) (.slice g3 st.v.length h3) (.slice g4 st.p.length h4))
  have b41 := b4.put7 (.slice g1 st.d.s.length h1) (.int .u64 st.d.c) (.int .u64 st.d.o) (.int .i64 st.l) (.slice g2 st.g.length h2) (.slice g3 st.v.length h3) (.slice g4 st.p.length h4)
  have b11 := b1.far7 (D := w.heap.size) (B := w.heap.size + 1 + 1) (by omega) (.slice g1 st.d.s.length h1) (.int .u64 st.d.c) (.int .u64 st.d.o) (.int .i64 st.l) (.slice g2 st.g.length h2) (.slice g3 st.v.length h3) (.slice g4 st.p.length h4)
  have hBd := below_put7 (B := w.heap.size + 1 + 1) (.slice g1 st.d.s.length h1) (.int .u64 st.d.c) (.int .u64 st.d.o) (.int .i64 st.l) (.slice g2 st.g.length h2) (.slice g3 st.v.length h3) (.slice g4 st.p.length h4) hBc (by omega)
  have s0 := b4.cell 0 rfl
  have s1 := b4.cell 1 rfl
  have s2 := b4.cell 2 rfl
  have s3 := b4.cell 3 rfl
  have s4 := b4.cell 4 rfl
  have s5 := b4.cell 5 rfl
  have s6 := b4.cell 6 rfl
  have fs0 := b4.frozen 0
  have fs1 := b4.frozen 1
  have fs2 := b4.frozen 2
  have fs3 := b4.frozen 3
  have fs4 := b4.frozen 4
  have fs5 := b4.frozen 5
  have fs6 := b4.frozen 6
  go_wp2_with fail
  go_loopw [11, 10, 12, 28] (fun _ _ _ i X => ∃ (k : Nat) (κ : Nat → Role) (yd yg yv yp : Value), k ≤ l.length ∧ i = .int .i64 k ∧ BoxC X (w.heap.size + 2) 42 (stCs (AF k) yd yg yv yp) ∧ BoxC X w.heap.size 32 #[.slice a1 C.s.length c1, .int .i64 C.co, .int .i64 C.ge, .slice a2 C.s.length c2, .int .i64 C.lv] ∧ StO (w.heap.size + 2) κ (AF k) yd yg yv yp X ∧ Below w.heap.size w X) (fun _ _ _ i _ => l.length - (intOf i).toNat)
  case atStart =>
    have e0 : AF 0 = st := hst3.out
    refine ⟨0, κ, .slice g1 st.d.s.length h1, .slice g2 st.g.length h2, .slice g3 st.v.length h3, .slice g4 st.p.length h4, Nat.zero_le _, rfl, ?_, b11, ?_, hBd⟩
    · rw [e0]; exact b41
    · rw [e0]; exact hO2
  case round =>
    clear b1 b4 b41 b11 hO2 hBd hO hBc hb2 s0 s1 s2 s3 s4 s5 s6 fs0 fs1 fs2 fs3 fs4 fs5 fs6
    obtain ⟨k, κ, yd, yg, yv, yp, hk, rfl, bX, bP, hOX, hBX⟩ := hrel
    have hvX := hB2.out _ hBX
    have hsk := hsn.out k
    have hfit := hsk
    generalize hs1 : AF k = sk at bX hOX hsk
    obtain ⟨g1, h1, rfl⟩ := hOX.d.len
    obtain ⟨g2, h2, rfl⟩ := SlOf.len hOX.g.rd
    obtain ⟨g3, h3, rfl⟩ := SlOf.len hOX.v.rd
    obtain ⟨g4, h4, rfl⟩ := hOX.p.rd.len
    have hblX := bX.lt
    have hblP := bP.lt
    have x0 := bX.cell 0 rfl
    have x1 := bX.cell 1 rfl
    have x2 := bX.cell 2 rfl
    have x3 := bX.cell 3 rfl
    have x4 := bX.cell 4 rfl
    have x5 := bX.cell 5 rfl
    have x6 := bX.cell 6 rfl
    have fx0 := bX.frozen 0
    have fx1 := bX.frozen 1
    have fx2 := bX.frozen 2
    have fx3 := bX.frozen 3
    have fx4 := bX.frozen 4
    have fx5 := bX.frozen 5
    have fx6 := bX.frozen 6
    have p0 := bP.cell 0 rfl
    have p1 := bP.cell 1 rfl
    have p2 := bP.cell 2 rfl
    have p3 := bP.cell 3 rfl
    have p4 := bP.cell 4 rfl
    by_cases hlt : k < l.length
    · obtain ⟨b, off, cap', he, hc⟩ := hvX.at hlt
      cases he
      obtain ⟨d0, d1, d2⟩ := hc k hlt
      have hki : (k : Int) < (l.length : Int) := by omega
      have hps := hst1.out k hlt
      have hnx := hst2.out k hlt
      rw [hs1] at hps hnx
      generalize get l k = ev at d0 d1 d2 hps hnx
      have hB5 := (Below.refl wr.heap.size wr).alloc (Nat.le_refl _) (.cells #[.int .i64 ev.k, .int .i64 ev.d, .int .i64 ev.i] 28)
      have hBY := hBX.trans (hB5.mono hBX.size)
      have bX5 := bX.grown hB5
      have bP5 := bP.grown hB5
      have bE := BoxC.new wr 28 #[.int .i64 ev.k, .int .i64 ev.d, .int .i64 ev.i]
      have hO5 := hOX.below hB5
      have hp1 := hpo.out sk (.slice g1 sk.d.s.length h1) (.slice g2 sk.g.length h2) (.slice g3 sk.v.length h3) (.slice g4 sk.p.length h4) ev.k ev.d ev.i _ (hB0.out _ hBY) hO5.rd
      rw [hps] at hp1
      replace hps := Lib.hid hps
      replace hnx := Lib.hid hnx
      replace hp1 := Lib.hid hp1
      clear hc hvX hfit
      go_wp2_with fail
      refine hp1.out.mono ?_
      rintro e w5 ⟨rfl, hb5⟩
      have bX6 := bX5.grown hb5
      have bP6 := bP5.grown hb5
      have bE6 := bE.grown hb5
      have hBZ := hBY.trans (hb5.mono hBY.size)
      have hO6 := hO5.below hb5
      clear x0 x1 x2 x3 x4 x5 x6 fx0 fx1 fx2 fx3 fx4 fx5 fx6 p0 p1 p2 p3 p4 d0 d1 d2
      have x0 := bX6.cell 0 rfl
      have x1 := bX6.cell 1 rfl
      have x2 := bX6.cell 2 rfl
      have x3 := bX6.cell 3 rfl
      have x4 := bX6.cell 4 rfl
      have x5 := bX6.cell 5 rfl
      have x6 := bX6.cell 6 rfl
      have fx0 := bX6.frozen 0
      have fx1 := bX6.frozen 1
      have fx2 := bX6.frozen 2
      have fx3 := bX6.frozen 3
      have fx4 := bX6.frozen 4
      have fx5 := bX6.frozen 5
      have fx6 := bX6.frozen 6
      have p0 := bP6.cell 0 rfl
      have p1 := bP6.cell 1 rfl
      have p2 := bP6.cell 2 rfl
      have p3 := bP6.cell 3 rfl
      have p4 := bP6.cell 4 rfl
      have r0 := bE6.cell 0 rfl
      have r1 := bE6.cell 1 rfl
      have r2 := bE6.cell 2 rfl
      have hd := hdo.out _ _ _ _ sk (w.heap.size + 2) (w.heap.size + 2) κ ev.k ev.d ev.i w5 hsk (fun X hX => hB0.out _ (hBZ.trans (hX.mono (by omega)))) bX6 hO6 (Nat.le_of_lt bX6.lt) (Nat.le_refl _) hps.out
      replace hd := Lib.hid hd
      go_wp2_with fail
      refine hd.out.mono ?_
      rintro e w6 ⟨κ6, zd, zg, zv, zp, rfl, bX7, hO7, hb7⟩
      have bP7 := bP6.below hb7 (by omega)
      go_wp2_with fail
      rw [← hnx.out] at bX7 hO7
      go_roundw
      case rel => exact ⟨k + 1, κ6, zd, zg, zv, zp, by omega, by go_num, bX7, bP7, hO7, hBZ.trans (hb7.mono (by omega))⟩
      case measure => simp [intOf]; omega
    · obtain rfl : k = l.length := by omega
      have hc6 := fun (W : World) (h : StR W _ _ _ _ sk) => hcl.out sk (.slice g1 sk.d.s.length h1) (.slice g2 sk.g.length h2) (.slice g3 sk.v.length h3) (.slice g4 sk.p.length h4) W h hsk
      go_wp2_with fail
      refine (hc6 _ hOX.rd).mono ?_
      rintro e w6 ⟨zd, zg, zv, zp, κ6, rfl, hO6, hb6⟩
      have hBE := hBX.trans (hb6.mono hBX.size)
      have bR := bX.grown hb6
      have hsz := hBX.size
      obtain ⟨i1, j1, rfl⟩ := hO6.d.len
      obtain ⟨i2, j2, rfl⟩ := SlOf.len hO6.g.rd
      obtain ⟨i3, j3, rfl⟩ := SlOf.len hO6.v.rd
      obtain ⟨i4, j4, rfl⟩ := hO6.p.rd.len
      clear x0 x1 x2 x3 x4 x5 x6 fx0 fx1 fx2 fx3 fx4 fx5 fx6 p0 p1 p2 p3 p4
      have x0 := bR.cell 0 rfl
      have x1 := bR.cell 1 rfl
      have x2 := bR.cell 2 rfl
      have x3 := bR.cell 3 rfl
      have x4 := bR.cell 4 rfl
      have x5 := bR.cell 5 rfl
      have x6 := bR.cell 6 rfl
      have fx0 := bR.frozen 0
      have fx1 := bR.frozen 1
      have fx2 := bR.frozen 2
      have fx3 := bR.frozen 3
      have fx4 := bR.frozen 4
      have fx5 := bR.frozen 5
      have fx6 := bR.frozen 6
      go_wp2
      refine bodyPost_ret (ret_cell_tmp2 Try.results12 rfl rfl rfl (bR.put7 _ _ _ _ _ _ _) Try.underlying42 size42) rfl ?_
      rw [hs1]
      exact ⟨_, _, _, _, κ6, rfl, (hO6.mv (Mv.low _ hsz)).mv (Mv.put7 _ bR _ _ _ _ _ _ _), below_put7 _ _ _ _ _ _ _ hBE (by omega)⟩
end Go.Proofs.Ytgnamahdchefnaa
namespace Go.Proofs.Ytgnamahdchefnaa
open Go.RowKit Go.Shelf

set_option linter.unusedVariables false in
set_option maxRecDepth 100000 in
set_option maxHeartbeats 1000000 in
theorem after_from (hstart : ∀ (x y : Value) (C : Con) (w : World), C.Ok → ConR w x y C → Calls Try.prog 27 #[conV x y C.co C.ge C.lv] w (StPost (startF C) w))
    (hdom : ∀ (x y xd xg xv xp : Value) (C : Con) (st : St) (k d i : Int) (w : World), C.Ok → ConR w x y C → StR w xd xg xv xp st → SoundP C st → Calls Try.prog 28 #[conV x y C.co C.ge C.lv, stV xd st.d.c st.d.o st.l xg xv xp, evV k d i] w (DoRes C st k d i w))
    (x y ve : Value) (C : Con) (l : List Ev) (w : World) (hC : C.Ok) (hr : ConR w x y C) (hv : EvSl w ve l) (hl : l.length ≤ 1000) :
    Calls Try.prog 9 #[conV x y C.co C.ge C.lv, ve] w (StPost (afterF C (startF C) l) w) := by
  have hB0 : ∀ (W : World), Below w.heap.size w W → ConR W x y C := fun W h => hr.mono h
  have hB2 : ∀ (W : World), Below w.heap.size w W → EvSl W ve l := fun W h => hv.mono h
  obtain ⟨a1, c1, rfl⟩ := hr.s.len
  obtain ⟨a2, c2, rfl⟩ := hr.d.lenV hC.dl
  obtain ⟨a7, c7, rfl⟩ := hv.len
  have hB := ((Below.refl w.heap.size w).alloc (Nat.le_refl _) (.cells #[.slice a1 C.s.length c1, .int .i64 C.co, .int .i64 C.ge, .slice a2 C.s.length c2, .int .i64 C.lv] 32)).alloc (by simp) (.cells #[.slice none 0 0, .int .u64 0, .int .u64 0, .int .i64 0, .slice none 0 0, .slice none 0 0, .slice none 0 0] 42)
  have b1 := (BoxC.new w 32 #[.slice a1 C.s.length c1, .int .i64 C.co, .int .i64 C.ge, .slice a2 C.s.length c2, .int .i64 C.lv]).alloc (.cells #[.slice none 0 0, .int .u64 0, .int .u64 0, .int .i64 0, .slice none 0 0, .slice none 0 0, .slice none 0 0] 42)
  have b4 := BoxC.new (w.alloc (.cells #[.slice a1 C.s.length c1, .int .i64 C.co, .int .i64 C.ge, .slice a2 C.s.length c2, .int .i64 C.lv] 32)) 42 #[.slice none 0 0, .int .u64 0, .int .u64 0, .int .i64 0, .slice none 0 0, .slice none 0 0, .slice none 0 0]
  simp only [World.size_alloc] at b4
  have hcl := fun W h => hstart (.slice a1 C.s.length c1) (.slice a2 C.s.length c2) C W hC h
  have hdo := fun (s : St) yd yg yv yp k d i W h1 h2 h3 => hdom (.slice a1 C.s.length c1) (.slice a2 C.s.length c2) yd yg yv yp C s k d i W hC h1 h2 h3
  have hS := start_sound hC
  have hsn : ∀ k, SoundP C (afterF C (startF C) (l.take k)) := fun k => after_sound hC (l.take k) _ hS
  have hst2 : ∀ k, k < l.length → afterF C (startF C) (l.take (k + 1)) = stepF C (afterF C (startF C) (l.take k)) (get l k) := fun k hk => after_take hk
  have hst3 : afterF C (startF C) (l.take 0) = startF C := by rw [List.take_zero]; rfl
  have hst4 : afterF C (startF C) (l.take l.length) = afterF C (startF C) l := by rw [List.take_length]
  generalize hAF : (fun k => afterF C (startF C) (l.take k)) = AF
  have hAF2 : ∀ k, afterF C (startF C) (l.take k) = AF k := fun k => by rw [← hAF]
  simp only [hAF2] at hsn hst2 hst3 hst4
  rw [← hst4]
  clear hAF hAF2 hst4 hS
  generalize startF C = st at hcl hst3
  replace hdo := Lib.hid hdo
  replace hcl := Lib.hid hcl
  replace hsn := Lib.hid hsn
  replace hst2 := Lib.hid hst2
  replace hst3 := Lib.hid hst3
  replace hB0 := Lib.hid hB0
  replace hB2 := Lib.hid hB2
  clear hr hC hv hstart hdom
  go_enter Try.func9, Try.ntmps9
  go_wp2_with fail
  generalize hW : (w.alloc (.cells #[.slice a1 C.s.length c1, .int .i64 C.co, .int .i64 C.ge, .slice a2 C.s.length c2, .int .i64 C.lv] 32)).alloc (.cells #[.slice none 0 0, .int .u64 0, .int .u64 0, .int .i64 0, .slice none 0 0, .slice none 0 0, .slice none 0 0] 42) = W at hB b1 b4 ⊢
  have hWs : W.heap.size = w.heap.size + 2 := by rw [← hW]; simp
  clear hW
  replace hWs := Lib.hid hWs
  refine (hcl.out _ (hB0.out _ hB)).mono ?_
  rintro e w1 ⟨zd, zg, zv, zp, κ, rfl, hO, hb2⟩
  have hBc := hB.trans (hb2.mono hB.size)
  have hw1 : w.heap.size + 2 ≤ w1.heap.size := by have := hb2.size; have := hWs.out; omega
  replace hw1 := Lib.hid hw1
  obtain ⟨g1, h1, rfl⟩ := hO.d.len
  obtain ⟨g2, h2, rfl⟩ := SlOf.len hO.g.rd
  obtain ⟨g3, h3, rfl⟩ := SlOf.len hO.v.rd
  obtain ⟨g4, h4, rfl⟩ := hO.p.rd.len
  have hb3 := (Below.refl w1.heap.size w1).alloc (Nat.le_refl _) (.cells #[.slice g1 st.d.s.length h1, .int .u64 st.d.c, .int .u64 st.d.o, .int .i64 st.l, .slice g2 st.g.length h2, .slice g3 st.v.length h3, .slice g4 st.p.length h4] 42)
  have bS := BoxC.new w1 42 #[.slice g1 st.d.s.length h1, .int .u64 st.d.c, .int .u64 st.d.o, .int .i64 st.l, .slice g2 st.g.length h2, .slice g3 st.v.length h3, .slice g4 st.p.length h4]
  have b11 := (b1.grown hb2).grown hb3
  have b41 := (b4.grown hb2).grown hb3
  have hO2 := (hO.mv (Mv.low (lo' := w.heap.size + 2) _ (by have := hWs.out; omega))).below hb3
  have hBd := hBc.trans (hb3.mono hBc.size)
  clear hb2 hb3 hO b1 b4 hB hBc
  go_wp2_with fail
  generalize w1.alloc (.cells #[.slice g1 st.d.s.length h1, .int .u64 st.d.c, .int .u64 st.d.o, .int .i64 st.l, .slice g2 st.g.length h2, .slice g3 st.v.length h3, .slice g4 st.p.length h4] 42) = W1 at bS b11 b41 hO2 hBd ⊢
  have hBw : w.heap.size + 2 ≤ w1.heap.size := hw1.out
  generalize w1.heap.size = B at bS hBw ⊢
  go_loopw [7, 8, 9, 14] (fun _ _ _ i X => ∃ (k : Nat) (κ : Nat → Role) (yd yg yv yp : Value), k ≤ l.length ∧ i = .int .i64 k ∧ BoxC X B 42 (stCs (AF k) yd yg yv yp) ∧ BoxC X w.heap.size 32 #[.slice a1 C.s.length c1, .int .i64 C.co, .int .i64 C.ge, .slice a2 C.s.length c2, .int .i64 C.lv] ∧ BoxC X (w.heap.size + 1) 42 #[.slice none 0 0, .int .u64 0, .int .u64 0, .int .i64 0, .slice none 0 0, .slice none 0 0, .slice none 0 0] ∧ StO (w.heap.size + 2) κ (AF k) yd yg yv yp X ∧ Below w.heap.size w X) (fun _ _ _ i _ => l.length - (intOf i).toNat)
  case atStart =>
    have e0 : AF 0 = st := hst3.out
    refine ⟨0, κ, .slice g1 st.d.s.length h1, .slice g2 st.g.length h2, .slice g3 st.v.length h3, .slice g4 st.p.length h4, Nat.zero_le _, rfl, ?_, b11, b41, ?_, hBd⟩
    · rw [e0]; exact bS
    · rw [e0]; exact hO2
  case round =>
    clear b11 b41 bS hO2 hBd
    obtain ⟨k, κ, yd, yg, yv, yp, hk, rfl, bX, bP, bZ, hOX, hBX⟩ := hrel
    have hvX := hB2.out _ hBX
    have hsk := hsn.out k
    generalize hs1 : AF k = sk at bX hOX hsk
    obtain ⟨g1, h1, rfl⟩ := hOX.d.len
    obtain ⟨g2, h2, rfl⟩ := SlOf.len hOX.g.rd
    obtain ⟨g3, h3, rfl⟩ := SlOf.len hOX.v.rd
    obtain ⟨g4, h4, rfl⟩ := hOX.p.rd.len
    have hblX := bX.lt
    have hblP := bP.lt
    have hblZ := bZ.lt
    have x0 := bX.cell 0 rfl
    have x1 := bX.cell 1 rfl
    have x2 := bX.cell 2 rfl
    have x3 := bX.cell 3 rfl
    have x4 := bX.cell 4 rfl
    have x5 := bX.cell 5 rfl
    have x6 := bX.cell 6 rfl
    have fx0 := bX.frozen 0
    have fx1 := bX.frozen 1
    have fx2 := bX.frozen 2
    have fx3 := bX.frozen 3
    have fx4 := bX.frozen 4
    have fx5 := bX.frozen 5
    have fx6 := bX.frozen 6
    have p0 := bP.cell 0 rfl
    have p1 := bP.cell 1 rfl
    have p2 := bP.cell 2 rfl
    have p3 := bP.cell 3 rfl
    have p4 := bP.cell 4 rfl
    by_cases hlt : k < l.length
    · obtain ⟨b, off, cap', he, hc⟩ := hvX.at hlt
      cases he
      obtain ⟨d0, d1, d2⟩ := hc k hlt
      have hki : (k : Int) < (l.length : Int) := by omega
      have hnx := hst2.out k hlt
      rw [hs1] at hnx
      generalize get l k = ev at d0 d1 d2 hnx
      have hB5 := (Below.refl wr.heap.size wr).alloc (Nat.le_refl _) (.cells #[.int .i64 ev.k, .int .i64 ev.d, .int .i64 ev.i] 28)
      have hBY := hBX.trans (hB5.mono hBX.size)
      have bX5 := bX.grown hB5
      have bP5 := bP.grown hB5
      have bZ5 := bZ.grown hB5
      have hO5 := hOX.below hB5
      have hp1 := hdo.out sk (.slice g1 sk.d.s.length h1) (.slice g2 sk.g.length h2) (.slice g3 sk.v.length h3) (.slice g4 sk.p.length h4) ev.k ev.d ev.i _ (hB0.out _ hBY) hO5.rd hsk
      replace hnx := Lib.hid hnx
      replace hp1 := Lib.hid hp1
      clear hc hvX
      go_wp2_with fail
      refine hp1.out.mono ?_
      rintro e w5 ⟨hb5, hres⟩
      have bX6 := bX5.grown hb5
      have bP6 := bP5.grown hb5
      have bZ6 := bZ5.grown hb5
      have hBZ := hBY.trans (hb5.mono hBY.size)
      have hsz5 := hBY.size
      clear x0 x1 x2 x3 x4 x5 x6 fx0 fx1 fx2 fx3 fx4 fx5 fx6 p0 p1 p2 p3 p4 d0 d1 d2
      rcases hres with ⟨hps, rfl⟩ | ⟨hps, zd, zg, zv, zp, κ6, rfl, hO6⟩
      · have hO6 := hO5.below hb5
        have hst : stepF C sk ev = sk := by unfold stepF; rw [if_neg hps]
        have hn2 := hnx.out
        rw [hst] at hn2
        replace hn2 := Lib.hid hn2
        generalize posF C sk ev.k ev.d ev.i = pp at hps ⊢
        have hb6 := (Below.refl w5.heap.size w5).alloc (Nat.le_refl _) (.cells #[.slice none 0 0, .int .u64 0, .int .u64 0, .int .i64 0, .slice none 0 0, .slice none 0 0, .slice none 0 0] 42)
        have bX7 := bX6.grown hb6
        have bP7 := bP6.grown hb6
        have bZ7 := bZ6.grown hb6
        have hO7 := hO6.below hb6
        have hBQ := hBZ.trans (hb6.mono hBZ.size)
        clear hst hnx
        go_wp2_with fail
        have e1 := hn2.out
        go_roundw
        case rel =>
          refine ⟨k + 1, κ, .slice g1 sk.d.s.length h1, .slice g2 sk.g.length h2, .slice g3 sk.v.length h3, .slice g4 sk.p.length h4, by omega, by go_num, ?_, bP7, bZ7, ?_, hBQ⟩
          · rw [e1]; exact bX7
          · rw [e1]; exact hO7
        case measure => simp [intOf]; omega
      · have hst : stepF C sk ev = doF C sk ev.k ev.d ev.i := by unfold stepF; rw [if_pos hps]
        have hn2 := hnx.out
        rw [hst] at hn2
        replace hn2 := Lib.hid hn2
        generalize he5 : doF C sk ev.k ev.d ev.i = s5 at hO6 hn2 ⊢
        obtain ⟨i1, j1, rfl⟩ := hO6.d.len
        obtain ⟨i2, j2, rfl⟩ := SlOf.len hO6.g.rd
        obtain ⟨i3, j3, rfl⟩ := SlOf.len hO6.v.rd
        obtain ⟨i4, j4, rfl⟩ := hO6.p.rd.len
        have hb6 := (Below.refl w5.heap.size w5).alloc (Nat.le_refl _) (.cells #[.slice i1 s5.d.s.length j1, .int .u64 s5.d.c, .int .u64 s5.d.o, .int .i64 s5.l, .slice i2 s5.g.length j2, .slice i3 s5.v.length j3, .slice i4 s5.p.length j4] 42)
        have bX7 := bX6.grown hb6
        have bP7 := bP6.grown hb6
        have bZ7 := bZ6.grown hb6
        have bT := BoxC.new w5 42 #[.slice i1 s5.d.s.length j1, .int .u64 s5.d.c, .int .u64 s5.d.o, .int .i64 s5.l, .slice i2 s5.g.length j2, .slice i3 s5.v.length j3, .slice i4 s5.p.length j4]
        have hO7 := (hO6.mv (Mv.low (lo' := w.heap.size + 2) _ (by have := hB5.size; omega))).below hb6
        have hBQ := hBZ.trans (hb6.mono hBZ.size)
        clear hst hnx he5
        have x0 := bX7.cell 0 rfl
        have x1 := bX7.cell 1 rfl
        have x2 := bX7.cell 2 rfl
        have x3 := bX7.cell 3 rfl
        have x4 := bX7.cell 4 rfl
        have x5 := bX7.cell 5 rfl
        have x6 := bX7.cell 6 rfl
        have fx0 := bX7.frozen 0
        have fx1 := bX7.frozen 1
        have fx2 := bX7.frozen 2
        have fx3 := bX7.frozen 3
        have fx4 := bX7.frozen 4
        have fx5 := bX7.frozen 5
        have fx6 := bX7.frozen 6
        have t0 := bT.cell 0 rfl
        have t1 := bT.cell 1 rfl
        have t2 := bT.cell 2 rfl
        have t3 := bT.cell 3 rfl
        have t4 := bT.cell 4 rfl
        have t5 := bT.cell 5 rfl
        have t6 := bT.cell 6 rfl
        go_wp2_with fail
        have bX8 := bX7.put7 (.slice i1 s5.d.s.length j1) (.int .u64 s5.d.c) (.int .u64 s5.d.o) (.int .i64 s5.l) (.slice i2 s5.g.length j2) (.slice i3 s5.v.length j3) (.slice i4 s5.p.length j4)
        have bP8 := bP7.far7 (B := B) (by omega) (.slice i1 s5.d.s.length j1) (.int .u64 s5.d.c) (.int .u64 s5.d.o) (.int .i64 s5.l) (.slice i2 s5.g.length j2) (.slice i3 s5.v.length j3) (.slice i4 s5.p.length j4)
        have bZ8 := bZ7.far7 (B := B) (by omega) (.slice i1 s5.d.s.length j1) (.int .u64 s5.d.c) (.int .u64 s5.d.o) (.int .i64 s5.l) (.slice i2 s5.g.length j2) (.slice i3 s5.v.length j3) (.slice i4 s5.p.length j4)
        have hO8 := hO7.mv (Mv.put7 _ bX7 (.slice i1 s5.d.s.length j1) (.int .u64 s5.d.c) (.int .u64 s5.d.o) (.int .i64 s5.l) (.slice i2 s5.g.length j2) (.slice i3 s5.v.length j3) (.slice i4 s5.p.length j4))
        have hBR := below_put7 (B := B) (.slice i1 s5.d.s.length j1) (.int .u64 s5.d.c) (.int .u64 s5.d.o) (.int .i64 s5.l) (.slice i2 s5.g.length j2) (.slice i3 s5.v.length j3) (.slice i4 s5.p.length j4) hBQ (by omega)
        have e1 := hn2.out
        go_roundw
        case rel =>
          refine ⟨k + 1, κ6, .slice i1 s5.d.s.length j1, .slice i2 s5.g.length j2, .slice i3 s5.v.length j3, .slice i4 s5.p.length j4, by omega, by go_num, ?_, bP8, bZ8, ?_, hBR⟩
          · rw [e1]; exact bX8
          · rw [e1]; exact hO8
        case measure => simp [intOf]; omega
    · obtain rfl : k = l.length := by omega
      have hsz := hBX.size
      have z0 := bZ.cell 0 rfl
      have z1 := bZ.cell 1 rfl
      have z2 := bZ.cell 2 rfl
      have z3 := bZ.cell 3 rfl
      have z4 := bZ.cell 4 rfl
      have z5 := bZ.cell 5 rfl
      have z6 := bZ.cell 6 rfl
      have fz0 := bZ.frozen 0
      have fz1 := bZ.frozen 1
      have fz2 := bZ.frozen 2
      have fz3 := bZ.frozen 3
      have fz4 := bZ.frozen 4
      have fz5 := bZ.frozen 5
      have fz6 := bZ.frozen 6
      go_wp2
      refine bodyPost_ret (ret_cell Try.results9 rfl (bZ.put7 _ _ _ _ _ _ _) Try.underlying42 size42) rfl ?_
      rw [hs1]
      exact ⟨_, _, _, _, κ, rfl, (hOX.mv (Mv.low _ (by omega))).mv (Mv.put7 _ bZ _ _ _ _ _ _ _), below_put7 _ _ _ _ _ _ _ hBX (by omega)⟩
end Go.Proofs.Ytgnamahdchefnaa
