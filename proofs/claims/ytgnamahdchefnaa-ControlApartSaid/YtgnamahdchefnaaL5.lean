/- The walk of ControlApart. Conditions: plans and events that come in. -/
import Derived.Test.YtgnamahdchefnaaA6
import Derived.Test.YtgnamahdchefnaaAK
import Derived.Test.YtgnamahdchefnaaQ0
import Derived.Test.YtgnamahdchefnaaSA
import Derived.Deep.Cut
namespace Go.Proofs.Ytgnamahdchefnaa
open Go.RowKit Go.Shelf

set_option linter.unusedVariables false in
set_option maxRecDepth 100000 in
set_option maxHeartbeats 8000000 in
theorem law5_any (v ve : Value) (p : Pl) (l : List Ev) (ek ed ei : Int) (w : World) (hp : p.Ok) (hv : NumSl .u8 w v p.ss) (hcap : ∃ a cap, v = .slice a p.ss.length cap ∧ p.ss.length ≤ cap) (hl : EvSl w ve l) :
    Calls Try.prog 5 #[planV v p, ve, evV ek ed ei] w (BoolBelow true w) := by
  have hkn := Lib.hid known_any
  obtain ⟨a, cap, rfl, hcp⟩ := hcap
  have hC := p.con_ok
  have hmk := fun (X : World) (h : Below w.heap.size w X) => Make_any (.slice a p.ss.length cap) p X hp (hv.mono h) ⟨a, cap, rfl, hcp⟩
  have haf := fun (x y : Value) (X : World) (h : Below w.heap.size w X) (h1 : ConR X x y p.con) (h2 : l.length ≤ 1000) => after_any x y ve p.con l X hC h1 (hl.mono h) h2
  generalize p.con = C at hmk haf hC
  replace hmk := Lib.hid hmk
  replace haf := Lib.hid haf
  have hl0 := Lib.hid hl
  obtain ⟨al, cl, rfl⟩ := hl.len
  have hB0 := ((Below.refl w.heap.size w).alloc (Nat.le_refl _) (.cells #[.slice a p.ss.length cap, .int .u8 p.co, .int .u8 p.ge, .int .u8 p.lv, .int .u8 p.d0, .int .u8 p.d1, .int .u8 p.d2] 25)).alloc (by simp) (.cells #[.int .i64 ek, .int .i64 ed, .int .i64 ei] 28)
  have b0 := (BoxC.new w 25 #[.slice a p.ss.length cap, .int .u8 p.co, .int .u8 p.ge, .int .u8 p.lv, .int .u8 p.d0, .int .u8 p.d1, .int .u8 p.d2]).alloc (.cells #[.int .i64 ek, .int .i64 ed, .int .i64 ei] 28)
  have bV := BoxC.new (w.alloc (.cells #[.slice a p.ss.length cap, .int .u8 p.co, .int .u8 p.ge, .int .u8 p.lv, .int .u8 p.d0, .int .u8 p.d1, .int .u8 p.d2] 25)) 28 #[.int .i64 ek, .int .i64 ed, .int .i64 ei]
  simp only [World.size_alloc] at bV
  clear hp hv hl hcp
  by_cases hl8 : 12 < l.length
  · have hlb : decide ((12 : Int) < (l.length : Int)) = true := decide_eq_true (by omega)
    go_enter Try.func5, Try.ntmps5
    go_wp2_with fail
    refine (hkn.out _).mono ?_
    rintro e w1 ⟨rfl, hb1⟩
    have hB1 := hB0.trans (hb1.mono hB0.size)
    go_wp2_with fail
    refine (hkn.out _).mono ?_
    rintro e w2 ⟨rfl, hb2⟩
    go_wp2
    go_ret
    exact ⟨rfl, hB1.trans (hb2.mono hB1.size)⟩
  have hlb : decide ((12 : Int) < (l.length : Int)) = false := decide_eq_false (by omega)
  have hdo := Lib.hid (fun (x y xd xg xv xp : Value) (st : St) (k d i : Int) (X : World) h1 h2 h3 => Do_any x y xd xg xv xp C st k d i X hC h1 h2 h3)
  have hpo := Lib.hid (fun (x y xd xg xv xp : Value) (st : St) (k d i : Int) (X : World) h1 h2 => lawPossible_any x y xd xg xv xp C st k d i X hC h1 h2)
  go_enter Try.func5, Try.ntmps5
  go_wp2_with fail
  refine (hkn.out _).mono ?_
  rintro e w1 ⟨rfl, hb1⟩
  have hB1 := hB0.trans (hb1.mono hB0.size)
  have b1 := b0.grown hb1
  have bV1 := bV.grown hb1
  have z0 := b1.cell 0 rfl
  have z1 := b1.cell 1 rfl
  have z2 := b1.cell 2 rfl
  have z3 := b1.cell 3 rfl
  have z4 := b1.cell 4 rfl
  have z5 := b1.cell 5 rfl
  have z6 := b1.cell 6 rfl
  clear hb1 hB0 b0
  go_wp2_with fail
  refine (hmk.out _ hB1).mono ?_
  rintro e w2 ⟨x, y, rfl, hc2, hb2⟩
  obtain ⟨a1, c1, rfl⟩ := hc2.s.len
  obtain ⟨a2, c2, rfl⟩ := hc2.d.lenV hC.dl
  have hB2 := hB1.trans (hb2.mono hB1.size)
  have hb3 := (Below.refl w2.heap.size w2).alloc (Nat.le_refl _) (.cells #[.slice a1 C.s.length c1, .int .i64 C.co, .int .i64 C.ge, .slice a2 C.s.length c2, .int .i64 C.lv] 32)
  have bC := BoxC.new w2 32 #[.slice a1 C.s.length c1, .int .i64 C.co, .int .i64 C.ge, .slice a2 C.s.length c2, .int .i64 C.lv]
  have hc3 := hc2.mono hb3
  have bV2 := (bV1.grown hb2).grown hb3
  have hB3 := hB2.trans (hb3.mono hB2.size)
  clear hb2 hc2 hB2 hB1 b1 z0 z1 z2 z3 z4 z5 z6
  have p0 := bC.cell 0 rfl
  have p1 := bC.cell 1 rfl
  have p2 := bC.cell 2 rfl
  have p3 := bC.cell 3 rfl
  have p4 := bC.cell 4 rfl
  go_wp2_with fail
  refine (haf.out _ _ _ hB3 hc3 (by omega)).mono ?_
  rintro e w4 ⟨xd, xg, xv, xp, κ0, rfl, hO, hb4⟩
  have hS := after_sound hC l _ (start_sound hC)
  generalize afterF C (startF C) l = S at hO hS ⊢
  have hst := hO.rd
  obtain ⟨i31, j31, rfl⟩ := hO.d.len
  obtain ⟨i32, j32, rfl⟩ := SlOf.len hO.g.rd
  obtain ⟨i33, j33, rfl⟩ := SlOf.len hO.v.rd
  obtain ⟨i34, j34, rfl⟩ := hO.p.rd.len
  have hb5 := (Below.refl w4.heap.size w4).alloc (Nat.le_refl _) (.cells #[.slice i31 S.d.s.length j31, .int .u64 S.d.c, .int .u64 S.d.o, .int .i64 S.l, .slice i32 S.g.length j32, .slice i33 S.v.length j33, .slice i34 S.p.length j34] 42)
  have bS := BoxC.new w4 42 #[.slice i31 S.d.s.length j31, .int .u64 S.d.c, .int .u64 S.d.o, .int .i64 S.l, .slice i32 S.g.length j32, .slice i33 S.v.length j33, .slice i34 S.p.length j34]
  have bC4 := bC.grown hb4
  have bC5 := bC4.grown hb5
  have bV5 := (bV2.grown hb4).grown hb5
  have hc5 := (hc3.mono hb4).mono hb5
  have hst5 := hst.mono hb5
  have hB4 := hB3.trans (hb4.mono hB3.size)
  have hB5 := hB4.trans (hb5.mono hB4.size)
  clear p0 p1 p2 p3 p4
  have p0 := bC4.cell 0 rfl
  have p1 := bC4.cell 1 rfl
  have p2 := bC4.cell 2 rfl
  have p3 := bC4.cell 3 rfl
  have p4 := bC4.cell 4 rfl
  have hlC := bC4.lt
  clear hO hst hb4 hb5 hc3 bC hB3 hB4
  go_wp2_with fail
  generalize w4.alloc (.cells #[.slice i31 S.d.s.length j31, .int .u64 S.d.c, .int .u64 S.d.o, .int .i64 S.l, .slice i32 S.g.length j32, .slice i33 S.v.length j33, .slice i34 S.p.length j34] 42) = V at bS bC5 bV5 hc5 hst5 hB5 ⊢
  generalize w4.heap.size = B8 at bS hlC ⊢
  clear p0 p1 p2 p3 p4 bC4 bV1 bV2 bV
  have hF := hS.fit hC
  refine (twin_any _ _ _ _ S V hst5 hF).mono ?_
  rintro e w5 ⟨bd, bg, bv, bp, κb, rfl, hOb, hb6⟩
  have hstb := hOb.rd
  obtain ⟨i81, j81, rfl⟩ := hOb.d.len
  obtain ⟨i82, j82, rfl⟩ := SlOf.len hOb.g.rd
  obtain ⟨i83, j83, rfl⟩ := SlOf.len hOb.v.rd
  obtain ⟨i84, j84, rfl⟩ := hOb.p.rd.len
  have hb7 := (Below.refl w5.heap.size w5).alloc (Nat.le_refl _) (.cells #[.slice i81 S.d.s.length j81, .int .u64 S.d.c, .int .u64 S.d.o, .int .i64 S.l, .slice i82 S.g.length j82, .slice i83 S.v.length j83, .slice i84 S.p.length j84] 42)
  have bB := BoxC.new w5 42 #[.slice i81 S.d.s.length j81, .int .u64 S.d.c, .int .u64 S.d.o, .int .i64 S.l, .slice i82 S.g.length j82, .slice i83 S.v.length j83, .slice i84 S.p.length j84]
  have hb67 := hb6.trans (hb7.mono hb6.size)
  have bC6 := bC5.grown hb6
  have bS6 := bS.grown hb6
  have bV6 := bV5.grown hb6
  have bC7 := bC5.grown hb67
  have bS7 := bS.grown hb67
  have bV7 := bV5.grown hb67
  have hst7 := hst5.mono hb67
  have hstb7 := hstb.mono hb7
  have hc7 := hc5.mono hb67
  have hB7 := hB5.trans (hb67.mono hB5.size)
  clear hOb hstb hb6 hb7 hb67 bC5 bS bV5 hst5 hc5 hB5 hlC
  have p0 := bC6.cell 0 rfl
  have p1 := bC6.cell 1 rfl
  have p2 := bC6.cell 2 rfl
  have p3 := bC6.cell 3 rfl
  have p4 := bC6.cell 4 rfl
  have s0 := bS6.cell 0 rfl
  have s1 := bS6.cell 1 rfl
  have s2 := bS6.cell 2 rfl
  have s3 := bS6.cell 3 rfl
  have s4 := bS6.cell 4 rfl
  have s5 := bS6.cell 5 rfl
  have s6 := bS6.cell 6 rfl
  have v0 := bV6.cell 0 rfl
  have v1 := bV6.cell 1 rfl
  have v2 := bV6.cell 2 rfl
  have hlC := bC6.lt
  have hlS := bS6.lt
  have hlV := bV6.lt
  go_wp2_with fail
  generalize w5.alloc (.cells #[.slice i81 S.d.s.length j81, .int .u64 S.d.c, .int .u64 S.d.o, .int .i64 S.l, .slice i82 S.g.length j82, .slice i83 S.v.length j83, .slice i84 S.p.length j84] 42) = V2 at bB bC7 bS7 bV7 hst7 hstb7 hc7 hB7 ⊢
  generalize w5.heap.size = B9 at bB ⊢
  clear p0 p1 p2 p3 p4 s0 s1 s2 s3 s4 s5 s6 v0 v1 v2 bC6 bS6 bV6 hlC hlS hlV
  refine (hdo.out _ _ _ _ _ _ S ek ed ei _ hc7 hst7 hS).mono ?_
  rintro e w6 ⟨hb8, ⟨hbad, rfl⟩ | ⟨hpos, zd, zg, zv, zp, κ, rfl, hT⟩⟩
  · have hb9 := (Below.refl w6.heap.size w6).alloc (Nat.le_refl _) (.cells #[.slice none 0 0, .int .u64 0, .int .u64 0, .int .i64 0, .slice none 0 0, .slice none 0 0, .slice none 0 0] 42)
    have hb89 := hb8.trans (hb9.mono hb8.size)
    have bC8 := bC7.grown hb89
    have bS8 := bS7.grown hb89
    have bV8 := bV7.grown hb89
    have hpp := hpo.out _ _ _ _ _ _ S ek ed ei _ (hc7.mono hb89) (hst7.mono hb89)
    have hB9 := hB7.trans (hb89.mono hB7.size)
    have hpb : (posF C S ek ed ei != 0) = true := by simpa using hbad
    generalize posF C S ek ed ei = pp at hpp hbad hpb ⊢
    replace hpp := Lib.hid hpp
    clear hb8 hb9 hb89 bC7 bS7 bV7 hst7 hstb7 hc7 hB7 bB hF
    have p0 := bC8.cell 0 rfl
    have p1 := bC8.cell 1 rfl
    have p2 := bC8.cell 2 rfl
    have p3 := bC8.cell 3 rfl
    have p4 := bC8.cell 4 rfl
    have s0 := bS8.cell 0 rfl
    have s1 := bS8.cell 1 rfl
    have s2 := bS8.cell 2 rfl
    have s3 := bS8.cell 3 rfl
    have s4 := bS8.cell 4 rfl
    have s5 := bS8.cell 5 rfl
    have s6 := bS8.cell 6 rfl
    have v0 := bV8.cell 0 rfl
    have v1 := bV8.cell 1 rfl
    have v2 := bV8.cell 2 rfl
    go_wp2_with fail
    refine hpp.out.mono ?_
    rintro e w7 ⟨rfl, hb10⟩
    go_wp2
    go_ret
    exact ⟨rfl, hB9.trans (hb10.mono hB9.size)⟩
  have hTs := do_sound hC hS hpos
  generalize doF C S ek ed ei = T at hT hTs ⊢
  have hFT := hTs.fit hC
  obtain ⟨i41, j41, rfl⟩ := hT.d.len
  obtain ⟨i42, j42, rfl⟩ := SlOf.len hT.g.rd
  obtain ⟨i43, j43, rfl⟩ := SlOf.len hT.v.rd
  obtain ⟨i44, j44, rfl⟩ := hT.p.rd.len
  have hb9 := (Below.refl w6.heap.size w6).alloc (Nat.le_refl _) (.cells #[.slice i41 T.d.s.length j41, .int .u64 T.d.c, .int .u64 T.d.o, .int .i64 T.l, .slice i42 T.g.length j42, .slice i43 T.v.length j43, .slice i44 T.p.length j44] 42)
  have M : LMid V2.heap.size κ V2 w6.heap.size T (.slice i41 T.d.s.length j41) (.slice i42 T.g.length j42) (.slice i43 T.v.length j43) (.slice i44 T.p.length j44) (w6.alloc (.cells #[.slice i41 T.d.s.length j41, .int .u64 T.d.c, .int .u64 T.d.o, .int .i64 T.l, .slice i42 T.g.length j42, .slice i43 T.v.length j43, .slice i44 T.p.length j44] 42)) := {
    b := BoxC.new w6 42 _
    o := hT.below hb9
    bl := hb8.trans (hb9.mono hb8.size)
    le := hb8.size
    ls := Nat.le_trans hb8.size hb9.size }
  have hnT : T.d.s.length ≤ 3 := by have := hTs.d.n; have := hC.n; omega
  clear hb8 hb9 hT hpo hdo
  go_wp2_with fail
  generalize w6.alloc (.cells #[.slice i41 T.d.s.length j41, .int .u64 T.d.c, .int .u64 T.d.o, .int .i64 T.l, .slice i42 T.g.length j42, .slice i43 T.v.length j43, .slice i44 T.p.length j44] 42) = V3 at M ⊢
  generalize w6.heap.size = B10 at M ⊢
  have hB10 := M.b.lt
  refine (twin_any _ _ _ _ T V3 M.o.rd hFT).mono ?_
  rintro e w7 ⟨ld, lg, lv, lp, κL, rfl, hL, hb10⟩
  obtain ⟨i51, j51, rfl⟩ := hL.d.len
  obtain ⟨i52, j52, rfl⟩ := SlOf.len hL.g.rd
  obtain ⟨i53, j53, rfl⟩ := SlOf.len hL.v.rd
  obtain ⟨i54, j54, rfl⟩ := hL.p.rd.len
  have hb11 := (Below.refl w7.heap.size w7).alloc (Nat.le_refl _) (.cells #[.slice i51 T.d.s.length j51, .int .u64 T.d.c, .int .u64 T.d.o, .int .i64 T.l, .slice i52 T.g.length j52, .slice i53 T.v.length j53, .slice i54 T.p.length j54] 42)
  have bL := BoxC.new w7 42 #[.slice i51 T.d.s.length j51, .int .u64 T.d.c, .int .u64 T.d.o, .int .i64 T.l, .slice i52 T.g.length j52, .slice i53 T.v.length j53, .slice i54 T.p.length j54]
  have oL := hL.below hb11
  have hle7 := hb10.size
  have M7 := M.below hb10
  have Mk := (M.rekey (κ' := kapB κ V3.heap.size) (fun b hb => kfrom_old hb)).below (hb10.trans (hb11.mono hb10.size))
  have hks : ∀ b, V3.heap.size ≤ b → kapB κ V3.heap.size b = (20, 0, 0) := fun b hb => kfrom_new hb
  have y0 := M7.b.cell 0 rfl
  have hl7 := M7.b.lt
  generalize kapB κ V3.heap.size = κs at Mk hks
  clear hL hb10 hb11 M M7
  replace hks := Lib.hid hks
  go_wp2_with fail
  generalize w7.alloc (.cells #[.slice i51 T.d.s.length j51, .int .u64 T.d.c, .int .u64 T.d.o, .int .i64 T.l, .slice i52 T.g.length j52, .slice i53 T.v.length j53, .slice i54 T.p.length j54] 42) = V4 at bL oL Mk ⊢
  generalize w7.heap.size = B12 at bL hle7 ⊢
  have hne12 : B10 ≠ B12 := by omega
  replace hB10 := Lib.hid hB10
  clear y0 hl7
  go_loopw [60] (fun i X => ∃ (k : Nat) (ds : List Int), k ≤ T.d.s.length ∧ i = .int .i64 k ∧ ds.length = T.d.s.length ∧ LMid V2.heap.size κs V2 B10 { T with d := ⟨ds, T.d.c, T.d.o⟩ } (.slice i41 T.d.s.length j41) (.slice i42 T.g.length j42) (.slice i43 T.v.length j43) (.slice i44 T.p.length j44) X ∧ BoxC X B12 42 #[.slice i51 T.d.s.length j51, .int .u64 T.d.c, .int .u64 T.d.o, .int .i64 T.l, .slice i52 T.g.length j52, .slice i53 T.v.length j53, .slice i54 T.p.length j54] ∧ StO V3.heap.size κL T (.slice i51 T.d.s.length j51) (.slice i52 T.g.length j52) (.slice i53 T.v.length j53) (.slice i54 T.p.length j54) X) (fun i _ => T.d.s.length - (intOf i).toNat)
  case atStart => exact ⟨0, T.d.s, Nat.zero_le _, rfl, rfl, Mk, bL, oL⟩
  case round =>
    clear Mk bL oL
    obtain ⟨k, ds, hk, rfl, hdl, M, bL, oL⟩ := hrel
    by_cases hlt : k < T.d.s.length
    · obtain ⟨g, off, cp, he, hg, hkg, hgl, hnc, hmx, hcur, hcell, hfz⟩ := RowX.at2 M.o.d (by show 0 < ds.length; omega)
      obtain ⟨e1, e2, e3⟩ := Value.slice.inj he
      subst e1
      subst e3
      have M' : LMid V2.heap.size κs V2 B10 { T with d := ⟨ds, T.d.c, T.d.o⟩ } (.slice (some ⟨g, off, none⟩) ds.length j41) (.slice i42 T.g.length j42) (.slice i43 T.v.length j43) (.slice i44 T.p.length j44) wr := by rw [hdl]; exact M
      have x0 := M.b.cell 0 rfl
      have c1 : wr.cell? ⟨g, off + k, none⟩ = some (.int .u64 (nth ds k)) := hcell k (by show k < ds.length * 1; omega)
      have f1 : wr.frozen? ⟨g, off + k, none⟩ = false := hfz _
      have hni : (k : Int) < (T.d.s.length : Int) := by omega
      have M1 := fun z => M'.putD hg hkg hcur (k := k) (by show k < ds.length; omega) z
      have bL1 := fun z : Value => bL.other (p := ⟨g, off + k, none⟩) (bL.ne_row hcur (by decide)) z
      have oL1 := fun z : Value => oL.mv (Fr.far (Fr.set (lo := V2.heap.size) (κ := κs) (w := wr) hg (R := fun r => r = (0, 0, 0)) hkg (off + k) z) (fun b hb => by rw [hks.out b hb]; simp) _)
      generalize nth ds k = z at c1
      replace hdl := Lib.hid hdl
      clear he e2 hcell hfz M' hkg
      go_wp2_with fail
      go_roundw
      case rel =>
        refine ⟨k + 1, ds.set k (IntKind.u64.wrap (z + 1)), by omega, by go_num, ?_, ?_, bL1 _, oL1 _⟩
        · rw [List.length_set]; exact hdl.out
        · have h1 := M1 (IntKind.u64.wrap (z + 1))
          rw [hdl.out] at h1
          exact h1
      case measure => simp [intOf]; omega
    · obtain rfl : k = T.d.s.length := by omega
      have hc1 := lawClone_any (.slice i41 T.d.s.length j41) ⟨ds, T.d.c, T.d.o⟩ wr M.o.rd.d (by show ds.length ≤ 1000; omega)
      replace hc1 := Lib.hid hc1
      have x0 := M.b.cell 0 rfl
      have x1 := M.b.cell 1 rfl
      have x2 := M.b.cell 2 rfl
      go_wp2_with fail
      refine hc1.out.mono ?_
      rintro e w8 ⟨xn, rfl, hn, hb8⟩
      obtain ⟨n1, m1, rfl⟩ := hn.num.lenV hdl
      have hle8 := hb8.size
      have M2 := M.below hb8
      have bL2 := bL.grown hb8
      have hlL : V3.heap.size ≤ wr.heap.size := by have := bL.lt; omega
      have oL2 : StO V3.heap.size (kfrom κL wr.heap.size (0, 0, 0)) T (.slice i51 T.d.s.length j51) (.slice i52 T.g.length j52) (.slice i53 T.v.length j53) (.slice i54 T.p.length j54) w8 := oL.mv (Mv.newkM _ hb8 (Nat.le_refl _))
      have hn2 : RowU V3.heap.size (kfrom κL wr.heap.size (0, 0, 0)) (0, 0, 0) (.slice n1 T.d.s.length m1) ds w8 := hn.row hlL κL (0, 0, 0)
      generalize kfrom κL wr.heap.size (0, 0, 0) = κM at oL2 hn2
      have oL3 : StO V3.heap.size κM { T with d := ⟨ds, T.d.c, T.d.o⟩ } (.slice n1 T.d.s.length m1) (.slice i52 T.g.length j52) (.slice i53 T.v.length j53) (.slice i54 T.p.length j54) w8 := ⟨hn2, oL2.g, oL2.v, oL2.p⟩
      have bL3 := ((bL2.set 0 (.slice n1 T.d.s.length m1)).set 1 (.int .u64 T.d.c)).set 2 (.int .u64 T.d.o)
      simp only [List.setIfInBounds_toArray, List.set_cons_zero, List.set_cons_succ] at bL3
      have mL := fun S => ((Mv.box (lo := V3.heap.size) (κ := κM) S bL2 0 (.slice n1 T.d.s.length m1)).trans (Mv.box S (bL2.set 0 (.slice n1 T.d.s.length m1)) 1 (.int .u64 T.d.c))).trans (Mv.box S ((bL2.set 0 (.slice n1 T.d.s.length m1)).set 1 (.int .u64 T.d.c)) 2 (.int .u64 T.d.o))
      have oL4 := oL3.mv (mL _)
      have hV23 : V2.heap.size ≤ B12 := by have := M.le; have := hB10.out; omega
      have M3 := M2.far3 bL2 hne12 hV23 (.slice n1 T.d.s.length m1) (.int .u64 T.d.c) (.int .u64 T.d.o)
      have y0 := bL2.cell 0 rfl
      have y1 := bL2.cell 1 rfl
      have y2 := bL2.cell 2 rfl
      have fy0 := bL2.frozen 0
      have fy1 := bL2.frozen 1
      have fy2 := bL2.frozen 2
      clear M M2 bL oL oL2 oL3 hn hn2 hb8 mL x0 x1 x2 hc1
      replace hdl := Lib.hid hdl
      go_upto_region 16 with (fail)
      change LMid _ _ _ _ _ _ _ _ _ (((w8.setCell ⟨B12, 0, none⟩ (.slice n1 T.d.s.length m1)).setCell ⟨B12, 1, none⟩ (.int .u64 T.d.c)).setCell ⟨B12, 2, none⟩ (.int .u64 T.d.o)) at M3
      generalize ((w8.setCell ⟨B12, 0, none⟩ (.slice n1 T.d.s.length m1)).setCell ⟨B12, 1, none⟩ (.int .u64 T.d.c)).setCell ⟨B12, 2, none⟩ (.int .u64 T.d.o) = Y at M3 bL3 oL4 ⊢
      clear bL2 y0 y1 y2 fy0 fy1 fy2
      have bTY := M3.b
      have bSY := bS7.grown M3.bl
      have bBY := bB.grown M3.bl
      have hsa := same_any (.slice i31 S.d.s.length j31) (.slice i32 S.g.length j32) (.slice i33 S.v.length j33) (.slice i34 S.p.length j34) (.slice i81 S.d.s.length j81) (.slice i82 S.g.length j82) (.slice i83 S.v.length j83) (.slice i84 S.p.length j84) S S Y (hst7.mono M3.bl) (hstb7.mono M3.bl) hF
      rw [sameB_self] at hsa
      replace hsa := Lib.hid hsa
      have hF2 : St.Fit { T with d := ⟨ds, T.d.c, T.d.o⟩ } := { hFT with d := by show ds.length ≤ 1000; rw [hdl.out]; omega }
      have hsb := fun X (hb : Below Y.heap.size Y X) => same_any (.slice i41 T.d.s.length j41) (.slice i42 T.g.length j42) (.slice i43 T.v.length j43) (.slice i44 T.p.length j44) (.slice n1 T.d.s.length m1) (.slice i52 T.g.length j52) (.slice i53 T.v.length j53) (.slice i54 T.p.length j54) _ _ X (M3.o.rd.mono hb) (oL4.rd.mono hb) hF2
      rw [sameB_self] at hsb
      replace hsb := Lib.hid hsb
      have s0 := bSY.cell 0 rfl
      have s1 := bSY.cell 1 rfl
      have s2 := bSY.cell 2 rfl
      have s3 := bSY.cell 3 rfl
      have s4 := bSY.cell 4 rfl
      have s5 := bSY.cell 5 rfl
      have s6 := bSY.cell 6 rfl
      have q0 := bBY.cell 0 rfl
      have q1 := bBY.cell 1 rfl
      have q2 := bBY.cell 2 rfl
      have q3 := bBY.cell 3 rfl
      have q4 := bBY.cell 4 rfl
      have q5 := bBY.cell 5 rfl
      have q6 := bBY.cell 6 rfl
      go_wp2_with fail
      refine hsa.out.mono ?_
      rintro e Y1 ⟨rfl, hb9⟩
      have bTY1 := bTY.grown hb9
      have bLY1 := bL3.grown hb9
      have hsb1 := Lib.hid (hsb.out Y1 hb9)
      clear s0 s1 s2 s3 s4 s5 s6 q0 q1 q2 q3 q4 q5 q6
      have s0 := bTY1.cell 0 rfl
      have s1 := bTY1.cell 1 rfl
      have s2 := bTY1.cell 2 rfl
      have s3 := bTY1.cell 3 rfl
      have s4 := bTY1.cell 4 rfl
      have s5 := bTY1.cell 5 rfl
      have s6 := bTY1.cell 6 rfl
      have q0 := bLY1.cell 0 rfl
      have q1 := bLY1.cell 1 rfl
      have q2 := bLY1.cell 2 rfl
      have q3 := bLY1.cell 3 rfl
      have q4 := bLY1.cell 4 rfl
      have q5 := bLY1.cell 5 rfl
      have q6 := bLY1.cell 6 rfl
      go_wp2_with fail
      refine hsb1.out.mono ?_
      rintro e Y3 ⟨rfl, hb10⟩
      have hbY := hb9.trans (hb10.mono hb9.size)
      have M4 := M3.below hbY
      have bL4 := bL3.grown hbY
      have oL5 := oL4.below hbY
      have bS4 := bSY.grown hbY
      have bB4 := bBY.grown hbY
      clear s0 s1 s2 s3 s4 s5 s6 q0 q1 q2 q3 q4 q5 q6 bTY bSY bBY bTY1 bLY1 M3 bL3 oL4 hb9 hb10 hbY hsa hsb hsb1 bS7 bB
      obtain ⟨us, hrow, hels⟩ := M4.o.g
      obtain ⟨ws, hrowV, helsV⟩ := M4.o.v
      replace hels := Lib.hid hels
      replace helsV := Lib.hid helsV
      replace hrow := Lib.hid hrow
      replace hrowV := Lib.hid hrowV
      have x4 := M4.b.cell 4 rfl
      have hgn := hFT.g
      have hvn := hFT.v
      have hFT0 := Lib.hid hFT
      go_wp2_with fail
      go_loopw [89] (fun i X => ∃ k : Nat, k ≤ T.g.length ∧ i = .int .i64 k ∧ Sh V2.heap.size κs (fun r => r.1 = 3 ∨ r.1 = 6) Y3 X) (fun i _ => T.g.length - (intOf i).toNat)
      case atStart => exact ⟨0, Nat.zero_le _, rfl, Sh.refl _ _ _ _⟩
      case round =>
        obtain ⟨k, hk, rfl, hsh⟩ := hrel
        by_cases hlt : k < T.g.length
        · obtain ⟨g1, o1, cp1, he, hg1, hk1, hgl1, hnc1, hmx1, hcur1, hcell1, hfz1⟩ := (hsh.mv (fun t => t = 1) (fun r h => by rw [h]; omega) _ _ _ _ _ _ rfl (by decide) hrow.out).at2 (by omega)
          cases he
          obtain ⟨us2, hrow2, hels2⟩ := hels.out k hlt
          obtain ⟨a9, c9, hu9⟩ := hrow2.len
          have c1 : wr.cell? ⟨g1, o1 + k, none⟩ = some (.slice a9 (get T.g k).length c9) := by rw [← hu9]; exact hcell1 k (by omega)
          have hki : (k : Int) < (T.g.length : Int) := by omega
          rw [hu9] at hrow2
          replace hels2 := Lib.hid hels2
          replace hrow2 := Lib.hid hrow2
          have hgl' := hFT.gl k hlt
          clear hcell1 hfz1 hu9
          go_wp2_with fail
          go_loopw [95] (fun i X => ∃ j : Nat, j ≤ (get T.g k).length ∧ i = .int .i64 j ∧ Sh V2.heap.size κs (fun r => r.1 = 3 ∨ r.1 = 6) Y3 X) (fun i _ => (get T.g k).length - (intOf i).toNat)
          case atStart => exact ⟨0, Nat.zero_le _, rfl, hsh⟩
          case round =>
            clear hsh c1
            obtain ⟨j, hj, rfl, hsh⟩ := hrel
            by_cases hlt2 : j < (get T.g k).length
            · obtain ⟨g2, o2, cp2, he, hg2, hk2, hgl2, hnc2, hmx2, hcur2, hcell2, hfz2⟩ := (hsh.mv (fun t => t = 2) (fun r h => by rw [h]; omega) _ _ _ _ _ _ rfl (by decide) hrow2.out).at2 (by omega)
              cases he
              have hR3 := hels2.out j hlt2
              obtain ⟨a10, c10, hu10⟩ := hR3.num.len
              have d0 : wr.cell? ⟨g2, o2 + j * 3, none⟩ = some (.slice a10 (get (get T.g k) j).s.length c10) := by rw [← hu10, ← regC0 us2 (get T.g k) j]; exact hcell2 _ (by omega)
              have d1 : wr.cell? ⟨g2, o2 + j * 3 + 1, none⟩ = some (.int .u64 (get (get T.g k) j).c) := by rw [← regC1 us2 (get T.g k) j, Nat.add_assoc]; exact hcell2 _ (by omega)
              have d2 : wr.cell? ⟨g2, o2 + j * 3 + 2, none⟩ = some (.int .u64 (get (get T.g k) j).o) := by rw [← regC2 us2 (get T.g k) j, Nat.add_assoc]; exact hcell2 _ (by omega)
              have hji : (j : Int) < ((get T.g k).length : Int) := by omega
              rw [hu10] at hR3
              replace hR3 := Lib.hid hR3
              have hb1 := (Below.refl wr.heap.size wr).alloc (Nat.le_refl _) (.cells #[.slice a10 (get (get T.g k) j).s.length c10, .int .u64 (get (get T.g k) j).c, .int .u64 (get (get T.g k) j).o] 37)
              have bQ := BoxC.new wr 37 #[.slice a10 (get (get T.g k) j).s.length c10, .int .u64 (get (get T.g k) j).c, .int .u64 (get (get T.g k) j).o]
              have hsh2 := hsh.below hb1
              have hgr' := hFT.gr k j hlt hlt2
              clear hcell2 hfz2 hu10
              go_wp2_with fail
              generalize wr.alloc (.cells #[.slice a10 (get (get T.g k) j).s.length c10, .int .u64 (get (get T.g k) j).c, .int .u64 (get (get T.g k) j).o] 37) = Z at bQ hsh2 ⊢
              generalize wr.heap.size = Bq at bQ ⊢
              clear d0 d1 d2 hsh hb1
              go_loopw [102] (fun i X => ∃ q : Nat, q ≤ (get (get T.g k) j).s.length ∧ i = .int .i64 q ∧ Sh V2.heap.size κs (fun r => r.1 = 3 ∨ r.1 = 6) Y3 X ∧ BoxC X Bq 37 #[.slice a10 (get (get T.g k) j).s.length c10, .int .u64 (get (get T.g k) j).c, .int .u64 (get (get T.g k) j).o]) (fun i _ => (get (get T.g k) j).s.length - (intOf i).toNat)
              case atStart => exact ⟨0, Nat.zero_le _, rfl, hsh2, bQ⟩
              case round =>
                clear hsh2 bQ
                obtain ⟨q, hq, rfl, hsh, bQ⟩ := hrel
                have q0 := bQ.cell 0 rfl
                by_cases hlt3 : q < (get (get T.g k) j).s.length
                · obtain ⟨g3, o3, cp3, he, hst3⟩ := Sh.row (R := fun r => r.1 = 3 ∨ r.1 = 6) hR3.out (.inl rfl) (by omega)
                  cases he
                  obtain ⟨⟨z, hz⟩, hfz, hset, hne⟩ := hst3 wr hsh q hlt3
                  have hqi : (q : Int) < ((get (get T.g k) j).s.length : Int) := by omega
                  have hne3 := hne _ _ _ bQ (by decide)
                  clear hst3 hne
                  go_wp2_with fail
                  go_roundw
                  case rel => exact ⟨q + 1, by omega, by go_num, hset _, bQ.other (p := ⟨g3, o3 + q, none⟩) hne3 _⟩
                  case measure => simp [intOf]; omega
                · obtain rfl : q = (get (get T.g k) j).s.length := by omega
                  go_wp2_with fail
                  go_roundw
                  case rel => exact ⟨j + 1, by omega, by go_num, hsh⟩
                  case measure => simp [intOf]; omega
            · obtain rfl : j = (get T.g k).length := by omega
              go_wp2_with fail
              go_roundw
              case rel => exact ⟨k + 1, by omega, by go_num, hsh⟩
              case measure => simp [intOf]; omega
        · obtain rfl : k = T.g.length := by omega
          have x5 := (hsh.box M4.b (by decide)).cell 5 rfl
          go_wp2_with fail
          go_loopw [118] (fun i X => ∃ k : Nat, k ≤ T.v.length ∧ i = .int .i64 k ∧ Sh V2.heap.size κs (fun r => r.1 = 3 ∨ r.1 = 6) Y3 X) (fun i _ => T.v.length - (intOf i).toNat)
          case atStart => exact ⟨0, Nat.zero_le _, rfl, hsh⟩
          case round =>
            clear hsh x5
            obtain ⟨k, hk, rfl, hsh⟩ := hrel
            by_cases hlt : k < T.v.length
            · obtain ⟨g1, o1, cp1, he, hg1, hk1, hgl1, hnc1, hmx1, hcur1, hcell1, hfz1⟩ := (hsh.mv (fun t => t = 4) (fun r h => by rw [h]; omega) _ _ _ _ _ _ rfl (by decide) hrowV.out).at2 (by omega)
              cases he
              obtain ⟨us2, hrow2, hels2⟩ := helsV.out k hlt
              obtain ⟨a9, c9, hu9⟩ := hrow2.len
              have c1 : wr.cell? ⟨g1, o1 + k, none⟩ = some (.slice a9 (get T.v k).length c9) := by rw [← hu9]; exact hcell1 k (by omega)
              have hki : (k : Int) < (T.v.length : Int) := by omega
              have hvl' := hFT.vl k hlt
              rw [hu9] at hrow2
              replace hels2 := Lib.hid hels2
              replace hrow2 := Lib.hid hrow2
              clear hcell1 hfz1 hu9
              go_wp2_with fail
              go_loopw [124] (fun i X => ∃ j : Nat, j ≤ (get T.v k).length ∧ i = .int .i64 j ∧ Sh V2.heap.size κs (fun r => r.1 = 3 ∨ r.1 = 6) Y3 X) (fun i _ => (get T.v k).length - (intOf i).toNat)
              case atStart => exact ⟨0, Nat.zero_le _, rfl, hsh⟩
              case round =>
                clear hsh c1
                obtain ⟨j, hj, rfl, hsh⟩ := hrel
                by_cases hlt2 : j < (get T.v k).length
                · obtain ⟨g2, o2, cp2, he, hg2, hk2, hgl2, hnc2, hmx2, hcur2, hcell2, hfz2⟩ := (hsh.mv (fun t => t = 5) (fun r h => by rw [h]; omega) _ _ _ _ _ _ rfl (by decide) hrow2.out).at2 (by omega)
                  cases he
                  have hR3 := hels2.out j hlt2
                  obtain ⟨a10, c10, hu10⟩ := hR3.num.len
                  have d0 : wr.cell? ⟨g2, o2 + j, none⟩ = some (.slice a10 (get (get T.v k) j).length c10) := by rw [← hu10]; exact hcell2 _ (by omega)
                  have hji : (j : Int) < ((get T.v k).length : Int) := by omega
                  have hvd' := hFT.vd k j hlt hlt2
                  rw [hu10] at hR3
                  replace hR3 := Lib.hid hR3
                  clear hcell2 hfz2 hu10
                  go_wp2_with fail
                  go_loopw [130] (fun i X => ∃ q : Nat, q ≤ (get (get T.v k) j).length ∧ i = .int .i64 q ∧ Sh V2.heap.size κs (fun r => r.1 = 3 ∨ r.1 = 6) Y3 X) (fun i _ => (get (get T.v k) j).length - (intOf i).toNat)
                  case atStart => exact ⟨0, Nat.zero_le _, rfl, hsh⟩
                  case round =>
                    clear hsh d0
                    obtain ⟨q, hq, rfl, hsh⟩ := hrel
                    by_cases hlt3 : q < (get (get T.v k) j).length
                    · obtain ⟨g3, o3, cp3, he, hst3⟩ := Sh.row (R := fun r => r.1 = 3 ∨ r.1 = 6) hR3.out (.inr rfl) (by omega)
                      cases he
                      obtain ⟨⟨z, hz⟩, hfz, hset, hne⟩ := hst3 wr hsh q hlt3
                      have hqi : (q : Int) < ((get (get T.v k) j).length : Int) := by omega
                      clear hst3 hne
                      go_wp2_with fail
                      go_roundw
                      case rel => exact ⟨q + 1, by omega, by go_num, hset _⟩
                      case measure => simp [intOf]; omega
                    · obtain rfl : q = (get (get T.v k) j).length := by omega
                      go_wp2_with fail
                      go_roundw
                      case rel => exact ⟨j + 1, by omega, by go_num, hsh⟩
                      case measure => simp [intOf]; omega
                · obtain rfl : j = (get T.v k).length := by omega
                  go_wp2_with fail
                  go_roundw
                  case rel => exact ⟨k + 1, by omega, by go_num, hsh⟩
                  case measure => simp [intOf]; omega
            · obtain rfl : k = T.v.length := by omega
              have hbX := M4.bl.trans (hsh.fr.below M4.ls)
              have bT5 := hsh.box M4.b (by decide)
              have bL5 := hsh.box bL4 (by decide)
              have bS5 := hsh.box bS4 (by decide)
              have bB5 := hsh.box bB4 (by decide)
              have oL6 := oL5.mv (Fr.far hsh.fr (fun b hb => by rw [hks.out b hb]; simp) _)
              have hP5 := M4.o.p.mv (hsh.mv _ (fun r h => by omega))
              have hD5 : RowU V2.heap.size κs (0, 0, 0) _ ds wr := hsh.mv (fun t => t = 0) (fun r h => by rw [h]; omega) _ _ _ _ _ _ rfl (by decide) M4.o.d
              have hsa := same_any (.slice i31 S.d.s.length j31) (.slice i32 S.g.length j32) (.slice i33 S.v.length j33) (.slice i34 S.p.length j34) (.slice i81 S.d.s.length j81) (.slice i82 S.g.length j82) (.slice i83 S.v.length j83) (.slice i84 S.p.length j84) S S wr (hst7.mono hbX) (hstb7.mono hbX) hF
              rw [sameB_self] at hsa
              replace hsa := Lib.hid hsa
              have hef := fun X (hb : Below wr.heap.size wr X) => ef19 (.slice i44 T.p.length j44) (.slice i54 T.p.length j54) T.p T.p X (hP5.rd.mono hb) (oL6.rd.p.mono hb) hFT.p (fun i hi u1 u2 X h1 h2 => by
                have h := lawEqual_any u1 u2 (get T.p i) (get T.p i) X h1 h2 (by have := hFT.pr i hi; omega)
                rw [eqB_dec] at h
                exact h)
              have heq := fun X (hb : Below wr.heap.size wr X) => lawEqual_any (.slice i41 T.d.s.length j41) (.slice n1 T.d.s.length m1) ⟨ds, T.d.c, T.d.o⟩ ⟨ds, T.d.c, T.d.o⟩ X (hD5.num.mono hb) (oL6.rd.d.mono hb) (by show ds.length ≤ _; rw [hdl.out]; omega)
              simp only [eqB_self, decide_true] at hef heq
              replace hef := Lib.hid hef
              replace heq := Lib.hid heq
              clear hrow hels hrowV helsV M4 oL5 hst7 hstb7 hP5 hD5 oL6 bL4 bS4 bB4 hF hFT
              have s0 := bS5.cell 0 rfl
              have s1 := bS5.cell 1 rfl
              have s2 := bS5.cell 2 rfl
              have s3 := bS5.cell 3 rfl
              have s4 := bS5.cell 4 rfl
              have s5 := bS5.cell 5 rfl
              have s6 := bS5.cell 6 rfl
              have q0 := bB5.cell 0 rfl
              have q1 := bB5.cell 1 rfl
              have q2 := bB5.cell 2 rfl
              have q3 := bB5.cell 3 rfl
              have q4 := bB5.cell 4 rfl
              have q5 := bB5.cell 5 rfl
              have q6 := bB5.cell 6 rfl
              have hB8 := hB7.trans (hbX.mono hB7.size)
              go_wp2_with fail
              refine hsa.out.mono ?_
              rintro e X1 ⟨rfl, hb1⟩
              have bT6 := bT5.grown hb1
              have bL6 := bL5.grown hb1
              have y6 := bT6.cell 6 rfl
              have z6 := bL6.cell 6 rfl
              clear s0 s1 s2 s3 s4 s5 s6 q0 q1 q2 q3 q4 q5 q6 hsa
              go_wp2_with fail
              refine (hef.out _ hb1).mono ?_
              rintro e X2 ⟨rfl, hb2⟩
              have hb12 := hb1.trans (hb2.mono hb1.size)
              have bT7 := bT5.grown hb12
              have bL7 := bL5.grown hb12
              clear y6 z6 bT6 bL6
              have s0 := bT7.cell 0 rfl
              have s1 := bT7.cell 1 rfl
              have s2 := bT7.cell 2 rfl
              have q0 := bL7.cell 0 rfl
              have q1 := bL7.cell 1 rfl
              have q2 := bL7.cell 2 rfl
              go_wp2_with fail
              refine (heq.out _ hb12).mono ?_
              rintro e X3 ⟨rfl, hb3⟩
              have hb123 := hb12.trans (hb3.mono hb12.size)
              go_wp2
              go_ret
              exact ⟨rfl, hB8.trans (hb123.mono hB8.size)⟩
end Go.Proofs.Ytgnamahdchefnaa
