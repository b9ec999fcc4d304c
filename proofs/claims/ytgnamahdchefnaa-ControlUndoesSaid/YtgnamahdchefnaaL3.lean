/- The walk of ControlUndoes. Conditions: plans and events that come in. -/
import Derived.Test.YtgnamahdchefnaaA6
import Derived.Test.YtgnamahdchefnaaAK
import Derived.Test.YtgnamahdchefnaaCA
import Derived.Test.YtgnamahdchefnaaSA
import Derived.Deep.Cut
namespace Go.Proofs.Ytgnamahdchefnaa
open Go.RowKit Go.Shelf

theorem byte_wrap (z : Int) : 0 ≤ z % 256 ∧ z % 256 < 256 := by omega
set_option linter.unusedVariables false in
set_option maxRecDepth 100000 in
set_option maxHeartbeats 8000000 in
theorem law3_any (v ve : Value) (p : Pl) (l : List Ev) (ek ed ei : Int) (w : World) (hp : p.Ok) (hv : NumSl .u8 w v p.ss) (hcap : ∃ a cap, v = .slice a p.ss.length cap ∧ p.ss.length ≤ cap) (hl : EvSl w ve l) :
    Calls Try.prog 3 #[planV v p, ve, evV ek ed ei] w (BoolBelow true w) := by
  have hkn := Lib.hid known_any
  obtain ⟨a, cap, rfl, hcp⟩ := hcap
  have hC := p.con_ok
  have hmk := fun (X : World) (h : Below w.heap.size w X) => Make_any (.slice a p.ss.length cap) p X hp (hv.mono h) ⟨a, cap, rfl, hcp⟩
  have haf := fun (x y : Value) (X : World) (h : Below w.heap.size w X) (h1 : ConR X x y p.con) (h2 : l.length ≤ 1000) => after_any x y ve p.con l X hC h1 (hl.mono h) h2
  generalize p.con = C at hmk haf hC
  replace hmk := Lib.hid hmk
  replace haf := Lib.hid haf
  have hl0 := Lib.hid hl
  obtain ⟨al, cl, rfl⟩ := hl.len
  have hB0 := ((Below.refl w.heap.size w).alloc (Nat.le_refl _) (.cells #[.slice a p.ss.length cap, .int .u8 p.co, .int .u8 p.ge, .int .u8 p.lv, .int .u8 p.d0, .int .u8 p.d1, .int .u8 p.d2] 25)).alloc (by simp) (.cells #[.int .i64 ek, .int .i64 ed, .int .i64 ei] 28)
  have b0 := (BoxC.new w 25 #[.slice a p.ss.length cap, .int .u8 p.co, .int .u8 p.ge, .int .u8 p.lv, .int .u8 p.d0, .int .u8 p.d1, .int .u8 p.d2]).alloc (.cells #[.int .i64 ek, .int .i64 ed, .int .i64 ei] 28)
  have bV := BoxC.new (w.alloc (.cells #[.slice a p.ss.length cap, .int .u8 p.co, .int .u8 p.ge, .int .u8 p.lv, .int .u8 p.d0, .int .u8 p.d1, .int .u8 p.d2] 25)) 28 #[.int .i64 ek, .int .i64 ed, .int .i64 ei]
  simp only [World.size_alloc] at bV
  clear hp hv hl hcp
  by_cases hl8 : 8 < l.length
  · have hlb : decide ((8 : Int) < (l.length : Int)) = true := decide_eq_true (by omega)
    go_enter Try.func3, Try.ntmps3
    go_wp2_with fail
    refine (hkn.out _).mono ?_
    rintro e w1 ⟨rfl, hb1⟩
    have hB1 := hB0.trans (hb1.mono hB0.size)
    go_wp2_with fail
    refine (hkn.out _).mono ?_
    rintro e w2 ⟨rfl, hb2⟩
    go_wp2
    go_ret
    exact ⟨rfl, hB1.trans (hb2.mono hB1.size)⟩
  have hlb : decide ((8 : Int) < (l.length : Int)) = false := decide_eq_false (by omega)
  have hdo := Lib.hid (fun (x y xd xg xv xp : Value) (st : St) (k d i : Int) (X : World) h1 h2 h3 => Do_any x y xd xg xv xp C st k d i X hC h1 h2 h3)
  have hdr := Lib.hid (fun (x y v : Value) (X : World) h1 h2 => Drawn_any x y v C [ei % 256, ed % 256, ek % 256, 3, 1] X hC h1 h2 (by
    intro k hk
    have h5 : k < 5 := hk
    rcases (by omega : k = 0 ∨ k = 1 ∨ k = 2 ∨ k = 3 ∨ k = 4) with rfl | rfl | rfl | rfl | rfl
    · exact byte_wrap ei
    · exact byte_wrap ed
    · exact byte_wrap ek
    · show (0 : Int) ≤ 3 ∧ (3 : Int) < 256; omega
    · show (0 : Int) ≤ 1 ∧ (1 : Int) < 256; omega) (show 5 ≤ 1000 by omega))
  have hch := Lib.hid (fun (x y u v : Value) (a b : Rg) (X : World) h1 h2 h3 => Changes_any x y u v C a b X hC h1 h2 h3)
  have hrun := Lib.hid (fun (x y xd xg xv xp ve : Value) (st : St) (l : List Ev) (X : World) h1 h2 h3 h4 h5 h6 => Run_ok x y xd xg xv xp ve C st l X hC h1 h2 h3 h4 h5 h6)
  go_enter Try.func3, Try.ntmps3
  go_wp2_with fail
  refine (hkn.out _).mono ?_
  rintro e w1 ⟨rfl, hb1⟩
  have hB1 := hB0.trans (hb1.mono hB0.size)
  have b1 := b0.grown hb1
  have bV1 := bV.grown hb1
  have z0 := b1.cell 0 rfl
  have z1 := b1.cell 1 rfl
  have z2 := b1.cell 2 rfl
  have z3 := b1.cell 3 rfl
  have z4 := b1.cell 4 rfl
  have z5 := b1.cell 5 rfl
  have z6 := b1.cell 6 rfl
  clear hb1 hB0 b0
  go_wp2_with fail
  refine (hmk.out _ hB1).mono ?_
  rintro e w2 ⟨x, y, rfl, hc2, hb2⟩
  obtain ⟨a1, c1, rfl⟩ := hc2.s.len
  obtain ⟨a2, c2, rfl⟩ := hc2.d.lenV hC.dl
  have hB2 := hB1.trans (hb2.mono hB1.size)
  have hb3 := (Below.refl w2.heap.size w2).alloc (Nat.le_refl _) (.cells #[.slice a1 C.s.length c1, .int .i64 C.co, .int .i64 C.ge, .slice a2 C.s.length c2, .int .i64 C.lv] 32)
  have bC := BoxC.new w2 32 #[.slice a1 C.s.length c1, .int .i64 C.co, .int .i64 C.ge, .slice a2 C.s.length c2, .int .i64 C.lv]
  have hc3 := hc2.mono hb3
  have bV2 := (bV1.grown hb2).grown hb3
  have hB3 := hB2.trans (hb3.mono hB2.size)
  clear hb2 hc2 hB2 hB1 b1 z0 z1 z2 z3 z4 z5 z6
  have p0 := bC.cell 0 rfl
  have p1 := bC.cell 1 rfl
  have p2 := bC.cell 2 rfl
  have p3 := bC.cell 3 rfl
  have p4 := bC.cell 4 rfl
  go_wp2_with fail
  refine (haf.out _ _ _ hB3 hc3 (by omega)).mono ?_
  rintro e w4 ⟨xd, xg, xv, xp, κ0, rfl, hO, hb4⟩
  have hS := after_sound hC l _ (start_sound hC)
  generalize afterF C (startF C) l = S at hO hS ⊢
  have hst := hO.rd
  obtain ⟨i31, j31, rfl⟩ := hO.d.len
  obtain ⟨i32, j32, rfl⟩ := SlOf.len hO.g.rd
  obtain ⟨i33, j33, rfl⟩ := SlOf.len hO.v.rd
  obtain ⟨i34, j34, rfl⟩ := hO.p.rd.len
  have hb5 := (Below.refl w4.heap.size w4).alloc (Nat.le_refl _) (.cells #[.slice i31 S.d.s.length j31, .int .u64 S.d.c, .int .u64 S.d.o, .int .i64 S.l, .slice i32 S.g.length j32, .slice i33 S.v.length j33, .slice i34 S.p.length j34] 42)
  have bS := BoxC.new w4 42 #[.slice i31 S.d.s.length j31, .int .u64 S.d.c, .int .u64 S.d.o, .int .i64 S.l, .slice i32 S.g.length j32, .slice i33 S.v.length j33, .slice i34 S.p.length j34]
  have bC4 := bC.grown hb4
  have bC5 := bC4.grown hb5
  have bV4 := bV2.grown hb4
  have bV5 := bV4.grown hb5
  have v0 := bV4.cell 0 rfl
  have v1 := bV4.cell 1 rfl
  have v2 := bV4.cell 2 rfl
  have hlV := bV4.lt
  have hc5 := (hc3.mono hb4).mono hb5
  have hst5 := hst.mono hb5
  have hB4 := hB3.trans (hb4.mono hB3.size)
  have hB5 := hB4.trans (hb5.mono hB4.size)
  clear p0 p1 p2 p3 p4
  have p0 := bC4.cell 0 rfl
  have p1 := bC4.cell 1 rfl
  have p2 := bC4.cell 2 rfl
  have p3 := bC4.cell 3 rfl
  have p4 := bC4.cell 4 rfl
  have hlC := bC4.lt
  clear hO hst hb4 hb5 hc3 bC hB3 hB4
  go_wp2_with fail
  have hb6 := (Below.refl (w4.alloc (.cells #[.slice i31 S.d.s.length j31, .int .u64 S.d.c, .int .u64 S.d.o, .int .i64 S.l, .slice i32 S.g.length j32, .slice i33 S.v.length j33, .slice i34 S.p.length j34] 42)).heap.size (w4.alloc (.cells #[.slice i31 S.d.s.length j31, .int .u64 S.d.c, .int .u64 S.d.o, .int .i64 S.l, .slice i32 S.g.length j32, .slice i33 S.v.length j33, .slice i34 S.p.length j34] 42))).alloc (Nat.le_refl _) (.cells #[.int .u8 (ei % 256), .int .u8 (ed % 256), .int .u8 (ek % 256), .int .u8 3, .int .u8 1] 5)
  have bY := BoxC.new (w4.alloc (.cells #[.slice i31 S.d.s.length j31, .int .u64 S.d.c, .int .u64 S.d.o, .int .i64 S.l, .slice i32 S.g.length j32, .slice i33 S.v.length j33, .slice i34 S.p.length j34] 42)) 5 #[.int .u8 (ei % 256), .int .u8 (ed % 256), .int .u8 (ek % 256), .int .u8 3, .int .u8 1]
  have nY := num_lit (K := .u8) (xs := [ei % 256, ed % 256, ek % 256, 3, 1]) bY (fun i hi => by
    have h5 : i < 5 := hi
    rcases (by omega : i = 0 ∨ i = 1 ∨ i = 2 ∨ i = 3 ∨ i = 4) with rfl | rfl | rfl | rfl | rfl <;> rfl)
  have hszV : (w4.alloc (.cells #[.slice i31 S.d.s.length j31, .int .u64 S.d.c, .int .u64 S.d.o, .int .i64 S.l, .slice i32 S.g.length j32, .slice i33 S.v.length j33, .slice i34 S.p.length j34] 42)).heap.size = w4.heap.size + 1 := by simp
  rw [hszV] at nY
  clear hszV
  have bC6 := bC5.grown hb6
  have bS6 := bS.grown hb6
  have bV6 := bV5.grown hb6
  have hc6 := hc5.mono hb6
  have hst6 := hst5.mono hb6
  have hB6 := hB5.trans (hb6.mono hB5.size)
  clear hb6 bC5 bS bV5 hc5 hst5 hB5 bY
  generalize (w4.alloc (.cells #[.slice i31 S.d.s.length j31, .int .u64 S.d.c, .int .u64 S.d.o, .int .i64 S.l, .slice i32 S.g.length j32, .slice i33 S.v.length j33, .slice i34 S.p.length j34] 42)).alloc (.cells #[.int .u8 (ei % 256), .int .u8 (ed % 256), .int .u8 (ek % 256), .int .u8 3, .int .u8 1] 5) = V at nY bC6 bS6 bV6 hc6 hst6 hB6 ⊢
  generalize w4.heap.size = B8 at bS6 nY ⊢
  clear p0 p1 p2 p3 p4 v0 v1 v2 hlV hlC bC4 bV4 bV2 bV1 bV
  refine (hdr.out _ _ _ _ hc6 nY).mono ?_
  rintro e w5 ⟨x5, rfl, hD5, hb7⟩
  have hDk := draw_ok C [ei % 256, ed % 256, ek % 256, 3, 1]
  generalize drawR C [ei % 256, ed % 256, ek % 256, 3, 1] = D at hD5 hDk ⊢
  obtain ⟨n1, m1, rfl⟩ := hD5.num.len
  have hb8 := (Below.refl w5.heap.size w5).alloc (Nat.le_refl _) (.cells #[.slice n1 D.s.length m1, .int .u64 D.c, .int .u64 D.o] 37)
  have hb78 := hb7.trans (hb8.mono hb7.size)
  have bR := BoxC.new w5 37 #[.slice n1 D.s.length m1, .int .u64 D.c, .int .u64 D.o]
  have nR := hD5.num.mono hb8
  have bC7 := bC6.grown hb7
  have bS7 := bS6.grown hb7
  have bC8 := bC6.grown hb78
  have bS8 := bS6.grown hb78
  have bV8 := bV6.grown hb78
  have hc8 := hc6.mono hb78
  have hst8 := hst6.mono hb78
  have hB8 := hB6.trans (hb78.mono hB6.size)
  have hlC := bC7.lt
  have hlS := bS7.lt
  clear hb7 hb8 hb78 bC6 bS6 bV6 hc6 hst6 hB6 hD5 nY hdr
  have p0 := bC7.cell 0 rfl
  have p1 := bC7.cell 1 rfl
  have p2 := bC7.cell 2 rfl
  have p3 := bC7.cell 3 rfl
  have p4 := bC7.cell 4 rfl
  have s0 := bS7.cell 0 rfl
  have s1 := bS7.cell 1 rfl
  have s2 := bS7.cell 2 rfl
  go_wp2_with fail
  generalize w5.alloc (.cells #[.slice n1 D.s.length m1, .int .u64 D.c, .int .u64 D.o] 37) = V2 at bR nR bC8 bS8 bV8 hc8 hst8 hB8 ⊢
  generalize w5.heap.size = B9 at bR ⊢
  clear p0 p1 p2 p3 p4 s0 s1 s2 bC7 bS7 hlC hlS
  refine (hch.out _ _ _ _ S.d D _ hc8 hst8.d nR).mono ?_
  rintro e w6 ⟨hb9, ⟨h1, -⟩ | ⟨-, h1, -⟩ | ⟨-, -, vE, rfl, hE⟩⟩
  · exact absurd hS.d.right h1
  · exact absurd hDk.right h1
  obtain ⟨hap, hUd⟩ := change_draws (st := S) hC hS.d hDk
  have hcl := change_len S.d D (by have := hS.d.n; have := hC.n; omega)
  have bC9 := bC8.grown hb9
  have bS9 := bS8.grown hb9
  have bV9 := bV8.grown hb9
  have bR9 := bR.grown hb9
  have nR9 := nR.mono hb9
  have hc9 := hc8.mono hb9
  have hst9 := hst8.mono hb9
  have hB9 := hB8.trans (hb9.mono hB8.size)
  have hrn := Lib.hid (fun x y xd xg xv xp h1 h2 => hrun.out x y xd xg xv xp vE S (changeF S.d D) w6 h1 h2 hS hE (by omega) hap)
  generalize afterF C S (changeF S.d D) = U at hrn hUd
  replace hUd := Lib.hid hUd
  clear hb9 bC8 bS8 bV8 bR nR hc8 hst8 hB8 hch hrun hap hcl hE
  have p0 := bC9.cell 0 rfl
  have p1 := bC9.cell 1 rfl
  have p2 := bC9.cell 2 rfl
  have p3 := bC9.cell 3 rfl
  have p4 := bC9.cell 4 rfl
  have s0 := bS9.cell 0 rfl
  have s1 := bS9.cell 1 rfl
  have s2 := bS9.cell 2 rfl
  have s3 := bS9.cell 3 rfl
  have s4 := bS9.cell 4 rfl
  have s5 := bS9.cell 5 rfl
  have s6 := bS9.cell 6 rfl
  go_wp2_with fail
  refine (hrn.out _ _ _ _ _ _ hc9 hst9).mono ?_
  rintro e w7 ⟨ud, ug, uv, up, κU, rfl, hOU, hb10⟩
  obtain ⟨i51, j51, rfl⟩ := hOU.d.len
  obtain ⟨i52, j52, rfl⟩ := SlOf.len hOU.g.rd
  obtain ⟨i53, j53, rfl⟩ := SlOf.len hOU.v.rd
  obtain ⟨i54, j54, rfl⟩ := hOU.p.rd.len
  have hb11 := (Below.refl w7.heap.size w7).alloc (Nat.le_refl _) (.cells #[.slice i51 U.d.s.length j51, .int .u64 U.d.c, .int .u64 U.d.o, .int .i64 U.l, .slice i52 U.g.length j52, .slice i53 U.v.length j53, .slice i54 U.p.length j54] 42)
  have hb101 := hb10.trans (hb11.mono hb10.size)
  have bU := BoxC.new w7 42 #[.slice i51 U.d.s.length j51, .int .u64 U.d.c, .int .u64 U.d.o, .int .i64 U.l, .slice i52 U.g.length j52, .slice i53 U.v.length j53, .slice i54 U.p.length j54]
  have bC10 := bC9.grown hb101
  have bS10 := bS9.grown hb101
  have bV10 := bV9.grown hb101
  have bR10 := bR9.grown hb101
  have bR9a := bR9.grown hb10
  have nR10 := nR9.mono hb101
  have hc10 := hc9.mono hb101
  have hst10 := hst9.mono hb101
  have hB10 := hB9.trans (hb101.mono hB9.size)
  have heq := lawEqual_any (.slice i51 U.d.s.length j51) (.slice n1 D.s.length m1) U.d D _ (hOU.below hb11).rd.d nR10 (by rw [hUd.out]; have := hDk.n; have := hC.n; omega)
  rw [show eqB U.d D = true by rw [hUd.out, eqB_self]] at heq
  replace heq := Lib.hid heq
  have hlR := bR9a.lt
  clear p0 p1 p2 p3 p4 s0 s1 s2 s3 s4 s5 s6 hb10 hb11 hb101 bC9 bS9 bV9 bR9 nR9 hc9 hst9 hB9 hrn hOU nR10 bU bR10
  have r0 := bR9a.cell 0 rfl
  have r1 := bR9a.cell 1 rfl
  have r2 := bR9a.cell 2 rfl
  go_wp2_with fail
  generalize w7.alloc (.cells #[.slice i51 U.d.s.length j51, .int .u64 U.d.c, .int .u64 U.d.o, .int .i64 U.l, .slice i52 U.g.length j52, .slice i53 U.v.length j53, .slice i54 U.p.length j54] 42) = V3 at heq bC10 bS10 bV10 hc10 hst10 hB10 ⊢
  refine heq.out.mono ?_
  rintro e w8 ⟨rfl, hb12⟩
  have bC11 := bC10.grown hb12
  have bS11 := bS10.grown hb12
  have bV11 := bV10.grown hb12
  have hc11 := hc10.mono hb12
  have hst11 := hst10.mono hb12
  have hB11 := hB10.trans (hb12.mono hB10.size)
  clear hb12 bC10 bS10 bV10 hc10 hst10 hB10 heq r0 r1 r2 hlR bR9a
  have p0 := bC11.cell 0 rfl
  have p1 := bC11.cell 1 rfl
  have p2 := bC11.cell 2 rfl
  have p3 := bC11.cell 3 rfl
  have p4 := bC11.cell 4 rfl
  have s0 := bS11.cell 0 rfl
  have s1 := bS11.cell 1 rfl
  have s2 := bS11.cell 2 rfl
  have s3 := bS11.cell 3 rfl
  have s4 := bS11.cell 4 rfl
  have s5 := bS11.cell 5 rfl
  have s6 := bS11.cell 6 rfl
  have v0 := bV11.cell 0 rfl
  have v1 := bV11.cell 1 rfl
  have v2 := bV11.cell 2 rfl
  go_wp2_with fail
  refine (hdo.out _ _ _ _ _ _ S ek ed ei _ hc11 hst11 hS).mono ?_
  rintro e w9 ⟨hb13, ⟨hbad, rfl⟩ | ⟨hpos, zd, zg, zv, zp, κT, rfl, hT⟩⟩
  · have hpb : (posF C S ek ed ei != 0) = true := by simpa using hbad
    have hb14 := (Below.refl w9.heap.size w9).alloc (Nat.le_refl _) (.cells #[.slice none 0 0, .int .u64 0, .int .u64 0, .int .i64 0, .slice none 0 0, .slice none 0 0, .slice none 0 0] 42)
    have hB12 := hB11.trans ((hb13.trans (hb14.mono hb13.size)).mono hB11.size)
    generalize posF C S ek ed ei = pp at hbad hpb ⊢
    replace hbad := Lib.hid hbad
    go_wp2
    go_ret
    exact ⟨rfl, hB12⟩
  have hTs := do_sound hC hS hpos
  have hundo := fun (h10 : ek ≠ 10) => undo_after hC hS hpos h10
  have hun : ∀ st, doF C st 10 0 0 = undoF st := fun st => by unfold doF; rw [if_pos rfl]
  generalize doF C S ek ed ei = T at hT hTs hundo ⊢
  obtain ⟨i41, j41, rfl⟩ := hT.d.len
  obtain ⟨i42, j42, rfl⟩ := SlOf.len hT.g.rd
  obtain ⟨i43, j43, rfl⟩ := SlOf.len hT.v.rd
  obtain ⟨i44, j44, rfl⟩ := hT.p.rd.len
  have hb14 := (Below.refl w9.heap.size w9).alloc (Nat.le_refl _) (.cells #[.slice i41 T.d.s.length j41, .int .u64 T.d.c, .int .u64 T.d.o, .int .i64 T.l, .slice i42 T.g.length j42, .slice i43 T.v.length j43, .slice i44 T.p.length j44] 42)
  have hb134 := hb13.trans (hb14.mono hb13.size)
  have bT := BoxC.new w9 42 #[.slice i41 T.d.s.length j41, .int .u64 T.d.c, .int .u64 T.d.o, .int .i64 T.l, .slice i42 T.g.length j42, .slice i43 T.v.length j43, .slice i44 T.p.length j44]
  have hT12 := hT.rd.mono hb14
  have bC12 := bC11.grown hb134
  have bS12 := bS11.grown hb134
  have bV12 := bV11.grown hb134
  have bS12a := bS11.grown hb13
  have bV12a := bV11.grown hb13
  have hc12 := hc11.mono hb134
  have hst12 := hst11.mono hb134
  have hB12 := hB11.trans (hb134.mono hB11.size)
  have hT9 := hT.rd
  have hst9 := hst11.mono hb13
  have hB9 := hB11.trans (hb13.mono hB11.size)
  have bS9 := bS12a
  replace hT9 := Lib.hid hT9
  replace hst9 := Lib.hid hst9
  replace hB9 := Lib.hid hB9
  clear p0 p1 p2 p3 p4 s0 s1 s2 s3 s4 s5 s6 v0 v1 v2 hb13 hb134 bC11 bS11 bV11 hc11 hst11 hB11 hT
  have hlS := bS12a.lt
  have hlV := bV12a.lt
  have s0 := bS12a.cell 0 rfl
  have s1 := bS12a.cell 1 rfl
  have s2 := bS12a.cell 2 rfl
  have v0 := bV12a.cell 0 rfl
  by_cases hk10 : ek = 10
  · have hkb : (ek == 10) = true := by simpa using hk10
    replace hk10 := Lib.hid hk10
    go_wp2
    go_ret
    exact ⟨rfl, hB12⟩
  have hkb : (ek == 10) = false := by simpa using hk10
  replace hundo := hundo hk10
  replace hk10 := Lib.hid hk10
  have heq := lawEqual_any (.slice i41 T.d.s.length j41) (.slice i31 S.d.s.length j31) T.d S.d _ hT12.d hst12.d (by have := hTs.d.n; have := hC.n; omega)
  by_cases hne : T.d = S.d
  · rw [show eqB T.d S.d = true by rw [hne, eqB_self]] at heq
    replace heq := Lib.hid heq
    replace hne := Lib.hid hne
    go_wp2_with fail
    refine heq.out.mono ?_
    rintro e w10 ⟨rfl, hb15⟩
    go_wp2
    go_ret
    exact ⟨rfl, hB12.trans (hb15.mono hB12.size)⟩
  rw [show eqB T.d S.d = false by cases h : eqB T.d S.d; rfl; exact absurd (eqB_iff.1 h) hne] at heq
  obtain ⟨hp10, hud⟩ := hundo hne
  replace hne := Lib.hid hne
  replace heq := Lib.hid heq
  go_wp2_with fail
  generalize w9.alloc (.cells #[.slice i41 T.d.s.length j41, .int .u64 T.d.c, .int .u64 T.d.o, .int .i64 T.l, .slice i42 T.g.length j42, .slice i43 T.v.length j43, .slice i44 T.p.length j44] 42) = V4 at heq bT hT12 bC12 bS12 bV12 hc12 hst12 hB12 hb14 ⊢
  obtain ⟨B10, hB10⟩ : ∃ q, w9.heap.size = q := ⟨_, rfl⟩
  rw [hB10] at bT hb14 ⊢
  replace hB10 := Lib.hid hB10
  refine heq.out.mono ?_
  rintro e w10 ⟨rfl, hb15⟩
  have hlT4 := bT.lt
  have hW := hb14.trans (hb15.mono (Nat.le_of_lt hlT4))
  have bT13 := bT.grown hb15
  have bC13 := bC12.grown hb15
  have bS13 := bS12.grown hb15
  have hT13 := hT12.mono hb15
  have hc13 := hc12.mono hb15
  have hst13 := hst12.mono hb15
  have hB13 := hB12.trans (hb15.mono hB12.size)
  clear s0 s1 s2 v0 hlS hlV bS12a bV12a hb15 hb14 hlT4 bT bC12 bS12 bV12 hT12 hc12 hst12 hB12 heq hkb
  have p0 := bC13.cell 0 rfl
  have p1 := bC13.cell 1 rfl
  have p2 := bC13.cell 2 rfl
  have p3 := bC13.cell 3 rfl
  have p4 := bC13.cell 4 rfl
  have s0 := bT13.cell 0 rfl
  have s1 := bT13.cell 1 rfl
  have s2 := bT13.cell 2 rfl
  have s3 := bT13.cell 3 rfl
  have s4 := bT13.cell 4 rfl
  have s5 := bT13.cell 5 rfl
  have s6 := bT13.cell 6 rfl
  go_wp2_with fail
  refine (hdo.out _ _ _ _ _ _ T 10 0 0 _ hc13 hT13 hTs).mono ?_
  rintro e w11 ⟨hb16, ⟨hbad, -⟩ | ⟨-, yd, yg, yv, yp, κQ, rfl, hQ⟩⟩
  · exact absurd hp10 hbad
  have hQs := do_sound hC hTs hp10
  have hQF := hQs.fit hC
  rw [hun] at hQ hQs hQF ⊢
  have hQl : (undoF T).l = T.l ∧ (undoF T).g = T.g ∧ (undoF T).v = T.v := ⟨rfl, rfl, rfl⟩
  generalize undoF T = Q at hQ hQs hQF hud hQl ⊢
  replace hud := Lib.hid hud
  replace hQl := Lib.hid hQl
  obtain ⟨i61, j61, rfl⟩ := hQ.d.len
  obtain ⟨i62, j62, rfl⟩ := SlOf.len hQ.g.rd
  obtain ⟨i63, j63, rfl⟩ := SlOf.len hQ.v.rd
  obtain ⟨i64, j64, rfl⟩ := hQ.p.rd.len
  have hb17 := (Below.refl w11.heap.size w11).alloc (Nat.le_refl _) (.cells #[.slice i61 Q.d.s.length j61, .int .u64 Q.d.c, .int .u64 Q.d.o, .int .i64 Q.l, .slice i62 Q.g.length j62, .slice i63 Q.v.length j63, .slice i64 Q.p.length j64] 42)
  have hb167 := hb16.trans (hb17.mono hb16.size)
  have bQ := BoxC.new w11 42 #[.slice i61 Q.d.s.length j61, .int .u64 Q.d.c, .int .u64 Q.d.o, .int .i64 Q.l, .slice i62 Q.g.length j62, .slice i63 Q.v.length j63, .slice i64 Q.p.length j64]
  have hQ14 := hQ.rd.mono hb17
  have hlT3 := bT13.lt
  have hW5 := hW.trans (hb167.mono (Nat.le_of_lt hlT3))
  obtain ⟨w11L, hw11L⟩ : ∃ q, w10.heap.size = q := ⟨_, rfl⟩
  have hO14 := hQ.below hb17
  rw [hw11L] at hO14
  clear hw11L
  have hlQ := hb16.size
  have bT14 := bT13.grown hb167
  have bS14 := bS13.grown hb167
  have hT14 := hT13.mono hb167
  have hst14 := hst13.mono hb167
  have hB14 := hB13.trans (hb167.mono hB13.size)
  have hlT := bT14.lt
  clear p0 p1 p2 p3 p4 s0 s1 s2 s3 s4 s5 s6 hb16 hb17 hb167 bT13 bS13 hT13 hc13 hst13 hB13 hQ hdo bC13 hundo
  go_upto_region 14 with (fail)
  generalize w11.alloc (.cells #[.slice i61 Q.d.s.length j61, .int .u64 Q.d.c, .int .u64 Q.d.o, .int .i64 Q.l, .slice i62 Q.g.length j62, .slice i63 Q.v.length j63, .slice i64 Q.p.length j64] 42) = V5 at bQ hQ14 bT14 bS14 hT14 hst14 hB14 hW5 hO14 hlT ⊢
  generalize w11.heap.size = B11 at bQ hlQ ⊢
  have hneQ : B11 ≠ B10 := by omega
  clear bS14 hT14 hst14 hB14 hQ14 hW hlT3
  have q0 := bQ.cell 0 rfl
  have q1' := bQ.cell 1 rfl
  have q2' := bQ.cell 2 rfl
  have q6 := bQ.cell 6 rfl
  have z0 := bT14.cell 0 rfl
  have z1 := bT14.cell 1 rfl
  have z2 := bT14.cell 2 rfl
  have z6 := bT14.cell 6 rfl
  have f0 := bT14.frozen 0
  have f1 := bT14.frozen 1
  have f2 := bT14.frozen 2
  have f6 := bT14.frozen 6
  have z0' : V5.drew.cell? ⟨B10, 0, none⟩ = some (.slice i41 T.d.s.length j41) := z0
  have z1' : V5.drew.cell? ⟨B10, 1, none⟩ = some (.int .u64 T.d.c) := z1
  have z2' : V5.drew.cell? ⟨B10, 2, none⟩ = some (.int .u64 T.d.o) := z2
  have z6' : V5.drew.cell? ⟨B10, 6, none⟩ = some (.slice i44 T.p.length j44) := z6
  have f0' : V5.drew.frozen? ⟨B10, 0, none⟩ = false := f0
  have f1' : V5.drew.frozen? ⟨B10, 1, none⟩ = false := f1
  have f2' : V5.drew.frozen? ⟨B10, 2, none⟩ = false := f2
  have f6' : V5.drew.frozen? ⟨B10, 6, none⟩ = false := f6
  have x0 : V5.drew.cell? ⟨B11, 0, none⟩ = some (.slice i61 Q.d.s.length j61) := q0
  have x1 : V5.drew.cell? ⟨B11, 1, none⟩ = some (.int .u64 Q.d.c) := q1'
  have x2 : V5.drew.cell? ⟨B11, 2, none⟩ = some (.int .u64 Q.d.o) := q2'
  have x6 : V5.drew.cell? ⟨B11, 6, none⟩ = some (.slice i64 Q.p.length j64) := q6
  go_region_law (fail)
  all_goals
    clear z0' z1' z2' z6' f0' f1' f2' f6' x0 x1 x2 x6 q0 q1' q2' q6 z0 z1 z2 z6 f0 f1 f2 f6
    have m0 := fun S => Mv.box (lo := w11L) (κ := κQ) S bT14 0 (.slice i61 Q.d.s.length j61)
    have b1 := bT14.set 0 (.slice i61 Q.d.s.length j61)
    have m1 := fun S => Mv.box (lo := w11L) (κ := κQ) S b1 1 (.int .u64 Q.d.c)
    have b2 := b1.set 1 (.int .u64 Q.d.c)
    have m2 := fun S => Mv.box (lo := w11L) (κ := κQ) S b2 2 (.int .u64 Q.d.o)
    have b3 := b2.set 2 (.int .u64 Q.d.o)
    have m3 := fun S => Mv.box (lo := w11L) (κ := κQ) S b3 6 (.slice i64 Q.p.length j64)
    have bTY := (b3.set 6 (.slice i64 Q.p.length j64)).drew
    simp only [List.setIfInBounds_toArray, List.set_cons_zero, List.set_cons_succ] at bTY
    have hQY := (hO14.mv ((((m0 _).trans (m1 _)).trans (m2 _)).trans (m3 _))).below (Below.refl _ _).drew
    have bQY := ((((bQ.other (p := ⟨B10, 0, none⟩) hneQ (.slice i61 Q.d.s.length j61)).other (p := ⟨B10, 1, none⟩) hneQ (.int .u64 Q.d.c)).other (p := ⟨B10, 2, none⟩) hneQ (.int .u64 Q.d.o)).other (p := ⟨B10, 6, none⟩) hneQ (.slice i64 Q.p.length j64)).drew
    have hWY := ((((hW5.setCell (p := ⟨B10, 0, none⟩) (Nat.le_refl _) (.slice i61 Q.d.s.length j61)).setCell (p := ⟨B10, 1, none⟩) (Nat.le_refl _) (.int .u64 Q.d.c)).setCell (p := ⟨B10, 2, none⟩) (Nat.le_refl _) (.int .u64 Q.d.o)).setCell (p := ⟨B10, 6, none⟩) (Nat.le_refl _) (.slice i64 Q.p.length j64)).drew
    generalize ((((V5.setCell ⟨B10, 0, none⟩ (.slice i61 Q.d.s.length j61)).setCell ⟨B10, 1, none⟩ (.int .u64 Q.d.c)).setCell ⟨B10, 2, none⟩ (.int .u64 Q.d.o)).setCell ⟨B10, 6, none⟩ (.slice i64 Q.p.length j64)).drew = Y at bTY hQY bQY hWY ⊢
    rw [← hB10.out] at hWY
    have bSY := bS9.grown hWY
    have hTY := hT9.out.mono hWY
    have hSY := hst9.out.mono hWY
    have hBY := hB9.out.trans (hWY.mono hB9.out.size)
    have hQR := hQY.rd
    have heq := lawEqual_any (.slice i61 Q.d.s.length j61) (.slice i31 S.d.s.length j31) Q.d S.d Y hQR.d hSY.d (by have := hQs.d.n; have := hC.n; omega)
    rw [show eqB Q.d S.d = true by rw [hud.out, eqB_self]] at heq
    have hR2 : StR Y (.slice i61 Q.d.s.length j61) (.slice i42 T.g.length j42) (.slice i43 T.v.length j43) (.slice i64 Q.p.length j64) Q := ⟨hQR.d, by rw [hQl.out.2.1]; exact hTY.g, by rw [hQl.out.2.2]; exact hTY.v, hQR.p⟩
    have hsm : ∀ X, Below Y.heap.size Y X → Calls Try.prog 15 #[stV (.slice i61 Q.d.s.length j61) Q.d.c Q.d.o T.l (.slice i42 T.g.length j42) (.slice i43 T.v.length j43) (.slice i64 Q.p.length j64), stV (.slice i61 Q.d.s.length j61) Q.d.c Q.d.o Q.l (.slice i62 Q.g.length j62) (.slice i63 Q.v.length j63) (.slice i64 Q.p.length j64)] X (BoolBelow true X) := fun X hX => by
      have h := same_any (.slice i61 Q.d.s.length j61) (.slice i42 T.g.length j42) (.slice i43 T.v.length j43) (.slice i64 Q.p.length j64) (.slice i61 Q.d.s.length j61) (.slice i62 Q.g.length j62) (.slice i63 Q.v.length j63) (.slice i64 Q.p.length j64) Q Q X (hR2.mono hX) (hQR.mono hX) hQF
      rw [sameB_self] at h
      rw [← hQl.out.1]
      exact h
    replace heq := Lib.hid heq
    replace hsm := Lib.hid hsm
    clear m0 b1 m1 b2 m2 b3 m3 hQY hWY hTY hSY hQR hR2 hQF hO14 hW5 bT14 bQ
    have x0 := bQY.cell 0 rfl
    have x1 := bQY.cell 1 rfl
    have x2 := bQY.cell 2 rfl
    have s0 := bSY.cell 0 rfl
    have s1 := bSY.cell 1 rfl
    have s2 := bSY.cell 2 rfl
    go_wp2_with fail
    refine heq.out.mono ?_
    rintro e Y1 ⟨rfl, hb18⟩
    have bTY1 := bTY.grown hb18
    have bQY1 := bQY.grown hb18
    have hsm1 := Lib.hid (hsm.out Y1 hb18)
    clear x0 x1 x2 s0 s1 s2
    have x0 := bQY1.cell 0 rfl
    have x1 := bQY1.cell 1 rfl
    have x2 := bQY1.cell 2 rfl
    have x3 := bQY1.cell 3 rfl
    have x4 := bQY1.cell 4 rfl
    have x5 := bQY1.cell 5 rfl
    have x6 := bQY1.cell 6 rfl
    have s0 := bTY1.cell 0 rfl
    have s1 := bTY1.cell 1 rfl
    have s2 := bTY1.cell 2 rfl
    have s3 := bTY1.cell 3 rfl
    have s4 := bTY1.cell 4 rfl
    have s5 := bTY1.cell 5 rfl
    have s6 := bTY1.cell 6 rfl
    go_wp2_with fail
    refine hsm1.out.mono ?_
    rintro e Y2 ⟨rfl, hb19⟩
    go_wp2
    go_ret
    exact ⟨rfl, hBY.trans ((hb18.trans (hb19.mono hb18.size)).mono hBY.size)⟩
end Go.Proofs.Ytgnamahdchefnaa
