/- The walk of ControlRecalls. Conditions: plans and events that come in. -/
import Derived.Test.YtgnamahdchefnaaA6
import Derived.Test.YtgnamahdchefnaaAK
namespace Go.Proofs.Ytgnamahdchefnaa
open Go.RowKit Go.Shelf

set_option linter.unusedVariables false in
set_option maxRecDepth 100000 in
set_option maxHeartbeats 8000000 in
theorem law4_any (v ve vm : Value) (p : Pl) (l more : List Ev) (w : World) (hp : p.Ok) (hv : NumSl .u8 w v p.ss) (hcap : ∃ a cap, v = .slice a p.ss.length cap ∧ p.ss.length ≤ cap) (hl : EvSl w ve l) (hm : EvSl w vm more) :
    Calls Try.prog 4 #[planV v p, ve, vm] w (BoolBelow true w) := by
  have hkn := Lib.hid known_any
  obtain ⟨a, cap, rfl, hcp⟩ := hcap
  have hC := p.con_ok
  have hmk := fun (X : World) (h : Below w.heap.size w X) => Make_any (.slice a p.ss.length cap) p X hp (hv.mono h) ⟨a, cap, rfl, hcp⟩
  have haf := fun (x y : Value) (X : World) (h : Below w.heap.size w X) (h1 : ConR X x y p.con) (h2 : l.length ≤ 1000) => after_any x y ve p.con l X hC h1 (hl.mono h) h2
  generalize p.con = C at hmk haf hC
  replace hmk := Lib.hid hmk
  replace haf := Lib.hid haf
  have hl0 := Lib.hid hl
  obtain ⟨al, cl, rfl⟩ := hl.len
  have hm0 := Lib.hid hm
  obtain ⟨am, cm, rfl⟩ := hm.len
  have hB0 := (Below.refl w.heap.size w).alloc (Nat.le_refl _) (.cells #[.slice a p.ss.length cap, .int .u8 p.co, .int .u8 p.ge, .int .u8 p.lv, .int .u8 p.d0, .int .u8 p.d1, .int .u8 p.d2] 25)
  have b0 := BoxC.new w 25 #[.slice a p.ss.length cap, .int .u8 p.co, .int .u8 p.ge, .int .u8 p.lv, .int .u8 p.d0, .int .u8 p.d1, .int .u8 p.d2]
  clear hp hv hl hm hcp
  by_cases hl8 : 8 < l.length
  · have hlb : decide ((8 : Int) < (l.length : Int)) = true := decide_eq_true (by omega)
    go_enter Try.func4, Try.ntmps4
    go_wp2_with fail
    refine (hkn.out _).mono ?_
    rintro e w1 ⟨rfl, hb1⟩
    have hB1 := hB0.trans (hb1.mono hB0.size)
    go_wp2_with fail
    refine (hkn.out _).mono ?_
    rintro e w2 ⟨rfl, hb2⟩
    go_wp2
    go_ret
    exact ⟨rfl, hB1.trans (hb2.mono hB1.size)⟩
  have hlb : decide ((8 : Int) < (l.length : Int)) = false := decide_eq_false (by omega)
  by_cases hm8 : 8 < more.length
  · have hmb : decide ((8 : Int) < (more.length : Int)) = true := decide_eq_true (by omega)
    go_enter Try.func4, Try.ntmps4
    go_wp2_with fail
    refine (hkn.out _).mono ?_
    rintro e w1 ⟨rfl, hb1⟩
    have hB1 := hB0.trans (hb1.mono hB0.size)
    go_wp2_with fail
    refine (hkn.out _).mono ?_
    rintro e w2 ⟨rfl, hb2⟩
    go_wp2
    go_ret
    exact ⟨rfl, hB1.trans (hb2.mono hB1.size)⟩
  have hmb : decide ((8 : Int) < (more.length : Int)) = false := decide_eq_false (by omega)
  by_cases hg0 : C.ge = 0
  · have hgb : (C.ge == 0) = true := by simpa using hg0
    replace hg0 := Lib.hid hg0
    go_enter Try.func4, Try.ntmps4
    go_wp2_with fail
    refine (hkn.out _).mono ?_
    rintro e w1 ⟨rfl, hb1⟩
    have hB1 := hB0.trans (hb1.mono hB0.size)
    have b1 := b0.grown hb1
    have z0 := b1.cell 0 rfl
    have z1 := b1.cell 1 rfl
    have z2 := b1.cell 2 rfl
    have z3 := b1.cell 3 rfl
    have z4 := b1.cell 4 rfl
    have z5 := b1.cell 5 rfl
    have z6 := b1.cell 6 rfl
    clear hb1 hB0 b0
    go_wp2_with fail
    refine (hmk.out _ hB1).mono ?_
    rintro e w2 ⟨x, y, rfl, hc2, hb2⟩
    obtain ⟨a1, c1, rfl⟩ := hc2.s.len
    obtain ⟨a2, c2, rfl⟩ := hc2.d.lenV hC.dl
    have hB2 := hB1.trans (hb2.mono hB1.size)
    have hb3 := (Below.refl w2.heap.size w2).alloc (Nat.le_refl _) (.cells #[.slice a1 C.s.length c1, .int .i64 C.co, .int .i64 C.ge, .slice a2 C.s.length c2, .int .i64 C.lv] 32)
    have bC := BoxC.new w2 32 #[.slice a1 C.s.length c1, .int .i64 C.co, .int .i64 C.ge, .slice a2 C.s.length c2, .int .i64 C.lv]
    have hc3 := hc2.mono hb3
    have hB3 := hB2.trans (hb3.mono hB2.size)
    clear hb2 hc2 hB2 hB1 b1 z0 z1 z2 z3 z4 z5 z6
    have p0 := bC.cell 0 rfl
    have p1 := bC.cell 1 rfl
    have p2 := bC.cell 2 rfl
    have p3 := bC.cell 3 rfl
    have p4 := bC.cell 4 rfl
    go_wp2_with fail
    go_ret
    exact ⟨rfl, hB3⟩
  have hgb : (C.ge == 0) = false := by simpa using hg0
  have hg1 : 0 < C.ge := by have := hC.ge; omega
  replace hg0 := Lib.hid hg0
  have hdo := Lib.hid (fun (x y xd xg xv xp : Value) (st : St) (k d i : Int) (X : World) h1 h2 h3 => Do_any x y xd xg xv xp C st k d i X hC h1 h2 h3)
  have hrun := Lib.hid (fun (x y xd xg xv xp ve : Value) (st : St) (l : List Ev) (X : World) h1 h2 h3 h4 h5 h6 => Run_ok x y xd xg xv xp ve C st l X hC h1 h2 h3 h4 h5 h6)
  go_enter Try.func4, Try.ntmps4
  go_wp2_with fail
  refine (hkn.out _).mono ?_
  rintro e w1 ⟨rfl, hb1⟩
  have hB1 := hB0.trans (hb1.mono hB0.size)
  have b1 := b0.grown hb1
  have z0 := b1.cell 0 rfl
  have z1 := b1.cell 1 rfl
  have z2 := b1.cell 2 rfl
  have z3 := b1.cell 3 rfl
  have z4 := b1.cell 4 rfl
  have z5 := b1.cell 5 rfl
  have z6 := b1.cell 6 rfl
  clear hb1 hB0 b0
  go_wp2_with fail
  refine (hmk.out _ hB1).mono ?_
  rintro e w2 ⟨x, y, rfl, hc2, hb2⟩
  obtain ⟨a1, c1, rfl⟩ := hc2.s.len
  obtain ⟨a2, c2, rfl⟩ := hc2.d.lenV hC.dl
  have hB2 := hB1.trans (hb2.mono hB1.size)
  have hb3 := (Below.refl w2.heap.size w2).alloc (Nat.le_refl _) (.cells #[.slice a1 C.s.length c1, .int .i64 C.co, .int .i64 C.ge, .slice a2 C.s.length c2, .int .i64 C.lv] 32)
  have bC := BoxC.new w2 32 #[.slice a1 C.s.length c1, .int .i64 C.co, .int .i64 C.ge, .slice a2 C.s.length c2, .int .i64 C.lv]
  have hc3 := hc2.mono hb3
  have hB3 := hB2.trans (hb3.mono hB2.size)
  clear hb2 hc2 hB2 hB1 b1 z0 z1 z2 z3 z4 z5 z6
  have p0 := bC.cell 0 rfl
  have p1 := bC.cell 1 rfl
  have p2 := bC.cell 2 rfl
  have p3 := bC.cell 3 rfl
  have p4 := bC.cell 4 rfl
  go_wp2_with fail
  refine (haf.out _ _ _ hB3 hc3 (by omega)).mono ?_
  rintro e w4 ⟨xd, xg, xv, xp, κ0, rfl, hO, hb4⟩
  have hS := after_sound hC l _ (start_sound hC)
  generalize afterF C (startF C) l = S at hO hS ⊢
  have hst := hO.rd
  obtain ⟨i31, j31, rfl⟩ := hO.d.len
  obtain ⟨i32, j32, rfl⟩ := SlOf.len hO.g.rd
  obtain ⟨i33, j33, rfl⟩ := SlOf.len hO.v.rd
  obtain ⟨i34, j34, rfl⟩ := hO.p.rd.len
  have hb5 := (Below.refl w4.heap.size w4).alloc (Nat.le_refl _) (.cells #[.slice i31 S.d.s.length j31, .int .u64 S.d.c, .int .u64 S.d.o, .int .i64 S.l, .slice i32 S.g.length j32, .slice i33 S.v.length j33, .slice i34 S.p.length j34] 42)
  have bS := BoxC.new w4 42 #[.slice i31 S.d.s.length j31, .int .u64 S.d.c, .int .u64 S.d.o, .int .i64 S.l, .slice i32 S.g.length j32, .slice i33 S.v.length j33, .slice i34 S.p.length j34]
  have bC4 := bC.grown hb4
  have bC5 := bC4.grown hb5
  have hc5 := (hc3.mono hb4).mono hb5
  have hst5 := hst.mono hb5
  have hB4 := hB3.trans (hb4.mono hB3.size)
  have hB5 := hB4.trans (hb5.mono hB4.size)
  clear p0 p1 p2 p3 p4
  have p0 := bC4.cell 0 rfl
  have p1 := bC4.cell 1 rfl
  have p2 := bC4.cell 2 rfl
  have p3 := bC4.cell 3 rfl
  have p4 := bC4.cell 4 rfl
  have hlC := bC4.lt
  clear hO hst hb4 hb5 hc3 bC hB3 hB4
  go_wp2_with fail
  generalize w4.alloc (.cells #[.slice i31 S.d.s.length j31, .int .u64 S.d.c, .int .u64 S.d.o, .int .i64 S.l, .slice i32 S.g.length j32, .slice i33 S.v.length j33, .slice i34 S.p.length j34] 42) = V at bS bC5 hc5 hst5 hB5 ⊢
  generalize w4.heap.size = B8 at bS hlC ⊢
  clear p0 p1 p2 p3 p4 bC4
  refine (hdo.out _ _ _ _ _ _ S 6 0 0 _ hc5 hst5 hS).mono ?_
  rintro e w5 ⟨hb6, ⟨hbad, -⟩ | ⟨-, zd, zg, zv, zp, κ1, rfl, hT⟩⟩
  · exact absurd (set_pos hg1) hbad
  have hTs := do_sound hC hS (set_pos hg1)
  have hT0 := set_held hS hg1
  generalize doF C S 6 0 0 = T at hT hTs hT0 ⊢
  obtain ⟨i41, j41, rfl⟩ := hT.d.len
  obtain ⟨i42, j42, rfl⟩ := SlOf.len hT.g.rd
  obtain ⟨i43, j43, rfl⟩ := SlOf.len hT.v.rd
  obtain ⟨i44, j44, rfl⟩ := hT.p.rd.len
  have hb7 := (Below.refl w5.heap.size w5).alloc (Nat.le_refl _) (.cells #[.slice i41 T.d.s.length j41, .int .u64 T.d.c, .int .u64 T.d.o, .int .i64 T.l, .slice i42 T.g.length j42, .slice i43 T.v.length j43, .slice i44 T.p.length j44] 42)
  have bT := BoxC.new w5 42 #[.slice i41 T.d.s.length j41, .int .u64 T.d.c, .int .u64 T.d.o, .int .i64 T.l, .slice i42 T.g.length j42, .slice i43 T.v.length j43, .slice i44 T.p.length j44]
  have bC6 := bC5.grown hb6
  have bS6 := bS.grown hb6
  have hst6 := hst5.mono hb6
  have hc6 := hc5.mono hb6
  have hO6 := hT.below hb7
  have hB6 := hB5.trans (hb6.mono hB5.size)
  have hV5 := hb6.size
  clear hb6 hT hc5 hst5 bS bC5 hB5
  have hsn : ∀ k, SoundP C (afterR C T (more.take k)) := fun k => afterR_sound hC (more.take k) _ hTs
  have hst2 : ∀ k, k < more.length → afterR C T (more.take (k + 1)) = stepR C (afterR C T (more.take k)) (get more k) := fun k hk => afterR_take hk
  have hst3 : afterR C T (more.take 0) = T := by rw [List.take_zero]; rfl
  have hfin : (afterF C (afterR C T (more.take more.length)) (recEv S.l)).d = S.d := by rw [List.take_length]; exact recalls2 hC hTs hg1 hS.l hT0
  generalize hAF : (fun k => afterR C T (more.take k)) = AF
  have hAF2 : ∀ k, afterR C T (more.take k) = AF k := fun k => by rw [← hAF]
  simp only [hAF2] at hsn hst2 hst3 hfin
  clear hAF hAF2 hT0
  replace hsn := Lib.hid hsn
  replace hst2 := Lib.hid hst2
  replace hst3 := Lib.hid hst3
  replace hfin := Lib.hid hfin
  go_wp2_with fail
  go_loopw [49] (fun i X => ∃ (k : Nat) (κ : Nat → Role) (yd yg yv yp : Value), k ≤ more.length ∧ i = .int .i64 k ∧ BoxC X w5.heap.size 42 (stCs (AF k) yd yg yv yp) ∧ StO V.heap.size κ (AF k) yd yg yv yp X ∧ Below w5.heap.size w5 X) (fun i _ => more.length - (intOf i).toNat)
  case atStart =>
    have e0 : AF 0 = T := hst3.out
    refine ⟨0, κ1, .slice i41 T.d.s.length j41, .slice i42 T.g.length j42, .slice i43 T.v.length j43, .slice i44 T.p.length j44, Nat.zero_le _, rfl, ?_, ?_, hb7⟩
    · rw [e0]; exact bT
    · rw [e0]; exact hO6
  case round =>
    clear bT hO6 hb7
    obtain ⟨k, κ, yd, yg, yv, yp, hk, rfl, bX, hOX, hBX⟩ := hrel
    have hBXw := hB6.trans (hBX.mono hB6.size)
    have bCX := bC6.grown hBX
    have bSX := bS6.grown hBX
    have hcX := hc6.mono hBX
    have hstX := hst6.mono hBX
    have hsk := hsn.out k
    generalize hs1 : AF k = sk at bX hOX hsk
    obtain ⟨i51, j51, rfl⟩ := hOX.d.len
    obtain ⟨i52, j52, rfl⟩ := SlOf.len hOX.g.rd
    obtain ⟨i53, j53, rfl⟩ := SlOf.len hOX.v.rd
    obtain ⟨i54, j54, rfl⟩ := hOX.p.rd.len
    have x0 := bX.cell 0 rfl
    have x1 := bX.cell 1 rfl
    have x2 := bX.cell 2 rfl
    have x3 := bX.cell 3 rfl
    have x4 := bX.cell 4 rfl
    have x5 := bX.cell 5 rfl
    have x6 := bX.cell 6 rfl
    have fx0 := bX.frozen 0
    have fx1 := bX.frozen 1
    have fx2 := bX.frozen 2
    have fx3 := bX.frozen 3
    have fx4 := bX.frozen 4
    have fx5 := bX.frozen 5
    have fx6 := bX.frozen 6
    have p0 := bCX.cell 0 rfl
    have p1 := bCX.cell 1 rfl
    have p2 := bCX.cell 2 rfl
    have p3 := bCX.cell 3 rfl
    have p4 := bCX.cell 4 rfl
    have hblX := bX.lt
    have hblC := bCX.lt
    have hblS := bSX.lt
    by_cases hlt : k < more.length
    · obtain ⟨b, off, cap', he, hc⟩ := (hm0.out.mono hBXw).at hlt
      cases he
      obtain ⟨d0, d1, d2⟩ := hc k hlt
      have hki : (k : Int) < (more.length : Int) := by omega
      have hnx := hst2.out k hlt
      rw [hs1] at hnx
      generalize get more k = ev at d0 d1 d2 hnx
      have hB7 := (Below.refl wr.heap.size wr).alloc (Nat.le_refl _) (.cells #[.int .i64 ev.k, .int .i64 ev.d, .int .i64 ev.i] 28)
      have hBY := hBX.trans (hB7.mono hBX.size)
      have bX5 := bX.grown hB7
      have hO5 := hOX.below hB7
      clear hc
      by_cases hskip : ev.k = 6 ∧ ev.i = 0
      · have e1 : AF (k + 1) = sk := by rw [hnx]; unfold stepR; rw [if_pos hskip]
        have hk6 : (ev.k == 6) = true := by simpa using hskip.1
        have hi0 : (ev.i == 0) = true := by simpa using hskip.2
        replace e1 := Lib.hid e1
        replace hskip := Lib.hid hskip
        clear hnx
        go_wp2_with fail
        go_roundw
        case rel =>
          refine ⟨k + 1, κ, .slice i51 sk.d.s.length j51, .slice i52 sk.g.length j52, .slice i53 sk.v.length j53, .slice i54 sk.p.length j54, by omega, by go_num, ?_, ?_, hBY⟩
          · rw [e1.out]; exact bX5
          · rw [e1.out]; exact hO5
        case measure => simp [intOf]; omega
      · have hnx2 : AF (k + 1) = stepF C sk ev := by rw [hnx]; unfold stepR; rw [if_neg hskip]
        replace hnx2 := Lib.hid hnx2
        clear hnx
        have hp1 := Lib.hid (hdo.out _ _ _ _ _ _ sk ev.k ev.d ev.i _ (hcX.mono hB7) hO5.rd hsk)
        obtain ⟨kb, hkb⟩ : ∃ kb, (ev.k == 6) = kb := ⟨_, rfl⟩
        obtain ⟨ib, hib⟩ : ∃ ib, (ev.i == 0) = ib := ⟨_, rfl⟩
        have hor : kb = false ∨ (kb = true ∧ ib = false) := by
          cases kb
          · exact .inl rfl
          · refine .inr ⟨rfl, ?_⟩
            cases ib
            · rfl
            · exact absurd ⟨by simpa using hkb, by simpa using hib⟩ hskip
        replace hskip := Lib.hid hskip
        have both : True := trivial
        rcases hor with rfl | ⟨rfl, rfl⟩
        · go_wp2_with fail
          refine hp1.out.mono ?_
          rintro e w6 ⟨hb8, hres⟩
          have bX6 := bX5.grown hb8
          have hBZ := hBY.trans (hb8.mono hBY.size)
          clear x0 x1 x2 x3 x4 x5 x6 fx0 fx1 fx2 fx3 fx4 fx5 fx6 p0 p1 p2 p3 p4 d0 d1 d2
          rcases hres with ⟨hps, rfl⟩ | ⟨hps, zd, zg, zv, zp, κ6, rfl, hO6⟩
          · have hO6 := hO5.below hb8
            have e1 : AF (k + 1) = sk := by rw [hnx2.out]; unfold stepF; rw [if_neg hps]
            replace e1 := Lib.hid e1
            generalize posF C sk ev.k ev.d ev.i = pp at hps ⊢
            have hb9 := (Below.refl w6.heap.size w6).alloc (Nat.le_refl _) (.cells #[.slice none 0 0, .int .u64 0, .int .u64 0, .int .i64 0, .slice none 0 0, .slice none 0 0, .slice none 0 0] 42)
            have bX7 := bX6.grown hb9
            have hO7 := hO6.below hb9
            have hBQ := hBZ.trans (hb9.mono hBZ.size)
            have hpb : (pp == 0) = false := by simpa using hps
            clear hnx2
            go_wp2_with fail
            go_roundw
            case rel =>
              refine ⟨k + 1, κ, .slice i51 sk.d.s.length j51, .slice i52 sk.g.length j52, .slice i53 sk.v.length j53, .slice i54 sk.p.length j54, by omega, by go_num, ?_, ?_, hBQ⟩
              · rw [e1.out]; exact bX7
              · rw [e1.out]; exact hO7
            case measure => simp [intOf]; omega
          · have e1 : AF (k + 1) = doF C sk ev.k ev.d ev.i := by rw [hnx2.out]; unfold stepF; rw [if_pos hps]
            generalize doF C sk ev.k ev.d ev.i = s5 at hO6 e1 ⊢
            replace e1 := Lib.hid e1
            obtain ⟨i61, j61, rfl⟩ := hO6.d.len
            obtain ⟨i62, j62, rfl⟩ := SlOf.len hO6.g.rd
            obtain ⟨i63, j63, rfl⟩ := SlOf.len hO6.v.rd
            obtain ⟨i64, j64, rfl⟩ := hO6.p.rd.len
            have hb9 := (Below.refl w6.heap.size w6).alloc (Nat.le_refl _) (.cells #[.slice i61 s5.d.s.length j61, .int .u64 s5.d.c, .int .u64 s5.d.o, .int .i64 s5.l, .slice i62 s5.g.length j62, .slice i63 s5.v.length j63, .slice i64 s5.p.length j64] 42)
            have bX7 := bX6.grown hb9
            have bT := BoxC.new w6 42 #[.slice i61 s5.d.s.length j61, .int .u64 s5.d.c, .int .u64 s5.d.o, .int .i64 s5.l, .slice i62 s5.g.length j62, .slice i63 s5.v.length j63, .slice i64 s5.p.length j64]
            have hO7 := (hO6.mv (Mv.low (lo' := V.heap.size) _ (by have := hBY.size; omega))).below hb9
            have hBQ := hBZ.trans (hb9.mono hBZ.size)
            clear hnx2
            have x0 := bX7.cell 0 rfl
            have x1 := bX7.cell 1 rfl
            have x2 := bX7.cell 2 rfl
            have x3 := bX7.cell 3 rfl
            have x4 := bX7.cell 4 rfl
            have x5 := bX7.cell 5 rfl
            have x6 := bX7.cell 6 rfl
            have fx0 := bX7.frozen 0
            have fx1 := bX7.frozen 1
            have fx2 := bX7.frozen 2
            have fx3 := bX7.frozen 3
            have fx4 := bX7.frozen 4
            have fx5 := bX7.frozen 5
            have fx6 := bX7.frozen 6
            have t0 := bT.cell 0 rfl
            have t1 := bT.cell 1 rfl
            have t2 := bT.cell 2 rfl
            have t3 := bT.cell 3 rfl
            have t4 := bT.cell 4 rfl
            have t5 := bT.cell 5 rfl
            have t6 := bT.cell 6 rfl
            go_wp2_with fail
            have bX8 := bX7.put7 (.slice i61 s5.d.s.length j61) (.int .u64 s5.d.c) (.int .u64 s5.d.o) (.int .i64 s5.l) (.slice i62 s5.g.length j62) (.slice i63 s5.v.length j63) (.slice i64 s5.p.length j64)
            have hO8 := hO7.mv (Mv.put7 _ bX7 (.slice i61 s5.d.s.length j61) (.int .u64 s5.d.c) (.int .u64 s5.d.o) (.int .i64 s5.l) (.slice i62 s5.g.length j62) (.slice i63 s5.v.length j63) (.slice i64 s5.p.length j64))
            have hBR := below_put7 (B := w5.heap.size) (.slice i61 s5.d.s.length j61) (.int .u64 s5.d.c) (.int .u64 s5.d.o) (.int .i64 s5.l) (.slice i62 s5.g.length j62) (.slice i63 s5.v.length j63) (.slice i64 s5.p.length j64) hBQ (Nat.le_refl _)
            go_roundw
            case rel =>
              refine ⟨k + 1, κ6, .slice i61 s5.d.s.length j61, .slice i62 s5.g.length j62, .slice i63 s5.v.length j63, .slice i64 s5.p.length j64, by omega, by go_num, ?_, ?_, hBR⟩
              · rw [e1.out]; exact bX8
              · rw [e1.out]; exact hO8
            case measure => simp [intOf]; omega
        · go_wp2_with fail
          refine hp1.out.mono ?_
          rintro e w6 ⟨hb8, hres⟩
          have bX6 := bX5.grown hb8
          have hBZ := hBY.trans (hb8.mono hBY.size)
          clear x0 x1 x2 x3 x4 x5 x6 fx0 fx1 fx2 fx3 fx4 fx5 fx6 p0 p1 p2 p3 p4 d0 d1 d2
          rcases hres with ⟨hps, rfl⟩ | ⟨hps, zd, zg, zv, zp, κ6, rfl, hO6⟩
          · have hO6 := hO5.below hb8
            have e1 : AF (k + 1) = sk := by rw [hnx2.out]; unfold stepF; rw [if_neg hps]
            replace e1 := Lib.hid e1
            generalize posF C sk ev.k ev.d ev.i = pp at hps ⊢
            have hb9 := (Below.refl w6.heap.size w6).alloc (Nat.le_refl _) (.cells #[.slice none 0 0, .int .u64 0, .int .u64 0, .int .i64 0, .slice none 0 0, .slice none 0 0, .slice none 0 0] 42)
            have bX7 := bX6.grown hb9
            have hO7 := hO6.below hb9
            have hBQ := hBZ.trans (hb9.mono hBZ.size)
            have hpb : (pp == 0) = false := by simpa using hps
            clear hnx2
            go_wp2_with fail
            go_roundw
            case rel =>
              refine ⟨k + 1, κ, .slice i51 sk.d.s.length j51, .slice i52 sk.g.length j52, .slice i53 sk.v.length j53, .slice i54 sk.p.length j54, by omega, by go_num, ?_, ?_, hBQ⟩
              · rw [e1.out]; exact bX7
              · rw [e1.out]; exact hO7
            case measure => simp [intOf]; omega
          · have e1 : AF (k + 1) = doF C sk ev.k ev.d ev.i := by rw [hnx2.out]; unfold stepF; rw [if_pos hps]
            generalize doF C sk ev.k ev.d ev.i = s5 at hO6 e1 ⊢
            replace e1 := Lib.hid e1
            obtain ⟨i61, j61, rfl⟩ := hO6.d.len
            obtain ⟨i62, j62, rfl⟩ := SlOf.len hO6.g.rd
            obtain ⟨i63, j63, rfl⟩ := SlOf.len hO6.v.rd
            obtain ⟨i64, j64, rfl⟩ := hO6.p.rd.len
            have hb9 := (Below.refl w6.heap.size w6).alloc (Nat.le_refl _) (.cells #[.slice i61 s5.d.s.length j61, .int .u64 s5.d.c, .int .u64 s5.d.o, .int .i64 s5.l, .slice i62 s5.g.length j62, .slice i63 s5.v.length j63, .slice i64 s5.p.length j64] 42)
            have bX7 := bX6.grown hb9
            have bT := BoxC.new w6 42 #[.slice i61 s5.d.s.length j61, .int .u64 s5.d.c, .int .u64 s5.d.o, .int .i64 s5.l, .slice i62 s5.g.length j62, .slice i63 s5.v.length j63, .slice i64 s5.p.length j64]
            have hO7 := (hO6.mv (Mv.low (lo' := V.heap.size) _ (by have := hBY.size; omega))).below hb9
            have hBQ := hBZ.trans (hb9.mono hBZ.size)
            clear hnx2
            have x0 := bX7.cell 0 rfl
            have x1 := bX7.cell 1 rfl
            have x2 := bX7.cell 2 rfl
            have x3 := bX7.cell 3 rfl
            have x4 := bX7.cell 4 rfl
            have x5 := bX7.cell 5 rfl
            have x6 := bX7.cell 6 rfl
            have fx0 := bX7.frozen 0
            have fx1 := bX7.frozen 1
            have fx2 := bX7.frozen 2
            have fx3 := bX7.frozen 3
            have fx4 := bX7.frozen 4
            have fx5 := bX7.frozen 5
            have fx6 := bX7.frozen 6
            have t0 := bT.cell 0 rfl
            have t1 := bT.cell 1 rfl
            have t2 := bT.cell 2 rfl
            have t3 := bT.cell 3 rfl
            have t4 := bT.cell 4 rfl
            have t5 := bT.cell 5 rfl
            have t6 := bT.cell 6 rfl
            go_wp2_with fail
            have bX8 := bX7.put7 (.slice i61 s5.d.s.length j61) (.int .u64 s5.d.c) (.int .u64 s5.d.o) (.int .i64 s5.l) (.slice i62 s5.g.length j62) (.slice i63 s5.v.length j63) (.slice i64 s5.p.length j64)
            have hO8 := hO7.mv (Mv.put7 _ bX7 (.slice i61 s5.d.s.length j61) (.int .u64 s5.d.c) (.int .u64 s5.d.o) (.int .i64 s5.l) (.slice i62 s5.g.length j62) (.slice i63 s5.v.length j63) (.slice i64 s5.p.length j64))
            have hBR := below_put7 (B := w5.heap.size) (.slice i61 s5.d.s.length j61) (.int .u64 s5.d.c) (.int .u64 s5.d.o) (.int .i64 s5.l) (.slice i62 s5.g.length j62) (.slice i63 s5.v.length j63) (.slice i64 s5.p.length j64) hBQ (Nat.le_refl _)
            go_roundw
            case rel =>
              refine ⟨k + 1, κ6, .slice i61 s5.d.s.length j61, .slice i62 s5.g.length j62, .slice i63 s5.v.length j63, .slice i64 s5.p.length j64, by omega, by go_num, ?_, ?_, hBR⟩
              · rw [e1.out]; exact bX8
              · rw [e1.out]; exact hO8
            case measure => simp [intOf]; omega
    · obtain rfl : k = more.length := by omega
      have hfn := hfin.out
      rw [hs1] at hfn
      have s3 := bSX.cell 3 rfl
      have s0 := bSX.cell 0 rfl
      have s1 := bSX.cell 1 rfl
      have s2 := bSX.cell 2 rfl
      have hB7 := (Below.refl wr.heap.size wr).alloc (Nat.le_refl _) (.cells #[.int .i64 8, .int .i64 0, .int .i64 S.l, .int .i64 4, .int .i64 0, .int .i64 0] 28)
      have bE := BoxC.new wr 28 #[.int .i64 8, .int .i64 0, .int .i64 S.l, .int .i64 4, .int .i64 0, .int .i64 0]
      have hev := ev_lit (ls := recEv S.l) bE (fun i hi => by
        have h4 : i < 2 := hi
        rcases (by omega : i = 0 ∨ i = 1) with rfl | rfl <;> exact ⟨rfl, rfl, rfl⟩)
      have hr1 := Lib.hid (hrun.out _ _ _ _ _ _ _ sk (recEv S.l) _ (hcX.mono hB7) (hOX.below hB7).rd hsk hev (show 2 ≤ 1000 by omega) (rec_pos hS.l hg1))
      have bS7 := bSX.grown hB7
      have hst7 := hstX.mono hB7
      have hBY := hBXw.trans (hB7.mono hBXw.size)
      generalize hU : afterF C sk (recEv S.l) = U at hr1 hfn
      replace hfn := Lib.hid hfn
      clear hU hev bE
      go_wp2_with fail
      refine hr1.out.mono ?_
      rintro e w6 ⟨ud, ug, uv, up, κ6, rfl, hOU, hb8⟩
      have bS8 := bS7.grown hb8
      have hst8 := hst7.mono hb8
      obtain ⟨i71, j71, rfl⟩ := hOU.d.len
      obtain ⟨i72, j72, rfl⟩ := SlOf.len hOU.g.rd
      obtain ⟨i73, j73, rfl⟩ := SlOf.len hOU.v.rd
      obtain ⟨i74, j74, rfl⟩ := hOU.p.rd.len
      have hb9 := (Below.refl w6.heap.size w6).alloc (Nat.le_refl _) (.cells #[.slice i71 U.d.s.length j71, .int .u64 U.d.c, .int .u64 U.d.o, .int .i64 U.l, .slice i72 U.g.length j72, .slice i73 U.v.length j73, .slice i74 U.p.length j74] 42)
      have heq := lawEqual_any (.slice i71 U.d.s.length j71) (.slice i31 S.d.s.length j31) U.d S.d _ (hOU.below hb9).rd.d (hst8.mono hb9).d (by rw [hfn.out]; have := hS.d.n; have := hC.n; omega)
      rw [show eqB U.d S.d = true by rw [hfn.out, eqB_self]] at heq
      have hBZ := hBY.trans (hb8.mono hBY.size)
      have hBQ := hBZ.trans (hb9.mono hBZ.size)
      replace heq := Lib.hid heq
      clear s0 s1 s2 s3
      have s0 := bS8.cell 0 rfl
      have s1 := bS8.cell 1 rfl
      have s2 := bS8.cell 2 rfl
      have hls := bS8.lt
      go_wp2_with fail
      refine heq.out.mono ?_
      rintro e w7 ⟨rfl, hb10⟩
      go_wp2
      go_ret
      exact ⟨rfl, hBQ.trans (hb10.mono hBQ.size)⟩
end Go.Proofs.Ytgnamahdchefnaa
