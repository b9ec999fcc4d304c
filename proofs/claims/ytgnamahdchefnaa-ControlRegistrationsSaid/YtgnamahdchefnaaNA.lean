/- The contract of the model's do for the events of the kinds 1 to 5. Conditions: consoles of plans, sound states, possible events. -/
import Derived.Test.YtgnamahdchefnaaB6
namespace Go.Proofs.Ytgnamahdchefnaa
open Go.RowKit Go.Shelf

set_option linter.unusedVariables false in
set_option maxRecDepth 100000 in
set_option maxHeartbeats 8000000 in
theorem ldo_k1 (x y xd xg xv xp : Value) (C : Con) (st : St) (d i : Int) (w : World) (hC : C.Ok) (hr : ConR w x y C) (hst : StR w xd xg xv xp st) (hS : SoundP C st) (hpos : posF C st 1 d i = 0) :
    Calls Try.prog 28 #[conV x y C.co C.ge C.lv, stV xd st.d.c st.d.o st.l xg xv xp, evV 1 d i] w (LDoPost (doF C st 1 d i) w) := by
  have hdo : doF C st 1 d i = pushF st (actF C st 1 d.toNat i.toNat) := by unfold doF; rw [if_neg (by decide)]
  rw [hdo]
  clear hdo
  obtain ⟨st1, hst1⟩ : ∃ st1, actF C st 1 d.toNat i.toNat = st1 := ⟨_, rfl⟩
  rw [hst1]
  have hpos0 := hpos
  unfold posF at hpos
  simp at hpos
  obtain ⟨n, rfl⟩ : ∃ n : Nat, d = n := ⟨d.toNat, by omega⟩
  obtain ⟨m, rfl⟩ : ∃ m : Nat, i = m := ⟨i.toNat, by omega⟩
  have hnl : n < C.s.length := by omega
  have hm4 : m ≤ 4 := by have := hC.s n; simp at hpos; omega
  have hsn := hS.d.n
  have hsn1 : C.s.length ≤ st.d.s.length := by omega
  clear hsn
  try simp only [Int.toNat_natCast] at hst1
  replace hst1 := Lib.hid hst1
  obtain ⟨a1, cap1, rfl⟩ := hr.s.len
  obtain ⟨a2, cap2, rfl⟩ := hr.d.lenV hC.dl
  obtain ⟨a3, cap3, rfl⟩ := hst.d.len
  obtain ⟨a4, cap4, rfl⟩ := SlOf.len hst.g
  obtain ⟨a5, cap5, rfl⟩ := SlOf.len hst.v
  obtain ⟨a6, cap6, rfl⟩ := hst.p.len
  have hB := ((((Below.refl w.heap.size w).alloc (Nat.le_refl _) (.cells #[.slice a1 C.s.length cap1, .int .i64 C.co, .int .i64 C.ge, .slice a2 C.s.length cap2, .int .i64 C.lv] 32)).alloc (by simp) (.cells #[.slice a3 st.d.s.length cap3, .int .u64 st.d.c, .int .u64 st.d.o, .int .i64 st.l, .slice a4 st.g.length cap4, .slice a5 st.v.length cap5, .slice a6 st.p.length cap6] 42)).alloc (by simp; omega) (.cells #[.int .i64 1, .int .i64 (n : Int), .int .i64 (m : Int)] 28)).alloc (by simp; omega) (.cells #[.slice none 0 0, .int .u64 0, .int .u64 0, .int .i64 0, .slice none 0 0, .slice none 0 0, .slice none 0 0] 42)
  have bC := (((BoxC.new w 32 #[.slice a1 C.s.length cap1, .int .i64 C.co, .int .i64 C.ge, .slice a2 C.s.length cap2, .int .i64 C.lv]).alloc (.cells #[.slice a3 st.d.s.length cap3, .int .u64 st.d.c, .int .u64 st.d.o, .int .i64 st.l, .slice a4 st.g.length cap4, .slice a5 st.v.length cap5, .slice a6 st.p.length cap6] 42)).alloc (.cells #[.int .i64 1, .int .i64 (n : Int), .int .i64 (m : Int)] 28)).alloc (.cells #[.slice none 0 0, .int .u64 0, .int .u64 0, .int .i64 0, .slice none 0 0, .slice none 0 0, .slice none 0 0] 42)
  have bS := ((BoxC.new (w.alloc (.cells #[.slice a1 C.s.length cap1, .int .i64 C.co, .int .i64 C.ge, .slice a2 C.s.length cap2, .int .i64 C.lv] 32)) 42 #[.slice a3 st.d.s.length cap3, .int .u64 st.d.c, .int .u64 st.d.o, .int .i64 st.l, .slice a4 st.g.length cap4, .slice a5 st.v.length cap5, .slice a6 st.p.length cap6]).alloc (.cells #[.int .i64 1, .int .i64 (n : Int), .int .i64 (m : Int)] 28)).alloc (.cells #[.slice none 0 0, .int .u64 0, .int .u64 0, .int .i64 0, .slice none 0 0, .slice none 0 0, .slice none 0 0] 42)
  have bE := (BoxC.new ((w.alloc (.cells #[.slice a1 C.s.length cap1, .int .i64 C.co, .int .i64 C.ge, .slice a2 C.s.length cap2, .int .i64 C.lv] 32)).alloc (.cells #[.slice a3 st.d.s.length cap3, .int .u64 st.d.c, .int .u64 st.d.o, .int .i64 st.l, .slice a4 st.g.length cap4, .slice a5 st.v.length cap5, .slice a6 st.p.length cap6] 42)) 28 #[.int .i64 1, .int .i64 (n : Int), .int .i64 (m : Int)]).alloc (.cells #[.slice none 0 0, .int .u64 0, .int .u64 0, .int .i64 0, .slice none 0 0, .slice none 0 0, .slice none 0 0] 42)
  have bR := BoxC.new (((w.alloc (.cells #[.slice a1 C.s.length cap1, .int .i64 C.co, .int .i64 C.ge, .slice a2 C.s.length cap2, .int .i64 C.lv] 32)).alloc (.cells #[.slice a3 st.d.s.length cap3, .int .u64 st.d.c, .int .u64 st.d.o, .int .i64 st.l, .slice a4 st.g.length cap4, .slice a5 st.v.length cap5, .slice a6 st.p.length cap6] 42)).alloc (.cells #[.int .i64 1, .int .i64 (n : Int), .int .i64 (m : Int)] 28)) 42 #[.slice none 0 0, .int .u64 0, .int .u64 0, .int .i64 0, .slice none 0 0, .slice none 0 0, .slice none 0 0]
  simp only [World.size_alloc] at bS bE bR
  have hpp := lawPossible_any (.slice a1 C.s.length cap1) (.slice a2 C.s.length cap2) (.slice a3 st.d.s.length cap3) (.slice a4 st.g.length cap4) (.slice a5 st.v.length cap5) (.slice a6 st.p.length cap6) C st 1 (n : Int) (m : Int) _ hC (hr.mono hB) (hst.mono hB)
  rw [hpos0] at hpp
  replace hpp := Lib.hid hpp
  have hF := hS.fit hC
  have hsl : st.d.s.length ≤ 1000 := hF.d
  have hslC := Lib.hid hS.d.n
  have hpn := hS.pn
  have hS0 := Lib.hid hS
  have hC0 := Lib.hid hC
  have hst0 := Lib.hid (hst.mono hB)
  have hr0 := Lib.hid (hr.mono hB)
  clear hS hC hst hr hpos0
  go_enter Try.func28, Try.ntmps28
  go_wp2_with fail
  generalize hW : (((w.alloc (.cells #[.slice a1 C.s.length cap1, .int .i64 C.co, .int .i64 C.ge, .slice a2 C.s.length cap2, .int .i64 C.lv] 32)).alloc (.cells #[.slice a3 st.d.s.length cap3, .int .u64 st.d.c, .int .u64 st.d.o, .int .i64 st.l, .slice a4 st.g.length cap4, .slice a5 st.v.length cap5, .slice a6 st.p.length cap6] 42)).alloc (.cells #[.int .i64 1, .int .i64 (n : Int), .int .i64 (m : Int)] 28)).alloc (.cells #[.slice none 0 0, .int .u64 0, .int .u64 0, .int .i64 0, .slice none 0 0, .slice none 0 0, .slice none 0 0] 42) = W at hB bC bS bE bR hpp hst0 hr0 ⊢
  have hWs : W.heap.size = w.heap.size + 4 := by rw [← hW]; simp
  clear hW
  replace hWs := Lib.hid hWs
  refine hpp.out.mono ?_
  rintro e w1 ⟨rfl, hb1⟩
  have bS1 := bS.grown hb1
  have htw := twin_any (.slice a3 st.d.s.length cap3) (.slice a4 st.g.length cap4) (.slice a5 st.v.length cap5) (.slice a6 st.p.length cap6) st w1 (hst0.out.mono hb1) hF
  replace htw := Lib.hid htw
  have x0 := bS1.cell 0 rfl
  have x1 := bS1.cell 1 rfl
  have x2 := bS1.cell 2 rfl
  have x3 := bS1.cell 3 rfl
  have x4 := bS1.cell 4 rfl
  have x5 := bS1.cell 5 rfl
  have x6 := bS1.cell 6 rfl
  clear bS1
  go_wp2_with fail
  refine htw.out.mono ?_
  rintro e w2 ⟨yd, yg, yv, yp, κ, rfl, hO, hb2⟩
  obtain ⟨g3, q3, rfl⟩ := hO.d.len
  obtain ⟨g4, q4, rfl⟩ := SlOf.len hO.g.rd
  obtain ⟨g5, q5, rfl⟩ := SlOf.len hO.v.rd
  obtain ⟨g6, q6, rfl⟩ := hO.p.rd.len
  have hb12 := hb1.trans (hb2.mono hb1.size)
  have hb3 := (Below.refl w2.heap.size w2).alloc (Nat.le_refl _) (.cells #[.slice g3 st.d.s.length q3, .int .u64 st.d.c, .int .u64 st.d.o, .int .i64 st.l, .slice g4 st.g.length q4, .slice g5 st.v.length q5, .slice g6 st.p.length q6] 42)
  have M : LMid W.heap.size κ W w2.heap.size st (.slice g3 st.d.s.length q3) (.slice g4 st.g.length q4) (.slice g5 st.v.length q5) (.slice g6 st.p.length q6) (w2.alloc (.cells #[.slice g3 st.d.s.length q3, .int .u64 st.d.c, .int .u64 st.d.o, .int .i64 st.l, .slice g4 st.g.length q4, .slice g5 st.v.length q5, .slice g6 st.p.length q6] 42)) := {
    b := BoxC.new w2 42 _
    o := (hO.mv (Mv.low _ hb1.size)).below hb3
    bl := hb12.trans (hb3.mono hb12.size)
    le := hb12.size
    ls := Nat.le_trans hb12.size hb3.size }
  have z0 := (bE.grown hb12).cell 0 rfl
  have z1 := (bE.grown hb12).cell 1 rfl
  have z2 := (bE.grown hb12).cell 2 rfl
  have hzE := (bE.grown hb12).lt
  clear htw hO x0 x1 x2 x3 x4 x5 x6 hpp
  go_upto_region 7 with (fail)
  generalize w2.alloc (.cells #[.slice g3 st.d.s.length q3, .int .u64 st.d.c, .int .u64 st.d.o, .int .i64 st.l, .slice g4 st.g.length q4, .slice g5 st.v.length q5, .slice g6 st.p.length q6] 42) = Z at M hb3 ⊢
  generalize w2.heap.size = B at M hb3 ⊢
  have bE' := bE.grown M.bl
  have hZ4 : w.heap.size + 4 ≤ B := by have := M.le; have := hWs.out; omega
  generalize κ = κ1 at M
  clear hb12 hb3 hb2 hb1 z0 z1 z2 hzE
  obtain ⟨g, off, cp, he, hg, hk, hgl, hnc, hmx, hcur, hcell, hfz⟩ := RowX.at2 M.o.d (by omega)
  cases he
  have hnl2 : n < st.d.s.length := by omega
  have x0 : Z.drew.cell? ⟨B, 0, none⟩ = some (.slice (some ⟨g, off, none⟩) st.d.s.length q3) := M.b.cell 0 rfl
  have y1 : Z.drew.cell? ⟨w.heap.size + 1 + 1, 1, none⟩ = some (.int .i64 (n : Int)) := bE'.cell 1 rfl
  have y2 : Z.drew.cell? ⟨w.heap.size + 1 + 1, 2, none⟩ = some (.int .i64 (m : Int)) := bE'.cell 2 rfl
  have c1 : Z.drew.cell? ⟨g, off + n, none⟩ = some (.int .u64 (nth st.d.s n)) := hcell n (by omega)
  have f1 : Z.drew.frozen? ⟨g, off + n, none⟩ = false := hfz _
  have hni : (n : Int) < (st.d.s.length : Int) := by omega
  generalize hzv : nth st.d.s n = zv at c1
  replace hzv := Lib.hid hzv
  clear hcell hfz
  go_still_tail 12, (by kernel_rfl)
  change wpList _ _ _ _ _ Z.drew
  go_upto_region 28 with (fail)
  have hact : st1 = ⟨⟨st.d.s.set n (tog zv m), st.d.c, st.d.o⟩, st.l, st.g, st.v, st.p⟩ := by rw [← hst1.out, ← hzv.out]; simp [actF]
  have M1 := (M.putD hg hk hcur hnl2 (bits BinOp.xor IntKind.u64 zv (IntKind.u64.wrap (2 ^ m)))).drew
  rw [show ({ st with d := ⟨st.d.s.set n (bits BinOp.xor IntKind.u64 zv (IntKind.u64.wrap (2 ^ m))), st.d.c, st.d.o⟩ } : St) = st1 from hact.symm] at M1
  generalize (Z.setCell ⟨g, off + n, none⟩ (.int .u64 (bits BinOp.xor IntKind.u64 zv (IntKind.u64.wrap (2 ^ m))))).drew = Y at M1 ⊢
  clear M x0 y1 y2 c1 f1 hcur
  have hp1 : st1.p.length = st.p.length := by rw [hact]
  have hs1 : st1.d.s.length = C.s.length := by rw [hact]; simpa using hslC.out
  have hn3 := hC0.out.n
  clear hact
  have bS' := bS.grown M1.bl
  have hsY := hst0.out.mono M1.bl
  have heq := lawEqual_any (.slice (some ⟨g, off, none⟩) st.d.s.length q3) (.slice a3 st.d.s.length cap3) st1.d st.d Y M1.o.d.num hsY.d (by omega)
  have r0 := M1.b.cell 0 rfl
  have r1 := M1.b.cell 1 rfl
  have r2 := M1.b.cell 2 rfl
  have t0 := bS'.cell 0 rfl
  have t1 := bS'.cell 1 rfl
  have t2 := bS'.cell 2 rfl
  replace hp1 := Lib.hid hp1
  replace hs1 := Lib.hid hs1
  clear hsY
  cases hq : eqB st1.d st.d
  · rw [hq] at heq
    have hpu : pushF st st1 = { st1 with p := (st1.p ++ [st.d]).drop ((st1.p ++ [st.d]).length - 20) } := by
      unfold pushF
      rw [if_neg (by simp [hq])]
    clear hq
    replace heq := Lib.hid heq
    have hpuH := Lib.hid hpu
    clear hpu
    go_wp2_with fail
    refine heq.out.mono ?_
    rintro e Y2 ⟨rfl, hb4⟩
    have M2 := M1.below hb4
    have bS2 := bS'.grown hb4
    have hp20 : st1.p.length ≤ 20 := by rw [hp1.out]; exact hpn
    rw [← hp1.out] at M2
    clear r0 r1 r2 t0 t1 t2 heq M1 bS' hb4
    go_wp2_with fail
    refine reg29 hsl hp20 bS2 ⟨rfl, rfl, rfl⟩ hst0.out.d M2 ?_
    intro s p7 κ2 g7 o7 c7 Y5 M5 hc7 hm7
    have x6 := M5.b.cell 6 rfl
    have e6 := M5.b.frozen 6
    have hlB5 := M5.b.lt
    have bR5 := bR.grown M5.bl
    have hcl7 : (st1.p.length : Int) + 1 ≤ (c7 : Int) := by omega
    have hpu := hpuH.out
    clear M2 bS2 hpuH
    by_cases h20 : st1.p.length + 1 ≤ 20
    · have hif : (if (st1.p.length : Int) + 1 - 20 < 0 then (0 : Int) else (st1.p.length : Int) + 1 - 20) = 0 := by split <;> omega
      have hdr0 : (st1.p ++ [st.d]).drop ((st1.p ++ [st.d]).length - 20) = st1.p ++ [st.d] := by
        rw [List.length_append, List.length_singleton, show st1.p.length + 1 - 20 = 0 by omega, List.drop_zero]
      rw [hdr0] at hpu
      replace hpu := Lib.hid hpu
      clear h20 hdr0
      go_upto_region 31 with (fail)
      have M6 := M5.put (st' := { st1 with p := st1.p ++ [st.d] }) 6 (.slice (some ⟨g7, o7, none⟩) (st1.p.length + 1) c7) rfl rfl rfl rfl rfl
      generalize Y5.setCell ⟨B, 6, none⟩ (.slice (some ⟨g7, o7, none⟩) (st1.p.length + 1) c7) = Y6 at M6 ⊢
      have bR6 := bR.grown M6.bl
      clear M5 x6 e6 hlB5 bR5 hif
      generalize hst6 : ({ st1 with p := st1.p ++ [st.d] } : St) = s6 at M6 hpu
      replace hst6 := Lib.hid hst6
      have x0 := M6.b.cell 0 rfl
      have x1 := M6.b.cell 1 rfl
      have x2 := M6.b.cell 2 rfl
      have x3 := M6.b.cell 3 rfl
      have x4 := M6.b.cell 4 rfl
      have x5 := M6.b.cell 5 rfl
      have x6 := M6.b.cell 6 rfl
      have r0 := bR6.cell 0 rfl
      have r1 := bR6.cell 1 rfl
      have r2 := bR6.cell 2 rfl
      have r3 := bR6.cell 3 rfl
      have r4 := bR6.cell 4 rfl
      have r5 := bR6.cell 5 rfl
      have r6 := bR6.cell 6 rfl
      have e0 := bR6.frozen 0
      have e1 := bR6.frozen 1
      have e2 := bR6.frozen 2
      have e3 := bR6.frozen 3
      have e4 := bR6.frozen 4
      have e5 := bR6.frozen 5
      have e6 := bR6.frozen 6
      have hWs2 := hWs.out
      have hW4 := hB.trans (M6.bl.mono hB.size)
      go_wp2
      refine bodyPost_ret (ret_cell_tmp Try.results28 rfl rfl (bR6.put7 _ _ _ _ _ _ _) Try.underlying42 size42) rfl ?_
      rw [hpu.out]
      exact ⟨_, _, _, _, κ2, rfl, (M6.o.mv (Mv.low _ hB.size)).mv (Mv.put7 _ bR6 _ _ _ _ _ _ _), below_put7 _ _ _ _ _ _ _ hW4 (by omega)⟩
    · have hif : (if (st1.p.length : Int) + 1 - 20 < 0 then (0 : Int) else (st1.p.length : Int) + 1 - 20) = 1 := by split <;> omega
      have hdr0 : (st1.p ++ [st.d]).drop ((st1.p ++ [st.d]).length - 20) = (st1.p ++ [st.d]).drop 1 := by
        rw [List.length_append, List.length_singleton, show st1.p.length + 1 - 20 = 1 by omega]
      have hc71 : ¬ c7 = 1 := by omega
      have hle1 : (1 : Int) ≤ (st1.p.length : Int) + 1 := by omega
      rw [hdr0] at hpu
      replace hpu := Lib.hid hpu
      clear h20 hdr0
      have hl19 := Lib.hid (show st1.p.length - 19 = 1 by omega)
      go_upto_region 31 with (fail)
      rw [hl19.out, Nat.one_mul]
      have M6 := M5.cut (by simp) (by omega)
      generalize Y5.setCell ⟨B, 6, none⟩ (.slice (some ⟨g7, o7 + 3, none⟩) (st1.p.length + 1 - 1) (c7 - 1)) = Y6 at M6 ⊢
      have bR6 := bR.grown M6.bl
      clear M5 x6 e6 hlB5 bR5 hif hc71 hle1
      generalize hst6 : ({ st1 with p := (st1.p ++ [st.d]).drop 1 } : St) = s6 at M6 hpu
      replace hst6 := Lib.hid hst6
      have x0 := M6.b.cell 0 rfl
      have x1 := M6.b.cell 1 rfl
      have x2 := M6.b.cell 2 rfl
      have x3 := M6.b.cell 3 rfl
      have x4 := M6.b.cell 4 rfl
      have x5 := M6.b.cell 5 rfl
      have x6 := M6.b.cell 6 rfl
      have r0 := bR6.cell 0 rfl
      have r1 := bR6.cell 1 rfl
      have r2 := bR6.cell 2 rfl
      have r3 := bR6.cell 3 rfl
      have r4 := bR6.cell 4 rfl
      have r5 := bR6.cell 5 rfl
      have r6 := bR6.cell 6 rfl
      have e0 := bR6.frozen 0
      have e1 := bR6.frozen 1
      have e2 := bR6.frozen 2
      have e3 := bR6.frozen 3
      have e4 := bR6.frozen 4
      have e5 := bR6.frozen 5
      have e6 := bR6.frozen 6
      have hWs2 := hWs.out
      have hW4 := hB.trans (M6.bl.mono hB.size)
      go_wp2
      refine bodyPost_ret (ret_cell_tmp Try.results28 rfl rfl (bR6.put7 _ _ _ _ _ _ _) Try.underlying42 size42) rfl ?_
      rw [hpu.out]
      exact ⟨_, _, _, _, kshift κ2, rfl, (M6.o.mv (Mv.low _ hB.size)).mv (Mv.put7 _ bR6 _ _ _ _ _ _ _), below_put7 _ _ _ _ _ _ _ hW4 (by omega)⟩
  · rw [hq] at heq
    have hpu : pushF st st1 = st1 := by
      unfold pushF
      rw [if_pos hq]
    replace hpu := Lib.hid hpu
    clear hq
    replace heq := Lib.hid heq
    go_wp2_with fail
    refine heq.out.mono ?_
    rintro e Y6 ⟨rfl, hb4⟩
    have M6 := M1.below hb4
    have bR6 := bR.grown M6.bl
    clear r0 r1 r2 t0 t1 t2 heq M1 bS' hb4
    have x0 := M6.b.cell 0 rfl
    have x1 := M6.b.cell 1 rfl
    have x2 := M6.b.cell 2 rfl
    have x3 := M6.b.cell 3 rfl
    have x4 := M6.b.cell 4 rfl
    have x5 := M6.b.cell 5 rfl
    have x6 := M6.b.cell 6 rfl
    have r0 := bR6.cell 0 rfl
    have r1 := bR6.cell 1 rfl
    have r2 := bR6.cell 2 rfl
    have r3 := bR6.cell 3 rfl
    have r4 := bR6.cell 4 rfl
    have r5 := bR6.cell 5 rfl
    have r6 := bR6.cell 6 rfl
    have e0 := bR6.frozen 0
    have e1 := bR6.frozen 1
    have e2 := bR6.frozen 2
    have e3 := bR6.frozen 3
    have e4 := bR6.frozen 4
    have e5 := bR6.frozen 5
    have e6 := bR6.frozen 6
    have hWs2 := hWs.out
    have hW4 := hB.trans (M6.bl.mono hB.size)
    go_wp2
    refine bodyPost_ret (ret_cell_tmp Try.results28 rfl rfl (bR6.put7 _ _ _ _ _ _ _) Try.underlying42 size42) rfl ?_
    rw [hpu.out]
    exact ⟨_, _, _, _, κ1, rfl, (M6.o.mv (Mv.low _ hB.size)).mv (Mv.put7 _ bR6 _ _ _ _ _ _ _), below_put7 _ _ _ _ _ _ _ hW4 (by omega)⟩
end Go.Proofs.Ytgnamahdchefnaa
namespace Go.Proofs.Ytgnamahdchefnaa
open Go.RowKit Go.Shelf

set_option linter.unusedVariables false in
set_option maxRecDepth 100000 in
set_option maxHeartbeats 8000000 in
theorem ldo_k2 (x y xd xg xv xp : Value) (C : Con) (st : St) (d i : Int) (w : World) (hC : C.Ok) (hr : ConR w x y C) (hst : StR w xd xg xv xp st) (hS : SoundP C st) (hpos : posF C st 2 d i = 0) :
    Calls Try.prog 28 #[conV x y C.co C.ge C.lv, stV xd st.d.c st.d.o st.l xg xv xp, evV 2 d i] w (LDoPost (doF C st 2 d i) w) := by
  have hdo : doF C st 2 d i = pushF st (actF C st 2 d.toNat i.toNat) := by unfold doF; rw [if_neg (by decide)]
  rw [hdo]
  clear hdo
  obtain ⟨st1, hst1⟩ : ∃ st1, actF C st 2 d.toNat i.toNat = st1 := ⟨_, rfl⟩
  rw [hst1]
  have hpos0 := hpos
  unfold posF at hpos
  simp at hpos
  obtain ⟨m, rfl⟩ : ∃ m : Nat, i = m := ⟨i.toNat, by omega⟩
  have hm3 : m ≤ 3 := by have := hC.co; omega
  try simp only [Int.toNat_natCast] at hst1
  replace hst1 := Lib.hid hst1
  obtain ⟨a1, cap1, rfl⟩ := hr.s.len
  obtain ⟨a2, cap2, rfl⟩ := hr.d.lenV hC.dl
  obtain ⟨a3, cap3, rfl⟩ := hst.d.len
  obtain ⟨a4, cap4, rfl⟩ := SlOf.len hst.g
  obtain ⟨a5, cap5, rfl⟩ := SlOf.len hst.v
  obtain ⟨a6, cap6, rfl⟩ := hst.p.len
  have hB := ((((Below.refl w.heap.size w).alloc (Nat.le_refl _) (.cells #[.slice a1 C.s.length cap1, .int .i64 C.co, .int .i64 C.ge, .slice a2 C.s.length cap2, .int .i64 C.lv] 32)).alloc (by simp) (.cells #[.slice a3 st.d.s.length cap3, .int .u64 st.d.c, .int .u64 st.d.o, .int .i64 st.l, .slice a4 st.g.length cap4, .slice a5 st.v.length cap5, .slice a6 st.p.length cap6] 42)).alloc (by simp; omega) (.cells #[.int .i64 2, .int .i64 d, .int .i64 (m : Int)] 28)).alloc (by simp; omega) (.cells #[.slice none 0 0, .int .u64 0, .int .u64 0, .int .i64 0, .slice none 0 0, .slice none 0 0, .slice none 0 0] 42)
  have bC := (((BoxC.new w 32 #[.slice a1 C.s.length cap1, .int .i64 C.co, .int .i64 C.ge, .slice a2 C.s.length cap2, .int .i64 C.lv]).alloc (.cells #[.slice a3 st.d.s.length cap3, .int .u64 st.d.c, .int .u64 st.d.o, .int .i64 st.l, .slice a4 st.g.length cap4, .slice a5 st.v.length cap5, .slice a6 st.p.length cap6] 42)).alloc (.cells #[.int .i64 2, .int .i64 d, .int .i64 (m : Int)] 28)).alloc (.cells #[.slice none 0 0, .int .u64 0, .int .u64 0, .int .i64 0, .slice none 0 0, .slice none 0 0, .slice none 0 0] 42)
  have bS := ((BoxC.new (w.alloc (.cells #[.slice a1 C.s.length cap1, .int .i64 C.co, .int .i64 C.ge, .slice a2 C.s.length cap2, .int .i64 C.lv] 32)) 42 #[.slice a3 st.d.s.length cap3, .int .u64 st.d.c, .int .u64 st.d.o, .int .i64 st.l, .slice a4 st.g.length cap4, .slice a5 st.v.length cap5, .slice a6 st.p.length cap6]).alloc (.cells #[.int .i64 2, .int .i64 d, .int .i64 (m : Int)] 28)).alloc (.cells #[.slice none 0 0, .int .u64 0, .int .u64 0, .int .i64 0, .slice none 0 0, .slice none 0 0, .slice none 0 0] 42)
  have bE := (BoxC.new ((w.alloc (.cells #[.slice a1 C.s.length cap1, .int .i64 C.co, .int .i64 C.ge, .slice a2 C.s.length cap2, .int .i64 C.lv] 32)).alloc (.cells #[.slice a3 st.d.s.length cap3, .int .u64 st.d.c, .int .u64 st.d.o, .int .i64 st.l, .slice a4 st.g.length cap4, .slice a5 st.v.length cap5, .slice a6 st.p.length cap6] 42)) 28 #[.int .i64 2, .int .i64 d, .int .i64 (m : Int)]).alloc (.cells #[.slice none 0 0, .int .u64 0, .int .u64 0, .int .i64 0, .slice none 0 0, .slice none 0 0, .slice none 0 0] 42)
  have bR := BoxC.new (((w.alloc (.cells #[.slice a1 C.s.length cap1, .int .i64 C.co, .int .i64 C.ge, .slice a2 C.s.length cap2, .int .i64 C.lv] 32)).alloc (.cells #[.slice a3 st.d.s.length cap3, .int .u64 st.d.c, .int .u64 st.d.o, .int .i64 st.l, .slice a4 st.g.length cap4, .slice a5 st.v.length cap5, .slice a6 st.p.length cap6] 42)).alloc (.cells #[.int .i64 2, .int .i64 d, .int .i64 (m : Int)] 28)) 42 #[.slice none 0 0, .int .u64 0, .int .u64 0, .int .i64 0, .slice none 0 0, .slice none 0 0, .slice none 0 0]
  simp only [World.size_alloc] at bS bE bR
  have hpp := lawPossible_any (.slice a1 C.s.length cap1) (.slice a2 C.s.length cap2) (.slice a3 st.d.s.length cap3) (.slice a4 st.g.length cap4) (.slice a5 st.v.length cap5) (.slice a6 st.p.length cap6) C st 2 d (m : Int) _ hC (hr.mono hB) (hst.mono hB)
  rw [hpos0] at hpp
  replace hpp := Lib.hid hpp
  have hF := hS.fit hC
  have hsl : st.d.s.length ≤ 1000 := hF.d
  have hslC := Lib.hid hS.d.n
  have hpn := hS.pn
  have hS0 := Lib.hid hS
  have hC0 := Lib.hid hC
  have hst0 := Lib.hid (hst.mono hB)
  have hr0 := Lib.hid (hr.mono hB)
  clear hS hC hst hr hpos0
  go_enter Try.func28, Try.ntmps28
  go_wp2_with fail
  generalize hW : (((w.alloc (.cells #[.slice a1 C.s.length cap1, .int .i64 C.co, .int .i64 C.ge, .slice a2 C.s.length cap2, .int .i64 C.lv] 32)).alloc (.cells #[.slice a3 st.d.s.length cap3, .int .u64 st.d.c, .int .u64 st.d.o, .int .i64 st.l, .slice a4 st.g.length cap4, .slice a5 st.v.length cap5, .slice a6 st.p.length cap6] 42)).alloc (.cells #[.int .i64 2, .int .i64 d, .int .i64 (m : Int)] 28)).alloc (.cells #[.slice none 0 0, .int .u64 0, .int .u64 0, .int .i64 0, .slice none 0 0, .slice none 0 0, .slice none 0 0] 42) = W at hB bC bS bE bR hpp hst0 hr0 ⊢
  have hWs : W.heap.size = w.heap.size + 4 := by rw [← hW]; simp
  clear hW
  replace hWs := Lib.hid hWs
  refine hpp.out.mono ?_
  rintro e w1 ⟨rfl, hb1⟩
  have bS1 := bS.grown hb1
  have htw := twin_any (.slice a3 st.d.s.length cap3) (.slice a4 st.g.length cap4) (.slice a5 st.v.length cap5) (.slice a6 st.p.length cap6) st w1 (hst0.out.mono hb1) hF
  replace htw := Lib.hid htw
  have x0 := bS1.cell 0 rfl
  have x1 := bS1.cell 1 rfl
  have x2 := bS1.cell 2 rfl
  have x3 := bS1.cell 3 rfl
  have x4 := bS1.cell 4 rfl
  have x5 := bS1.cell 5 rfl
  have x6 := bS1.cell 6 rfl
  clear bS1
  go_wp2_with fail
  refine htw.out.mono ?_
  rintro e w2 ⟨yd, yg, yv, yp, κ, rfl, hO, hb2⟩
  obtain ⟨g3, q3, rfl⟩ := hO.d.len
  obtain ⟨g4, q4, rfl⟩ := SlOf.len hO.g.rd
  obtain ⟨g5, q5, rfl⟩ := SlOf.len hO.v.rd
  obtain ⟨g6, q6, rfl⟩ := hO.p.rd.len
  have hb12 := hb1.trans (hb2.mono hb1.size)
  have hb3 := (Below.refl w2.heap.size w2).alloc (Nat.le_refl _) (.cells #[.slice g3 st.d.s.length q3, .int .u64 st.d.c, .int .u64 st.d.o, .int .i64 st.l, .slice g4 st.g.length q4, .slice g5 st.v.length q5, .slice g6 st.p.length q6] 42)
  have M : LMid W.heap.size κ W w2.heap.size st (.slice g3 st.d.s.length q3) (.slice g4 st.g.length q4) (.slice g5 st.v.length q5) (.slice g6 st.p.length q6) (w2.alloc (.cells #[.slice g3 st.d.s.length q3, .int .u64 st.d.c, .int .u64 st.d.o, .int .i64 st.l, .slice g4 st.g.length q4, .slice g5 st.v.length q5, .slice g6 st.p.length q6] 42)) := {
    b := BoxC.new w2 42 _
    o := (hO.mv (Mv.low _ hb1.size)).below hb3
    bl := hb12.trans (hb3.mono hb12.size)
    le := hb12.size
    ls := Nat.le_trans hb12.size hb3.size }
  have z0 := (bE.grown hb12).cell 0 rfl
  have z1 := (bE.grown hb12).cell 1 rfl
  have z2 := (bE.grown hb12).cell 2 rfl
  have hzE := (bE.grown hb12).lt
  clear htw hO x0 x1 x2 x3 x4 x5 x6 hpp
  go_upto_region 9 with (fail)
  generalize w2.alloc (.cells #[.slice g3 st.d.s.length q3, .int .u64 st.d.c, .int .u64 st.d.o, .int .i64 st.l, .slice g4 st.g.length q4, .slice g5 st.v.length q5, .slice g6 st.p.length q6] 42) = Z at M hb3 ⊢
  generalize w2.heap.size = B at M hb3 ⊢
  have bE' := bE.grown M.bl
  have hZ4 : w.heap.size + 4 ≤ B := by have := M.le; have := hWs.out; omega
  generalize κ = κ1 at M
  clear hb12 hb3 hb2 hb1 z0 z1 z2 hzE
  have x1 : Z.drew.cell? ⟨B, 1, none⟩ = some (.int .u64 st.d.c) := M.b.cell 1 rfl
  have f1 : Z.drew.frozen? ⟨B, 1, none⟩ = false := M.b.frozen 1
  have y2 : Z.drew.cell? ⟨w.heap.size + 1 + 1, 2, none⟩ = some (.int .i64 (m : Int)) := bE'.cell 2 rfl
  go_still_tail 9, (by kernel_rfl)
  change wpList _ _ _ _ _ Z.drew
  go_upto_region 28 with (fail)
  have hact : st1 = ⟨⟨st.d.s, tog st.d.c m, st.d.o⟩, st.l, st.g, st.v, st.p⟩ := by rw [← hst1.out]; simp [actF]
  have M1 : LMid W.heap.size κ1 W B st1 (.slice g3 st.d.s.length q3) (.slice g4 st.g.length q4) (.slice g5 st.v.length q5) (.slice g6 st.p.length q6) ((Z.setCell ⟨B, 1, none⟩ (.int .u64 (bits BinOp.xor IntKind.u64 st.d.c (IntKind.u64.wrap (2 ^ m))))).drew) := by
    rw [hact]
    exact (M.put (st' := ⟨⟨st.d.s, tog st.d.c m, st.d.o⟩, st.l, st.g, st.v, st.p⟩) 1 (.int .u64 (bits BinOp.xor IntKind.u64 st.d.c (IntKind.u64.wrap (2 ^ m)))) rfl rfl rfl rfl rfl).drew
  generalize (Z.setCell ⟨B, 1, none⟩ (.int .u64 (bits BinOp.xor IntKind.u64 st.d.c (IntKind.u64.wrap (2 ^ m))))).drew = Y at M1 ⊢
  clear M x1 f1 y2
  have hp1 : st1.p.length = st.p.length := by rw [hact]
  have hs1 : st1.d.s.length = C.s.length := by rw [hact]; exact hslC.out
  have hn3 := hC0.out.n
  clear hact
  have bS' := bS.grown M1.bl
  have hsY := hst0.out.mono M1.bl
  have heq := lawEqual_any (.slice g3 st.d.s.length q3) (.slice a3 st.d.s.length cap3) st1.d st.d Y M1.o.d.num hsY.d (by omega)
  have r0 := M1.b.cell 0 rfl
  have r1 := M1.b.cell 1 rfl
  have r2 := M1.b.cell 2 rfl
  have t0 := bS'.cell 0 rfl
  have t1 := bS'.cell 1 rfl
  have t2 := bS'.cell 2 rfl
  replace hp1 := Lib.hid hp1
  replace hs1 := Lib.hid hs1
  clear hsY
  cases hq : eqB st1.d st.d
  · rw [hq] at heq
    have hpu : pushF st st1 = { st1 with p := (st1.p ++ [st.d]).drop ((st1.p ++ [st.d]).length - 20) } := by
      unfold pushF
      rw [if_neg (by simp [hq])]
    clear hq
    replace heq := Lib.hid heq
    have hpuH := Lib.hid hpu
    clear hpu
    go_wp2_with fail
    refine heq.out.mono ?_
    rintro e Y2 ⟨rfl, hb4⟩
    have M2 := M1.below hb4
    have bS2 := bS'.grown hb4
    have hp20 : st1.p.length ≤ 20 := by rw [hp1.out]; exact hpn
    rw [← hp1.out] at M2
    clear r0 r1 r2 t0 t1 t2 heq M1 bS' hb4
    go_wp2_with fail
    refine reg29 hsl hp20 bS2 ⟨rfl, rfl, rfl⟩ hst0.out.d M2 ?_
    intro s p7 κ2 g7 o7 c7 Y5 M5 hc7 hm7
    have x6 := M5.b.cell 6 rfl
    have e6 := M5.b.frozen 6
    have hlB5 := M5.b.lt
    have bR5 := bR.grown M5.bl
    have hcl7 : (st1.p.length : Int) + 1 ≤ (c7 : Int) := by omega
    have hpu := hpuH.out
    clear M2 bS2 hpuH
    by_cases h20 : st1.p.length + 1 ≤ 20
    · have hif : (if (st1.p.length : Int) + 1 - 20 < 0 then (0 : Int) else (st1.p.length : Int) + 1 - 20) = 0 := by split <;> omega
      have hdr0 : (st1.p ++ [st.d]).drop ((st1.p ++ [st.d]).length - 20) = st1.p ++ [st.d] := by
        rw [List.length_append, List.length_singleton, show st1.p.length + 1 - 20 = 0 by omega, List.drop_zero]
      rw [hdr0] at hpu
      replace hpu := Lib.hid hpu
      clear h20 hdr0
      go_upto_region 31 with (fail)
      have M6 := M5.put (st' := { st1 with p := st1.p ++ [st.d] }) 6 (.slice (some ⟨g7, o7, none⟩) (st1.p.length + 1) c7) rfl rfl rfl rfl rfl
      generalize Y5.setCell ⟨B, 6, none⟩ (.slice (some ⟨g7, o7, none⟩) (st1.p.length + 1) c7) = Y6 at M6 ⊢
      have bR6 := bR.grown M6.bl
      clear M5 x6 e6 hlB5 bR5 hif
      generalize hst6 : ({ st1 with p := st1.p ++ [st.d] } : St) = s6 at M6 hpu
      replace hst6 := Lib.hid hst6
      have x0 := M6.b.cell 0 rfl
      have x1 := M6.b.cell 1 rfl
      have x2 := M6.b.cell 2 rfl
      have x3 := M6.b.cell 3 rfl
      have x4 := M6.b.cell 4 rfl
      have x5 := M6.b.cell 5 rfl
      have x6 := M6.b.cell 6 rfl
      have r0 := bR6.cell 0 rfl
      have r1 := bR6.cell 1 rfl
      have r2 := bR6.cell 2 rfl
      have r3 := bR6.cell 3 rfl
      have r4 := bR6.cell 4 rfl
      have r5 := bR6.cell 5 rfl
      have r6 := bR6.cell 6 rfl
      have e0 := bR6.frozen 0
      have e1 := bR6.frozen 1
      have e2 := bR6.frozen 2
      have e3 := bR6.frozen 3
      have e4 := bR6.frozen 4
      have e5 := bR6.frozen 5
      have e6 := bR6.frozen 6
      have hWs2 := hWs.out
      have hW4 := hB.trans (M6.bl.mono hB.size)
      go_wp2
      refine bodyPost_ret (ret_cell_tmp Try.results28 rfl rfl (bR6.put7 _ _ _ _ _ _ _) Try.underlying42 size42) rfl ?_
      rw [hpu.out]
      exact ⟨_, _, _, _, κ2, rfl, (M6.o.mv (Mv.low _ hB.size)).mv (Mv.put7 _ bR6 _ _ _ _ _ _ _), below_put7 _ _ _ _ _ _ _ hW4 (by omega)⟩
    · have hif : (if (st1.p.length : Int) + 1 - 20 < 0 then (0 : Int) else (st1.p.length : Int) + 1 - 20) = 1 := by split <;> omega
      have hdr0 : (st1.p ++ [st.d]).drop ((st1.p ++ [st.d]).length - 20) = (st1.p ++ [st.d]).drop 1 := by
        rw [List.length_append, List.length_singleton, show st1.p.length + 1 - 20 = 1 by omega]
      have hc71 : ¬ c7 = 1 := by omega
      have hle1 : (1 : Int) ≤ (st1.p.length : Int) + 1 := by omega
      rw [hdr0] at hpu
      replace hpu := Lib.hid hpu
      clear h20 hdr0
      have hl19 := Lib.hid (show st1.p.length - 19 = 1 by omega)
      go_upto_region 31 with (fail)
      rw [hl19.out, Nat.one_mul]
      have M6 := M5.cut (by simp) (by omega)
      generalize Y5.setCell ⟨B, 6, none⟩ (.slice (some ⟨g7, o7 + 3, none⟩) (st1.p.length + 1 - 1) (c7 - 1)) = Y6 at M6 ⊢
      have bR6 := bR.grown M6.bl
      clear M5 x6 e6 hlB5 bR5 hif hc71 hle1
      generalize hst6 : ({ st1 with p := (st1.p ++ [st.d]).drop 1 } : St) = s6 at M6 hpu
      replace hst6 := Lib.hid hst6
      have x0 := M6.b.cell 0 rfl
      have x1 := M6.b.cell 1 rfl
      have x2 := M6.b.cell 2 rfl
      have x3 := M6.b.cell 3 rfl
      have x4 := M6.b.cell 4 rfl
      have x5 := M6.b.cell 5 rfl
      have x6 := M6.b.cell 6 rfl
      have r0 := bR6.cell 0 rfl
      have r1 := bR6.cell 1 rfl
      have r2 := bR6.cell 2 rfl
      have r3 := bR6.cell 3 rfl
      have r4 := bR6.cell 4 rfl
      have r5 := bR6.cell 5 rfl
      have r6 := bR6.cell 6 rfl
      have e0 := bR6.frozen 0
      have e1 := bR6.frozen 1
      have e2 := bR6.frozen 2
      have e3 := bR6.frozen 3
      have e4 := bR6.frozen 4
      have e5 := bR6.frozen 5
      have e6 := bR6.frozen 6
      have hWs2 := hWs.out
      have hW4 := hB.trans (M6.bl.mono hB.size)
      go_wp2
      refine bodyPost_ret (ret_cell_tmp Try.results28 rfl rfl (bR6.put7 _ _ _ _ _ _ _) Try.underlying42 size42) rfl ?_
      rw [hpu.out]
      exact ⟨_, _, _, _, kshift κ2, rfl, (M6.o.mv (Mv.low _ hB.size)).mv (Mv.put7 _ bR6 _ _ _ _ _ _ _), below_put7 _ _ _ _ _ _ _ hW4 (by omega)⟩
  · rw [hq] at heq
    have hpu : pushF st st1 = st1 := by
      unfold pushF
      rw [if_pos hq]
    replace hpu := Lib.hid hpu
    clear hq
    replace heq := Lib.hid heq
    go_wp2_with fail
    refine heq.out.mono ?_
    rintro e Y6 ⟨rfl, hb4⟩
    have M6 := M1.below hb4
    have bR6 := bR.grown M6.bl
    clear r0 r1 r2 t0 t1 t2 heq M1 bS' hb4
    have x0 := M6.b.cell 0 rfl
    have x1 := M6.b.cell 1 rfl
    have x2 := M6.b.cell 2 rfl
    have x3 := M6.b.cell 3 rfl
    have x4 := M6.b.cell 4 rfl
    have x5 := M6.b.cell 5 rfl
    have x6 := M6.b.cell 6 rfl
    have r0 := bR6.cell 0 rfl
    have r1 := bR6.cell 1 rfl
    have r2 := bR6.cell 2 rfl
    have r3 := bR6.cell 3 rfl
    have r4 := bR6.cell 4 rfl
    have r5 := bR6.cell 5 rfl
    have r6 := bR6.cell 6 rfl
    have e0 := bR6.frozen 0
    have e1 := bR6.frozen 1
    have e2 := bR6.frozen 2
    have e3 := bR6.frozen 3
    have e4 := bR6.frozen 4
    have e5 := bR6.frozen 5
    have e6 := bR6.frozen 6
    have hWs2 := hWs.out
    have hW4 := hB.trans (M6.bl.mono hB.size)
    go_wp2
    refine bodyPost_ret (ret_cell_tmp Try.results28 rfl rfl (bR6.put7 _ _ _ _ _ _ _) Try.underlying42 size42) rfl ?_
    rw [hpu.out]
    exact ⟨_, _, _, _, κ1, rfl, (M6.o.mv (Mv.low _ hB.size)).mv (Mv.put7 _ bR6 _ _ _ _ _ _ _), below_put7 _ _ _ _ _ _ _ hW4 (by omega)⟩
end Go.Proofs.Ytgnamahdchefnaa
namespace Go.Proofs.Ytgnamahdchefnaa
open Go.RowKit Go.Shelf

set_option linter.unusedVariables false in
set_option maxRecDepth 100000 in
set_option maxHeartbeats 8000000 in
theorem ldo_k3 (x y xd xg xv xp : Value) (C : Con) (st : St) (d i : Int) (w : World) (hC : C.Ok) (hr : ConR w x y C) (hst : StR w xd xg xv xp st) (hS : SoundP C st) (hpos : posF C st 3 d i = 0) :
    Calls Try.prog 28 #[conV x y C.co C.ge C.lv, stV xd st.d.c st.d.o st.l xg xv xp, evV 3 d i] w (LDoPost (doF C st 3 d i) w) := by
  have hdo : doF C st 3 d i = pushF st (actF C st 3 d.toNat i.toNat) := by unfold doF; rw [if_neg (by decide)]
  rw [hdo]
  clear hdo
  obtain ⟨st1, hst1⟩ : ∃ st1, actF C st 3 d.toNat i.toNat = st1 := ⟨_, rfl⟩
  rw [hst1]
  have hpos0 := hpos
  unfold posF at hpos
  simp at hpos
  obtain ⟨m, rfl⟩ : ∃ m : Nat, i = m := ⟨i.toNat, by omega⟩
  have hm3 : m ≤ 3 := by have := hC.n; omega
  try simp only [Int.toNat_natCast] at hst1
  replace hst1 := Lib.hid hst1
  obtain ⟨a1, cap1, rfl⟩ := hr.s.len
  obtain ⟨a2, cap2, rfl⟩ := hr.d.lenV hC.dl
  obtain ⟨a3, cap3, rfl⟩ := hst.d.len
  obtain ⟨a4, cap4, rfl⟩ := SlOf.len hst.g
  obtain ⟨a5, cap5, rfl⟩ := SlOf.len hst.v
  obtain ⟨a6, cap6, rfl⟩ := hst.p.len
  have hB := ((((Below.refl w.heap.size w).alloc (Nat.le_refl _) (.cells #[.slice a1 C.s.length cap1, .int .i64 C.co, .int .i64 C.ge, .slice a2 C.s.length cap2, .int .i64 C.lv] 32)).alloc (by simp) (.cells #[.slice a3 st.d.s.length cap3, .int .u64 st.d.c, .int .u64 st.d.o, .int .i64 st.l, .slice a4 st.g.length cap4, .slice a5 st.v.length cap5, .slice a6 st.p.length cap6] 42)).alloc (by simp; omega) (.cells #[.int .i64 3, .int .i64 d, .int .i64 (m : Int)] 28)).alloc (by simp; omega) (.cells #[.slice none 0 0, .int .u64 0, .int .u64 0, .int .i64 0, .slice none 0 0, .slice none 0 0, .slice none 0 0] 42)
  have bC := (((BoxC.new w 32 #[.slice a1 C.s.length cap1, .int .i64 C.co, .int .i64 C.ge, .slice a2 C.s.length cap2, .int .i64 C.lv]).alloc (.cells #[.slice a3 st.d.s.length cap3, .int .u64 st.d.c, .int .u64 st.d.o, .int .i64 st.l, .slice a4 st.g.length cap4, .slice a5 st.v.length cap5, .slice a6 st.p.length cap6] 42)).alloc (.cells #[.int .i64 3, .int .i64 d, .int .i64 (m : Int)] 28)).alloc (.cells #[.slice none 0 0, .int .u64 0, .int .u64 0, .int .i64 0, .slice none 0 0, .slice none 0 0, .slice none 0 0] 42)
  have bS := ((BoxC.new (w.alloc (.cells #[.slice a1 C.s.length cap1, .int .i64 C.co, .int .i64 C.ge, .slice a2 C.s.length cap2, .int .i64 C.lv] 32)) 42 #[.slice a3 st.d.s.length cap3, .int .u64 st.d.c, .int .u64 st.d.o, .int .i64 st.l, .slice a4 st.g.length cap4, .slice a5 st.v.length cap5, .slice a6 st.p.length cap6]).alloc (.cells #[.int .i64 3, .int .i64 d, .int .i64 (m : Int)] 28)).alloc (.cells #[.slice none 0 0, .int .u64 0, .int .u64 0, .int .i64 0, .slice none 0 0, .slice none 0 0, .slice none 0 0] 42)
  have bE := (BoxC.new ((w.alloc (.cells #[.slice a1 C.s.length cap1, .int .i64 C.co, .int .i64 C.ge, .slice a2 C.s.length cap2, .int .i64 C.lv] 32)).alloc (.cells #[.slice a3 st.d.s.length cap3, .int .u64 st.d.c, .int .u64 st.d.o, .int .i64 st.l, .slice a4 st.g.length cap4, .slice a5 st.v.length cap5, .slice a6 st.p.length cap6] 42)) 28 #[.int .i64 3, .int .i64 d, .int .i64 (m : Int)]).alloc (.cells #[.slice none 0 0, .int .u64 0, .int .u64 0, .int .i64 0, .slice none 0 0, .slice none 0 0, .slice none 0 0] 42)
  have bR := BoxC.new (((w.alloc (.cells #[.slice a1 C.s.length cap1, .int .i64 C.co, .int .i64 C.ge, .slice a2 C.s.length cap2, .int .i64 C.lv] 32)).alloc (.cells #[.slice a3 st.d.s.length cap3, .int .u64 st.d.c, .int .u64 st.d.o, .int .i64 st.l, .slice a4 st.g.length cap4, .slice a5 st.v.length cap5, .slice a6 st.p.length cap6] 42)).alloc (.cells #[.int .i64 3, .int .i64 d, .int .i64 (m : Int)] 28)) 42 #[.slice none 0 0, .int .u64 0, .int .u64 0, .int .i64 0, .slice none 0 0, .slice none 0 0, .slice none 0 0]
  simp only [World.size_alloc] at bS bE bR
  have hpp := lawPossible_any (.slice a1 C.s.length cap1) (.slice a2 C.s.length cap2) (.slice a3 st.d.s.length cap3) (.slice a4 st.g.length cap4) (.slice a5 st.v.length cap5) (.slice a6 st.p.length cap6) C st 3 d (m : Int) _ hC (hr.mono hB) (hst.mono hB)
  rw [hpos0] at hpp
  replace hpp := Lib.hid hpp
  have hF := hS.fit hC
  have hsl : st.d.s.length ≤ 1000 := hF.d
  have hslC := Lib.hid hS.d.n
  have hpn := hS.pn
  have hS0 := Lib.hid hS
  have hC0 := Lib.hid hC
  have hst0 := Lib.hid (hst.mono hB)
  have hr0 := Lib.hid (hr.mono hB)
  clear hS hC hst hr hpos0
  go_enter Try.func28, Try.ntmps28
  go_wp2_with fail
  generalize hW : (((w.alloc (.cells #[.slice a1 C.s.length cap1, .int .i64 C.co, .int .i64 C.ge, .slice a2 C.s.length cap2, .int .i64 C.lv] 32)).alloc (.cells #[.slice a3 st.d.s.length cap3, .int .u64 st.d.c, .int .u64 st.d.o, .int .i64 st.l, .slice a4 st.g.length cap4, .slice a5 st.v.length cap5, .slice a6 st.p.length cap6] 42)).alloc (.cells #[.int .i64 3, .int .i64 d, .int .i64 (m : Int)] 28)).alloc (.cells #[.slice none 0 0, .int .u64 0, .int .u64 0, .int .i64 0, .slice none 0 0, .slice none 0 0, .slice none 0 0] 42) = W at hB bC bS bE bR hpp hst0 hr0 ⊢
  have hWs : W.heap.size = w.heap.size + 4 := by rw [← hW]; simp
  clear hW
  replace hWs := Lib.hid hWs
  refine hpp.out.mono ?_
  rintro e w1 ⟨rfl, hb1⟩
  have bS1 := bS.grown hb1
  have htw := twin_any (.slice a3 st.d.s.length cap3) (.slice a4 st.g.length cap4) (.slice a5 st.v.length cap5) (.slice a6 st.p.length cap6) st w1 (hst0.out.mono hb1) hF
  replace htw := Lib.hid htw
  have x0 := bS1.cell 0 rfl
  have x1 := bS1.cell 1 rfl
  have x2 := bS1.cell 2 rfl
  have x3 := bS1.cell 3 rfl
  have x4 := bS1.cell 4 rfl
  have x5 := bS1.cell 5 rfl
  have x6 := bS1.cell 6 rfl
  clear bS1
  go_wp2_with fail
  refine htw.out.mono ?_
  rintro e w2 ⟨yd, yg, yv, yp, κ, rfl, hO, hb2⟩
  obtain ⟨g3, q3, rfl⟩ := hO.d.len
  obtain ⟨g4, q4, rfl⟩ := SlOf.len hO.g.rd
  obtain ⟨g5, q5, rfl⟩ := SlOf.len hO.v.rd
  obtain ⟨g6, q6, rfl⟩ := hO.p.rd.len
  have hb12 := hb1.trans (hb2.mono hb1.size)
  have hb3 := (Below.refl w2.heap.size w2).alloc (Nat.le_refl _) (.cells #[.slice g3 st.d.s.length q3, .int .u64 st.d.c, .int .u64 st.d.o, .int .i64 st.l, .slice g4 st.g.length q4, .slice g5 st.v.length q5, .slice g6 st.p.length q6] 42)
  have M : LMid W.heap.size κ W w2.heap.size st (.slice g3 st.d.s.length q3) (.slice g4 st.g.length q4) (.slice g5 st.v.length q5) (.slice g6 st.p.length q6) (w2.alloc (.cells #[.slice g3 st.d.s.length q3, .int .u64 st.d.c, .int .u64 st.d.o, .int .i64 st.l, .slice g4 st.g.length q4, .slice g5 st.v.length q5, .slice g6 st.p.length q6] 42)) := {
    b := BoxC.new w2 42 _
    o := (hO.mv (Mv.low _ hb1.size)).below hb3
    bl := hb12.trans (hb3.mono hb12.size)
    le := hb12.size
    ls := Nat.le_trans hb12.size hb3.size }
  have z0 := (bE.grown hb12).cell 0 rfl
  have z1 := (bE.grown hb12).cell 1 rfl
  have z2 := (bE.grown hb12).cell 2 rfl
  have hzE := (bE.grown hb12).lt
  clear htw hO x0 x1 x2 x3 x4 x5 x6 hpp
  go_upto_region 11 with (fail)
  generalize w2.alloc (.cells #[.slice g3 st.d.s.length q3, .int .u64 st.d.c, .int .u64 st.d.o, .int .i64 st.l, .slice g4 st.g.length q4, .slice g5 st.v.length q5, .slice g6 st.p.length q6] 42) = Z at M hb3 ⊢
  generalize w2.heap.size = B at M hb3 ⊢
  have bE' := bE.grown M.bl
  have hZ4 : w.heap.size + 4 ≤ B := by have := M.le; have := hWs.out; omega
  generalize κ = κ1 at M
  clear hb12 hb3 hb2 hb1 z0 z1 z2 hzE
  have x1 : Z.drew.cell? ⟨B, 2, none⟩ = some (.int .u64 st.d.o) := M.b.cell 2 rfl
  have f1 : Z.drew.frozen? ⟨B, 2, none⟩ = false := M.b.frozen 2
  have y2 : Z.drew.cell? ⟨w.heap.size + 1 + 1, 2, none⟩ = some (.int .i64 (m : Int)) := bE'.cell 2 rfl
  go_still_tail 9, (by kernel_rfl)
  change wpList _ _ _ _ _ Z.drew
  go_upto_region 28 with (fail)
  have hact : st1 = ⟨⟨st.d.s, st.d.c, tog st.d.o m⟩, st.l, st.g, st.v, st.p⟩ := by rw [← hst1.out]; simp [actF]
  have M1 : LMid W.heap.size κ1 W B st1 (.slice g3 st.d.s.length q3) (.slice g4 st.g.length q4) (.slice g5 st.v.length q5) (.slice g6 st.p.length q6) ((Z.setCell ⟨B, 2, none⟩ (.int .u64 (bits BinOp.xor IntKind.u64 st.d.o (IntKind.u64.wrap (2 ^ m))))).drew) := by
    rw [hact]
    exact (M.put (st' := ⟨⟨st.d.s, st.d.c, tog st.d.o m⟩, st.l, st.g, st.v, st.p⟩) 2 (.int .u64 (bits BinOp.xor IntKind.u64 st.d.o (IntKind.u64.wrap (2 ^ m)))) rfl rfl rfl rfl rfl).drew
  generalize (Z.setCell ⟨B, 2, none⟩ (.int .u64 (bits BinOp.xor IntKind.u64 st.d.o (IntKind.u64.wrap (2 ^ m))))).drew = Y at M1 ⊢
  clear M x1 f1 y2
  have hp1 : st1.p.length = st.p.length := by rw [hact]
  have hs1 : st1.d.s.length = C.s.length := by rw [hact]; exact hslC.out
  have hn3 := hC0.out.n
  clear hact
  have bS' := bS.grown M1.bl
  have hsY := hst0.out.mono M1.bl
  have heq := lawEqual_any (.slice g3 st.d.s.length q3) (.slice a3 st.d.s.length cap3) st1.d st.d Y M1.o.d.num hsY.d (by omega)
  have r0 := M1.b.cell 0 rfl
  have r1 := M1.b.cell 1 rfl
  have r2 := M1.b.cell 2 rfl
  have t0 := bS'.cell 0 rfl
  have t1 := bS'.cell 1 rfl
  have t2 := bS'.cell 2 rfl
  replace hp1 := Lib.hid hp1
  replace hs1 := Lib.hid hs1
  clear hsY
  cases hq : eqB st1.d st.d
  · rw [hq] at heq
    have hpu : pushF st st1 = { st1 with p := (st1.p ++ [st.d]).drop ((st1.p ++ [st.d]).length - 20) } := by
      unfold pushF
      rw [if_neg (by simp [hq])]
    clear hq
    replace heq := Lib.hid heq
    have hpuH := Lib.hid hpu
    clear hpu
    go_wp2_with fail
    refine heq.out.mono ?_
    rintro e Y2 ⟨rfl, hb4⟩
    have M2 := M1.below hb4
    have bS2 := bS'.grown hb4
    have hp20 : st1.p.length ≤ 20 := by rw [hp1.out]; exact hpn
    rw [← hp1.out] at M2
    clear r0 r1 r2 t0 t1 t2 heq M1 bS' hb4
    go_wp2_with fail
    refine reg29 hsl hp20 bS2 ⟨rfl, rfl, rfl⟩ hst0.out.d M2 ?_
    intro s p7 κ2 g7 o7 c7 Y5 M5 hc7 hm7
    have x6 := M5.b.cell 6 rfl
    have e6 := M5.b.frozen 6
    have hlB5 := M5.b.lt
    have bR5 := bR.grown M5.bl
    have hcl7 : (st1.p.length : Int) + 1 ≤ (c7 : Int) := by omega
    have hpu := hpuH.out
    clear M2 bS2 hpuH
    by_cases h20 : st1.p.length + 1 ≤ 20
    · have hif : (if (st1.p.length : Int) + 1 - 20 < 0 then (0 : Int) else (st1.p.length : Int) + 1 - 20) = 0 := by split <;> omega
      have hdr0 : (st1.p ++ [st.d]).drop ((st1.p ++ [st.d]).length - 20) = st1.p ++ [st.d] := by
        rw [List.length_append, List.length_singleton, show st1.p.length + 1 - 20 = 0 by omega, List.drop_zero]
      rw [hdr0] at hpu
      replace hpu := Lib.hid hpu
      clear h20 hdr0
      go_upto_region 31 with (fail)
      have M6 := M5.put (st' := { st1 with p := st1.p ++ [st.d] }) 6 (.slice (some ⟨g7, o7, none⟩) (st1.p.length + 1) c7) rfl rfl rfl rfl rfl
      generalize Y5.setCell ⟨B, 6, none⟩ (.slice (some ⟨g7, o7, none⟩) (st1.p.length + 1) c7) = Y6 at M6 ⊢
      have bR6 := bR.grown M6.bl
      clear M5 x6 e6 hlB5 bR5 hif
      generalize hst6 : ({ st1 with p := st1.p ++ [st.d] } : St) = s6 at M6 hpu
      replace hst6 := Lib.hid hst6
      have x0 := M6.b.cell 0 rfl
      have x1 := M6.b.cell 1 rfl
      have x2 := M6.b.cell 2 rfl
      have x3 := M6.b.cell 3 rfl
      have x4 := M6.b.cell 4 rfl
      have x5 := M6.b.cell 5 rfl
      have x6 := M6.b.cell 6 rfl
      have r0 := bR6.cell 0 rfl
      have r1 := bR6.cell 1 rfl
      have r2 := bR6.cell 2 rfl
      have r3 := bR6.cell 3 rfl
      have r4 := bR6.cell 4 rfl
      have r5 := bR6.cell 5 rfl
      have r6 := bR6.cell 6 rfl
      have e0 := bR6.frozen 0
      have e1 := bR6.frozen 1
      have e2 := bR6.frozen 2
      have e3 := bR6.frozen 3
      have e4 := bR6.frozen 4
      have e5 := bR6.frozen 5
      have e6 := bR6.frozen 6
      have hWs2 := hWs.out
      have hW4 := hB.trans (M6.bl.mono hB.size)
      go_wp2
      refine bodyPost_ret (ret_cell_tmp Try.results28 rfl rfl (bR6.put7 _ _ _ _ _ _ _) Try.underlying42 size42) rfl ?_
      rw [hpu.out]
      exact ⟨_, _, _, _, κ2, rfl, (M6.o.mv (Mv.low _ hB.size)).mv (Mv.put7 _ bR6 _ _ _ _ _ _ _), below_put7 _ _ _ _ _ _ _ hW4 (by omega)⟩
    · have hif : (if (st1.p.length : Int) + 1 - 20 < 0 then (0 : Int) else (st1.p.length : Int) + 1 - 20) = 1 := by split <;> omega
      have hdr0 : (st1.p ++ [st.d]).drop ((st1.p ++ [st.d]).length - 20) = (st1.p ++ [st.d]).drop 1 := by
        rw [List.length_append, List.length_singleton, show st1.p.length + 1 - 20 = 1 by omega]
      have hc71 : ¬ c7 = 1 := by omega
      have hle1 : (1 : Int) ≤ (st1.p.length : Int) + 1 := by omega
      rw [hdr0] at hpu
      replace hpu := Lib.hid hpu
      clear h20 hdr0
      have hl19 := Lib.hid (show st1.p.length - 19 = 1 by omega)
      go_upto_region 31 with (fail)
      rw [hl19.out, Nat.one_mul]
      have M6 := M5.cut (by simp) (by omega)
      generalize Y5.setCell ⟨B, 6, none⟩ (.slice (some ⟨g7, o7 + 3, none⟩) (st1.p.length + 1 - 1) (c7 - 1)) = Y6 at M6 ⊢
      have bR6 := bR.grown M6.bl
      clear M5 x6 e6 hlB5 bR5 hif hc71 hle1
      generalize hst6 : ({ st1 with p := (st1.p ++ [st.d]).drop 1 } : St) = s6 at M6 hpu
      replace hst6 := Lib.hid hst6
      have x0 := M6.b.cell 0 rfl
      have x1 := M6.b.cell 1 rfl
      have x2 := M6.b.cell 2 rfl
      have x3 := M6.b.cell 3 rfl
      have x4 := M6.b.cell 4 rfl
      have x5 := M6.b.cell 5 rfl
      have x6 := M6.b.cell 6 rfl
      have r0 := bR6.cell 0 rfl
      have r1 := bR6.cell 1 rfl
      have r2 := bR6.cell 2 rfl
      have r3 := bR6.cell 3 rfl
      have r4 := bR6.cell 4 rfl
      have r5 := bR6.cell 5 rfl
      have r6 := bR6.cell 6 rfl
      have e0 := bR6.frozen 0
      have e1 := bR6.frozen 1
      have e2 := bR6.frozen 2
      have e3 := bR6.frozen 3
      have e4 := bR6.frozen 4
      have e5 := bR6.frozen 5
      have e6 := bR6.frozen 6
      have hWs2 := hWs.out
      have hW4 := hB.trans (M6.bl.mono hB.size)
      go_wp2
      refine bodyPost_ret (ret_cell_tmp Try.results28 rfl rfl (bR6.put7 _ _ _ _ _ _ _) Try.underlying42 size42) rfl ?_
      rw [hpu.out]
      exact ⟨_, _, _, _, kshift κ2, rfl, (M6.o.mv (Mv.low _ hB.size)).mv (Mv.put7 _ bR6 _ _ _ _ _ _ _), below_put7 _ _ _ _ _ _ _ hW4 (by omega)⟩
  · rw [hq] at heq
    have hpu : pushF st st1 = st1 := by
      unfold pushF
      rw [if_pos hq]
    replace hpu := Lib.hid hpu
    clear hq
    replace heq := Lib.hid heq
    go_wp2_with fail
    refine heq.out.mono ?_
    rintro e Y6 ⟨rfl, hb4⟩
    have M6 := M1.below hb4
    have bR6 := bR.grown M6.bl
    clear r0 r1 r2 t0 t1 t2 heq M1 bS' hb4
    have x0 := M6.b.cell 0 rfl
    have x1 := M6.b.cell 1 rfl
    have x2 := M6.b.cell 2 rfl
    have x3 := M6.b.cell 3 rfl
    have x4 := M6.b.cell 4 rfl
    have x5 := M6.b.cell 5 rfl
    have x6 := M6.b.cell 6 rfl
    have r0 := bR6.cell 0 rfl
    have r1 := bR6.cell 1 rfl
    have r2 := bR6.cell 2 rfl
    have r3 := bR6.cell 3 rfl
    have r4 := bR6.cell 4 rfl
    have r5 := bR6.cell 5 rfl
    have r6 := bR6.cell 6 rfl
    have e0 := bR6.frozen 0
    have e1 := bR6.frozen 1
    have e2 := bR6.frozen 2
    have e3 := bR6.frozen 3
    have e4 := bR6.frozen 4
    have e5 := bR6.frozen 5
    have e6 := bR6.frozen 6
    have hWs2 := hWs.out
    have hW4 := hB.trans (M6.bl.mono hB.size)
    go_wp2
    refine bodyPost_ret (ret_cell_tmp Try.results28 rfl rfl (bR6.put7 _ _ _ _ _ _ _) Try.underlying42 size42) rfl ?_
    rw [hpu.out]
    exact ⟨_, _, _, _, κ1, rfl, (M6.o.mv (Mv.low _ hB.size)).mv (Mv.put7 _ bR6 _ _ _ _ _ _ _), below_put7 _ _ _ _ _ _ _ hW4 (by omega)⟩
end Go.Proofs.Ytgnamahdchefnaa
namespace Go.Proofs.Ytgnamahdchefnaa
open Go.RowKit Go.Shelf

set_option linter.unusedVariables false in
set_option maxRecDepth 100000 in
set_option maxHeartbeats 8000000 in
theorem ldo_k4 (x y xd xg xv xp : Value) (C : Con) (st : St) (d i : Int) (w : World) (hC : C.Ok) (hr : ConR w x y C) (hst : StR w xd xg xv xp st) (hS : SoundP C st) (hpos : posF C st 4 d i = 0) :
    Calls Try.prog 28 #[conV x y C.co C.ge C.lv, stV xd st.d.c st.d.o st.l xg xv xp, evV 4 d i] w (LDoPost (doF C st 4 d i) w) := by
  have hdo : doF C st 4 d i = pushF st (actF C st 4 d.toNat i.toNat) := by unfold doF; rw [if_neg (by decide)]
  rw [hdo]
  clear hdo
  obtain ⟨st1, hst1⟩ : ∃ st1, actF C st 4 d.toNat i.toNat = st1 := ⟨_, rfl⟩
  rw [hst1]
  have hpos0 := hpos
  unfold posF at hpos
  simp at hpos
  obtain ⟨m, rfl⟩ : ∃ m : Nat, i = m := ⟨i.toNat, by omega⟩
  obtain ⟨lN, hlN⟩ : ∃ lN : Nat, st.l = lN := ⟨st.l.toNat, by have := hS.l; omega⟩
  have hlg : lN < st.g.length ∧ (C.lv : Int) = st.g.length := by have := hS.l; have := hS.gn; omega
  have hll := hlg.1
  have hml : m < (get st.g lN).length := by have := hS.gl lN hll; omega
  have hrok := hS.gr lN m hll hml
  have hrl : (get (get st.g lN) m).s.length ≤ 1000 := by have := hrok.n; have := hC.n; omega
  have hrn := hrok.n
  replace hrn := Lib.hid hrn
  clear hlg hrok
  replace hlN := Lib.hid hlN
  try simp only [Int.toNat_natCast] at hst1
  replace hst1 := Lib.hid hst1
  obtain ⟨a1, cap1, rfl⟩ := hr.s.len
  obtain ⟨a2, cap2, rfl⟩ := hr.d.lenV hC.dl
  obtain ⟨a3, cap3, rfl⟩ := hst.d.len
  obtain ⟨a4, cap4, rfl⟩ := SlOf.len hst.g
  obtain ⟨a5, cap5, rfl⟩ := SlOf.len hst.v
  obtain ⟨a6, cap6, rfl⟩ := hst.p.len
  have hB := ((((Below.refl w.heap.size w).alloc (Nat.le_refl _) (.cells #[.slice a1 C.s.length cap1, .int .i64 C.co, .int .i64 C.ge, .slice a2 C.s.length cap2, .int .i64 C.lv] 32)).alloc (by simp) (.cells #[.slice a3 st.d.s.length cap3, .int .u64 st.d.c, .int .u64 st.d.o, .int .i64 st.l, .slice a4 st.g.length cap4, .slice a5 st.v.length cap5, .slice a6 st.p.length cap6] 42)).alloc (by simp; omega) (.cells #[.int .i64 4, .int .i64 d, .int .i64 (m : Int)] 28)).alloc (by simp; omega) (.cells #[.slice none 0 0, .int .u64 0, .int .u64 0, .int .i64 0, .slice none 0 0, .slice none 0 0, .slice none 0 0] 42)
  have bC := (((BoxC.new w 32 #[.slice a1 C.s.length cap1, .int .i64 C.co, .int .i64 C.ge, .slice a2 C.s.length cap2, .int .i64 C.lv]).alloc (.cells #[.slice a3 st.d.s.length cap3, .int .u64 st.d.c, .int .u64 st.d.o, .int .i64 st.l, .slice a4 st.g.length cap4, .slice a5 st.v.length cap5, .slice a6 st.p.length cap6] 42)).alloc (.cells #[.int .i64 4, .int .i64 d, .int .i64 (m : Int)] 28)).alloc (.cells #[.slice none 0 0, .int .u64 0, .int .u64 0, .int .i64 0, .slice none 0 0, .slice none 0 0, .slice none 0 0] 42)
  have bS := ((BoxC.new (w.alloc (.cells #[.slice a1 C.s.length cap1, .int .i64 C.co, .int .i64 C.ge, .slice a2 C.s.length cap2, .int .i64 C.lv] 32)) 42 #[.slice a3 st.d.s.length cap3, .int .u64 st.d.c, .int .u64 st.d.o, .int .i64 st.l, .slice a4 st.g.length cap4, .slice a5 st.v.length cap5, .slice a6 st.p.length cap6]).alloc (.cells #[.int .i64 4, .int .i64 d, .int .i64 (m : Int)] 28)).alloc (.cells #[.slice none 0 0, .int .u64 0, .int .u64 0, .int .i64 0, .slice none 0 0, .slice none 0 0, .slice none 0 0] 42)
  have bE := (BoxC.new ((w.alloc (.cells #[.slice a1 C.s.length cap1, .int .i64 C.co, .int .i64 C.ge, .slice a2 C.s.length cap2, .int .i64 C.lv] 32)).alloc (.cells #[.slice a3 st.d.s.length cap3, .int .u64 st.d.c, .int .u64 st.d.o, .int .i64 st.l, .slice a4 st.g.length cap4, .slice a5 st.v.length cap5, .slice a6 st.p.length cap6] 42)) 28 #[.int .i64 4, .int .i64 d, .int .i64 (m : Int)]).alloc (.cells #[.slice none 0 0, .int .u64 0, .int .u64 0, .int .i64 0, .slice none 0 0, .slice none 0 0, .slice none 0 0] 42)
  have bR := BoxC.new (((w.alloc (.cells #[.slice a1 C.s.length cap1, .int .i64 C.co, .int .i64 C.ge, .slice a2 C.s.length cap2, .int .i64 C.lv] 32)).alloc (.cells #[.slice a3 st.d.s.length cap3, .int .u64 st.d.c, .int .u64 st.d.o, .int .i64 st.l, .slice a4 st.g.length cap4, .slice a5 st.v.length cap5, .slice a6 st.p.length cap6] 42)).alloc (.cells #[.int .i64 4, .int .i64 d, .int .i64 (m : Int)] 28)) 42 #[.slice none 0 0, .int .u64 0, .int .u64 0, .int .i64 0, .slice none 0 0, .slice none 0 0, .slice none 0 0]
  simp only [World.size_alloc] at bS bE bR
  have hpp := lawPossible_any (.slice a1 C.s.length cap1) (.slice a2 C.s.length cap2) (.slice a3 st.d.s.length cap3) (.slice a4 st.g.length cap4) (.slice a5 st.v.length cap5) (.slice a6 st.p.length cap6) C st 4 d (m : Int) _ hC (hr.mono hB) (hst.mono hB)
  rw [hpos0] at hpp
  replace hpp := Lib.hid hpp
  have hF := hS.fit hC
  have hsl : st.d.s.length ≤ 1000 := hF.d
  have hslC := Lib.hid hS.d.n
  have hpn := hS.pn
  have hS0 := Lib.hid hS
  have hC0 := Lib.hid hC
  have hst0 := Lib.hid (hst.mono hB)
  have hr0 := Lib.hid (hr.mono hB)
  clear hS hC hst hr hpos0
  go_enter Try.func28, Try.ntmps28
  go_wp2_with fail
  generalize hW : (((w.alloc (.cells #[.slice a1 C.s.length cap1, .int .i64 C.co, .int .i64 C.ge, .slice a2 C.s.length cap2, .int .i64 C.lv] 32)).alloc (.cells #[.slice a3 st.d.s.length cap3, .int .u64 st.d.c, .int .u64 st.d.o, .int .i64 st.l, .slice a4 st.g.length cap4, .slice a5 st.v.length cap5, .slice a6 st.p.length cap6] 42)).alloc (.cells #[.int .i64 4, .int .i64 d, .int .i64 (m : Int)] 28)).alloc (.cells #[.slice none 0 0, .int .u64 0, .int .u64 0, .int .i64 0, .slice none 0 0, .slice none 0 0, .slice none 0 0] 42) = W at hB bC bS bE bR hpp hst0 hr0 ⊢
  have hWs : W.heap.size = w.heap.size + 4 := by rw [← hW]; simp
  clear hW
  replace hWs := Lib.hid hWs
  refine hpp.out.mono ?_
  rintro e w1 ⟨rfl, hb1⟩
  have bS1 := bS.grown hb1
  have htw := twin_any (.slice a3 st.d.s.length cap3) (.slice a4 st.g.length cap4) (.slice a5 st.v.length cap5) (.slice a6 st.p.length cap6) st w1 (hst0.out.mono hb1) hF
  replace htw := Lib.hid htw
  have x0 := bS1.cell 0 rfl
  have x1 := bS1.cell 1 rfl
  have x2 := bS1.cell 2 rfl
  have x3 := bS1.cell 3 rfl
  have x4 := bS1.cell 4 rfl
  have x5 := bS1.cell 5 rfl
  have x6 := bS1.cell 6 rfl
  clear bS1
  go_wp2_with fail
  refine htw.out.mono ?_
  rintro e w2 ⟨yd, yg, yv, yp, κ, rfl, hO, hb2⟩
  obtain ⟨g3, q3, rfl⟩ := hO.d.len
  obtain ⟨g4, q4, rfl⟩ := SlOf.len hO.g.rd
  obtain ⟨g5, q5, rfl⟩ := SlOf.len hO.v.rd
  obtain ⟨g6, q6, rfl⟩ := hO.p.rd.len
  have hb12 := hb1.trans (hb2.mono hb1.size)
  have hb3 := (Below.refl w2.heap.size w2).alloc (Nat.le_refl _) (.cells #[.slice g3 st.d.s.length q3, .int .u64 st.d.c, .int .u64 st.d.o, .int .i64 st.l, .slice g4 st.g.length q4, .slice g5 st.v.length q5, .slice g6 st.p.length q6] 42)
  have M : LMid W.heap.size κ W w2.heap.size st (.slice g3 st.d.s.length q3) (.slice g4 st.g.length q4) (.slice g5 st.v.length q5) (.slice g6 st.p.length q6) (w2.alloc (.cells #[.slice g3 st.d.s.length q3, .int .u64 st.d.c, .int .u64 st.d.o, .int .i64 st.l, .slice g4 st.g.length q4, .slice g5 st.v.length q5, .slice g6 st.p.length q6] 42)) := {
    b := BoxC.new w2 42 _
    o := (hO.mv (Mv.low _ hb1.size)).below hb3
    bl := hb12.trans (hb3.mono hb12.size)
    le := hb12.size
    ls := Nat.le_trans hb12.size hb3.size }
  have z0 := (bE.grown hb12).cell 0 rfl
  have z1 := (bE.grown hb12).cell 1 rfl
  have z2 := (bE.grown hb12).cell 2 rfl
  have hzE := (bE.grown hb12).lt
  clear htw hO x0 x1 x2 x3 x4 x5 x6 hpp
  go_upto_region 13 with (fail)
  generalize w2.alloc (.cells #[.slice g3 st.d.s.length q3, .int .u64 st.d.c, .int .u64 st.d.o, .int .i64 st.l, .slice g4 st.g.length q4, .slice g5 st.v.length q5, .slice g6 st.p.length q6] 42) = Z at M hb3 ⊢
  generalize w2.heap.size = B at M hb3 ⊢
  have bE' := bE.grown M.bl
  have hZ4 : w.heap.size + 4 ≤ B := by have := M.le; have := hWs.out; omega
  generalize κ = κ1 at M
  clear hb12 hb3 hb2 hb1 z0 z1 z2 hzE
  have hsZ := hst0.out.mono M.bl
  have bSZ := bS.grown M.bl
  have s3 : Z.drew.cell? ⟨w.heap.size + 1, 3, none⟩ = some (.int .i64 (lN : Int)) := by rw [← hlN.out]; exact bSZ.cell 3 rfl
  have y2 : Z.drew.cell? ⟨w.heap.size + 1 + 1, 2, none⟩ = some (.int .i64 (m : Int)) := bE'.cell 2 rfl
  obtain ⟨h1, o1, cp1, he, hc1⟩ := SlOf.at hsZ.g hll
  cases he
  obtain ⟨v2, c1', hR2⟩ := hc1 lN hll
  obtain ⟨h2, o2, cp2, rfl, hc2⟩ := RgSl.at hR2 hml
  obtain ⟨u9, d0', hRn, d1', d2'⟩ := hc2 m hml
  obtain ⟨a9, cap9, rfl⟩ := hRn.len
  have s4 : Z.drew.cell? ⟨w.heap.size + 1, 4, none⟩ = some (.slice (some ⟨h1, o1, none⟩) st.g.length cap4) := bSZ.cell 4 rfl
  have c1 : Z.drew.cell? ⟨h1, o1 + lN, none⟩ = some (.slice (some ⟨h2, o2, none⟩) (get st.g lN).length cp2) := c1'
  have d0 : Z.drew.cell? ⟨h2, o2 + m * 3, none⟩ = some (.slice a9 (get (get st.g lN) m).s.length cap9) := d0'
  have d1 : Z.drew.cell? ⟨h2, o2 + m * 3 + 1, none⟩ = some (.int .u64 (get (get st.g lN) m).c) := d1'
  have d2 : Z.drew.cell? ⟨h2, o2 + m * 3 + 2, none⟩ = some (.int .u64 (get (get st.g lN) m).o) := d2'
  have hcp2 := Lib.hid (lawClone_any (.slice a9 (get (get st.g lN) m).s.length cap9) (get (get st.g lN) m) Z.drew (hRn.mono (Below.refl _ _).drew) hrl)
  have hli : (lN : Int) < (st.g.length : Int) := by omega
  have hmi : (m : Int) < ((get st.g lN).length : Int) := by omega
  have hact : st1 = ⟨get (get st.g lN) m, st.l, st.g, st.v, st.p⟩ := by rw [← hst1.out]; simp [actF, hlN.out]
  replace hact := Lib.hid hact
  clear hc1 hc2 hR2 hRn c1' d0' d1' d2' hsZ bSZ
  go_still_tail 10, (by kernel_rfl)
  change wpList _ _ _ _ _ Z.drew
  go_wp2_with fail
  refine hcp2.out.mono ?_
  rintro e w3 ⟨xn, rfl, hn, hb3⟩
  obtain ⟨an, capn, rfl⟩ := hn.num.len
  have M2 := M.drew.grown (N := Z.drew.heap.size) hb3 (0, 0, 0) (Nat.le_refl _)
  have hn2 : RowU W.heap.size (kfrom κ1 Z.drew.heap.size (0, 0, 0)) (0, 0, 0) (.slice an (get (get st.g lN) m).s.length capn) (get (get st.g lN) m).s w3 := hn.row M.ls κ1 (0, 0, 0)
  have M1 := M2.draw (get (get st.g lN) m) (.slice an (get (get st.g lN) m).s.length capn) hn2
  have e0 := M2.b.cell 0 rfl
  have e1 := M2.b.cell 1 rfl
  have e2 := M2.b.cell 2 rfl
  have f0 := M2.b.frozen 0
  have f1 := M2.b.frozen 1
  have f2 := M2.b.frozen 2
  clear s3 s4 y2 c1 d0 d1 d2 hn hn2 hcp2
  go_upto_region 28 with (fail)
  replace hact := hact.out
  rw [show ({ st with d := get (get st.g lN) m } : St) = st1 from hact.symm] at M1
  generalize kfrom κ1 Z.drew.heap.size (0, 0, 0) = κ3 at *
  change LMid _ _ _ _ _ _ _ _ _ (((w3.setCell ⟨B, 0, none⟩ (.slice an (get (get st.g lN) m).s.length capn)).setCell ⟨B, 1, none⟩ (.int .u64 (get (get st.g lN) m).c)).setCell ⟨B, 2, none⟩ (.int .u64 (get (get st.g lN) m).o)) at M1
  generalize ((w3.setCell ⟨B, 0, none⟩ (.slice an (get (get st.g lN) m).s.length capn)).setCell ⟨B, 1, none⟩ (.int .u64 (get (get st.g lN) m).c)).setCell ⟨B, 2, none⟩ (.int .u64 (get (get st.g lN) m).o) = Y at M1 ⊢
  generalize κ3 = κ1 at *
  clear M M2 e0 e1 e2 f0 f1 f2 hb3
  have hp1 : st1.p.length = st.p.length := by rw [hact]
  have hs1 : st1.d.s.length = C.s.length := by rw [hact]; exact hrn.out
  have hn3 := hC0.out.n
  clear hact
  have bS' := bS.grown M1.bl
  have hsY := hst0.out.mono M1.bl
  have heq := lawEqual_any (.slice an (get (get st.g lN) m).s.length capn) (.slice a3 st.d.s.length cap3) st1.d st.d Y M1.o.d.num hsY.d (by omega)
  have r0 := M1.b.cell 0 rfl
  have r1 := M1.b.cell 1 rfl
  have r2 := M1.b.cell 2 rfl
  have t0 := bS'.cell 0 rfl
  have t1 := bS'.cell 1 rfl
  have t2 := bS'.cell 2 rfl
  replace hp1 := Lib.hid hp1
  replace hs1 := Lib.hid hs1
  clear hsY
  cases hq : eqB st1.d st.d
  · rw [hq] at heq
    have hpu : pushF st st1 = { st1 with p := (st1.p ++ [st.d]).drop ((st1.p ++ [st.d]).length - 20) } := by
      unfold pushF
      rw [if_neg (by simp [hq])]
    clear hq
    replace heq := Lib.hid heq
    have hpuH := Lib.hid hpu
    clear hpu
    go_wp2_with fail
    refine heq.out.mono ?_
    rintro e Y2 ⟨rfl, hb4⟩
    have M2 := M1.below hb4
    have bS2 := bS'.grown hb4
    have hp20 : st1.p.length ≤ 20 := by rw [hp1.out]; exact hpn
    rw [← hp1.out] at M2
    clear r0 r1 r2 t0 t1 t2 heq M1 bS' hb4
    go_wp2_with fail
    refine reg29 hsl hp20 bS2 ⟨rfl, rfl, rfl⟩ hst0.out.d M2 ?_
    intro s p7 κ2 g7 o7 c7 Y5 M5 hc7 hm7
    have x6 := M5.b.cell 6 rfl
    have e6 := M5.b.frozen 6
    have hlB5 := M5.b.lt
    have bR5 := bR.grown M5.bl
    have hcl7 : (st1.p.length : Int) + 1 ≤ (c7 : Int) := by omega
    have hpu := hpuH.out
    clear M2 bS2 hpuH
    by_cases h20 : st1.p.length + 1 ≤ 20
    · have hif : (if (st1.p.length : Int) + 1 - 20 < 0 then (0 : Int) else (st1.p.length : Int) + 1 - 20) = 0 := by split <;> omega
      have hdr0 : (st1.p ++ [st.d]).drop ((st1.p ++ [st.d]).length - 20) = st1.p ++ [st.d] := by
        rw [List.length_append, List.length_singleton, show st1.p.length + 1 - 20 = 0 by omega, List.drop_zero]
      rw [hdr0] at hpu
      replace hpu := Lib.hid hpu
      clear h20 hdr0
      go_upto_region 31 with (fail)
      have M6 := M5.put (st' := { st1 with p := st1.p ++ [st.d] }) 6 (.slice (some ⟨g7, o7, none⟩) (st1.p.length + 1) c7) rfl rfl rfl rfl rfl
      generalize Y5.setCell ⟨B, 6, none⟩ (.slice (some ⟨g7, o7, none⟩) (st1.p.length + 1) c7) = Y6 at M6 ⊢
      have bR6 := bR.grown M6.bl
      clear M5 x6 e6 hlB5 bR5 hif
      generalize hst6 : ({ st1 with p := st1.p ++ [st.d] } : St) = s6 at M6 hpu
      replace hst6 := Lib.hid hst6
      have x0 := M6.b.cell 0 rfl
      have x1 := M6.b.cell 1 rfl
      have x2 := M6.b.cell 2 rfl
      have x3 := M6.b.cell 3 rfl
      have x4 := M6.b.cell 4 rfl
      have x5 := M6.b.cell 5 rfl
      have x6 := M6.b.cell 6 rfl
      have r0 := bR6.cell 0 rfl
      have r1 := bR6.cell 1 rfl
      have r2 := bR6.cell 2 rfl
      have r3 := bR6.cell 3 rfl
      have r4 := bR6.cell 4 rfl
      have r5 := bR6.cell 5 rfl
      have r6 := bR6.cell 6 rfl
      have e0 := bR6.frozen 0
      have e1 := bR6.frozen 1
      have e2 := bR6.frozen 2
      have e3 := bR6.frozen 3
      have e4 := bR6.frozen 4
      have e5 := bR6.frozen 5
      have e6 := bR6.frozen 6
      have hWs2 := hWs.out
      have hW4 := hB.trans (M6.bl.mono hB.size)
      go_wp2
      refine bodyPost_ret (ret_cell_tmp Try.results28 rfl rfl (bR6.put7 _ _ _ _ _ _ _) Try.underlying42 size42) rfl ?_
      rw [hpu.out]
      exact ⟨_, _, _, _, κ2, rfl, (M6.o.mv (Mv.low _ hB.size)).mv (Mv.put7 _ bR6 _ _ _ _ _ _ _), below_put7 _ _ _ _ _ _ _ hW4 (by omega)⟩
    · have hif : (if (st1.p.length : Int) + 1 - 20 < 0 then (0 : Int) else (st1.p.length : Int) + 1 - 20) = 1 := by split <;> omega
      have hdr0 : (st1.p ++ [st.d]).drop ((st1.p ++ [st.d]).length - 20) = (st1.p ++ [st.d]).drop 1 := by
        rw [List.length_append, List.length_singleton, show st1.p.length + 1 - 20 = 1 by omega]
      have hc71 : ¬ c7 = 1 := by omega
      have hle1 : (1 : Int) ≤ (st1.p.length : Int) + 1 := by omega
      rw [hdr0] at hpu
      replace hpu := Lib.hid hpu
      clear h20 hdr0
      have hl19 := Lib.hid (show st1.p.length - 19 = 1 by omega)
      go_upto_region 31 with (fail)
      rw [hl19.out, Nat.one_mul]
      have M6 := M5.cut (by simp) (by omega)
      generalize Y5.setCell ⟨B, 6, none⟩ (.slice (some ⟨g7, o7 + 3, none⟩) (st1.p.length + 1 - 1) (c7 - 1)) = Y6 at M6 ⊢
      have bR6 := bR.grown M6.bl
      clear M5 x6 e6 hlB5 bR5 hif hc71 hle1
      generalize hst6 : ({ st1 with p := (st1.p ++ [st.d]).drop 1 } : St) = s6 at M6 hpu
      replace hst6 := Lib.hid hst6
      have x0 := M6.b.cell 0 rfl
      have x1 := M6.b.cell 1 rfl
      have x2 := M6.b.cell 2 rfl
      have x3 := M6.b.cell 3 rfl
      have x4 := M6.b.cell 4 rfl
      have x5 := M6.b.cell 5 rfl
      have x6 := M6.b.cell 6 rfl
      have r0 := bR6.cell 0 rfl
      have r1 := bR6.cell 1 rfl
      have r2 := bR6.cell 2 rfl
      have r3 := bR6.cell 3 rfl
      have r4 := bR6.cell 4 rfl
      have r5 := bR6.cell 5 rfl
      have r6 := bR6.cell 6 rfl
      have e0 := bR6.frozen 0
      have e1 := bR6.frozen 1
      have e2 := bR6.frozen 2
      have e3 := bR6.frozen 3
      have e4 := bR6.frozen 4
      have e5 := bR6.frozen 5
      have e6 := bR6.frozen 6
      have hWs2 := hWs.out
      have hW4 := hB.trans (M6.bl.mono hB.size)
      go_wp2
      refine bodyPost_ret (ret_cell_tmp Try.results28 rfl rfl (bR6.put7 _ _ _ _ _ _ _) Try.underlying42 size42) rfl ?_
      rw [hpu.out]
      exact ⟨_, _, _, _, kshift κ2, rfl, (M6.o.mv (Mv.low _ hB.size)).mv (Mv.put7 _ bR6 _ _ _ _ _ _ _), below_put7 _ _ _ _ _ _ _ hW4 (by omega)⟩
  · rw [hq] at heq
    have hpu : pushF st st1 = st1 := by
      unfold pushF
      rw [if_pos hq]
    replace hpu := Lib.hid hpu
    clear hq
    replace heq := Lib.hid heq
    go_wp2_with fail
    refine heq.out.mono ?_
    rintro e Y6 ⟨rfl, hb4⟩
    have M6 := M1.below hb4
    have bR6 := bR.grown M6.bl
    clear r0 r1 r2 t0 t1 t2 heq M1 bS' hb4
    have x0 := M6.b.cell 0 rfl
    have x1 := M6.b.cell 1 rfl
    have x2 := M6.b.cell 2 rfl
    have x3 := M6.b.cell 3 rfl
    have x4 := M6.b.cell 4 rfl
    have x5 := M6.b.cell 5 rfl
    have x6 := M6.b.cell 6 rfl
    have r0 := bR6.cell 0 rfl
    have r1 := bR6.cell 1 rfl
    have r2 := bR6.cell 2 rfl
    have r3 := bR6.cell 3 rfl
    have r4 := bR6.cell 4 rfl
    have r5 := bR6.cell 5 rfl
    have r6 := bR6.cell 6 rfl
    have e0 := bR6.frozen 0
    have e1 := bR6.frozen 1
    have e2 := bR6.frozen 2
    have e3 := bR6.frozen 3
    have e4 := bR6.frozen 4
    have e5 := bR6.frozen 5
    have e6 := bR6.frozen 6
    have hWs2 := hWs.out
    have hW4 := hB.trans (M6.bl.mono hB.size)
    go_wp2
    refine bodyPost_ret (ret_cell_tmp Try.results28 rfl rfl (bR6.put7 _ _ _ _ _ _ _) Try.underlying42 size42) rfl ?_
    rw [hpu.out]
    exact ⟨_, _, _, _, κ1, rfl, (M6.o.mv (Mv.low _ hB.size)).mv (Mv.put7 _ bR6 _ _ _ _ _ _ _), below_put7 _ _ _ _ _ _ _ hW4 (by omega)⟩
end Go.Proofs.Ytgnamahdchefnaa
namespace Go.Proofs.Ytgnamahdchefnaa
open Go.RowKit Go.Shelf

set_option linter.unusedVariables false in
set_option maxRecDepth 100000 in
set_option maxHeartbeats 8000000 in
theorem ldo_k5 (x y xd xg xv xp : Value) (C : Con) (st : St) (d i : Int) (w : World) (hC : C.Ok) (hr : ConR w x y C) (hst : StR w xd xg xv xp st) (hS : SoundP C st) (hpos : posF C st 5 d i = 0) :
    Calls Try.prog 28 #[conV x y C.co C.ge C.lv, stV xd st.d.c st.d.o st.l xg xv xp, evV 5 d i] w (LDoPost (doF C st 5 d i) w) := by
  have hdo : doF C st 5 d i = pushF st (actF C st 5 d.toNat i.toNat) := by unfold doF; rw [if_neg (by decide)]
  rw [hdo]
  clear hdo
  obtain ⟨st1, hst1⟩ : ∃ st1, actF C st 5 d.toNat i.toNat = st1 := ⟨_, rfl⟩
  rw [hst1]
  have hpos0 := hpos
  unfold posF at hpos
  simp at hpos
  obtain ⟨n, rfl⟩ : ∃ n : Nat, d = n := ⟨d.toNat, by omega⟩
  obtain ⟨m, rfl⟩ : ∃ m : Nat, i = m := ⟨i.toNat, by omega⟩
  obtain ⟨lN, hlN⟩ : ∃ lN : Nat, st.l = lN := ⟨st.l.toNat, by have := hS.l; omega⟩
  have hlg : lN < st.v.length ∧ (C.lv : Int) = st.v.length := by have := hS.l; have := hS.vn; omega
  have hll := hlg.1
  have hnl : n < C.s.length := by omega
  have hvl := hS.vl lN hll
  have hnv : n < (get st.v lN).length := by omega
  have hmv : m < (get (get st.v lN) n).length := by have := hS.vd lN n hll hnl; simp at hpos; omega
  have hsn := hS.d.n
  have hnd : n < st.d.s.length := by omega
  clear hlg hsn hvl
  replace hlN := Lib.hid hlN
  try simp only [Int.toNat_natCast] at hst1
  replace hst1 := Lib.hid hst1
  obtain ⟨a1, cap1, rfl⟩ := hr.s.len
  obtain ⟨a2, cap2, rfl⟩ := hr.d.lenV hC.dl
  obtain ⟨a3, cap3, rfl⟩ := hst.d.len
  obtain ⟨a4, cap4, rfl⟩ := SlOf.len hst.g
  obtain ⟨a5, cap5, rfl⟩ := SlOf.len hst.v
  obtain ⟨a6, cap6, rfl⟩ := hst.p.len
  have hB := ((((Below.refl w.heap.size w).alloc (Nat.le_refl _) (.cells #[.slice a1 C.s.length cap1, .int .i64 C.co, .int .i64 C.ge, .slice a2 C.s.length cap2, .int .i64 C.lv] 32)).alloc (by simp) (.cells #[.slice a3 st.d.s.length cap3, .int .u64 st.d.c, .int .u64 st.d.o, .int .i64 st.l, .slice a4 st.g.length cap4, .slice a5 st.v.length cap5, .slice a6 st.p.length cap6] 42)).alloc (by simp; omega) (.cells #[.int .i64 5, .int .i64 (n : Int), .int .i64 (m : Int)] 28)).alloc (by simp; omega) (.cells #[.slice none 0 0, .int .u64 0, .int .u64 0, .int .i64 0, .slice none 0 0, .slice none 0 0, .slice none 0 0] 42)
  have bC := (((BoxC.new w 32 #[.slice a1 C.s.length cap1, .int .i64 C.co, .int .i64 C.ge, .slice a2 C.s.length cap2, .int .i64 C.lv]).alloc (.cells #[.slice a3 st.d.s.length cap3, .int .u64 st.d.c, .int .u64 st.d.o, .int .i64 st.l, .slice a4 st.g.length cap4, .slice a5 st.v.length cap5, .slice a6 st.p.length cap6] 42)).alloc (.cells #[.int .i64 5, .int .i64 (n : Int), .int .i64 (m : Int)] 28)).alloc (.cells #[.slice none 0 0, .int .u64 0, .int .u64 0, .int .i64 0, .slice none 0 0, .slice none 0 0, .slice none 0 0] 42)
  have bS := ((BoxC.new (w.alloc (.cells #[.slice a1 C.s.length cap1, .int .i64 C.co, .int .i64 C.ge, .slice a2 C.s.length cap2, .int .i64 C.lv] 32)) 42 #[.slice a3 st.d.s.length cap3, .int .u64 st.d.c, .int .u64 st.d.o, .int .i64 st.l, .slice a4 st.g.length cap4, .slice a5 st.v.length cap5, .slice a6 st.p.length cap6]).alloc (.cells #[.int .i64 5, .int .i64 (n : Int), .int .i64 (m : Int)] 28)).alloc (.cells #[.slice none 0 0, .int .u64 0, .int .u64 0, .int .i64 0, .slice none 0 0, .slice none 0 0, .slice none 0 0] 42)
  have bE := (BoxC.new ((w.alloc (.cells #[.slice a1 C.s.length cap1, .int .i64 C.co, .int .i64 C.ge, .slice a2 C.s.length cap2, .int .i64 C.lv] 32)).alloc (.cells #[.slice a3 st.d.s.length cap3, .int .u64 st.d.c, .int .u64 st.d.o, .int .i64 st.l, .slice a4 st.g.length cap4, .slice a5 st.v.length cap5, .slice a6 st.p.length cap6] 42)) 28 #[.int .i64 5, .int .i64 (n : Int), .int .i64 (m : Int)]).alloc (.cells #[.slice none 0 0, .int .u64 0, .int .u64 0, .int .i64 0, .slice none 0 0, .slice none 0 0, .slice none 0 0] 42)
  have bR := BoxC.new (((w.alloc (.cells #[.slice a1 C.s.length cap1, .int .i64 C.co, .int .i64 C.ge, .slice a2 C.s.length cap2, .int .i64 C.lv] 32)).alloc (.cells #[.slice a3 st.d.s.length cap3, .int .u64 st.d.c, .int .u64 st.d.o, .int .i64 st.l, .slice a4 st.g.length cap4, .slice a5 st.v.length cap5, .slice a6 st.p.length cap6] 42)).alloc (.cells #[.int .i64 5, .int .i64 (n : Int), .int .i64 (m : Int)] 28)) 42 #[.slice none 0 0, .int .u64 0, .int .u64 0, .int .i64 0, .slice none 0 0, .slice none 0 0, .slice none 0 0]
  simp only [World.size_alloc] at bS bE bR
  have hpp := lawPossible_any (.slice a1 C.s.length cap1) (.slice a2 C.s.length cap2) (.slice a3 st.d.s.length cap3) (.slice a4 st.g.length cap4) (.slice a5 st.v.length cap5) (.slice a6 st.p.length cap6) C st 5 (n : Int) (m : Int) _ hC (hr.mono hB) (hst.mono hB)
  rw [hpos0] at hpp
  replace hpp := Lib.hid hpp
  have hF := hS.fit hC
  have hsl : st.d.s.length ≤ 1000 := hF.d
  have hslC := Lib.hid hS.d.n
  have hpn := hS.pn
  have hS0 := Lib.hid hS
  have hC0 := Lib.hid hC
  have hst0 := Lib.hid (hst.mono hB)
  have hr0 := Lib.hid (hr.mono hB)
  clear hS hC hst hr hpos0
  go_enter Try.func28, Try.ntmps28
  go_wp2_with fail
  generalize hW : (((w.alloc (.cells #[.slice a1 C.s.length cap1, .int .i64 C.co, .int .i64 C.ge, .slice a2 C.s.length cap2, .int .i64 C.lv] 32)).alloc (.cells #[.slice a3 st.d.s.length cap3, .int .u64 st.d.c, .int .u64 st.d.o, .int .i64 st.l, .slice a4 st.g.length cap4, .slice a5 st.v.length cap5, .slice a6 st.p.length cap6] 42)).alloc (.cells #[.int .i64 5, .int .i64 (n : Int), .int .i64 (m : Int)] 28)).alloc (.cells #[.slice none 0 0, .int .u64 0, .int .u64 0, .int .i64 0, .slice none 0 0, .slice none 0 0, .slice none 0 0] 42) = W at hB bC bS bE bR hpp hst0 hr0 ⊢
  have hWs : W.heap.size = w.heap.size + 4 := by rw [← hW]; simp
  clear hW
  replace hWs := Lib.hid hWs
  refine hpp.out.mono ?_
  rintro e w1 ⟨rfl, hb1⟩
  have bS1 := bS.grown hb1
  have htw := twin_any (.slice a3 st.d.s.length cap3) (.slice a4 st.g.length cap4) (.slice a5 st.v.length cap5) (.slice a6 st.p.length cap6) st w1 (hst0.out.mono hb1) hF
  replace htw := Lib.hid htw
  have x0 := bS1.cell 0 rfl
  have x1 := bS1.cell 1 rfl
  have x2 := bS1.cell 2 rfl
  have x3 := bS1.cell 3 rfl
  have x4 := bS1.cell 4 rfl
  have x5 := bS1.cell 5 rfl
  have x6 := bS1.cell 6 rfl
  clear bS1
  go_wp2_with fail
  refine htw.out.mono ?_
  rintro e w2 ⟨yd, yg, yv, yp, κ, rfl, hO, hb2⟩
  obtain ⟨g3, q3, rfl⟩ := hO.d.len
  obtain ⟨g4, q4, rfl⟩ := SlOf.len hO.g.rd
  obtain ⟨g5, q5, rfl⟩ := SlOf.len hO.v.rd
  obtain ⟨g6, q6, rfl⟩ := hO.p.rd.len
  have hb12 := hb1.trans (hb2.mono hb1.size)
  have hb3 := (Below.refl w2.heap.size w2).alloc (Nat.le_refl _) (.cells #[.slice g3 st.d.s.length q3, .int .u64 st.d.c, .int .u64 st.d.o, .int .i64 st.l, .slice g4 st.g.length q4, .slice g5 st.v.length q5, .slice g6 st.p.length q6] 42)
  have M : LMid W.heap.size κ W w2.heap.size st (.slice g3 st.d.s.length q3) (.slice g4 st.g.length q4) (.slice g5 st.v.length q5) (.slice g6 st.p.length q6) (w2.alloc (.cells #[.slice g3 st.d.s.length q3, .int .u64 st.d.c, .int .u64 st.d.o, .int .i64 st.l, .slice g4 st.g.length q4, .slice g5 st.v.length q5, .slice g6 st.p.length q6] 42)) := {
    b := BoxC.new w2 42 _
    o := (hO.mv (Mv.low _ hb1.size)).below hb3
    bl := hb12.trans (hb3.mono hb12.size)
    le := hb12.size
    ls := Nat.le_trans hb12.size hb3.size }
  have z0 := (bE.grown hb12).cell 0 rfl
  have z1 := (bE.grown hb12).cell 1 rfl
  have z2 := (bE.grown hb12).cell 2 rfl
  have hzE := (bE.grown hb12).lt
  clear htw hO x0 x1 x2 x3 x4 x5 x6 hpp
  go_upto_region 17 with (fail)
  generalize w2.alloc (.cells #[.slice g3 st.d.s.length q3, .int .u64 st.d.c, .int .u64 st.d.o, .int .i64 st.l, .slice g4 st.g.length q4, .slice g5 st.v.length q5, .slice g6 st.p.length q6] 42) = Z at M hb3 ⊢
  generalize w2.heap.size = B at M hb3 ⊢
  have bE' := bE.grown M.bl
  have hZ4 : w.heap.size + 4 ≤ B := by have := M.le; have := hWs.out; omega
  generalize κ = κ1 at M
  clear hb12 hb3 hb2 hb1 z0 z1 z2 hzE
  obtain ⟨g, off, cp, he, hg, hk, hgl, hnc, hmx, hcur, hcell, hfz⟩ := RowX.at2 M.o.d (by omega)
  cases he
  have hsZ := hst0.out.mono M.bl
  have bSZ := bS.grown M.bl
  have s3 : Z.drew.cell? ⟨w.heap.size + 1, 3, none⟩ = some (.int .i64 (lN : Int)) := by rw [← hlN.out]; exact bSZ.cell 3 rfl
  have y1 : Z.drew.cell? ⟨w.heap.size + 1 + 1, 1, none⟩ = some (.int .i64 (n : Int)) := bE'.cell 1 rfl
  have y2 : Z.drew.cell? ⟨w.heap.size + 1 + 1, 2, none⟩ = some (.int .i64 (m : Int)) := bE'.cell 2 rfl
  obtain ⟨h1, o1, cp1, he, hc1⟩ := SlOf.at hsZ.v hll
  cases he
  obtain ⟨v2, c1', hR2⟩ := hc1 lN hll
  obtain ⟨h2, o2, cp2, rfl, hc2⟩ := SlOf.at hR2 hnv
  obtain ⟨v3, c2', hR3⟩ := hc2 n hnv
  obtain ⟨h3, o3, cp3, rfl, hc3⟩ := NumSl.at hR3 hmv
  have x0 : Z.drew.cell? ⟨B, 0, none⟩ = some (.slice (some ⟨g, off, none⟩) st.d.s.length q3) := M.b.cell 0 rfl
  have s5 : Z.drew.cell? ⟨w.heap.size + 1, 5, none⟩ = some (.slice (some ⟨h1, o1, none⟩) st.v.length cap5) := bSZ.cell 5 rfl
  have c1 : Z.drew.cell? ⟨h1, o1 + lN, none⟩ = some (.slice (some ⟨h2, o2, none⟩) (get st.v lN).length cp2) := c1'
  have c2 : Z.drew.cell? ⟨h2, o2 + n, none⟩ = some (.slice (some ⟨h3, o3, none⟩) (get (get st.v lN) n).length cp3) := c2'
  have c3 : Z.drew.cell? ⟨h3, o3 + m, none⟩ = some (.int .u64 (nth (get (get st.v lN) n) m)) := hc3 m hmv
  have c0 : Z.drew.cell? ⟨g, off + n, none⟩ = some (.int .u64 (nth st.d.s n)) := hcell n (by omega)
  have f0 : Z.drew.frozen? ⟨g, off + n, none⟩ = false := hfz _
  have hni : (n : Int) < (st.d.s.length : Int) := by omega
  have hli : (lN : Int) < (st.v.length : Int) := by omega
  have hnvi : (n : Int) < ((get st.v lN).length : Int) := by omega
  have hmvi : (m : Int) < ((get (get st.v lN) n).length : Int) := by omega
  clear hcell hfz hc1 hc2 hc3 hR2 hR3 c1' c2' hsZ bSZ hgl hnc hmx
  generalize hzv : nth (get (get st.v lN) n) m = zv at c3
  have hact : st1 = ⟨⟨st.d.s.set n zv, st.d.c, st.d.o⟩, st.l, st.g, st.v, st.p⟩ := by rw [← hst1.out, ← hzv]; simp [actF, hlN.out]
  have M1 := (M.putD hg hk hcur hnd zv).drew
  rw [show ({ st with d := ⟨st.d.s.set n zv, st.d.c, st.d.o⟩ } : St) = st1 from hact.symm] at M1
  replace hact := Lib.hid hact
  replace hzv := Lib.hid hzv
  clear hk
  go_still_tail 20, (by kernel_rfl)
  change wpList _ _ _ _ _ Z.drew
  go_upto_region 28 with (fail)
  replace hact := hact.out
  generalize (Z.setCell ⟨g, off + n, none⟩ (.int .u64 zv)).drew = Y at M1 ⊢
  clear M x0 s5 s3 y1 y2 c0 c1 c2 c3 f0 hcur
  have hp1 : st1.p.length = st.p.length := by rw [hact]
  have hs1 : st1.d.s.length = C.s.length := by rw [hact]; simpa using hslC.out
  have hn3 := hC0.out.n
  clear hact
  have bS' := bS.grown M1.bl
  have hsY := hst0.out.mono M1.bl
  have heq := lawEqual_any (.slice (some ⟨g, off, none⟩) st.d.s.length q3) (.slice a3 st.d.s.length cap3) st1.d st.d Y M1.o.d.num hsY.d (by omega)
  have r0 := M1.b.cell 0 rfl
  have r1 := M1.b.cell 1 rfl
  have r2 := M1.b.cell 2 rfl
  have t0 := bS'.cell 0 rfl
  have t1 := bS'.cell 1 rfl
  have t2 := bS'.cell 2 rfl
  replace hp1 := Lib.hid hp1
  replace hs1 := Lib.hid hs1
  clear hsY
  cases hq : eqB st1.d st.d
  · rw [hq] at heq
    have hpu : pushF st st1 = { st1 with p := (st1.p ++ [st.d]).drop ((st1.p ++ [st.d]).length - 20) } := by
      unfold pushF
      rw [if_neg (by simp [hq])]
    clear hq
    replace heq := Lib.hid heq
    have hpuH := Lib.hid hpu
    clear hpu
    go_wp2_with fail
    refine heq.out.mono ?_
    rintro e Y2 ⟨rfl, hb4⟩
    have M2 := M1.below hb4
    have bS2 := bS'.grown hb4
    have hp20 : st1.p.length ≤ 20 := by rw [hp1.out]; exact hpn
    rw [← hp1.out] at M2
    clear r0 r1 r2 t0 t1 t2 heq M1 bS' hb4
    go_wp2_with fail
    refine reg29 hsl hp20 bS2 ⟨rfl, rfl, rfl⟩ hst0.out.d M2 ?_
    intro s p7 κ2 g7 o7 c7 Y5 M5 hc7 hm7
    have x6 := M5.b.cell 6 rfl
    have e6 := M5.b.frozen 6
    have hlB5 := M5.b.lt
    have bR5 := bR.grown M5.bl
    have hcl7 : (st1.p.length : Int) + 1 ≤ (c7 : Int) := by omega
    have hpu := hpuH.out
    clear M2 bS2 hpuH
    by_cases h20 : st1.p.length + 1 ≤ 20
    · have hif : (if (st1.p.length : Int) + 1 - 20 < 0 then (0 : Int) else (st1.p.length : Int) + 1 - 20) = 0 := by split <;> omega
      have hdr0 : (st1.p ++ [st.d]).drop ((st1.p ++ [st.d]).length - 20) = st1.p ++ [st.d] := by
        rw [List.length_append, List.length_singleton, show st1.p.length + 1 - 20 = 0 by omega, List.drop_zero]
      rw [hdr0] at hpu
      replace hpu := Lib.hid hpu
      clear h20 hdr0
      go_upto_region 31 with (fail)
      have M6 := M5.put (st' := { st1 with p := st1.p ++ [st.d] }) 6 (.slice (some ⟨g7, o7, none⟩) (st1.p.length + 1) c7) rfl rfl rfl rfl rfl
      generalize Y5.setCell ⟨B, 6, none⟩ (.slice (some ⟨g7, o7, none⟩) (st1.p.length + 1) c7) = Y6 at M6 ⊢
      have bR6 := bR.grown M6.bl
      clear M5 x6 e6 hlB5 bR5 hif
      generalize hst6 : ({ st1 with p := st1.p ++ [st.d] } : St) = s6 at M6 hpu
      replace hst6 := Lib.hid hst6
      have x0 := M6.b.cell 0 rfl
      have x1 := M6.b.cell 1 rfl
      have x2 := M6.b.cell 2 rfl
      have x3 := M6.b.cell 3 rfl
      have x4 := M6.b.cell 4 rfl
      have x5 := M6.b.cell 5 rfl
      have x6 := M6.b.cell 6 rfl
      have r0 := bR6.cell 0 rfl
      have r1 := bR6.cell 1 rfl
      have r2 := bR6.cell 2 rfl
      have r3 := bR6.cell 3 rfl
      have r4 := bR6.cell 4 rfl
      have r5 := bR6.cell 5 rfl
      have r6 := bR6.cell 6 rfl
      have e0 := bR6.frozen 0
      have e1 := bR6.frozen 1
      have e2 := bR6.frozen 2
      have e3 := bR6.frozen 3
      have e4 := bR6.frozen 4
      have e5 := bR6.frozen 5
      have e6 := bR6.frozen 6
      have hWs2 := hWs.out
      have hW4 := hB.trans (M6.bl.mono hB.size)
      go_wp2
      refine bodyPost_ret (ret_cell_tmp Try.results28 rfl rfl (bR6.put7 _ _ _ _ _ _ _) Try.underlying42 size42) rfl ?_
      rw [hpu.out]
      exact ⟨_, _, _, _, κ2, rfl, (M6.o.mv (Mv.low _ hB.size)).mv (Mv.put7 _ bR6 _ _ _ _ _ _ _), below_put7 _ _ _ _ _ _ _ hW4 (by omega)⟩
    · have hif : (if (st1.p.length : Int) + 1 - 20 < 0 then (0 : Int) else (st1.p.length : Int) + 1 - 20) = 1 := by split <;> omega
      have hdr0 : (st1.p ++ [st.d]).drop ((st1.p ++ [st.d]).length - 20) = (st1.p ++ [st.d]).drop 1 := by
        rw [List.length_append, List.length_singleton, show st1.p.length + 1 - 20 = 1 by omega]
      have hc71 : ¬ c7 = 1 := by omega
      have hle1 : (1 : Int) ≤ (st1.p.length : Int) + 1 := by omega
      rw [hdr0] at hpu
      replace hpu := Lib.hid hpu
      clear h20 hdr0
      have hl19 := Lib.hid (show st1.p.length - 19 = 1 by omega)
      go_upto_region 31 with (fail)
      rw [hl19.out, Nat.one_mul]
      have M6 := M5.cut (by simp) (by omega)
      generalize Y5.setCell ⟨B, 6, none⟩ (.slice (some ⟨g7, o7 + 3, none⟩) (st1.p.length + 1 - 1) (c7 - 1)) = Y6 at M6 ⊢
      have bR6 := bR.grown M6.bl
      clear M5 x6 e6 hlB5 bR5 hif hc71 hle1
      generalize hst6 : ({ st1 with p := (st1.p ++ [st.d]).drop 1 } : St) = s6 at M6 hpu
      replace hst6 := Lib.hid hst6
      have x0 := M6.b.cell 0 rfl
      have x1 := M6.b.cell 1 rfl
      have x2 := M6.b.cell 2 rfl
      have x3 := M6.b.cell 3 rfl
      have x4 := M6.b.cell 4 rfl
      have x5 := M6.b.cell 5 rfl
      have x6 := M6.b.cell 6 rfl
      have r0 := bR6.cell 0 rfl
      have r1 := bR6.cell 1 rfl
      have r2 := bR6.cell 2 rfl
      have r3 := bR6.cell 3 rfl
      have r4 := bR6.cell 4 rfl
      have r5 := bR6.cell 5 rfl
      have r6 := bR6.cell 6 rfl
      have e0 := bR6.frozen 0
      have e1 := bR6.frozen 1
      have e2 := bR6.frozen 2
      have e3 := bR6.frozen 3
      have e4 := bR6.frozen 4
      have e5 := bR6.frozen 5
      have e6 := bR6.frozen 6
      have hWs2 := hWs.out
      have hW4 := hB.trans (M6.bl.mono hB.size)
      go_wp2
      refine bodyPost_ret (ret_cell_tmp Try.results28 rfl rfl (bR6.put7 _ _ _ _ _ _ _) Try.underlying42 size42) rfl ?_
      rw [hpu.out]
      exact ⟨_, _, _, _, kshift κ2, rfl, (M6.o.mv (Mv.low _ hB.size)).mv (Mv.put7 _ bR6 _ _ _ _ _ _ _), below_put7 _ _ _ _ _ _ _ hW4 (by omega)⟩
  · rw [hq] at heq
    have hpu : pushF st st1 = st1 := by
      unfold pushF
      rw [if_pos hq]
    replace hpu := Lib.hid hpu
    clear hq
    replace heq := Lib.hid heq
    go_wp2_with fail
    refine heq.out.mono ?_
    rintro e Y6 ⟨rfl, hb4⟩
    have M6 := M1.below hb4
    have bR6 := bR.grown M6.bl
    clear r0 r1 r2 t0 t1 t2 heq M1 bS' hb4
    have x0 := M6.b.cell 0 rfl
    have x1 := M6.b.cell 1 rfl
    have x2 := M6.b.cell 2 rfl
    have x3 := M6.b.cell 3 rfl
    have x4 := M6.b.cell 4 rfl
    have x5 := M6.b.cell 5 rfl
    have x6 := M6.b.cell 6 rfl
    have r0 := bR6.cell 0 rfl
    have r1 := bR6.cell 1 rfl
    have r2 := bR6.cell 2 rfl
    have r3 := bR6.cell 3 rfl
    have r4 := bR6.cell 4 rfl
    have r5 := bR6.cell 5 rfl
    have r6 := bR6.cell 6 rfl
    have e0 := bR6.frozen 0
    have e1 := bR6.frozen 1
    have e2 := bR6.frozen 2
    have e3 := bR6.frozen 3
    have e4 := bR6.frozen 4
    have e5 := bR6.frozen 5
    have e6 := bR6.frozen 6
    have hWs2 := hWs.out
    have hW4 := hB.trans (M6.bl.mono hB.size)
    go_wp2
    refine bodyPost_ret (ret_cell_tmp Try.results28 rfl rfl (bR6.put7 _ _ _ _ _ _ _) Try.underlying42 size42) rfl ?_
    rw [hpu.out]
    exact ⟨_, _, _, _, κ1, rfl, (M6.o.mv (Mv.low _ hB.size)).mv (Mv.put7 _ bR6 _ _ _ _ _ _ _), below_put7 _ _ _ _ _ _ _ hW4 (by omega)⟩
end Go.Proofs.Ytgnamahdchefnaa
