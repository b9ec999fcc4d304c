/- The contract of Step, and the walk of ReservoirSteps. Conditions: the plan's numbers are bytes (PlanOk). -/
import Derived.Test.YtbflocamicebhaaL3
import Derived.Deep.RegionWith
namespace Go.Proofs.Ytbflocamicebhaa
open Go.RowKit Go.Shelf

def StepPost (c l s q level demand : Int) (w : World) (e : Ending) (w' : World) : Prop :=
  Below w.heap.size w w' ∧ (checkF c l s q ≠ 0 → e = .returned (.tuple #[stV (0, 0, 0), .int .i64 (checkF c l s q)])) ∧
    (checkF c l s q = 0 → (windB level c && windB demand 1000000000) = false → e = .returned (.tuple #[stV (0, 0, 0), .int .i64 3])) ∧
    (checkF c l s q = 0 → windB level c = true → windB demand 1000000000 = true → e = .returned (.tuple #[stV (stepF c s level demand), .int .i64 0]))

theorem check_range {c l s q : Int} (h : checkF c l s q = 0) : 0 ≤ c ∧ c ≤ 1000000000 ∧ 0 ≤ l ∧ l ≤ c ∧ 0 ≤ s ∧ s ≤ 1000000000 ∧ 0 ≤ q ∧ q ≤ c := by
  unfold checkF at h
  split at h
  · rename_i hc
    simp [windB] at hc
    omega
  · cases h

set_option maxHeartbeats 2000000 in
theorem Step_any (c l s q level demand : Int) (w : World) : Calls Try.prog 18 #[rV c l s q, .int .i64 level, .int .i64 demand] w (StepPost c l s q level demand w) := by
  have hb := ((Below.refl w.heap.size w).alloc (Nat.le_refl _) (.cells #[.int .i64 c, .int .i64 l, .int .i64 s, .int .i64 q] 28)).alloc (by simp) (.cells #[.int .i64 0, .int .i64 0, .int .i64 0] 40)
  have b0 := (BoxC.new w 28 #[.int .i64 c, .int .i64 l, .int .i64 s, .int .i64 q]).alloc (.cells #[.int .i64 0, .int .i64 0, .int .i64 0] 40)
  have b1 := BoxC.new (w.alloc (.cells #[.int .i64 c, .int .i64 l, .int .i64 s, .int .i64 q] 28)) 40 #[.int .i64 0, .int .i64 0, .int .i64 0]
  simp only [World.size_alloc] at b1
  obtain ⟨ch, hd⟩ : ∃ d, checkF c l s q = d := ⟨_, rfl⟩
  have hd2 := Lib.hid hd
  clear hd
  obtain ⟨x, hx⟩ : ∃ x, windB level c = x := ⟨_, rfl⟩
  have hx2 := Lib.hid hx
  clear hx
  obtain ⟨y, hy⟩ : ∃ x, windB demand 1000000000 = x := ⟨_, rfl⟩
  have hy2 := Lib.hid hy
  clear hy
  go_enter Try.func18, Try.ntmps18
  go_wp2_with fail
  refine (check_any c l s q _).mono ?_
  rintro e w1 ⟨rfl, hb1⟩
  rw [hd2.out]
  have r0 := (b0.grown hb1).cell 0 rfl
  have r1 := (b0.grown hb1).cell 1 rfl
  have r2 := (b0.grown hb1).cell 2 rfl
  have r3 := (b0.grown hb1).cell 3 rfl
  have tZ := b1.grown hb1
  have z0 := tZ.cell 0 rfl
  have z1 := tZ.cell 1 rfl
  have z2 := tZ.cell 2 rfl
  have f0 := tZ.frozen 0
  have f1 := tZ.frozen 1
  have f2 := tZ.frozen 2
  have hB := hb.trans (hb1.mono hb.size)
  have hend : ∀ a b c : Int, BoxC (((w1.setCell ⟨w.heap.size + 1, 0, none⟩ (.int .i64 a)).setCell ⟨w.heap.size + 1, 1, none⟩ (.int .i64 b)).setCell ⟨w.heap.size + 1, 2, none⟩ (.int .i64 c)) (w.heap.size + 1) 40 #[.int .i64 a, .int .i64 b, .int .i64 c] := fun a b c => ((tZ.set 0 _).set 1 _).set 2 _
  have hBe : ∀ a b c : Int, Below w.heap.size w (((w1.setCell ⟨w.heap.size + 1, 0, none⟩ (.int .i64 a)).setCell ⟨w.heap.size + 1, 1, none⟩ (.int .i64 b)).setCell ⟨w.heap.size + 1, 2, none⟩ (.int .i64 c)) := fun a b c => ((hB.setCell (p := ⟨w.heap.size + 1, 0, none⟩) (by simp) _).setCell (p := ⟨w.heap.size + 1, 1, none⟩) (by simp) _).setCell (p := ⟨w.heap.size + 1, 2, none⟩) (by simp) _
  have hend2 := Lib.hid hend
  have hBe2 := Lib.hid hBe
  clear hb b0 b1 hend hBe
  by_cases h0 : ch = 0
  · subst h0
    have hr := check_range hd2.out
    cases x
    · go_wp2_with (go_at_call 36; refine (wind_any _ _ _).mono ?_; rintro e w' ⟨rfl, rfl⟩; rw [hx2.out])
      have e0 := (hend2.out 0 0 0).cell 0 rfl
      have e1 := (hend2.out 0 0 0).cell 1 rfl
      have e2 := (hend2.out 0 0 0).cell 2 rfl
      refine bodyPost_ret (v := .tuple #[stV (0, 0, 0), .int .i64 3]) (by simp [results, Try.results18, go_sem, e0, e1, e2]) rfl ⟨hBe2.out 0 0 0, ?_, ?_, ?_⟩
      · exact fun h => absurd hd2.out h
      · exact fun _ _ => rfl
      · intro _ h; rw [hx2.out] at h; cases h
    · cases y
      · go_wp2_with (go_at_call 36; refine (wind_any _ _ _).mono ?_; rintro e w' ⟨rfl, rfl⟩; first | rw [hx2.out] | rw [hy2.out])
        have e0 := (hend2.out 0 0 0).cell 0 rfl
        have e1 := (hend2.out 0 0 0).cell 1 rfl
        have e2 := (hend2.out 0 0 0).cell 2 rfl
        refine bodyPost_ret (v := .tuple #[stV (0, 0, 0), .int .i64 3]) (by simp [results, Try.results18, go_sem, e0, e1, e2]) rfl ⟨hBe2.out 0 0 0, ?_, ?_, ?_⟩
        · exact fun h => absurd hd2.out h
        · exact fun _ _ => rfl
        · intro _ _ h; rw [hy2.out] at h; cases h
      · have hl : 0 ≤ level ∧ level ≤ c := by have := hx2.out; simp [windB] at this; exact this
        have hm : 0 ≤ demand ∧ demand ≤ 1000000000 := by have := hy2.out; simp [windB] at this; exact this
        go_wp2_with (go_at_call 36; refine (wind_any _ _ _).mono ?_; rintro e w' ⟨rfl, rfl⟩; first | rw [hx2.out] | rw [hy2.out])
        refine (step_any _ _ _ _ _ _ _ (by omega) (by omega) (by omega) (by omega) (by omega) (by omega) (by omega) (by omega)).mono ?_
        rintro e w2 ⟨rfl, hb2⟩
        have tZ2 := tZ.grown hb2
        have z0 := tZ2.cell 0 rfl
        have z1 := tZ2.cell 1 rfl
        have z2 := tZ2.cell 2 rfl
        have f0 := tZ2.frozen 0
        have f1 := tZ2.frozen 1
        have f2 := tZ2.frozen 2
        have hend : ∀ a b c : Int, BoxC (((w2.setCell ⟨w.heap.size + 1, 0, none⟩ (.int .i64 a)).setCell ⟨w.heap.size + 1, 1, none⟩ (.int .i64 b)).setCell ⟨w.heap.size + 1, 2, none⟩ (.int .i64 c)) (w.heap.size + 1) 40 #[.int .i64 a, .int .i64 b, .int .i64 c] := fun a b c => ((tZ2.set 0 _).set 1 _).set 2 _
        have hB2 := hB.trans (hb2.mono hB.size)
        have hend2 := Lib.hid hend
        clear hend
        go_wp2
        have e0 := (hend2.out (stepF c s level demand).1 (stepF c s level demand).2.1 (stepF c s level demand).2.2).cell 0 rfl
        have e1 := (hend2.out (stepF c s level demand).1 (stepF c s level demand).2.1 (stepF c s level demand).2.2).cell 1 rfl
        have e2 := (hend2.out (stepF c s level demand).1 (stepF c s level demand).2.1 (stepF c s level demand).2.2).cell 2 rfl
        refine bodyPost_ret (v := .tuple #[stV (stepF c s level demand), .int .i64 0]) (by simp [results, Try.results18, go_sem, e0, e1, e2]) rfl ⟨((hB2.setCell (p := ⟨w.heap.size + 1, 0, none⟩) (by simp) _).setCell (p := ⟨w.heap.size + 1, 1, none⟩) (by simp) _).setCell (p := ⟨w.heap.size + 1, 2, none⟩) (by simp) _, ?_, ?_, ?_⟩
        · exact fun h => absurd hd2.out h
        · intro _ h; rw [hx2.out, hy2.out] at h; cases h
        · exact fun _ _ _ => rfl
  · have h0' : (ch == 0) = false := by simpa using h0
    go_wp2
    have e0 := (hend2.out 0 0 0).cell 0 rfl
    have e1 := (hend2.out 0 0 0).cell 1 rfl
    have e2 := (hend2.out 0 0 0).cell 2 rfl
    refine bodyPost_ret (v := .tuple #[stV (0, 0, 0), .int .i64 ch]) (by simp [results, Try.results18, go_sem, e0, e1, e2]) rfl ⟨hBe2.out 0 0 0, ?_, ?_, ?_⟩
    · intro _; rw [hd2.out]
    · intro h; exact absurd (hd2.out.symm.trans h) h0
    · intro h; exact absurd (hd2.out.symm.trans h) h0
set_option maxRecDepth 100000 in
set_option maxHeartbeats 4000000 in
theorem law6_any (pc pl ps pq : Int) (x y : Int) (v : Value) (ds : List Int) (h : PlanOk pc pl ps pq ds) (w : World) (hv : ByteSl w v ds) :
    Calls Try.prog 6 #[plV pc pl ps pq v, .int .i64 x, .int .i64 y] w fun e w' => e = .returned (.bool true) ∧ Below w.heap.size w w' := by
  have hb := (Below.refl w.heap.size w).alloc (Nat.le_refl _) (.cells #[.int .u8 pc, .int .u8 pl, .int .u8 ps, .int .u8 pq, v] 24)
  have bP := BoxC.new w 24 #[.int .u8 pc, .int .u8 pl, .int .u8 ps, .int .u8 pq, v]
  have hv0 := hv.mono hb
  obtain ⟨a, cap, hva⟩ := hv.len
  subst hva
  go_enter Try.func6, Try.ntmps6
  go_wp2_with fail
  refine (known_any _).mono ?_
  rintro e w1 ⟨rfl, hb1⟩
  have hB1 := hb.trans (hb1.mono hb.size)
  have bP1 := bP.grown hb1
  have hv1 := hv0.mono hb1
  clear hb bP hv0 hb1
  have p0 := bP1.cell 0 rfl
  have p1 := bP1.cell 1 rfl
  have p2 := bP1.cell 2 rfl
  have p3 := bP1.cell 3 rfl
  have p4 := bP1.cell 4 rfl
  go_wp2_with fail
  refine (fits_any pc pl ps pq _ ds w1 hv1 h.len).mono ?_
  rintro e w2 ⟨rfl, hb2⟩
  have hB2 := hB1.trans (hb2.mono hB1.size)
  have bP2 := bP1.grown hb2
  have hv2 := hv1.mono hb2
  clear hB1 bP1 hv1 hb2 p0 p1 p2 p3 p4 hv
  by_cases hf : ds.length ≤ 12
  · have hf2 : decide (ds.length ≤ 12) = true := by simpa using hf
    have p0 := bP2.cell 0 rfl
    have p1 := bP2.cell 1 rfl
    have p2 := bP2.cell 2 rfl
    have p3 := bP2.cell 3 rfl
    have p4 := bP2.cell 4 rfl
    go_wp2_with fail
    refine (make_any pc pl ps pq h.b4 _ ds h.bd w2 hv2 h.len).mono ?_
    rintro e w3 ⟨v, hiv, rfl, hb3⟩
    have hB3 := hB2.trans (hb3.mono hB2.size)
    clear hB2 bP2 hv2 hb3 p0 p1 p2 p3 p4
    have ho := h.okay
    have hdm := h.dem
    have hx := h.xs
    have hq0 := h.least.1
    have hq1 := h.least.2
    have hb4c := h.b4.c1
    have hb4s := h.b4.s1
    have hl12 : (ds.take 12).length ≤ 12 := by simp; omega
    have hs0 := ho.s0
    generalize hlv : pl % (pc + 1) = l at ho hdm ⊢
    generalize hqv : pq % (pc + 1) = q at ho hdm hq0 hq1 ⊢
    generalize hxs : ds.take 12 = xs at ho hdm hx hiv hl12 ⊢
    clear hlv hqv hxs
    obtain ⟨a2, cap2, hv2⟩ := hiv.len
    have bR := BoxC.new w3 28 #[.int .i64 pc, .int .i64 l, .int .i64 ps, .int .i64 q]
    have hb4 := (Below.refl w3.heap.size w3).alloc (Nat.le_refl _) (.cells #[.int .i64 pc, .int .i64 l, .int .i64 ps, .int .i64 q] 28)
    have hB4 := hB3.trans (hb4.mono hB3.size)
    have hiv2 := hiv.mono hb4
    subst hv2
    go_wp2_with fail
    refine (Step_any pc l ps q x y _).mono ?_
    rintro e w4 ⟨hb5, _, hS1, hS2⟩
    have hck : checkF pc l ps q = 0 := by
      unfold checkF
      rw [if_pos]
      simp [windB]
      have := ho.c0; have := ho.c1; have := ho.l0; have := ho.l1; have := ho.s0; have := ho.s1
      omega
    have hB5 := hB4.trans (hb5.mono hB4.size)
    have bR2 := bR.grown hb5
    clear hB3 hb4 hB4 hiv hiv2 hb5 bR hdm
    obtain ⟨bx, hbx⟩ : ∃ b, windB x pc = b := ⟨_, rfl⟩
    obtain ⟨bY, hbY⟩ : ∃ b, windB y 1000000000 = b := ⟨_, rfl⟩
    have hbx2 := Lib.hid hbx
    have hbY2 := Lib.hid hbY
    cases bx
    · obtain rfl := hS1 hck (by rw [hbx]; rfl)
      clear hS1 hS2 hbx hbY
      have r0 := (bR2.alloc (.cells #[.int .i64 0, .int .i64 0, .int .i64 0] 40)).cell 0 rfl
      go_wp2_with (go_at_call 19; refine (in_any _ _ _).mono ?_; rintro e w' ⟨rfl, rfl⟩; rw [hbx2.out])
      go_ret
      exact ⟨rfl, hB5.alloc hB5.size _⟩
    · cases bY
      · obtain rfl := hS1 hck (by rw [hbx, hbY]; rfl)
        clear hS1 hS2 hbx hbY
        have r0 := (bR2.alloc (.cells #[.int .i64 0, .int .i64 0, .int .i64 0] 40)).cell 0 rfl
        go_wp2_with (go_at_call 19; refine (in_any _ _ _).mono ?_; rintro e w' ⟨rfl, rfl⟩; first | rw [hbx2.out] | rw [hbY2.out])
        go_ret
        exact ⟨rfl, hB5.alloc hB5.size _⟩
      · obtain rfl := hS2 hck hbx hbY
        have hl1 : 0 ≤ x ∧ x ≤ pc := by have := hbx; simp [windB] at this; exact this
        have hm1 : 0 ≤ y ∧ y ≤ 1000000000 := by have := hbY; simp [windB] at this; exact this
        have hc1 := ho.c1
        have hs1 := ho.s1
        clear hS1 hS2 hbx hbY
        obtain ⟨t, ht⟩ : ∃ t, stepF pc ps x y = t := ⟨_, rfl⟩
        rw [ht]
        have ht2 := Lib.hid ht
        clear ht
        have tR := bR2.alloc (.cells #[.int .i64 t.1, .int .i64 t.2.1, .int .i64 t.2.2] 40)
        have tS := BoxC.new w4 40 #[.int .i64 t.1, .int .i64 t.2.1, .int .i64 t.2.2]
        have r0 := tR.cell 0 rfl
        have r1 := tR.cell 1 rfl
        have r2 := tR.cell 2 rfl
        have r3 := tR.cell 3 rfl
        have s0 := tS.cell 0 rfl
        have s1 := tS.cell 1 rfl
        have s2 := tS.cell 2 rfl
        go_upto_region 7 with (go_at_call 19; refine (in_any _ _ _).mono ?_; rintro e w' ⟨rfl, rfl⟩; first | rw [hbx2.out] | rw [hbY2.out])
        go_region_with (go_at_call 20; refine (lstep_any _ _ _ _ _ _ _ (by omega) (by omega) (by omega) (by omega) (by omega) (by omega) (by omega) (by omega)).mono ?_; rintro e w' ⟨rfl, hbq⟩; rw [ht2.out]; have hb3 := below_undrew hbq; clear hbq; obtain ⟨hq1, hq2⟩ := bcell hb3)
        all_goals
          go_wp2
          go_ret
          exact ⟨by simp [Act.put], (hB5.alloc hB5.size _).trans (hb3.mono (hB5.alloc hB5.size _).size)⟩
  · have hf2 : decide (ds.length ≤ 12) = false := by simpa using hf
    go_wp2_with (go_at_call 11; refine (known_any _).mono ?_; rintro e w3 ⟨rfl, hb3⟩)
    go_ret
    exact ⟨rfl, hB2.trans (hb3.mono hB2.size)⟩
end Go.Proofs.Ytbflocamicebhaa
