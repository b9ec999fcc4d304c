/- The walk of ReservoirLaws, and the plain law behind it. Conditions: the plan's numbers are bytes (PlanOk), so are the two more. -/
import Derived.Test.YtbflocamicebhaaL9
namespace Go.Proofs.Ytbflocamicebhaa
open Go.RowKit Go.Shelf

theorem step_mono {c s s' a a' d : Int} (hc : 0 ≤ c) (hs : s ≤ s') (h : a ≤ a') : (stepF c s a d).1 ≤ (stepF c s' a' d).1 ∧ (stepF c s' a' d).2.2 ≤ (stepF c s a d).2.2 := by
  unfold stepF
  constructor
  · split <;> split <;> simp <;> omega
  · split <;> split <;> simp <;> omega

theorem lv_mono2 {c s s' l l' : Int} {xs : List Int} (hc : 0 ≤ c) (hs : s ≤ s') (h : l ≤ l') : ∀ k : Nat, lvAt c s l xs k ≤ lvAt c s' l' xs k
  | 0 => h
  | k + 1 => (step_mono hc hs (lv_mono2 hc hs h k)).1

theorem st_mono {c s s' l l' : Int} {xs : List Int} (hc : 0 ≤ c) (hs : s ≤ s') (h : l ≤ l') (k : Nat) : (stAt c s l xs k).1 ≤ (stAt c s' l' xs k).1 ∧ (stAt c s' l' xs k).2.2 ≤ (stAt c s l xs k).2.2 :=
  step_mono hc hs (lv_mono2 hc hs h k)

def demAt (xs : List Int) (k : Nat) : Int := xs[k]?.getD 0

theorem sums_dem (c s l : Int) (xs : List Int) : ∀ k, totF (useF c s l xs) k + totF (misF c s l xs) k = totF (demAt xs) k
  | 0 => rfl
  | k + 1 => by
    have h := sums_dem c s l xs k
    show totF (useF c s l xs) k + useF c s l xs k + (totF (misF c s l xs) k + misF c s l xs k) = totF (demAt xs) k + demAt xs k
    unfold useF misF demAt at *
    omega

theorem sums_water {c s l : Int} {xs : List Int} : ∀ k : Nat, l + (k : Int) * s = totF (useF c s l xs) k + totF (wasF c s l xs) k + lvAt c s l xs k
  | 0 => by simp [totF, lvAt]
  | k + 1 => by
    have h := sums_water (c := c) (s := s) (l := l) (xs := xs) k
    have e : ((k + 1 : Nat) : Int) * s = k * s + s := by rw [Int.natCast_add, Int.add_mul]; simp
    have hs : lvAt c s l xs k + s = useF c s l xs k + wasF c s l xs k + lvAt c s l xs (k + 1) := by
      show _ = (xs[k]?.getD 0 - (stepF c s (lvAt c s l xs k) (xs[k]?.getD 0)).2.2) + (stepF c s (lvAt c s l xs k) (xs[k]?.getD 0)).2.1 + (stepF c s (lvAt c s l xs k) (xs[k]?.getD 0)).1
      generalize lvAt c s l xs k = a
      generalize xs[k]?.getD 0 = d
      unfold stepF
      split <;> simp <;> omega
    show _ = totF (useF c s l xs) k + useF c s l xs k + (totF (wasF c s l xs) k + wasF c s l xs k) + lvAt c s l xs (k + 1)
    rw [e]
    omega

set_option maxRecDepth 100000 in
set_option maxHeartbeats 4000000 in
theorem law7_any (pc pl ps pq : Int) (z0 z1 : Int) (v : Value) (ds : List Int) (h : PlanOk pc pl ps pq ds) (hz0 : 0 ≤ z0 ∧ z0 ≤ 255) (hz1 : 0 ≤ z1 ∧ z1 ≤ 255) (w : World) (hv : ByteSl w v ds) :
    Calls Try.prog 7 #[plV pc pl ps pq v, .agg #[.int .u8 z0, .int .u8 z1]] w fun e w' => e = .returned (.bool true) ∧ Below w.heap.size w w' := by
  have hb := ((Below.refl w.heap.size w).alloc (Nat.le_refl _) (.cells #[.int .u8 pc, .int .u8 pl, .int .u8 ps, .int .u8 pq, v] 24)).alloc (by simp) (.cells #[.int .u8 z0, .int .u8 z1] 46)
  have bP := (BoxC.new w 24 #[.int .u8 pc, .int .u8 pl, .int .u8 ps, .int .u8 pq, v]).alloc (.cells #[.int .u8 z0, .int .u8 z1] 46)
  have bA := BoxC.new (w.alloc (.cells #[.int .u8 pc, .int .u8 pl, .int .u8 ps, .int .u8 pq, v] 24)) 46 #[.int .u8 z0, .int .u8 z1]
  simp only [World.size_alloc] at bA
  have hv0 := hv.mono hb
  obtain ⟨a, cap, hva⟩ := hv.len
  subst hva
  go_enter Try.func7, Try.ntmps7
  go_wp2_with fail
  refine (known_any _).mono ?_
  rintro e w1 ⟨rfl, hb1⟩
  have hB1 := hb.trans (hb1.mono hb.size)
  have bP1 := bP.grown hb1
  have bA1 := bA.grown hb1
  have hv1 := hv0.mono hb1
  clear hb bP hv0 hb1
  have p0 := bP1.cell 0 rfl
  have p1 := bP1.cell 1 rfl
  have p2 := bP1.cell 2 rfl
  have p3 := bP1.cell 3 rfl
  have p4 := bP1.cell 4 rfl
  go_wp2_with fail
  refine (fits_any pc pl ps pq _ ds w1 hv1 h.len).mono ?_
  rintro e w2 ⟨rfl, hb2⟩
  have hB2 := hB1.trans (hb2.mono hB1.size)
  have bP2 := bP1.grown hb2
  have bA2 := bA1.grown hb2
  have hv2 := hv1.mono hb2
  clear hB1 bP1 hv1 hb2 p0 p1 p2 p3 p4 hv
  by_cases hf : ds.length ≤ 12
  · have hf2 : decide (ds.length ≤ 12) = true := by simpa using hf
    have p0 := bP2.cell 0 rfl
    have p1 := bP2.cell 1 rfl
    have p2 := bP2.cell 2 rfl
    have p3 := bP2.cell 3 rfl
    have p4 := bP2.cell 4 rfl
    go_wp2_with fail
    refine (make_any pc pl ps pq h.b4 _ ds h.bd w2 hv2 h.len).mono ?_
    rintro e w3 ⟨v, hiv, rfl, hb3⟩
    have hB3 := hB2.trans (hb3.mono hB2.size)
    have bA3 := bA2.grown hb3
    clear hB2 bP2 hv2 hb3 p0 p1 p2 p3 p4
    have ho := h.okay
    have hdm := h.dem
    have hx := h.xs
    have hq0 := h.least.1
    have hq1 := h.least.2
    have hb4c := h.b4.c1
    have hb4s := h.b4.s1
    have hl12 : (ds.take 12).length ≤ 12 := by simp; omega
    have hs0 := ho.s0
    generalize hlv : pl % (pc + 1) = l at ho hdm ⊢
    generalize hqv : pq % (pc + 1) = q at ho hdm hq0 hq1 ⊢
    generalize hxs : ds.take 12 = xs at ho hdm hx hiv hl12 ⊢
    clear hlv hqv hxs
    obtain ⟨a2, cap2, hv2⟩ := hiv.len
    have bR := BoxC.new w3 28 #[.int .i64 pc, .int .i64 l, .int .i64 ps, .int .i64 q]
    have hb4 := (Below.refl w3.heap.size w3).alloc (Nat.le_refl _) (.cells #[.int .i64 pc, .int .i64 l, .int .i64 ps, .int .i64 q] 28)
    have hB4 := hB3.trans (hb4.mono hB3.size)
    have hiv2 := hiv.mono hb4
    subst hv2
    have hnl : xs.length ≤ 140737488355328 := by omega
    have hcc := ho.c0
    have hll0 := ho.l0
    have hll1 := ho.l1
    have ho2 : Okay pc (min (l + z1) pc) (ps + z0) q xs := ⟨ho.c0, ho.c1, by omega, by omega, by omega, by omega, ho.d0, ho.d1, ho.n1⟩
    have hdm2 := demF_ok ho2 hq0 hq1
    have hRu := fun w hv => Run_any pc l ps q (.slice a2 xs.length cap2) xs w hv hnl
    have hTo := fun w hv => Totals_any pc l ps q (.slice a2 xs.length cap2) xs w hv hnl
    have hRu2 := fun w hv => Run_any pc (min (l + z1) pc) (ps + z0) q (.slice a2 xs.length cap2) xs w hv hnl
    simp only [hdm, hdm2] at hRu hTo hRu2
    clear hdm hdm2
    have bA4 := bA3.grown hb4
    go_wp2_with fail
    refine (hRu _ hiv2).mono ?_
    rintro e w4 ⟨hb5, hR, -⟩
    obtain ⟨v1, hf1, -, rfl⟩ := hR rfl
    obtain ⟨a4, cap4, rfl⟩ := hf1.len
    have hB5 := hB4.trans (hb5.mono hB4.size)
    have bR5 := bR.grown hb5
    have bA5 := bA4.grown hb5
    have hiv5 := hiv2.mono hb5
    clear hB3 hb4 hB4 hb5 hR hRu hiv bR bA4 bA3
    have c0 := bR5.cell 0 rfl
    have c1 := bR5.cell 1 rfl
    have c2 := bR5.cell 2 rfl
    have c3 := bR5.cell 3 rfl
    go_wp2_with fail
    refine (hTo _ hiv5).mono ?_
    rintro e w7 ⟨hb8, hT, -⟩
    obtain rfl := hT rfl
    have hB8 := hB5.trans (hb8.mono hB5.size)
    have bR8 := bR5.grown hb8
    have bA8 := bA5.grown hb8
    have hiv8 := hiv5.mono hb8
    have hf8 := hf1.mono hb8
    clear hB5 hb8 bR5 bA5 hiv5 hf1 hT hTo c0 c1 c2 c3
    have c0 := bR8.cell 0 rfl
    have c1 := bR8.cell 1 rfl
    have c2 := bR8.cell 2 rfl
    have c3 := bR8.cell 3 rfl
    have d0 := bA8.cell 0 rfl
    have d1 := bA8.cell 1 rfl
    have hps := ho.s1
    go_wp2_with fail
    have bX := BoxC.new w7 28 #[.int .i64 pc, .int .i64 l, .int .i64 ps, .int .i64 q]
    have hbX := (Below.refl w7.heap.size w7).alloc (Nat.le_refl _) (.cells #[.int .i64 pc, .int .i64 l, .int .i64 ps, .int .i64 q] 28)
    have hB9 := hB8.trans (hbX.mono hB8.size)
    have bR9 := bR8.grown hbX
    have bA9 := bA8.grown hbX
    have hs7 := hB8.size
    clear c0 c1 c2 c3 d0 d1
    have hwx : w7.heap.size < (w7.alloc (.cells #[.int .i64 pc, .int .i64 l, .int .i64 ps, .int .i64 q] 28)).heap.size := by simp
    generalize w7.alloc (.cells #[.int .i64 pc, .int .i64 l, .int .i64 ps, .int .i64 q] 28) = w9 at bX hB9 bR9 bA9 hbX hwx ⊢
    have c0 := bR9.cell 0 rfl
    have c1 := bR9.cell 1 rfl
    have c2 := bR9.cell 2 rfl
    have c3 := bR9.cell 3 rfl
    have d0 := bA9.cell 0 rfl
    have d1 := bA9.cell 1 rfl
    have x0 := bX.cell 0 rfl
    have x1 := bX.cell 1 rfl
    have x2 := bX.cell 2 rfl
    have x3 := bX.cell 3 rfl
    have fx1 := bX.frozen 1
    have fx2 := bX.frozen 2
    go_region
    rw [show (if pc < l + z1 then pc else l + z1) = min (l + z1) pc by split <;> omega]
    have hbY : Below w7.heap.size w7 (((w9.setCell ⟨w7.heap.size, 2, none⟩ (.int .i64 (ps + z0))).setCell ⟨w7.heap.size, 1, none⟩ (.int .i64 (min (l + z1) pc))).drew) :=
      ((hbX.setCell (p := ⟨w7.heap.size, 2, none⟩) (Nat.le_refl _) _).setCell (p := ⟨w7.heap.size, 1, none⟩) (Nat.le_refl _) _).drew
    have bY : BoxC (((w9.setCell ⟨w7.heap.size, 2, none⟩ (.int .i64 (ps + z0))).setCell ⟨w7.heap.size, 1, none⟩ (.int .i64 (min (l + z1) pc))).drew) w7.heap.size 28 #[.int .i64 pc, .int .i64 (min (l + z1) pc), .int .i64 (ps + z0), .int .i64 q] := ((bX.set 2 _).set 1 _).drew
    clear c0 c1 c2 c3 d0 d1 x0 x1 x2 x3 fx1 fx2 bX hB9 bR9 bA9 hbX hwx
    generalize (((w9.setCell ⟨w7.heap.size, 2, none⟩ (.int .i64 (ps + z0))).setCell ⟨w7.heap.size, 1, none⟩ (.int .i64 (min (l + z1) pc))).drew) = wY at hbY bY ⊢
    have hB9 := hB8.trans (hbY.mono hB8.size)
    have bR9 := bR8.grown hbY
    have hiv9 := hiv8.mono hbY
    have hf9 := hf8.mono hbY
    clear hB8 bR8 bA8 hiv8 hf8 hbY
    obtain ⟨l2, hl2⟩ : ∃ l2, min (l + z1) pc = l2 := ⟨_, rfl⟩
    rw [hl2] at bY hRu2 ⊢
    have y0 := bY.cell 0 rfl
    have y1 := bY.cell 1 rfl
    have y2 := bY.cell 2 rfl
    have y3 := bY.cell 3 rfl
    go_wp2_with fail
    refine (hRu2 _ hiv9).mono ?_
    rintro e w8 ⟨hb9, hR, -⟩
    obtain ⟨v2, hg9, -, rfl⟩ := hR rfl
    obtain ⟨a9, cap9, rfl⟩ := hg9.len
    have hBT := hB9.trans (hb9.mono hB9.size)
    have bRT := bR9.grown hb9
    have hivT := hiv9.mono hb9
    have hfT := hf9.mono hb9
    clear hB9 bR9 hiv9 hf9 hb9 hR hRu2 y0 y1 y2 y3 bY
    have c0 := bRT.cell 0 rfl
    have c1 := bRT.cell 1 rfl
    have c2 := bRT.cell 2 rfl
    have c3 := bRT.cell 3 rfl
    go_wp2
    obtain ⟨U, hU⟩ : ∃ U, totF (useF pc ps l xs) xs.length = U := ⟨_, rfl⟩
    obtain ⟨V, hV⟩ : ∃ V, totF (wasF pc ps l xs) xs.length = V := ⟨_, rfl⟩
    obtain ⟨M, hM⟩ : ∃ M, totF (misF pc ps l xs) xs.length = M := ⟨_, rfl⟩
    rw [hU, hV, hM]
    replace hU := Lib.hid hU
    replace hV := Lib.hid hV
    replace hM := Lib.hid hM
    go_loopw [16, 17, 18] (fun t16 t17 t18 wr => ∃ k : Nat, k ≤ xs.length ∧ t18 = .int .i64 k ∧ t16 = .int .i64 (lvAt pc ps l xs k) ∧ t17 = .int .i64 (totF (demAt xs) k) ∧ Below w8.heap.size w8 wr) (fun _ _ i _ => xs.length - (intOf i).toNat)
    case atStart => exact ⟨0, by omega, rfl, rfl, rfl, Below.refl _ _⟩
    case round =>
      obtain ⟨k, hk, rfl, rfl, rfl, hBr⟩ := hrel
      by_cases hlt : k < xs.length
      · as_aux_lemma =>
          have hn0 : 0 < xs.length := by omega
          obtain ⟨b1, cap1, he1, hl1, hc1⟩ := hfT.at hn0
          cases he1
          obtain ⟨b2, cap2', he2, hl2', hc2⟩ := hg9.at hn0
          cases he2
          obtain ⟨b3, off3, cap3, he3, hc3⟩ := hivT.at hlt
          cases he3
          obtain ⟨s0, s1, s2⟩ := runCells_three hc1 hlt
          obtain ⟨t0, t1, t2⟩ := runCells_three hc2 hlt
          replace s0 := (hBr.cell (p := ⟨b1, k * 3, none⟩) hl1).trans s0
          replace s2 := (hBr.cell (p := ⟨b1, k * 3 + 2, none⟩) hl1).trans s2
          replace t0 := (hBr.cell (p := ⟨b2, k * 3, none⟩) hl2').trans t0
          replace t2 := (hBr.cell (p := ⟨b2, k * 3 + 2, none⟩) hl2').trans t2
          replace hc3 := (hBr.cell (p := ⟨b3, off3 + k, none⟩) (lt_of_cell hc3)).trans hc3
          have hmon := st_mono (c := pc) (s := ps) (s' := ps + z0) (l := l) (l' := l2) (xs := xs) hcc (by omega) (by omega) k
          have hxk : (xs[k]?.getD 0) = xs[k] := by simp [hlt]
          have hxx := hx k
          have hdr := totF_range (f := demAt xs) (M := 255) hx k
          have kd : totF (demAt xs) (k + 1) = totF (demAt xs) k + xs[k] := by
            show totF (demAt xs) k + demAt xs k = _
            unfold demAt; rw [hxk]
          have kl : lvAt pc ps l xs (k + 1) = (stAt pc ps l xs k).1 := rfl
          rw [hxk] at hc3 hxx
          clear s1 t1 hc1 hc2 hxk hfT hg9 hivT hl2
          replace kd := Lib.hid kd
          replace kl := Lib.hid kl
          generalize stAt pc ps l xs k = sa at s0 s2 hmon kl
          generalize stAt pc (ps + z0) l2 xs k = sb at t0 t2 hmon
          obtain ⟨lva, wsa, msa⟩ := sa
          obtain ⟨lvb, wsb, msb⟩ := sb
          simp only at s0 s2 t0 t2 hmon
          have hgd : decide (lvb < lva) = false := by simpa using hmon.1
          obtain ⟨hmon1, hmon2⟩ := hmon
          have hgd2 : decide (msa < msb) = false := by simpa using hmon2
          generalize xs[k] = dk at hc3 hxx kd
          generalize totF (demAt xs) k = dt at hdr kd ⊢
          generalize lvAt pc ps l xs k = lk
          go_wp2_with fail
          go_quiet (fail)
          go_wp2_with fail
          go_quiet (fail)
          go_wp2
          go_roundw
          case rel => exact ⟨k + 1, by omega, by go_num, by rw [kl.out], by rw [kd.out], hBr.trans ⟨rfl, rfl, rfl, Nat.le_refl _, fun _ _ => rfl⟩⟩
          case measure => simp [intOf]; omega
      · as_aux_lemma =>
          obtain rfl : k = xs.length := by omega
          have hu : ∀ k, 0 ≤ useF pc ps l xs k ∧ useF pc ps l xs k ≤ 2000000000 := fun k => by have h1 := ho.st k; have h2 := ho.d1 k; unfold useF; omega
          have hw : ∀ k, 0 ≤ wasF pc ps l xs k ∧ wasF pc ps l xs k ≤ 2000000000 := fun k => by have h1 := ho.st k; unfold wasF; omega
          have hi : ∀ k, 0 ≤ misF pc ps l xs k ∧ misF pc ps l xs k ≤ 2000000000 := fun k => by have h1 := ho.st k; have h2 := ho.d1 k; unfold misF; omega
          have su := totF_range hu xs.length
          have sw := totF_range hw xs.length
          have si := totF_range hi xs.length
          have hD := sums_dem pc ps l xs xs.length
          have hW := sums_water (c := pc) (s := ps) (l := l) (xs := xs) xs.length
          have hLr := ho.lv xs.length
          have hm0 : 0 ≤ (xs.length : Int) * ps := Int.mul_nonneg (by omega) hs0
          have hm1 : (xs.length : Int) * ps ≤ 12 * 255 := Int.mul_le_mul (by omega) (by omega) hs0 (by omega)
          have hk12 : (xs.length : Int) * 2000000000 ≤ 24000000000 := by omega
          rw [hU.out] at su hD hW
          rw [hV.out] at sw hW
          rw [hM.out] at si hD
          replace hD := Lib.hid hD
          replace hW := Lib.hid hW
          clear hu hw hi
          have bRr := bRT.grown hBr
          have c0 := bRr.cell 0 rfl
          have c1 := bRr.cell 1 rfl
          have c2 := bRr.cell 2 rfl
          have c3 := bRr.cell 3 rfl
          have hLr := hLr
          have hD2 := hD.out
          have hW2 := hW.out
          generalize totF (demAt xs) xs.length = D at hD2 ⊢
          generalize lvAt pc ps l xs xs.length = L at hW2 hLr ⊢
          have e1 : (U + M == D) = true := by simpa using hD2
          have e2 : (l + (xs.length : Int) * ps == U + V + L) = true := by simpa using hW2
          go_wp2
          go_ret
          exact ⟨rfl, hBT.trans (hBr.mono hBT.size)⟩
  · have hf2 : decide (ds.length ≤ 12) = false := by simpa using hf
    go_wp2_with (go_at_call 11; refine (known_any _).mono ?_; rintro e w3 ⟨rfl, hb3⟩)
    go_ret
    exact ⟨rfl, hB2.trans (hb3.mono hB2.size)⟩
end Go.Proofs.Ytbflocamicebhaa
