/- The walk of ReservoirLasts, and the plain law behind it. Conditions: the plan's numbers are bytes (PlanOk), the demand is a uint16. -/
import Derived.Test.YtbflocamicebhaaL3
import Derived.RegionTactic
import Derived.Deep.DeepCutAuto
import Derived.Deep.CutBlock
import Derived.Deep.LoopGhost
namespace Go.Proofs.Ytbflocamicebhaa
open Go.RowKit Go.Shelf

/-- for how many ticks a demand is met, at most 300 -/
def ticksF (l s d : Int) : Int := if d ≤ s then 300 else l / (d - s)

/-- the level behind k ticks, where the demand is greater than the supply -/
def Inv1 (l s d k lv : Int) : Prop := s < d → lv = l - k * (d - s)

theorem inv1_step {c l s d k lv : Int} (h : Inv1 l s d k lv) (hc : lv ≤ c) : Inv1 l s d (k + 1) (min (lv + s - d) c) := by
  intro hsd
  have := h hsd
  rw [Int.add_mul, Int.one_mul]
  omega

theorem inv1_break {l s d k lv : Int} (h : Inv1 l s d k lv) (h0 : 0 ≤ lv) (hn : lv + s - d < 0) : k = ticksF l s d := by
  have hsd : s < d := by omega
  have he := h hsd
  have hm : 0 < d - s := by omega
  unfold ticksF
  rw [if_neg (by omega)]
  have h1 : k ≤ l / (d - s) := (Int.le_ediv_iff_mul_le hm).2 (by omega)
  have h2 : l / (d - s) < k + 1 := (Int.ediv_lt_iff_lt_mul hm).2 (by rw [Int.add_mul, Int.one_mul]; omega)
  omega

theorem inv1_end {l s d lv : Int} (h : Inv1 l s d 300 lv) (h0 : 0 ≤ lv) (hl : l ≤ 255) : ticksF l s d = 300 := by
  unfold ticksF
  split
  · rfl
  · have := h (by omega)
    omega

theorem ticks_lasts {l s d : Int} (hl0 : 0 ≤ l) (hl : l ≤ 255) : (s < d → ticksF l s d < 300 ∧ lastsF l s d = ticksF l s d) ∧ (d ≤ s → ticksF l s d = 300 ∧ lastsF l s d = 0) := by
  unfold ticksF lastsF
  constructor
  · intro h
    rw [if_neg (by omega), if_neg (by omega)]
    refine ⟨?_, rfl⟩
    have : l / (d - s) < 256 := (Int.ediv_lt_iff_lt_mul (by omega)).2 (by omega)
    omega
  · intro h
    rw [if_pos h, if_pos h]
    exact ⟨rfl, rfl⟩

theorem ticks_range {l s d : Int} (hl0 : 0 ≤ l) (hl : l ≤ 255) : 0 ≤ ticksF l s d ∧ ticksF l s d ≤ 300 := by
  rcases Int.lt_or_le s d with h | h
  · have := ((ticks_lasts hl0 hl).1 h).1
    refine ⟨?_, by omega⟩
    unfold ticksF
    rw [if_neg (by omega)]
    exact Int.ediv_nonneg hl0 (by omega)
  · have := ((ticks_lasts hl0 hl).2 h).1
    omega

/-- the level behind k ticks without demand -/
def Inv2 (c l s k lv : Int) : Prop := lv = min (l + k * s) c ∧ (0 < k → l + (k - 1) * s < c)

theorem inv2_step {c l s k lv : Int} (h : Inv2 c l s k lv) (_hc : lv < c) : Inv2 c l s (k + 1) (min (lv + s - 0) c) := by
  obtain ⟨h1, h2⟩ := h
  have e : (k + 1) * s = k * s + s := by rw [Int.add_mul, Int.one_mul]
  constructor
  · rw [e]; omega
  · intro _
    rw [show k + 1 - 1 = k by omega]
    omega

theorem inv2_low {c l s lv : Int} (h : Inv2 c l s 300 lv) (hs : 0 ≤ s) (hc : c ≤ 255) (hl : 0 ≤ l) (_hlt : lv < c) : fillsB c l s = false ∧ fillsF c l s = 0 := by
  obtain ⟨h1, _⟩ := h
  have hs0 : s = 0 := by omega
  subst hs0
  have hlc : ¬ c - l = 0 := by omega
  simp [fillsB, fillsF, hlc]

theorem inv2_full {c l s k lv : Int} (h : Inv2 c l s k lv) (hk : 0 ≤ k) (hs : 0 ≤ s) (hlc : l ≤ c) (hge : c ≤ lv) : fillsB c l s = true ∧ fillsF c l s = k := by
  obtain ⟨h1, h2⟩ := h
  have hks : 0 ≤ k * s := Int.mul_nonneg hk hs
  by_cases hcl : c - l = 0
  · have hk0 : k = 0 := by
      rcases Int.lt_or_le 0 k with hp | hp
      · have := h2 hp
        have h3 : 0 ≤ (k - 1) * s := Int.mul_nonneg (by omega) hs
        omega
      · omega
    simp [fillsB, fillsF, hcl, hk0]
  · have hs0 : s ≠ 0 := by
      intro e
      subst e
      omega
    have hkp : 0 < k := by
      rcases Int.lt_or_le 0 k with hp | hp
      · exact hp
      · have : k = 0 := by omega
        subst this
        omega
    have h3 := h2 hkp
    have e : (k - 1) * s = k * s - s := by rw [Int.sub_mul, Int.one_mul]
    have hq : (c - l + s - 1) / s = k := by
      have a1 : k ≤ (c - l + s - 1) / s := (Int.le_ediv_iff_mul_le (by omega)).2 (by omega)
      have a2 : (c - l + s - 1) / s < k + 1 := (Int.ediv_lt_iff_lt_mul (by omega)).2 (by rw [Int.add_mul, Int.one_mul]; omega)
      omega
    simp [fillsB, fillsF, hcl, hs0, hq]

set_option maxRecDepth 100000 in
set_option maxHeartbeats 4000000 in
theorem law8_any (pc pl ps pq : Int) (x : Int) (v : Value) (ds : List Int) (h : PlanOk pc pl ps pq ds) (hx0 : 0 ≤ x) (hx1 : x ≤ 65535) (w : World) (hv : ByteSl w v ds) :
    Calls Try.prog 8 #[plV pc pl ps pq v, .int .u16 x] w fun e w' => e = .returned (.bool true) ∧ Below w.heap.size w w' := by
  have hb := (Below.refl w.heap.size w).alloc (Nat.le_refl _) (.cells #[.int .u8 pc, .int .u8 pl, .int .u8 ps, .int .u8 pq, v] 24)
  have bP := BoxC.new w 24 #[.int .u8 pc, .int .u8 pl, .int .u8 ps, .int .u8 pq, v]
  have hv0 := hv.mono hb
  obtain ⟨a, cap, hva⟩ := hv.len
  subst hva
  go_enter Try.func8, Try.ntmps8
  go_wp2_with fail
  refine (known_any _).mono ?_
  rintro e w1 ⟨rfl, hb1⟩
  have hB1 := hb.trans (hb1.mono hb.size)
  have bP1 := bP.grown hb1
  have hv1 := hv0.mono hb1
  clear hb bP hv0 hb1
  have p0 := bP1.cell 0 rfl
  have p1 := bP1.cell 1 rfl
  have p2 := bP1.cell 2 rfl
  have p3 := bP1.cell 3 rfl
  have p4 := bP1.cell 4 rfl
  go_wp2_with fail
  refine (fits_any pc pl ps pq _ ds w1 hv1 h.len).mono ?_
  rintro e w2 ⟨rfl, hb2⟩
  have hB2 := hB1.trans (hb2.mono hB1.size)
  have bP2 := bP1.grown hb2
  have hv2 := hv1.mono hb2
  clear hB1 bP1 hv1 hb2 p0 p1 p2 p3 p4 hv
  by_cases hf : ds.length ≤ 12
  · have hf2 : decide (ds.length ≤ 12) = true := by simpa using hf
    have p0 := bP2.cell 0 rfl
    have p1 := bP2.cell 1 rfl
    have p2 := bP2.cell 2 rfl
    have p3 := bP2.cell 3 rfl
    have p4 := bP2.cell 4 rfl
    go_wp2_with fail
    refine (make_any pc pl ps pq h.b4 _ ds h.bd w2 hv2 h.len).mono ?_
    rintro e w3 ⟨v, hiv, rfl, hb3⟩
    have hB3 := hB2.trans (hb3.mono hB2.size)
    clear hB2 bP2 hv2 hb3 p0 p1 p2 p3 p4
    have ho := h.okay
    have hdm := h.dem
    have hx := h.xs
    have hq0 := h.least.1
    have hq1 := h.least.2
    have hb4c := h.b4.c1
    have hb4s := h.b4.s1
    have hl12 : (ds.take 12).length ≤ 12 := by simp; omega
    have hs0 := ho.s0
    generalize hlv : pl % (pc + 1) = l at ho hdm ⊢
    generalize hqv : pq % (pc + 1) = q at ho hdm hq0 hq1 ⊢
    generalize hxs : ds.take 12 = xs at ho hdm hx hiv hl12 ⊢
    clear hlv hqv hxs
    obtain ⟨a2, cap2, hv2⟩ := hiv.len
    have bR := BoxC.new w3 28 #[.int .i64 pc, .int .i64 l, .int .i64 ps, .int .i64 q]
    have hb4 := (Below.refl w3.heap.size w3).alloc (Nat.le_refl _) (.cells #[.int .i64 pc, .int .i64 l, .int .i64 ps, .int .i64 q] 28)
    have hB4 := hB3.trans (hb4.mono hB3.size)
    have hiv2 := hiv.mono hb4
    subst hv2
    have hck : checkF pc l ps q = 0 := by
      unfold checkF
      rw [if_pos]
      simp [windB]
      have := ho.c0; have := ho.c1; have := ho.l0; have := ho.l1; have := ho.s0; have := ho.s1
      omega
    have hwx : windB x 1000000000 = true := by simp [windB]; omega
    have hla := Lasts_any pc l ps q x
    rw [hck, ifOk_zero, hwx] at hla
    have hfi := Fills_any pc l ps q
    rw [hck, ifOk_zero] at hfi
    clear hdm hwx hck
    go_wp2_with fail
    refine (hla _).mono ?_
    rintro e w4 ⟨rfl, hb5⟩
    have hB5 := hB4.trans (hb5.mono hB4.size)
    have bR2 := bR.grown hb5
    clear hB3 hb4 hB4 hiv hiv2 hb5 bR hla
    have c0 := bR2.cell 0 rfl
    have c1 := bR2.cell 1 rfl
    have c2 := bR2.cell 2 rfl
    have c3 := bR2.cell 3 rfl
    go_wp2_with fail
    refine (hfi _).mono ?_
    rintro e w5 ⟨rfl, hb6⟩
    have hB6 := hB5.trans (hb6.mono hB5.size)
    have bR3 := bR2.grown hb6
    clear hB5 hb6 bR2 hfi c0 c1 c2 c3
    have c0 := bR3.cell 0 rfl
    have c1 := bR3.cell 1 rfl
    have c2 := bR3.cell 2 rfl
    have c3 := bR3.cell 3 rfl
    have ht1 := ticks_lasts (s := ps) (d := x) ho.l0 (show l ≤ 255 by have := ho.l1; omega)
    have ht2 := ticks_range (s := ps) (d := x) ho.l0 (show l ≤ 255 by have := ho.l1; omega)
    have ht1 := Lib.hid ht1
    have hc0 := ho.c0
    have hl0 := ho.l0
    have hl1 := ho.l1
    generalize hT : ticksF l ps x = T at ht2
    have hT := Lib.hid hT
    go_upto_region 8 with (fail)
    go_region
    go_upto_block 0 with (fail)
    have bRd := bR3.drew
    have hbd : Below w5.heap.size w5 w5.drew := (Below.refl _ _).drew
    generalize w5.drew = W6 at bRd hbd ⊢
    clear c0 c1 c2 c3
    go_cut [13] (fun t wx => t = .int .i64 T ∧ Below w5.heap.size w5 wx)
    case first =>
      go_wp2_with fail
      go_loopg [13, 14] 300 (fun g t v wr => ∃ k lv : Int, 0 ≤ k ∧ k ≤ 300 ∧ 0 ≤ lv ∧ lv ≤ pc ∧ Inv1 l ps x k lv ∧ g = (300 - k).toNat ∧ t = .int .i64 k ∧ v = .int .i64 lv ∧ Below w5.heap.size w5 wr)
      case atStart => exact ⟨0, l, by omega, by omega, hl0, hl1, fun _ => by omega, rfl, rfl, rfl, hbd⟩
      case round =>
        obtain ⟨k, lv, hk0, hk1, hv0, hv1, hI, rfl, rfl, rfl, hBr⟩ := hrel
        have hI := Lib.hid hI
        have tR := bR3.grown hBr
        have r0 := tR.cell 0 rfl
        have r1 := tR.cell 1 rfl
        have r2 := tR.cell 2 rfl
        have r3 := tR.cell 3 rfl
        have hps := ho.s1
        by_cases hk : k < 300
        · by_cases hn : lv + ps - x < 0
          · have hst := stepF_neg (c := pc) hn
            have hst := Lib.hid hst
            have hkT : k = T := by rw [← hT.out]; exact inv1_break hI.out hv0 hn
            have hkT := Lib.hid hkT
            go_wp2_with (go_at_call 20; refine (lstep_any _ _ _ _ _ _ _ (by omega) (by omega) (by omega) (by omega) (by omega) (by omega) (by omega) (by omega)).mono ?_; rintro e w' ⟨rfl, hb7⟩; rw [hst.out])
            go_meet
            case rel => exact ⟨rfl, (hBr.trans (hb7.mono hBr.size)).alloc (by have := hBr.size; have := hb7.size; omega) _⟩
          · have hst : ∃ wst, stepF pc ps lv x = (min (lv + ps - x) pc, wst, 0) := ⟨max 0 (lv + ps - x - pc), by unfold stepF; rw [if_neg hn]⟩
            obtain ⟨wst, hst⟩ := hst
            have hst := Lib.hid hst
            have hmin : 0 ≤ min (lv + ps - x) pc ∧ min (lv + ps - x) pc ≤ pc := by omega
            have hI2 := inv1_step hI.out (d := x) hv1
            have hn2 : 0 ≤ lv + ps - x := by omega
            generalize min (lv + ps - x) pc = nl at hst hmin hI2
            have hI2 := Lib.hid hI2
            go_wp2_with (go_at_call 20; refine (lstep_any _ _ _ _ _ _ _ (by omega) (by omega) (by omega) (by omega) (by omega) (by omega) (by omega) (by omega)).mono ?_; rintro e w' ⟨rfl, hb7⟩; rw [hst.out])
            go_roundg (300 - (k + 1)).toNat
            case measure => omega
            case rel => exact ⟨k + 1, nl, by omega, by omega, hmin.1, hmin.2, hI2.out, rfl, rfl, rfl, (hBr.trans (hb7.mono hBr.size)).alloc (by have := hBr.size; have := hb7.size; omega) _⟩
        · have hk3 : k = 300 := by omega
          subst hk3
          have hT3 : 300 = T := by rw [← hT.out]; exact (inv1_end hI.out hv0 (by omega)).symm
          have hT3 := Lib.hid hT3
          go_wp2
          go_meet
          case rel => exact ⟨by rw [← hT3.out], hBr⟩
    case rest =>
      obtain ⟨rfl, hBr⟩ := hcut
      have hcase : (T < 300 ∧ lastsF l ps x = T ∧ decide (ps < x) = true) ∨ (T = 300 ∧ lastsF l ps x = 0 ∧ decide (ps < x) = false) := by
        rcases Int.lt_or_le ps x with hc | hc
        · have ha := ht1.out.1 hc
          rw [hT.out] at ha
          exact Or.inl ⟨ha.1, ha.2, by simpa using hc⟩
        · have ha := ht1.out.2 hc
          rw [hT.out] at ha
          exact Or.inr ⟨ha.1, ha.2, by simpa using hc⟩
      generalize lastsF l ps x = L at hcase ⊢
      generalize decide (ps < x) = bb at hcase ⊢
      clear ht1 hT
      have tR := bR3.grown hBr
      have c0 := tR.cell 0 rfl
      have c1 := tR.cell 1 rfl
      have c2 := tR.cell 2 rfl
      have c3 := tR.cell 3 rfl
      rcases hcase with ⟨h1, rfl, rfl⟩ | ⟨rfl, rfl, rfl⟩
      all_goals
        go_upto_region 16 with (fail)
        go_region
        have hBd := hBr.drew
        clear c0 c1 c2 c3
        go_upto_block 0 with (fail)
        have hBd0 := hBd
        go_loopg [13, 14] 300 (fun g t v wr => ∃ k lv : Int, 0 ≤ k ∧ k ≤ 300 ∧ 0 ≤ lv ∧ lv ≤ pc ∧ Inv2 pc l ps k lv ∧ g = (300 - k).toNat ∧ t = .int .i64 k ∧ v = .int .i64 lv ∧ Below w5.heap.size w5 wr)
        case atStart => exact ⟨0, l, by omega, by omega, hl0, hl1, ⟨by omega, by omega⟩, rfl, rfl, rfl, hBd⟩
        case round =>
          obtain ⟨k, lv, hk0, hk1, hv0, hv1, hI, rfl, rfl, rfl, hBr2⟩ := hrel
          have hI := Lib.hid hI
          have tR2 := bR3.grown hBr2
          have r0 := tR2.cell 0 rfl
          have r1 := tR2.cell 1 rfl
          have r2 := tR2.cell 2 rfl
          have r3 := tR2.cell 3 rfl
          have hps := ho.s1
          by_cases hk : k < 300
          · by_cases hn : lv < pc
            · have hst : ∃ wst, stepF pc ps lv 0 = (min (lv + ps - 0) pc, wst, 0) := ⟨max 0 (lv + ps - 0 - pc), by unfold stepF; rw [if_neg (by omega)]⟩
              obtain ⟨wst, hst⟩ := hst
              have hst := Lib.hid hst
              have hmin : 0 ≤ min (lv + ps - 0) pc ∧ min (lv + ps - 0) pc ≤ pc := by omega
              have hI2 := inv2_step hI.out hn
              generalize min (lv + ps - 0) pc = nl at hst hmin hI2
              have hI2 := Lib.hid hI2
              have hfd : ∀ w : World, (Instr.field 40 (.agg #[.int .i64 nl, .int .i64 wst, .int .i64 0]) 0).run Try.prog w = .ok (.int .i64 nl) w := fun _ => by kernel_rfl
              go_wp2_with (go_at_call 20; refine (lstep_any _ _ _ _ _ _ _ (by omega) (by omega) (by omega) (by omega) (by omega) (by omega) (by omega) (by omega)).mono ?_; rintro e w' ⟨rfl, hb7⟩; rw [hst.out]; unfold stV)
              go_roundg (300 - (k + 1)).toNat
              case measure => omega
              case rel => exact ⟨k + 1, nl, by omega, by omega, hmin.1, hmin.2, hI2.out, rfl, rfl, rfl, hBr2.trans (hb7.mono hBr2.size)⟩
            · have hfull := inv2_full hI.out hk0 (by omega) hl1 (by omega)
              have hF := Lib.hid hfull.1
              have hG := Lib.hid hfull.2
              clear hfull
              rw [hF.out, hG.out]
              go_wp2
              go_ret
              exact ⟨by simp, hB6.trans (hBr2.mono hB6.size)⟩
          · have hk3 : k = 300 := by omega
            subst hk3
            by_cases hn : lv < pc
            · have hlow := inv2_low hI.out (by omega) (by omega) (by omega) hn
              have hF := Lib.hid hlow.1
              have hG := Lib.hid hlow.2
              clear hlow
              rw [hF.out, hG.out]
              go_wp2
              go_ret
              exact ⟨by simp, hB6.trans (hBr2.mono hB6.size)⟩
            · have hfull := inv2_full hI.out (by omega) (by omega) hl1 (by omega)
              have hF := Lib.hid hfull.1
              have hG := Lib.hid hfull.2
              clear hfull
              rw [hF.out, hG.out]
              go_wp2
              go_ret
              exact ⟨by simp, hB6.trans (hBr2.mono hB6.size)⟩
  · have hf2 : decide (ds.length ≤ 12) = false := by simpa using hf
    go_wp2_with (go_at_call 11; refine (known_any _).mono ?_; rintro e w3 ⟨rfl, hb3⟩)
    go_ret
    exact ⟨rfl, hB2.trans (hb3.mono hB2.size)⟩
end Go.Proofs.Ytbflocamicebhaa
