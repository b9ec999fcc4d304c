/- The walk of ReservoirSupplies, and the plain law behind it. Conditions: the plan's numbers are bytes (PlanOk). -/
import Derived.Test.YtbflocamicebhaaL3
import Derived.Deep.DeepCutAuto
namespace Go.Proofs.Ytbflocamicebhaa
open Go.RowKit Go.Shelf

/-- a supply of 255 misses nothing -/
theorem sup_great {c l n q : Int} {xs : List Int} (hc : 0 ≤ c) (hl0 : 0 ≤ l) (hx : ∀ i : Nat, 0 ≤ xs[i]?.getD 0 ∧ xs[i]?.getD 0 ≤ 255) (hn : 255 ≤ n) : chgP (chgSup c l q) xs n = true := by
  have hlv : ∀ k : Nat, 0 ≤ lvAt c n l xs k := by
    intro k
    induction k with
    | zero => exact hl0
    | succ k ih =>
      have h2 := hx k
      have h3 : lvAt c n l xs (k + 1) = (stepF c n (lvAt c n l xs k) (xs[k]?.getD 0)).1 := rfl
      rw [h3]
      unfold stepF
      split
      · simp
      · simp; omega
  have hm : (failF c n l xs).2 = false := by
    unfold failF
    rw [firstF_snd]
    refine List.any_eq_false.2 (fun k _ => ?_)
    have h1 := hlv k
    have h2 := hx k
    rw [miss_iff]
    simp
    omega
  simp [chgP, chgSup, hm]

theorem sup_law {c l q r : Int} {b : Bool} {xs : List Int} (hc : 0 ≤ c) (hl0 : 0 ≤ l) (hx : ∀ i : Nat, 0 ≤ xs[i]?.getD 0 ∧ xs[i]?.getD 0 ≤ 255) (h : IsLeast (chgP (chgSup c l q) xs) 1000000000 r b) :
    0 ≤ r ∧ r ≤ 255 ∧ (failF c r l xs).2 = false ∧ (0 < r → (failF c (r - 1) l xs).2 = true) := by
  obtain ⟨i, ⟨h0, h1, h2, h3⟩, rfl, rfl⟩ := h
  have hi : i ≤ 255 := by
    rcases Int.lt_or_le 255 i with hgt | hle
    · have := h2 (by omega)
      rw [sup_great hc hl0 hx (by omega)] at this
      cases this
    · exact hle
  have hP := h3 (by omega)
  rw [if_neg (by omega)]
  refine ⟨h0, hi, by simpa [chgP, chgSup] using hP, fun hr => ?_⟩
  have := h2 hr
  simpa [chgP, chgSup] using this

/-- with a higher level at the beginning no level is lower -/
theorem lv_mono {c s l l' : Int} {xs : List Int} (hc : 0 ≤ c) (h : l ≤ l') (hl' : 0 ≤ l') : ∀ k : Nat, lvAt c s l xs k ≤ lvAt c s l' xs k ∧ 0 ≤ lvAt c s l' xs k := by
  intro k
  induction k with
  | zero => exact ⟨h, hl'⟩
  | succ k ih =>
    have h3 : ∀ l, lvAt c s l xs (k + 1) = (stepF c s (lvAt c s l xs k) (xs[k]?.getD 0)).1 := fun _ => rfl
    rw [h3, h3]
    unfold stepF
    constructor
    · split <;> split <;> simp <;> omega
    · split <;> simp <;> omega

theorem fail_anti {c s l l' : Int} {xs : List Int} (hc : 0 ≤ c) (h : l ≤ l') (hl' : 0 ≤ l') (hf : (failF c s l xs).2 = false) : (failF c s l' xs).2 = false := by
  unfold failF at hf ⊢
  rw [firstF_snd] at hf ⊢
  rw [List.any_eq_false] at hf ⊢
  intro k hk
  have := hf k hk
  rw [miss_iff] at this ⊢
  have h1 := (lv_mono (xs := xs) (s := s) hc h hl' k).1
  simp at this ⊢
  omega

/-- what Start returns: the first level that suffices, or none -/
theorem start_law {c s q r : Int} {b : Bool} {xs : List Int} (h : IsLeast (chgP (chgLev c s q) xs) c r b) :
    (b = true → 0 ≤ r ∧ r ≤ c ∧ (failF c s r xs).2 = false ∧ (0 < r → (failF c s (r - 1) xs).2 = true)) ∧ (b = false → r = 0 ∧ (0 ≤ c → (failF c s c xs).2 = true)) := by
  obtain ⟨i, ⟨h0, h1, h2, h3⟩, rfl, rfl⟩ := h
  constructor
  · intro hb
    have hi : i ≤ c := by simpa using hb
    rw [if_neg (by omega)]
    have hP := h3 (by omega)
    refine ⟨h0, hi, by simpa [chgP, chgLev] using hP, fun hr => ?_⟩
    have := h2 hr
    simpa [chgP, chgLev] using this
  · intro hb
    have hi : c < i := by simpa using hb
    rw [if_pos hi]
    refine ⟨rfl, fun hc => ?_⟩
    have := h2 (by omega)
    rw [show i - 1 = c by omega] at this
    simpa [chgP, chgLev] using this

set_option maxRecDepth 100000 in
set_option maxHeartbeats 4000000 in
theorem law5_any (pc pl ps pq : Int) (v : Value) (ds : List Int) (h : PlanOk pc pl ps pq ds) (w : World) (hv : ByteSl w v ds) :
    Calls Try.prog 5 #[plV pc pl ps pq v] w fun e w' => e = .returned (.bool true) ∧ Below w.heap.size w w' := by
  have hb := (Below.refl w.heap.size w).alloc (Nat.le_refl _) (.cells #[.int .u8 pc, .int .u8 pl, .int .u8 ps, .int .u8 pq, v] 24)
  have bP := BoxC.new w 24 #[.int .u8 pc, .int .u8 pl, .int .u8 ps, .int .u8 pq, v]
  have hv0 := hv.mono hb
  obtain ⟨a, cap, hva⟩ := hv.len
  subst hva
  go_enter Try.func5, Try.ntmps5
  go_wp2_with fail
  refine (known_any _).mono ?_
  rintro e w1 ⟨rfl, hb1⟩
  have hB1 := hb.trans (hb1.mono hb.size)
  have bP1 := bP.grown hb1
  have hv1 := hv0.mono hb1
  clear hb bP hv0 hb1
  have p0 := bP1.cell 0 rfl
  have p1 := bP1.cell 1 rfl
  have p2 := bP1.cell 2 rfl
  have p3 := bP1.cell 3 rfl
  have p4 := bP1.cell 4 rfl
  go_wp2_with fail
  refine (fits_any pc pl ps pq _ ds w1 hv1 h.len).mono ?_
  rintro e w2 ⟨rfl, hb2⟩
  have hB2 := hB1.trans (hb2.mono hB1.size)
  have bP2 := bP1.grown hb2
  have hv2 := hv1.mono hb2
  clear hB1 bP1 hv1 hb2 p0 p1 p2 p3 p4 hv
  by_cases hf : ds.length ≤ 12
  · have hf2 : decide (ds.length ≤ 12) = true := by simpa using hf
    have p0 := bP2.cell 0 rfl
    have p1 := bP2.cell 1 rfl
    have p2 := bP2.cell 2 rfl
    have p3 := bP2.cell 3 rfl
    have p4 := bP2.cell 4 rfl
    go_wp2_with fail
    refine (make_any pc pl ps pq h.b4 _ ds h.bd w2 hv2 h.len).mono ?_
    rintro e w3 ⟨v, hiv, rfl, hb3⟩
    have hB3 := hB2.trans (hb3.mono hB2.size)
    clear hB2 bP2 hv2 hb3 p0 p1 p2 p3 p4
    have ho := h.okay
    have hdm := h.dem
    have hx := h.xs
    have hq0 := h.least.1
    have hq1 := h.least.2
    have hb4c := h.b4.c1
    have hb4s := h.b4.s1
    have hl12 : (ds.take 12).length ≤ 12 := by simp; omega
    have hs0 := ho.s0
    generalize hlv : pl % (pc + 1) = l at ho hdm ⊢
    generalize hqv : pq % (pc + 1) = q at ho hdm hq0 hq1 ⊢
    generalize hxs : ds.take 12 = xs at ho hdm hx hiv hl12 ⊢
    clear hlv hqv hxs
    obtain ⟨a2, cap2, hv2⟩ := hiv.len
    have bR := BoxC.new w3 28 #[.int .i64 pc, .int .i64 l, .int .i64 ps, .int .i64 q]
    have hb4 := (Below.refl w3.heap.size w3).alloc (Nat.le_refl _) (.cells #[.int .i64 pc, .int .i64 l, .int .i64 ps, .int .i64 q] 28)
    have hB4 := hB3.trans (hb4.mono hB3.size)
    have hiv2 := hiv.mono hb4
    subst hv2
    go_wp2_with fail
    refine (Supply_any pc l ps q _ xs _ hiv2 (by omega)).mono ?_
    rintro e w4 ⟨hb5, hok, _⟩
    obtain ⟨r, b, hle, rfl⟩ := hok hdm
    obtain ⟨hr0, hr1, hm1, hm2⟩ := sup_law ho.c0 ho.l0 hx hle
    have hB5 := hB4.trans (hb5.mono hB4.size)
    have bR2 := bR.grown hb5
    have hiv3 := hiv2.mono hb5
    clear hB3 hb4 hB4 hiv hiv2 hb5 hok hle bR
    have c0 := bR2.cell 0 rfl
    have c1 := bR2.cell 1 rfl
    have c2 := bR2.cell 2 rfl
    have c3 := bR2.cell 3 rfl
    go_wp2_with fail
    refine (Start_any pc l ps q _ xs _ hiv3 (by omega)).mono ?_
    rintro e w5 ⟨hb6, hok, _⟩
    obtain ⟨t, f, hle, rfl⟩ := hok hdm
    obtain ⟨hst1, hst2⟩ := start_law hle
    have hB6 := hB5.trans (hb6.mono hB5.size)
    have bR3 := bR2.grown hb6
    have hiv4 := hiv3.mono hb6
    clear hB5 hb6 hiv3 hok hle bR2 c0 c1 c2 c3 hdm
    have c0 := bR3.cell 0 rfl
    have c1 := bR3.cell 1 rfl
    have c2 := bR3.cell 2 rfl
    have c3 := bR3.cell 3 rfl
    have hm1 := Lib.hid hm1
    have hm2 := Lib.hid hm2
    have hst1 := Lib.hid hst1
    have hst2 := Lib.hid hst2
    have bY := BoxC.new w5 28 #[.int .i64 pc, .int .i64 l, .int .i64 r, .int .i64 q]
    have hb7 := (Below.refl w5.heap.size w5).alloc (Nat.le_refl _) (.cells #[.int .i64 pc, .int .i64 l, .int .i64 r, .int .i64 q] 28)
    have ho1 : Okay pc l r q xs := { ho with s0 := hr0, s1 := by omega }
    go_wp2_with fail
    refine (misses_any pc l r q _ xs ho1 _ (hiv4.mono hb7)).mono ?_
    rintro e w6 ⟨rfl, hb8⟩
    rw [hm1.out]
    have bY2 := bY.grown hb8
    have hb9 := hb7.trans (hb8.mono hb7.size)
    clear bY hb7 hb8 c0 c1 c2 c3
    have y0 := bY2.cell 0 rfl
    have y1 := bY2.cell 1 rfl
    have y2 := bY2.cell 2 rfl
    have y3 := bY2.cell 3 rfl
    have f2 := bY2.frozen 2
    have bY3 : BoxC (w6.setCell ⟨w5.heap.size, 2, none⟩ (.int .i64 (r - 1))) w5.heap.size 28 #[.int .i64 pc, .int .i64 l, .int .i64 (r - 1), .int .i64 q] := bY2.set 2 _
    have hb10 : Below w5.heap.size w5 (w6.setCell ⟨w5.heap.size, 2, none⟩ (.int .i64 (r - 1))) := hb9.setCell (p := ⟨w5.heap.size, 2, none⟩) (Nat.le_refl _) _
    go_upto_region 13 with (fail)
    generalize w6.setCell ⟨w5.heap.size, 2, none⟩ (.int .i64 (r - 1)) = W7 at bY3 hb10 ⊢
    clear hb9 bY2 y0 y1 y2 y3 f2
    have y0 := bY3.cell 0 rfl
    have y1 := bY3.cell 1 rfl
    have y2 := bY3.cell 2 rfl
    have y3 := bY3.cell 3 rfl
    go_cut [68] (fun b wx => b = .bool false ∧ BoxC wx w5.heap.size 28 #[.int .i64 pc, .int .i64 l, .int .i64 (r - 1), .int .i64 q] ∧ Below w5.heap.size w5 wx)
    case first =>
      by_cases hr : 0 < r
      · have ho2 : Okay pc l (r - 1) q xs := { ho with s0 := by omega, s1 := by omega }
        go_wp2_with (go_at_call 15; refine (misses_any pc l (r - 1) q _ xs ho2 _ (hiv4.mono hb10)).mono ?_; rintro e w8 ⟨rfl, hb11⟩; rw [hm2.out hr])
        go_meet
        case rel => exact ⟨rfl, bY3.grown hb11, hb10.trans (hb11.mono hb10.size)⟩
      · have hr2 : r ≤ 0 := by omega
        go_wp2_with fail
        go_meet
        case rel => exact ⟨rfl, bY3, hb10⟩
    case rest =>
      obtain ⟨rfl, bY4, hb11⟩ := hcut
      clear bY3 hb10 y0 y1 y2 y3
      go_wp2
      go_loopw [11] (fun i wr => ∃ j : Int, 0 ≤ j ∧ j ≤ pc + 1 ∧ i = .int .i64 j ∧ (∀ k : Int, 0 ≤ k → k < j → (failF pc ps k xs).2 = true) ∧ (∃ a b d e : Int, BoxC wr w5.heap.size 28 #[.int .i64 a, .int .i64 b, .int .i64 d, .int .i64 e]) ∧ Below w5.heap.size w5 wr) (fun i _ => (pc + 1 - intOf i).toNat)
      case atStart => exact ⟨0, by omega, by have := ho.c0; omega, rfl, fun k h1 h2 => by omega, ⟨_, _, _, _, bY4⟩, hb11⟩
      case round =>
        obtain ⟨j, hj0, hj1, rfl, hall, ⟨ya, yb, yd, ye, bYr⟩, hBr⟩ := hrel
        have hall2 := Lib.hid hall
        have tR := bR3.grown hBr
        have r0 := tR.cell 0 rfl
        have r1 := tR.cell 1 rfl
        have r2 := tR.cell 2 rfl
        have r3 := tR.cell 3 rfl
        have y0 := bYr.cell 0 rfl
        have y1 := bYr.cell 1 rfl
        have y2 := bYr.cell 2 rfl
        have y3 := bYr.cell 3 rfl
        have f0 := bYr.frozen 0
        have f1 := bYr.frozen 1
        have f2 := bYr.frozen 2
        have f3 := bYr.frozen 3
        have hc1 := ho.c1
        clear hall bY4 hb11
        by_cases hjc : j ≤ pc
        · have bYn : BoxC (((((wr.setCell ⟨w5.heap.size, 0, none⟩ (.int .i64 pc)).setCell ⟨w5.heap.size, 1, none⟩ (.int .i64 l)).setCell ⟨w5.heap.size, 2, none⟩ (.int .i64 ps)).setCell ⟨w5.heap.size, 3, none⟩ (.int .i64 q)).setCell ⟨w5.heap.size, 1, none⟩ (.int .i64 j)) w5.heap.size 28 #[.int .i64 pc, .int .i64 j, .int .i64 ps, .int .i64 q] := ((((bYr.set 0 _).set 1 _).set 2 _).set 3 _).set 1 _
          have hBn : Below w5.heap.size w5 (((((wr.setCell ⟨w5.heap.size, 0, none⟩ (.int .i64 pc)).setCell ⟨w5.heap.size, 1, none⟩ (.int .i64 l)).setCell ⟨w5.heap.size, 2, none⟩ (.int .i64 ps)).setCell ⟨w5.heap.size, 3, none⟩ (.int .i64 q)).setCell ⟨w5.heap.size, 1, none⟩ (.int .i64 j)) := ((((hBr.setCell (p := ⟨w5.heap.size, 0, none⟩) (Nat.le_refl _) _).setCell (p := ⟨w5.heap.size, 1, none⟩) (Nat.le_refl _) _).setCell (p := ⟨w5.heap.size, 2, none⟩) (Nat.le_refl _) _).setCell (p := ⟨w5.heap.size, 3, none⟩) (Nat.le_refl _) _).setCell (p := ⟨w5.heap.size, 1, none⟩) (Nat.le_refl _) _
          go_upto_region 20 with (fail)
          generalize ((((wr.setCell ⟨w5.heap.size, 0, none⟩ (.int .i64 pc)).setCell ⟨w5.heap.size, 1, none⟩ (.int .i64 l)).setCell ⟨w5.heap.size, 2, none⟩ (.int .i64 ps)).setCell ⟨w5.heap.size, 3, none⟩ (.int .i64 q)).setCell ⟨w5.heap.size, 1, none⟩ (.int .i64 j) = W9 at bYn hBn ⊢
          clear r0 r1 r2 r3 y0 y1 y2 y3 f0 f1 f2 f3 bYr hBr tR
          have y0 := bYn.cell 0 rfl
          have y1 := bYn.cell 1 rfl
          have y2 := bYn.cell 2 rfl
          have y3 := bYn.cell 3 rfl
          have hoj : Okay pc j ps q xs := { ho with l0 := hj0, l1 := hjc }
          obtain ⟨fj, hfj⟩ : ∃ b, (failF pc ps j xs).2 = b := ⟨_, rfl⟩
          have hfj2 := Lib.hid hfj
          clear hfj
          go_wp2_with fail
          refine (misses_any pc j ps q _ xs hoj _ (hiv4.mono hBn)).mono ?_
          rintro e w9 ⟨rfl, hb12⟩
          rw [hfj2.out]
          have hB7 := hB6.trans ((hBn.trans (hb12.mono hBn.size)).mono hB6.size)
          cases fj
          · have hf : f = true ∧ t = j := by
              have hf2 := hfj2.out
              cases f
              · have h1 := (hst2.out rfl).2 ho.c0
                rw [fail_anti ho.c0 hjc ho.c0 hf2] at h1
                cases h1
              · obtain ⟨h1, h2, h3, h4⟩ := hst1.out rfl
                refine ⟨rfl, ?_⟩
                rcases Int.lt_trichotomy t j with hlt | heq | hgt
                · have := hall2.out t h1 hlt
                  rw [h3] at this
                  cases this
                · exact heq
                · have h5 := h4 (by omega)
                  rw [fail_anti ho.c0 (show j ≤ t - 1 by omega) (by omega) hf2] at h5
                  cases h5
            obtain ⟨rfl, rfl⟩ := hf
            go_wp2
            go_ret
            exact ⟨rfl, hB7⟩
          · go_wp2
            go_roundw
            case rel =>
              refine ⟨j + 1, by omega, by omega, rfl, fun k h1 h2 => ?_, ⟨_, _, _, _, bYn.grown hb12⟩, hBn.trans (hb12.mono hBn.size)⟩
              by_cases hkj : k = j
              · subst hkj; exact hfj2.out
              · exact hall2.out k h1 (by omega)
            case measure => simp [intOf]; omega
        · have hf : f = false ∧ t = 0 := by
            cases f
            · exact ⟨rfl, (hst2.out rfl).1⟩
            · obtain ⟨h1, h2, h3, h4⟩ := hst1.out rfl
              have := hall2.out t h1 (by omega)
              rw [h3] at this
              cases this
          obtain ⟨rfl, rfl⟩ := hf
          go_wp2
          go_ret
          exact ⟨rfl, hB6.trans (hBr.mono hB6.size)⟩
  · have hf2 : decide (ds.length ≤ 12) = false := by simpa using hf
    go_wp2_with (go_at_call 11; refine (known_any _).mono ?_; rintro e w3 ⟨rfl, hb3⟩)
    go_ret
    exact ⟨rfl, hB2.trans (hb3.mono hB2.size)⟩
end Go.Proofs.Ytbflocamicebhaa
