/- The walk of ReservoirCapacities, and the plain law behind it. Conditions: the plan's numbers are bytes (PlanOk). -/
import Derived.Test.YtbflocamicebhaaW9
namespace Go.Proofs.Ytbflocamicebhaa
open Go.RowKit Go.Shelf

/-- a plan's numbers -/
structure PlanOk (pc pl ps pq : Int) (ds : List Int) : Prop where
  b4 : Byte4 pc pl ps pq
  bd : ∀ i : Nat, 0 ≤ ds[i]?.getD 0 ∧ ds[i]?.getD 0 ≤ 255
  len : ds.length ≤ 9223372036854775807

theorem take_getD (ds : List Int) (n i : Nat) : ((ds.take n)[i]?.getD 0 = if i < n then ds[i]?.getD 0 else 0) := by
  rw [List.getElem?_take]
  split <;> simp

theorem PlanOk.xs {pc pl ps pq : Int} {ds : List Int} (h : PlanOk pc pl ps pq ds) (i : Nat) : 0 ≤ (ds.take 12)[i]?.getD 0 ∧ (ds.take 12)[i]?.getD 0 ≤ 255 := by
  rw [take_getD]
  split
  · exact h.bd i
  · omega

theorem PlanOk.okay {pc pl ps pq : Int} {ds : List Int} (h : PlanOk pc pl ps pq ds) : Okay pc (pl % (pc + 1)) ps (pq % (pc + 1)) (ds.take 12) := by
  obtain ⟨⟨h1, h2, h3, h4, h5, h6, h7, h8⟩, h9, h10⟩ := h
  have e1 := Int.emod_nonneg pl (show pc + 1 ≠ 0 by omega)
  have e2 := Int.emod_lt_of_pos pl (show 0 < pc + 1 by omega)
  exact ⟨h1, by omega, e1, by omega, h5, by omega, fun i => ((PlanOk.mk ⟨h1, h2, h3, h4, h5, h6, h7, h8⟩ h9 h10).xs i).1, fun i => by have := ((PlanOk.mk ⟨h1, h2, h3, h4, h5, h6, h7, h8⟩ h9 h10).xs i).2; omega, by simp; omega⟩
theorem PlanOk.least {pc pl ps pq : Int} {ds : List Int} (h : PlanOk pc pl ps pq ds) : 0 ≤ pq % (pc + 1) ∧ pq % (pc + 1) ≤ pc := by
  have h1 := h.b4.c0
  have e1 := Int.emod_nonneg pq (show pc + 1 ≠ 0 by omega)
  have e2 := Int.emod_lt_of_pos pq (show 0 < pc + 1 by omega)
  omega
theorem PlanOk.dem {pc pl ps pq : Int} {ds : List Int} (h : PlanOk pc pl ps pq ds) : demF pc (pl % (pc + 1)) ps (pq % (pc + 1)) (ds.take 12) = 0 := demF_ok h.okay h.least.1 h.least.2


/-- a great capacity misses nothing -/
theorem cap_great {s n q : Int} {xs : List Int} (hs : 0 ≤ s) (hx : ∀ i : Nat, 0 ≤ xs[i]?.getD 0 ∧ xs[i]?.getD 0 ≤ 255) (hl : xs.length ≤ 12) (hn : 3060 ≤ n) : chgP (chgCap s q) xs n = true := by
  have hlv : ∀ k : Nat, k ≤ 12 → n - 255 * k ≤ lvAt n s n xs k := by
    intro k
    induction k with
    | zero => intro _; simp [lvAt]
    | succ k ih =>
      intro hk
      have h1 := ih (by omega)
      have h2 := hx k
      have h3 : lvAt n s n xs (k + 1) = (stepF n s (lvAt n s n xs k) (xs[k]?.getD 0)).1 := rfl
      rw [h3]
      unfold stepF
      rw [if_neg (by omega)]
      simp
      omega
  have hm : (failF n s n xs).2 = false := by
    unfold failF
    rw [firstF_snd]
    refine List.any_eq_false.2 (fun k hk => ?_)
    have hk2 : k < xs.length := by simpa using hk
    have h1 := hlv k (by omega)
    have h2 := hx k
    rw [miss_iff]
    simp
    omega
  simp [chgP, chgCap, hm]

theorem cap_law {s q r : Int} {b : Bool} {xs : List Int} (hs : 0 ≤ s) (hx : ∀ i : Nat, 0 ≤ xs[i]?.getD 0 ∧ xs[i]?.getD 0 ≤ 255) (hl : xs.length ≤ 12) (h : IsLeast (chgP (chgCap s q) xs) 1000000000 r b) :
    b = true ∧ 0 ≤ r ∧ r ≤ 3060 ∧ (failF r s r xs).2 = false ∧ (0 < r → (failF (r - 1) s (r - 1) xs).2 = true) := by
  obtain ⟨i, ⟨h0, h1, h2, h3⟩, rfl, rfl⟩ := h
  have hi : i ≤ 3060 := by
    rcases Int.lt_or_le 3060 i with hgt | hle
    · have := h2 (by omega)
      rw [cap_great hs hx hl (by omega)] at this
      cases this
    · exact hle
  have hP := h3 (by omega)
  rw [if_neg (by omega)]
  refine ⟨by simp; omega, h0, hi, by simpa [chgP, chgCap] using hP, fun hr => ?_⟩
  have := h2 hr
  simpa [chgP, chgCap] using this

abbrev plV (pc pl ps pq : Int) (v : Value) : Value := .agg #[.int .u8 pc, .int .u8 pl, .int .u8 ps, .int .u8 pq, v]

set_option maxRecDepth 100000 in
set_option maxHeartbeats 2000000 in
theorem law3_any (pc pl ps pq : Int) (v : Value) (ds : List Int) (h : PlanOk pc pl ps pq ds) (w : World) (hv : ByteSl w v ds) :
    Calls Try.prog 3 #[plV pc pl ps pq v] w fun e w' => e = .returned (.bool true) ∧ Below w.heap.size w w' := by
  have hb := (Below.refl w.heap.size w).alloc (Nat.le_refl _) (.cells #[.int .u8 pc, .int .u8 pl, .int .u8 ps, .int .u8 pq, v] 24)
  have bP := BoxC.new w 24 #[.int .u8 pc, .int .u8 pl, .int .u8 ps, .int .u8 pq, v]
  have hv0 := hv.mono hb
  obtain ⟨a, cap, hva⟩ := hv.len
  subst hva
  go_enter Try.func3, Try.ntmps3
  go_wp2_with fail
  refine (known_any _).mono ?_
  rintro e w1 ⟨rfl, hb1⟩
  have hB1 := hb.trans (hb1.mono hb.size)
  have bP1 := bP.grown hb1
  have hv1 := hv0.mono hb1
  clear hb bP hv0 hb1
  have p0 := bP1.cell 0 rfl
  have p1 := bP1.cell 1 rfl
  have p2 := bP1.cell 2 rfl
  have p3 := bP1.cell 3 rfl
  have p4 := bP1.cell 4 rfl
  go_wp2_with fail
  refine (fits_any pc pl ps pq _ ds w1 hv1 h.len).mono ?_
  rintro e w2 ⟨rfl, hb2⟩
  have hB2 := hB1.trans (hb2.mono hB1.size)
  have bP2 := bP1.grown hb2
  have hv2 := hv1.mono hb2
  clear hB1 bP1 hv1 hb2 p0 p1 p2 p3 p4 hv
  by_cases hf : ds.length ≤ 12
  · have hf2 : decide (ds.length ≤ 12) = true := by simpa using hf
    have p0 := bP2.cell 0 rfl
    have p1 := bP2.cell 1 rfl
    have p2 := bP2.cell 2 rfl
    have p3 := bP2.cell 3 rfl
    have p4 := bP2.cell 4 rfl
    go_wp2_with fail
    refine (make_any pc pl ps pq h.b4 _ ds h.bd w2 hv2 h.len).mono ?_
    rintro e w3 ⟨v, hiv, rfl, hb3⟩
    have hB3 := hB2.trans (hb3.mono hB2.size)
    clear hB2 bP2 hv2 hb3 p0 p1 p2 p3 p4
    have ho := h.okay
    have hdm := h.dem
    have hx := h.xs
    have hl12 : (ds.take 12).length ≤ 12 := by simp; omega
    have hs0 := ho.s0
    generalize hlv : pl % (pc + 1) = l at ho hdm ⊢
    generalize hqv : pq % (pc + 1) = q at ho hdm ⊢
    generalize hxs : ds.take 12 = xs at ho hdm hx hiv hl12 ⊢
    clear hlv hqv hxs
    obtain ⟨a2, cap2, hv2⟩ := hiv.len
    have bR := BoxC.new w3 28 #[.int .i64 pc, .int .i64 l, .int .i64 ps, .int .i64 q]
    have hb4 := (Below.refl w3.heap.size w3).alloc (Nat.le_refl _) (.cells #[.int .i64 pc, .int .i64 l, .int .i64 ps, .int .i64 q] 28)
    have hB4 := hB3.trans (hb4.mono hB3.size)
    have hiv2 := hiv.mono hb4
    subst hv2
    go_wp2_with fail
    refine (Capacity_any pc l ps q _ xs _ hiv2 (by omega)).mono ?_
    rintro e w4 ⟨hb5, hok, _⟩
    obtain ⟨r, b, hle, rfl⟩ := hok hdm
    obtain ⟨rfl, hr0, hr1, hm1, hm2⟩ := cap_law hs0 hx hl12 hle
    have hB5 := hB4.trans (hb5.mono hB4.size)
    have bR2 := bR.grown hb5
    have hiv3 := hiv2.mono hb5
    have ho1 : Okay r r ps 0 xs := { ho with c0 := hr0, c1 := by omega, l0 := hr0, l1 := Int.le_refl _ }
    clear hB3 hb4 hB4 hiv hiv2 hb5 hok hle bR hdm
    have c0 := bR2.cell 0 rfl
    have c1 := bR2.cell 1 rfl
    have c2 := bR2.cell 2 rfl
    have c3 := bR2.cell 3 rfl
    have bY := BoxC.new w4 28 #[.int .i64 r, .int .i64 r, .int .i64 ps, .int .i64 0]
    have hb6 := (Below.refl w4.heap.size w4).alloc (Nat.le_refl _) (.cells #[.int .i64 r, .int .i64 r, .int .i64 ps, .int .i64 0] 28)
    have hm1 := Lib.hid hm1
    have hm2 := Lib.hid hm2
    go_wp2_with fail
    refine (misses_any r r ps 0 _ xs ho1 _ (hiv3.mono hb6)).mono ?_
    rintro e w5 ⟨rfl, hb7⟩
    rw [hm1.out]
    have bY2 := bY.grown hb7
    have hb8 := hb6.trans (hb7.mono hb6.size)
    clear bY bR2 c0 c1 c2 c3 hb6 hb7
    have y0 := bY2.cell 0 rfl
    have y1 := bY2.cell 1 rfl
    have y2 := bY2.cell 2 rfl
    have y3 := bY2.cell 3 rfl
    have f0 := bY2.frozen 0
    have f1 := bY2.frozen 1
    have hb9 : Below w4.heap.size w4 ((w5.setCell ⟨w4.heap.size, 0, none⟩ (.int .i64 (r - 1))).setCell ⟨w4.heap.size, 1, none⟩ (.int .i64 (r - 1))) := (hb8.setCell (p := ⟨w4.heap.size, 0, none⟩) (Nat.le_refl _) _).setCell (p := ⟨w4.heap.size, 1, none⟩) (Nat.le_refl _) _
    have hB6 := hB5.trans (hb9.mono hB5.size)
    have hiv4 := hiv3.mono hb9
    by_cases hr : r = 0
    · have hr2 : (r == 0) = true := by simpa using hr
      have hr3 := Lib.hid hr
      clear hr
      go_wp2
      go_ret
      exact ⟨rfl, hB6⟩
    · have hr2 : (r == 0) = false := by simpa using hr
      have hr4 : 0 < r := by omega
      have ho2 : Okay (r - 1) (r - 1) ps 0 xs := { ho with c0 := by omega, c1 := by omega, l0 := by omega, l1 := Int.le_refl _ }
      go_wp2_with fail
      refine (misses_any (r - 1) (r - 1) ps 0 _ xs ho2 _ hiv4).mono ?_
      rintro e w6 ⟨rfl, hb10⟩
      rw [hm2.out hr4]
      go_wp2
      go_ret
      exact ⟨rfl, hB6.trans (hb10.mono hB6.size)⟩
  · have hf2 : decide (ds.length ≤ 12) = false := by simpa using hf
    go_wp2_with (go_at_call 11; refine (known_any _).mono ?_; rintro e w3 ⟨rfl, hb3⟩)
    go_ret
    exact ⟨rfl, hB2.trans (hb3.mono hB2.size)⟩
end Go.Proofs.Ytbflocamicebhaa
