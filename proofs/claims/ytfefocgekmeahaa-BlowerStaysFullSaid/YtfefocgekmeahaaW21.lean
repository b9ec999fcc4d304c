/- The contract of the model's carried. Conditions: a right plant and demand, 0 ≤ k ≤ 1000. -/
import Derived.Test.YtfefocgekmeahaaW20
namespace Go.Proofs.Ytfefocgekmeahaa
open Go.RowKit Go.Shelf
attribute [local go_sem] Oper.semAt_some

theorem rowG_new2 {base n : Nat} {X : World} (hm : n ≤ 1000) (hb : base ≤ X.heap.size) : RowG base X.heap.size (.slice (some ⟨X.heap.size, 0, none⟩) n n) n (zeros n) (X.alloc (.cells (madeCells #[.int .i64 0] n) 3)) :=
  ⟨zeros_len n, fun _ => ⟨n, rfl, by simp [zeros], .inr ⟨X.heap.size, n, _, rfl, hb, World.alloc_heap_new X _, Nat.le_refl _, by unfold maxLen; omega, by simp [size_madeCells], by rw [toList_madeCells_one]; simp [zeros]⟩⟩⟩
theorem run_make39b (n : Nat) (hn : n ≤ 1000) (X : World) : (Instr.makeSlice 39 (.int .i64 (n : Int)) (.int .i64 (n : Int))).run Try.prog X = .ok (.slice (some ⟨X.heap.size, 0, none⟩) n n) (X.alloc (.cells (madeCells #[.int .i64 0] n) 3)) := by
  obtain ⟨i0, hi, hz0, hz1, hz2⟩ := info_parts info3
  have := run_make (P := Try.prog) X 39 3 i0 (.int .i64 0) Try.underlying39 hi hz0 .i64 .i64 n n (by omega) (by omega) (by rw [hz2]; omega) (by omega)
  rw [hz1] at this
  simpa [Value.cells] using this

/-- what the nodes carry, and behind it what all carry -/
def catL (s : List Int × Int) : List Int := s.1 ++ [s.2]
theorem catL_len {s : List Int × Int} {n : Nat} (h : s.1.length = n) : (catL s).length = n + 1 := by simp [catL, h]
theorem catL_at {s : List Int × Int} {n j : Nat} (h : s.1.length = n) (hj : j < n) : nth (catL s) j = nth s.1 j := by
  unfold nth catL
  rw [List.getElem?_append_left (by omega)]
theorem catL_end {s : List Int × Int} {n : Nat} (h : s.1.length = n) : nth (catL s) n = s.2 := by
  unfold nth catL
  rw [List.getElem?_append_right (by omega), h]
  simp
theorem catL_set {us : List Int} {al z : Int} {n j : Nat} (h : us.length = n) (hj : j < n) : (catL (us, al)).set j z = catL (us.set j z, al) := by
  simp only [catL]
  rw [List.set_append_left _ _ (by omega)]
theorem catL_setE {us : List Int} {al z : Int} {n : Nat} (h : us.length = n) : (catL (us, al)).set n z = catL (us, z) := by
  simp only [catL]
  rw [List.set_append_right _ _ (by omega), h]
  simp
theorem catL_zero (n : Nat) : zeros (n + 1) = catL (zeros n, 0) := by simp [catL, zeros, List.replicate_succ']
theorem cG_step {ns : List Nd} {dm : List Int} {k : Int} {i : Nat} (h : i < ns.length) : cG ns dm k (backT ns.length (ns.length - i)) = cSt ns dm k (cG ns dm k (backT ns.length (ns.length - (i + 1)))) i := by
  rw [backT_succ h, cG_snoc]

set_option maxRecDepth 100000 in
set_option maxHeartbeats 4000000 in
theorem carried_any (sup : Int) (v : Value) (ns : List Nd) (x : Value) (dm : List Int) (k : Int) (w : World) (hv : NdSl w v ns) (hx : NumSl .i64 w x dm)
    (hp : PlOk ns) (hd : DmOk ns dm) (hk0 : 0 ≤ k) (hk1 : k ≤ 1000) :
    Calls Try.prog 28 #[plV sup v, x, .int .i64 k] w (fun e w' => ∃ y, e = .returned y ∧ NumSl .i64 w' y (catL (cG ns dm k (backT ns.length ns.length))) ∧ Below w.heap.size w w') := by
  obtain ⟨av, cv, rfl⟩ := hv.len
  obtain ⟨ax, cx, hx0⟩ := hx.len
  rw [hd.len] at hx0
  subst hx0
  have hn30 := hp.len
  refine (callsIn_wide (n := 9)).1 ?_
  refine callsIn_of_wp_marks Try.func28 rfl trivial ?_ rfl
  simp only [Try.ntmps28, List.size_toArray, List.length_cons, List.length_nil, Nat.reduceAdd, Nat.reduceSub, Array.replicate_succ, Array.replicate_zero, List.push_toArray, List.append_toArray, List.nil_append, List.cons_append]
  have hb1 := (Below.refl w.heap.size w).alloc (Nat.le_refl _) (.cells #[.int .i64 sup, .slice av ns.length cv] 24)
  have b3 := BoxC.new w 24 #[.int .i64 sup, .slice av ns.length cv]
  have hmk : ∀ X : World, (Instr.makeSlice 39 (.int .i64 ((ns.length : Int) + 1)) (.int .i64 ((ns.length : Int) + 1))).run Try.prog X = .ok (.slice (some ⟨X.heap.size, 0, none⟩) (ns.length + 1) (ns.length + 1)) (X.alloc (.cells (madeCells #[.int .i64 0] (ns.length + 1)) 3)) := run_make39b (ns.length + 1) (by omega)
  have c1 := b3.cell 1 rfl
  gi_wp2
  clear c1 hmk
  have hrow := rowG_new2 (base := w.heap.size) (n := ns.length + 1) (X := w.alloc (.cells #[.int .i64 sup, .slice av ns.length cv] 24)) (by omega) (by simp)
  rw [World.size_alloc, catL_zero] at hrow
  have hb2 := hb1.alloc (by simp) (.cells (madeCells #[.int .i64 0] (ns.length + 1)) 3)
  replace b3 := b3.alloc (.cells (madeCells #[.int .i64 0] (ns.length + 1)) 3)
  generalize (w.alloc (.cells #[.int .i64 sup, .slice av ns.length cv] 24)).alloc (.cells (madeCells #[.int .i64 0] (ns.length + 1)) 3) = W0 at hrow hb2 b3 ⊢
  clear hb1
  gi_loopw [9] (fun q W => ∃ z : Int, -1 ≤ z ∧ z < ns.length ∧ q = .int .i64 z ∧ BoxC W w.heap.size 24 #[.int .i64 sup, .slice av ns.length cv] ∧ RowG w.heap.size (w.heap.size + 1) (.slice (some ⟨w.heap.size + 1, 0, none⟩) (ns.length + 1) (ns.length + 1)) (ns.length + 1) (catL (cG ns dm k (backT ns.length (ns.length - (z + 1).toNat)))) W ∧ Below w.heap.size w W) (fun q _ => (intOf q + 1).toNat)
  case atStart =>
    refine ⟨(ns.length : Int) - 1, by omega, by omega, rfl, b3, ?_, hb2⟩
    rw [show ns.length - ((ns.length : Int) - 1 + 1).toNat = 0 by omega]
    exact hrow
  case round =>
    clear hrow b3 hb2
    obtain ⟨z, hz0, hz1, rfl, h3, hr, hB⟩ := hrel
    by_cases h0 : 0 ≤ z
    · obtain ⟨i, rfl⟩ : ∃ i : Nat, z = i := ⟨z.toNat, by omega⟩
      have hin : i < ns.length := by omega
      have hst := cG_step (dm := dm) (k := k) hin
      rw [show ns.length - ((i : Int) + 1).toNat = ns.length - (i + 1) by omega] at hr
      have hbd := cG_bd hp hd hk0 hk1 (backT ns.length (ns.length - (i + 1)))
      rw [backT_len (by omega)] at hbd
      have hbnd := bnd_30 (r := ns.length - (i + 1)) (by omega)
      generalize cG ns dm k (backT ns.length (ns.length - (i + 1))) = s at hr hst hbd
      obtain ⟨us, al⟩ := s
      obtain ⟨hul, hub, ha0, ha1⟩ := hbd
      simp only at hul hub ha0 ha1
      generalize bnd (ns.length - (i + 1)) = bb at hub ha0 ha1 hbnd
      have hsx := scl_bd hd hk0 hk1 i
      have hux := hub i
      unfold cSt at hst
      simp only at hst
      obtain ⟨bx, ox, cpx, hex, hcx⟩ := (hx.mono hB).atN hd.len hin
      cases hex
      have cd := hcx i hin
      clear hcx
      have cr := hr.cell (i := i) (by omega)
      rw [catL_at hul hin] at cr
      have hdx := hd.all i
      have m2 : 0 ≤ nth dm i * k := Int.mul_nonneg hdx.1 hk0
      have m3 : nth dm i * k ≤ 1000000000 * 1000 := Int.mul_le_mul hdx.2 hk1 hk0 (by decide)
      have e1 : IntKind.i64.wrap (nth dm i * k) = nth dm i * k := IntWalk.i64_in _ (by omega)
      have e2 : IntKind.i64.wrap ((nth dm i * k).tdiv 1000) = scl dm k i := IntWalk.i64_quo _ _ (by omega)
      have e3 : IntKind.i64.wrap (nth us i + scl dm k i) = nth us i + scl dm k i := IntWalk.i64_in _ (by omega)
      have hpi := hp.p i hin
      have fx := hr.frozen (by omega) i
      have hii : (i : Int) < (ns.length : Int) := by omega
      have hii2 : (i : Int) < (ns.length : Int) + 1 := by omega
      replace hst := Lib.hid hst
      replace hul := Lib.hid hul
      gi_wp2_with fail
      refine region_tail_wide 13 (by kernel_rfl) (by kernel_rfl) (by kernel_rfl) ?_
      simp only [List.take_succ_cons, List.take_zero, List.drop_succ_cons, List.drop_zero]
      repeat still_step
      refine wpStill_nil ?_
      clear cd cr fx e1 e2 e3 m2 m3
      obtain ⟨z, hzz⟩ : ∃ z, nth us i + scl dm k i = z := ⟨_, rfl⟩
      have hzb : 0 ≤ z ∧ z ≤ 1073741824000000000 := by omega
      have hst2 := hst.out
      rw [hzz] at hst2 ⊢
      replace hst2 := Lib.hid hst2
      clear hzz hst
      have hbd1 : Below wr.heap.size wr wr.drew := (Below.refl _ _).drew
      have i2 := hr.drew
      replace h3 := h3.drew
      replace hB := hB.trans (hbd1.mono hB.size)
      clear hbd1 hr
      generalize wr.drew = Y at i2 h3 hB ⊢
      have fx := i2.frozen (by omega) i
      have cx1 := i2.cell (i := i) (by omega)
      go_wp2
      refine ⟨by simp, ?_⟩
      have i3 := i2.set i z
      rw [catL_set hul.out hin] at i3
      replace h3 := h3.other (p := ⟨w.heap.size + 1, i, none⟩) (by show w.heap.size ≠ w.heap.size + 1; omega) (.int .i64 z)
      replace hB := hB.setCell (p := ⟨w.heap.size + 1, i, none⟩) (by show w.heap.size ≤ w.heap.size + 1; omega) (.int .i64 z)
      clear cx1 fx i2
      generalize Y.setCell ⟨w.heap.size + 1, i, none⟩ (.int .i64 z) = Z at h3 hB i3 ⊢
      have hul2 : (us.set i z).length = ns.length := by simp [hul.out]
      obtain ⟨bv, ov, cpv, hev, hcv⟩ := (hv.mono hB).at hin
      cases hev
      obtain ⟨n1, -, -, -⟩ := hcv i hin
      clear hcv
      have c31 := h3.cell 1 rfl
      have ci := i3.cell (i := i) (by omega)
      rw [catL_at hul2 hin, nth_set (by rw [hul.out]; omega), if_pos rfl] at ci
      replace hul2 := Lib.hid hul2
      by_cases hq : (nd ns i).p < 0
      · have hq2 : ¬ 0 ≤ (nd ns i).p := by omega
        have hst3 := hst2.out
        rw [if_pos hq] at hst3
        replace hst2 := Lib.hid hst3
        clear hst3
        have hn1 : (ns.length : Int) < (ns.length : Int) + 1 := by omega
        have ce := i3.cell (i := ns.length) (by omega)
        rw [catL_end hul2.out] at ce
        have e3 : IntKind.i64.wrap (al + z) = al + z := IntWalk.i64_in _ (by omega)
        gi_wp2_with fail
        refine region_tail_wide 10 (by kernel_rfl) (by kernel_rfl) (by kernel_rfl) ?_
        simp only [List.take_succ_cons, List.take_zero, List.drop_succ_cons, List.drop_zero]
        repeat still_step
        refine wpStill_nil ?_
        clear c31 ci n1 ce e3
        have hbd2 : Below Z.heap.size Z Z.drew := (Below.refl _ _).drew
        have i4 := i3.drew
        replace h3 := h3.drew
        replace hB := hB.trans (hbd2.mono hB.size)
        clear hbd2 i3
        generalize Z.drew = Y at i4 h3 hB ⊢
        have cx2 := i4.cell (i := ns.length) (by omega)
        have fx := i4.frozen (by omega) ns.length
        go_wp2
        refine ⟨by simp, ?_⟩
        have i5 := i4.set ns.length (al + z)
        rw [catL_setE hul2.out] at i5
        replace h3 := h3.other (p := ⟨w.heap.size + 1, ns.length, none⟩) (by show w.heap.size ≠ w.heap.size + 1; omega) (.int .i64 (al + z))
        replace hB := hB.setCell (p := ⟨w.heap.size + 1, ns.length, none⟩) (by show w.heap.size ≤ w.heap.size + 1; omega) (.int .i64 (al + z))
        clear cx2 fx i4
        generalize Y.setCell ⟨w.heap.size + 1, ns.length, none⟩ (.int .i64 (al + z)) = V at h3 hB i5 ⊢
        gi_wp2
        go_roundw
        case rel =>
          refine ⟨(i : Int) - 1, by omega, by omega, by go_num, h3, ?_, hB⟩
          rw [show ns.length - ((i : Int) - 1 + 1).toNat = ns.length - i by omega, hst2.out]
          exact i5
        case measure => first | (simp [intOf]; done) | (simp [intOf]; omega)
      · obtain ⟨q, hpq⟩ : ∃ q : Nat, (nd ns i).p = q := ⟨(nd ns i).p.toNat, by omega⟩
        have hst3 := hst2.out
        rw [if_neg hq, hpq, Int.toNat_natCast] at hst3
        replace hst2 := Lib.hid hst3
        clear hst3
        rw [hpq] at n1
        have hqi : q < i := by omega
        have hqi2 : (q : Int) < (ns.length : Int) + 1 := by omega
        have cq := i3.cell (i := q) (by omega)
        rw [catL_at hul2.out (by omega), nth_set (by rw [hul.out]; omega), if_neg (by omega)] at cq
        have huq := hub q
        have e3 : IntKind.i64.wrap (nth us q + z) = nth us q + z := IntWalk.i64_in _ (by omega)
        replace hpq := Lib.hid hpq
        clear hq hpi
        gi_wp2_with fail
        refine region_tail_wide 10 (by kernel_rfl) (by kernel_rfl) (by kernel_rfl) ?_
        simp only [List.take_succ_cons, List.take_zero, List.drop_succ_cons, List.drop_zero]
        repeat still_step
        refine wpStill_nil ?_
        clear c31 ci n1 cq e3
        have hbd2 : Below Z.heap.size Z Z.drew := (Below.refl _ _).drew
        have i4 := i3.drew
        replace h3 := h3.drew
        replace hB := hB.trans (hbd2.mono hB.size)
        clear hbd2 i3
        generalize Z.drew = Y at i4 h3 hB ⊢
        have cx2 := i4.cell (i := q) (by omega)
        have fx := i4.frozen (by omega) q
        go_wp2
        refine ⟨by simp, ?_⟩
        have i5 := i4.set q (nth us q + z)
        rw [catL_set hul2.out (by omega)] at i5
        replace h3 := h3.other (p := ⟨w.heap.size + 1, q, none⟩) (by show w.heap.size ≠ w.heap.size + 1; omega) (.int .i64 (nth us q + z))
        replace hB := hB.setCell (p := ⟨w.heap.size + 1, q, none⟩) (by show w.heap.size ≤ w.heap.size + 1; omega) (.int .i64 (nth us q + z))
        clear cx2 fx i4
        generalize Y.setCell ⟨w.heap.size + 1, q, none⟩ (.int .i64 (nth us q + z)) = V at h3 hB i5 ⊢
        gi_wp2
        go_roundw
        case rel =>
          refine ⟨(i : Int) - 1, by omega, by omega, by go_num, h3, ?_, hB⟩
          rw [show ns.length - ((i : Int) - 1 + 1).toNat = ns.length - i by omega, hst2.out]
          exact i5
        case measure => first | (simp [intOf]; done) | (simp [intOf]; omega)
    · obtain rfl : z = -1 := by omega
      gi_wp2
      refine endM0 (v := .slice (some ⟨w.heap.size + 1, 0, none⟩) (ns.length + 1) (ns.length + 1)) (by simp [results, Try.f28, go_sem]) ⟨_, rfl, ?_, hB⟩
      rw [show ns.length - ((-1 : Int) + 1).toNat = ns.length by omega] at hr
      exact hr.num ⟨_, _, rfl⟩
end Go.Proofs.Ytfefocgekmeahaa
