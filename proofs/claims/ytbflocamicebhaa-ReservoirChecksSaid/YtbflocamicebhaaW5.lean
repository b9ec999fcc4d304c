/- Contracts of Fails, Sags, Supply, Start, Capacity, Lasts and Fills. Conditions: the list of demands has at most 2^47 elements. -/
import Derived.Test.YtbflocamicebhaaW4
namespace Go.Proofs.Ytbflocamicebhaa
open Go.RowKit Go.Shelf

theorem okay_of {c l s q : Int} {xs : List Int} (h : demF c l s q xs = 0) : Okay c l s q xs := by
  unfold demF at h
  by_cases h0 : checkF c l s q = 0
  · simp only [h0, ne_eq, not_true_eq_false, if_false] at h
    by_cases h1 : 2000 < xs.length
    · simp [h1] at h
    · simp only [h1, if_false] at h
      by_cases h2 : (xs.any fun n => !windB n 1000000000) = true
      · simp [h2] at h
      · have h3 : ∀ i : Nat, 0 ≤ xs[i]?.getD 0 ∧ xs[i]?.getD 0 ≤ 1000000000 := by
          intro i
          rcases Nat.lt_or_ge i xs.length with hi | hi
          · have h4 : (xs.any fun n => !windB n 1000000000) = false := by simpa using h2
            rw [List.any_eq_false] at h4
            have := h4 xs[i] (List.getElem_mem hi)
            simp [windB] at this
            simp [hi]; omega
          · simp [hi]
        unfold checkF at h0
        split at h0
        · rename_i hc
          simp [windB] at hc
          exact ⟨by omega, by omega, by omega, by omega, by omega, by omega, fun i => (h3 i).1, fun i => (h3 i).2, by omega⟩
        · cases h0
  · simp [h0] at h

theorem demF_ok {c l s q : Int} {xs : List Int} (h : Okay c l s q xs) (hq0 : 0 ≤ q) (hq1 : q ≤ c) : demF c l s q xs = 0 := by
  have hc : checkF c l s q = 0 := by
    unfold checkF
    rw [if_pos]
    simp [windB]
    have := h.c0; have := h.c1; have := h.l0; have := h.l1; have := h.s0; have := h.s1
    omega
  have hn := h.n1
  unfold demF
  rw [hc, if_neg (by simp), if_neg (by omega), if_neg]
  simp only [List.any_eq_true, not_exists, not_and]
  intro x hx
  obtain ⟨i, hi, rfl⟩ := List.getElem_of_mem hx
  have h1 := h.d0 i
  have h2 := h.d1 i
  simp [hi] at h1 h2
  simp [windB]; omega


/-- what every function behind 'demanded' begins with: the facts behind the call -/
structure Behind (c l s q : Int) (xs : List Int) (v : Value) (w w1 : World) : Prop where
  hv : IntSl w1 v xs
  box : BoxC w1 w.heap.size 28 #[.int .i64 c, .int .i64 l, .int .i64 s, .int .i64 q]
  below : Below w.heap.size w w1

theorem dem_box (c l s q : Int) (v : Value) (xs : List Int) (w : World) (hv : IntSl w v xs) (hm : xs.length ≤ 140737488355328) :
    Calls Try.prog 31 #[rV c l s q, v] (w.alloc (.cells #[.int .i64 c, .int .i64 l, .int .i64 s, .int .i64 q] 28)) fun e w1 => e = .returned (.int .i64 (demF c l s q xs)) ∧ Behind c l s q xs v w w1 := by
  have hb := (Below.refl w.heap.size w).alloc (Nat.le_refl _) (.cells #[.int .i64 c, .int .i64 l, .int .i64 s, .int .i64 q] 28)
  refine (demanded_any c l s q v xs _ (hv.mono hb) hm).mono ?_
  rintro e w1 ⟨rfl, hb1⟩
  exact ⟨rfl, (hv.mono hb).mono hb1, (BoxC.new w 28 _).grown hb1, hb.trans (hb1.mono (by simp))⟩

set_option maxHeartbeats 400000 in
theorem Fails_any (c l s q : Int) (v : Value) (xs : List Int) (w : World) (hv : IntSl w v xs) (hm : xs.length ≤ 140737488355328) :
    Calls Try.prog 25 #[rV c l s q, v] w fun e w' => e = .returned (ifOk (demF c l s q xs) (.tuple #[.int .i64 (failF c s l xs).1, .bool (failF c s l xs).2, .int .i64 0]) (.tuple #[.int .i64 0, .bool false, .int .i64 (demF c l s q xs)])) ∧ Below w.heap.size w w' := by
  obtain ⟨a, cap, hva⟩ := hv.len
  obtain ⟨d, hd⟩ : ∃ d, demF c l s q xs = d := ⟨_, rfl⟩
  have hd := Lib.hid hd
  have hdem := dem_box c l s q v xs w hv hm
  subst hva
  go_enter Try.func25, Try.ntmps25
  go_wp2_with fail
  refine hdem.mono ?_
  rintro e w1 ⟨rfl, hbh⟩
  rw [hd.out]
  have hv2 := hbh.hv
  have hB := hbh.below
  have r0 := hbh.box.cell 0 rfl
  have r1 := hbh.box.cell 1 rfl
  have r2 := hbh.box.cell 2 rfl
  have r3 := hbh.box.cell 3 rfl
  clear hbh hdem
  by_cases h0 : d = 0
  · subst h0
    go_wp2_with (go_at_call 39; refine (fails_any c l s q _ xs (okay_of hd.out) _ hv2).mono ?_; rintro e w2 ⟨rfl, hb2⟩)
    go_ret3
    exact ⟨by rw [hd.out, ifOk_zero]; rfl, hB.trans (hb2.mono hB.size)⟩
  · have h0' : (d == 0) = false := by simpa using h0
    go_wp2
    go_ret3
    exact ⟨by rw [hd.out, ifOk_ne h0]; rfl, hB⟩

set_option maxHeartbeats 400000 in
theorem Sags_any (c l s q : Int) (v : Value) (xs : List Int) (w : World) (hv : IntSl w v xs) (hm : xs.length ≤ 140737488355328) :
    Calls Try.prog 26 #[rV c l s q, v] w fun e w' => e = .returned (ifOk (demF c l s q xs) (.tuple #[.int .i64 (sagF c s l q xs).1, .bool (sagF c s l q xs).2, .int .i64 0]) (.tuple #[.int .i64 0, .bool false, .int .i64 (demF c l s q xs)])) ∧ Below w.heap.size w w' := by
  obtain ⟨a, cap, hva⟩ := hv.len
  obtain ⟨d, hd⟩ : ∃ d, demF c l s q xs = d := ⟨_, rfl⟩
  have hd := Lib.hid hd
  have hdem := dem_box c l s q v xs w hv hm
  subst hva
  have hmf : ∀ (fn : Fn) (first cap : Array Value) (w : World), (Instr.makeFunc fn first cap).run Try.prog w = .ok (.func fn first cap) w := fun _ _ _ _ => rfl
  go_enter Try.func26, Try.ntmps26
  go_wp2_with fail
  refine hdem.mono ?_
  rintro e w1 ⟨rfl, hbh⟩
  rw [hd.out]
  have hv2 := hbh.hv
  have hB := hbh.below
  have r0 := hbh.box.cell 0 rfl
  have r1 := hbh.box.cell 1 rfl
  have r2 := hbh.box.cell 2 rfl
  have r3 := hbh.box.cell 3 rfl
  clear hbh hdem
  by_cases h0 : d = 0
  · subst h0
    go_wp2_with fail
    refine (first_any 41 #[.pointer (some ⟨w.heap.size, 0, none⟩)] (fun t => decide (t.1 < q)) c l s q _ xs (okay_of hd.out) _ hv2 (fun _ _ => rfl) (fun t w' hbw => sags1_any t _ q w' ((hbw.cell (p := ⟨w.heap.size, 3, none⟩) (lt_of_cell r3)).trans r3))).mono ?_
    rintro e w2 ⟨rfl, hb2⟩
    go_wp2
    go_ret3
    exact ⟨by rw [hd.out, ifOk_zero]; rfl, hB.trans (hb2.mono hB.size)⟩
  · have h0' : (d == 0) = false := by simpa using h0
    go_wp2
    go_ret3
    exact ⟨by rw [hd.out, ifOk_ne h0]; rfl, hB⟩


/-- a result that a search gives -/
def SupplyPost (d : Int) (P : Int → Bool) (w : World) (e : Ending) (w' : World) : Prop :=
  Below w.heap.size w w' ∧ (d = 0 → ∃ r b, IsLeast P 1000000000 r b ∧ e = .returned (.tuple #[.int .i64 r, .int .i64 0])) ∧ (d ≠ 0 → e = .returned (.tuple #[.int .i64 0, .int .i64 d]))
def StartPost (d limit : Int) (P : Int → Bool) (w : World) (e : Ending) (w' : World) : Prop :=
  Below w.heap.size w w' ∧ (d = 0 → ∃ r b, IsLeast P limit r b ∧ e = .returned (.tuple #[.int .i64 r, .bool b, .int .i64 0])) ∧ (d ≠ 0 → e = .returned (.tuple #[.int .i64 0, .bool false, .int .i64 d]))
def CapacityPost (d : Int) (P : Int → Bool) (w : World) (e : Ending) (w' : World) : Prop :=
  Below w.heap.size w w' ∧ (d = 0 → ∃ r b, IsLeast P 1000000000 r b ∧ e = .returned (.tuple #[.int .i64 (bif b then r else 0), .int .i64 (bif b then 0 else 4)])) ∧ (d ≠ 0 → e = .returned (.tuple #[.int .i64 0, .int .i64 d]))

def chgSup (c l q : Int) : Chg := ⟨fun _ => c, fun _ => l, fun n => n, q⟩
def chgLev (c s q : Int) : Chg := ⟨fun _ => c, fun n => n, fun _ => s, q⟩
def chgCap (s q : Int) : Chg := ⟨fun n => n, fun n => n, fun _ => s, q⟩

set_option maxHeartbeats 400000 in
theorem Supply_any (c l s q : Int) (v : Value) (xs : List Int) (w : World) (hv : IntSl w v xs) (hm : xs.length ≤ 140737488355328) :
    Calls Try.prog 16 #[rV c l s q, v] w (SupplyPost (demF c l s q xs) (chgP (chgSup c l q) xs) w) := by
  obtain ⟨a, cap, hva⟩ := hv.len
  obtain ⟨d, hd⟩ : ∃ d, demF c l s q xs = d := ⟨_, rfl⟩
  have hd := Lib.hid hd
  have hdem := dem_box c l s q v xs w hv hm
  subst hva
  rw [hd.out]
  go_enter Try.func16, Try.ntmps16
  go_wp2_with fail
  refine hdem.mono ?_
  rintro e w1 ⟨rfl, hbh⟩
  rw [hd.out]
  have hv2 := hbh.hv
  have hB := hbh.below
  have r0 := hbh.box.cell 0 rfl
  have r1 := hbh.box.cell 1 rfl
  have r2 := hbh.box.cell 2 rfl
  have r3 := hbh.box.cell 3 rfl
  clear hbh hdem
  by_cases h0 : d = 0
  · subst h0
    have ho := okay_of hd.out
    go_wp2_with fail
    refine (least_any 34 (chgSup c l q) 1000000000 c l s q _ xs (by omega) (by omega) (fun n h0 h1 => { ho with s0 := h0, s1 := h1 }) _ hv2 (fun _ _ => rfl) (fun n B w' hB => chgS_any c l s q n B w' hB)).mono ?_
    rintro e w2 ⟨r, b, hi, rfl, hb2⟩
    have hi2 := Lib.hid hi
    clear hi
    go_wp2
    go_ret2
    exact ⟨hB.trans (hb2.mono hB.size), fun _ => ⟨r, b, hi2.out, rfl⟩, fun h => absurd rfl h⟩
  · have h0' : (d == 0) = false := by simpa using h0
    go_wp2
    go_ret2
    exact ⟨hB, fun h => absurd h h0, fun _ => rfl⟩

set_option maxHeartbeats 400000 in
theorem Start_any (c l s q : Int) (v : Value) (xs : List Int) (w : World) (hv : IntSl w v xs) (hm : xs.length ≤ 140737488355328) :
    Calls Try.prog 17 #[rV c l s q, v] w (StartPost (demF c l s q xs) c (chgP (chgLev c s q) xs) w) := by
  obtain ⟨a, cap, hva⟩ := hv.len
  obtain ⟨d, hd⟩ : ∃ d, demF c l s q xs = d := ⟨_, rfl⟩
  have hd := Lib.hid hd
  have hdem := dem_box c l s q v xs w hv hm
  subst hva
  rw [hd.out]
  go_enter Try.func17, Try.ntmps17
  go_wp2_with fail
  refine hdem.mono ?_
  rintro e w1 ⟨rfl, hbh⟩
  rw [hd.out]
  have hv2 := hbh.hv
  have hB := hbh.below
  have r0 := hbh.box.cell 0 rfl
  have r1 := hbh.box.cell 1 rfl
  have r2 := hbh.box.cell 2 rfl
  have r3 := hbh.box.cell 3 rfl
  clear hbh hdem
  by_cases h0 : d = 0
  · subst h0
    have ho := okay_of hd.out
    go_wp2_with fail
    refine (least_any 35 (chgLev c s q) c c l s q _ xs ho.c0 ho.c1 (fun n h0 h1 => { ho with l0 := h0, l1 := h1 }) _ hv2 (fun _ _ => rfl) (fun n B w' hB => chgL_any c l s q n B w' hB)).mono ?_
    rintro e w2 ⟨r, b, hi, rfl, hb2⟩
    have hi2 := Lib.hid hi
    clear hi
    go_wp2
    go_ret3
    exact ⟨hB.trans (hb2.mono hB.size), fun _ => ⟨r, b, hi2.out, rfl⟩, fun h => absurd rfl h⟩
  · have h0' : (d == 0) = false := by simpa using h0
    go_wp2
    go_ret3
    exact ⟨hB, fun h => absurd h h0, fun _ => rfl⟩

set_option maxHeartbeats 400000 in
theorem Capacity_any (c l s q : Int) (v : Value) (xs : List Int) (w : World) (hv : IntSl w v xs) (hm : xs.length ≤ 140737488355328) :
    Calls Try.prog 14 #[rV c l s q, v] w (CapacityPost (demF c l s q xs) (chgP (chgCap s q) xs) w) := by
  obtain ⟨a, cap, hva⟩ := hv.len
  obtain ⟨d, hd⟩ : ∃ d, demF c l s q xs = d := ⟨_, rfl⟩
  have hd := Lib.hid hd
  have hdem := dem_box c l s q v xs w hv hm
  subst hva
  rw [hd.out]
  go_enter Try.func14, Try.ntmps14
  go_wp2_with fail
  refine hdem.mono ?_
  rintro e w1 ⟨rfl, hbh⟩
  rw [hd.out]
  have hv2 := hbh.hv
  have hB := hbh.below
  have r0 := hbh.box.cell 0 rfl
  have r1 := hbh.box.cell 1 rfl
  have r2 := hbh.box.cell 2 rfl
  have r3 := hbh.box.cell 3 rfl
  clear hbh hdem
  by_cases h0 : d = 0
  · subst h0
    have ho := okay_of hd.out
    go_wp2_with fail
    refine (least_any 33 (chgCap s q) 1000000000 c l s q _ xs (by omega) (by omega) (fun n h0 h1 => { ho with c0 := h0, c1 := h1, l0 := h0, l1 := Int.le_refl _ }) _ hv2 (fun _ _ => rfl) (fun n B w' hB => chgC_any c l s q n B w' hB)).mono ?_
    rintro e w2 ⟨r, b, hi, rfl, hb2⟩
    have hi2 := Lib.hid hi
    clear hi
    cases b
    · go_wp2
      go_ret2
      exact ⟨hB.trans (hb2.mono hB.size), fun _ => ⟨r, false, hi2.out, rfl⟩, fun h => absurd rfl h⟩
    · go_wp2
      go_ret2
      exact ⟨hB.trans (hb2.mono hB.size), fun _ => ⟨r, true, hi2.out, rfl⟩, fun h => absurd rfl h⟩
  · have h0' : (d == 0) = false := by simpa using h0
    go_wp2
    go_ret2
    exact ⟨hB, fun h => absurd h h0, fun _ => rfl⟩

def lastsF (l s d : Int) : Int := if d ≤ s then 0 else l / (d - s)

set_option maxHeartbeats 400000 in
theorem Lasts_any (c l s q d : Int) (w : World) :
    Calls Try.prog 23 #[rV c l s q, .int .i64 d] w fun e w' => e = .returned (ifOk (checkF c l s q) (bif windB d 1000000000 then .tuple #[.int .i64 (lastsF l s d), .bool (decide (s < d)), .int .i64 0] else .tuple #[.int .i64 0, .bool false, .int .i64 3]) (.tuple #[.int .i64 0, .bool false, .int .i64 (checkF c l s q)])) ∧ Below w.heap.size w w' := by
  have hb := (Below.refl w.heap.size w).alloc (Nat.le_refl _) (.cells #[.int .i64 c, .int .i64 l, .int .i64 s, .int .i64 q] 28)
  have b0 := BoxC.new w 28 #[.int .i64 c, .int .i64 l, .int .i64 s, .int .i64 q]
  obtain ⟨ch, hd⟩ : ∃ d, checkF c l s q = d := ⟨_, rfl⟩
  have hd2 := Lib.hid hd
  clear hd
  obtain ⟨wd, hwd⟩ : ∃ x, windB d 1000000000 = x := ⟨_, rfl⟩
  have hwd2 := Lib.hid hwd
  clear hwd
  go_enter Try.func23, Try.ntmps23
  go_wp2_with fail
  refine (check_any c l s q _).mono ?_
  rintro e w1 ⟨rfl, hb1⟩
  rw [hd2.out]
  have r1 := (b0.grown hb1).cell 1 rfl
  have r2 := (b0.grown hb1).cell 2 rfl
  have hB := hb.trans (hb1.mono (by simp))
  clear hb b0 hb1
  by_cases h0 : ch = 0
  · subst h0
    have hr : 0 ≤ l ∧ l ≤ 1000000000 ∧ 0 ≤ s ∧ s ≤ 1000000000 := by
      have := hd2.out
      unfold checkF at this
      split at this
      · rename_i hc
        simp [windB] at hc
        omega
      · cases this
    cases wd
    · go_wp2_with (go_at_call 36; refine (wind_any _ _ _).mono ?_; rintro e w' ⟨rfl, rfl⟩; rw [hwd2.out])
      go_ret3
      exact ⟨by rw [hd2.out, hwd2.out, ifOk_zero]; rfl, hB⟩
    · have hd0 : 0 ≤ d ∧ d ≤ 1000000000 := by
        have := hwd2.out
        simp [windB] at this
        omega
      by_cases hds : d ≤ s
      · go_wp2_with (go_at_call 36; refine (wind_any _ _ _).mono ?_; rintro e w' ⟨rfl, rfl⟩; rw [hwd2.out])
        go_ret3
        exact ⟨by rw [hd2.out, hwd2.out, ifOk_zero, lastsF, if_pos hds, show decide (s < d) = false from decide_eq_false (by omega)]; rfl, hB⟩
      · have hds2 : s < d := by omega
        go_wp2_with (go_at_call 36; refine (wind_any _ _ _).mono ?_; rintro e w' ⟨rfl, rfl⟩; rw [hwd2.out])
        go_ret3
        exact ⟨by rw [hd2.out, hwd2.out, ifOk_zero, lastsF, if_neg (by omega), show decide (s < d) = true from decide_eq_true (by omega)]; rfl, hB⟩
  · have h0' : (ch == 0) = false := by simpa using h0
    go_wp2
    go_ret3
    exact ⟨by rw [hd2.out, ifOk_ne h0]; rfl, hB⟩

def fillsF (c l s : Int) : Int := if c - l = 0 then 0 else if s = 0 then 0 else (c - l + s - 1) / s
def fillsB (c l s : Int) : Bool := decide (c - l = 0) || !decide (s = 0)

set_option maxHeartbeats 400000 in
theorem Fills_any (c l s q : Int) (w : World) :
    Calls Try.prog 24 #[rV c l s q] w fun e w' => e = .returned (ifOk (checkF c l s q) (.tuple #[.int .i64 (fillsF c l s), .bool (fillsB c l s), .int .i64 0]) (.tuple #[.int .i64 0, .bool false, .int .i64 (checkF c l s q)])) ∧ Below w.heap.size w w' := by
  have hb := (Below.refl w.heap.size w).alloc (Nat.le_refl _) (.cells #[.int .i64 c, .int .i64 l, .int .i64 s, .int .i64 q] 28)
  have b0 := BoxC.new w 28 #[.int .i64 c, .int .i64 l, .int .i64 s, .int .i64 q]
  obtain ⟨ch, hd⟩ : ∃ d, checkF c l s q = d := ⟨_, rfl⟩
  have hd2 := Lib.hid hd
  clear hd
  go_enter Try.func24, Try.ntmps24
  go_wp2_with fail
  refine (check_any c l s q _).mono ?_
  rintro e w1 ⟨rfl, hb1⟩
  rw [hd2.out]
  have r0 := (b0.grown hb1).cell 0 rfl
  have r1 := (b0.grown hb1).cell 1 rfl
  have r2 := (b0.grown hb1).cell 2 rfl
  have hB := hb.trans (hb1.mono (by simp))
  clear hb b0 hb1
  by_cases h0 : ch = 0
  · subst h0
    have hr : 0 ≤ c ∧ c ≤ 1000000000 ∧ 0 ≤ l ∧ l ≤ c ∧ 0 ≤ s ∧ s ≤ 1000000000 := by
      have := hd2.out
      unfold checkF at this
      split at this
      · rename_i hc
        simp [windB] at hc
        omega
      · cases this
    by_cases h1 : c - l = 0
    · have h1' : (c - l == 0) = true := by simpa using h1
      have h1 := Lib.hid h1
      go_wp2
      go_ret3
      exact ⟨by rw [hd2.out, ifOk_zero, fillsF, fillsB, if_pos h1.out, show decide (c - l = 0) = true from decide_eq_true h1.out]; rfl, hB⟩
    · have h1' : (c - l == 0) = false := by simpa using h1
      by_cases h2 : s = 0
      · have h2' : (s == 0) = true := by simpa using h2
        have h2 := Lib.hid h2
        go_wp2
        go_ret3
        exact ⟨by rw [hd2.out, ifOk_zero, fillsF, fillsB, if_neg h1, if_pos h2.out, show decide (c - l = 0) = false from decide_eq_false h1, show decide (s = 0) = true from decide_eq_true h2.out]; rfl, hB⟩
      · have h2' : (s == 0) = false := by simpa using h2
        have hs1 : 1 ≤ s := by omega
        go_wp2
        go_ret3
        exact ⟨by rw [hd2.out, ifOk_zero, fillsF, fillsB, if_neg h1, if_neg h2, show decide (c - l = 0) = false from decide_eq_false h1, show decide (s = 0) = false from decide_eq_false h2]; rfl, hB⟩
  · have h0' : (ch == 0) = false := by simpa using h0
    go_wp2
    go_ret3
    exact ⟨by rw [hd2.out, ifOk_ne h0]; rfl, hB⟩

end Go.Proofs.Ytbflocamicebhaa
