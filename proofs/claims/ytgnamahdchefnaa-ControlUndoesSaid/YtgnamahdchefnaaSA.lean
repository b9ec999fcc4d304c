/- The contracts of slices.EqualFunc and of same. Conditions: states of at most 1000 elements in each list. -/
import Derived.Test.YtgnamahdchefnaaW6
namespace Go.Proofs.Ytgnamahdchefnaa
open Go.RowKit Go.Shelf

instance decRg : DecidableEq Rg := fun a b => if h : eqB a b = true then isTrue (eqB_iff.1 h) else isFalse (fun e => h (eqB_iff.2 e))
theorem eqB_dec (a b : Rg) : eqB a b = decide (a = b) := by
  cases h : eqB a b
  · exact (decide_eq_false (fun e => by rw [eqB_iff.2 e] at h; cases h)).symm
  · exact (decide_eq_true (eqB_iff.1 h)).symm
theorem beq_dec (a b : List Int) : (a == b) = decide (a = b) := by
  cases h : a == b
  · exact (decide_eq_false (by simpa using h)).symm
  · exact (decide_eq_true (by simpa using h)).symm

set_option maxHeartbeats 4000000 in
theorem ef19 (v u : Value) (xs ys : List Rg) (w : World) (hv : RgSl w v xs) (hu : RgSl w u ys) (hn : xs.length ≤ 1000) (hf : ∀ i, i < xs.length → ∀ u1 u2 X, NumSl .u64 X u1 (get xs i).s → NumSl .u64 X u2 (get ys i).s → Calls Try.prog 13 #[regV u1 (get xs i).c (get xs i).o, regV u2 (get ys i).c (get ys i).o] X (BoolBelow (decide (get xs i = get ys i)) X)) :
    Calls Try.prog 19 #[v, u, .func (.func 13) #[] #[]] w (BoolBelow (decide (xs = ys)) w) := by
  obtain ⟨a, cap, rfl⟩ := hv.len
  replace hf := Lib.hid hf
  by_cases hl : ys.length = xs.length
  · obtain ⟨a2, cap2, rfl⟩ := hu.lenN hl
    obtain ⟨F, hF⟩ : ∃ F, decide (xs = ys) = F := ⟨_, rfl⟩
    rw [hF]
    replace hF := Lib.hid hF
    replace hl := Lib.hid hl
    go_enter Try.func19, Try.ntmps19
    go_wp2
    go_loopw [17] (fun i W => ∃ k : Nat, k ≤ xs.length ∧ i = .int .i64 k ∧ Hid (∀ j, j < k → get xs j = get ys j) ∧ Below w.heap.size w W) (fun i _ => xs.length - (intOf i).toNat)
    case atStart => exact ⟨0, Nat.zero_le _, rfl, Lib.hid (fun j hj => by omega), Below.refl _ _⟩
    case round =>
      obtain ⟨k, hk, rfl, hE, hB⟩ := hrel
      by_cases hlt : k < xs.length
      · obtain ⟨b, off, cap', he, hc⟩ := (hv.mono hB).at hlt
        cases he
        obtain ⟨b2, off2, cap2', he2, hc2⟩ := (hu.mono hB).atN hl.out hlt
        cases he2
        obtain ⟨u1, x0, h1, x1, x2⟩ := hc k hlt
        obtain ⟨u2, y0, h2, y1, y2⟩ := hc2 k hlt
        have hA := ((Below.refl wr.heap.size wr).alloc (Nat.le_refl _) (.cells #[u1, .int .u64 (get xs k).c, .int .u64 (get xs k).o] 37)).alloc (by simp) (.cells #[u2, .int .u64 (get ys k).c, .int .u64 (get ys k).o] 37)
        have bA := (BoxC.new wr 37 #[u1, .int .u64 (get xs k).c, .int .u64 (get xs k).o]).alloc (.cells #[u2, .int .u64 (get ys k).c, .int .u64 (get ys k).o] 37)
        have bB := BoxC.new (wr.alloc (.cells #[u1, .int .u64 (get xs k).c, .int .u64 (get xs k).o] 37)) 37 #[u2, .int .u64 (get ys k).c, .int .u64 (get ys k).o]
        have hcf := hf.out k hlt u1 u2 _ (h1.mono hA) (h2.mono hA)
        obtain ⟨a7, c7, rfl⟩ := h1.len
        obtain ⟨a8, c8, rfl⟩ := h2.len
        have hbx := lt_of_cell x0
        have hby := lt_of_cell y0
        simp only [World.size_alloc] at bB
        have p0 := bA.cell 0 rfl
        have p1 := bA.cell 1 rfl
        have p2 := bA.cell 2 rfl
        have r0 := bB.cell 0 rfl
        have r1 := bB.cell 1 rfl
        have r2 := bB.cell 2 rfl
        have hki : (k : Int) < (xs.length : Int) := by omega
        clear hc hc2
        by_cases hxy : get xs k = get ys k
        · rw [decide_eq_true hxy] at hcf
          have hE2 : ∀ j, j < k + 1 → get xs j = get ys j := fun j hj => by
            rcases Nat.lt_or_ge j k with h1 | h1
            · exact hE.out j h1
            · obtain rfl : j = k := by omega
              exact hxy
          replace hE2 := Lib.hid hE2
          replace hcf := Lib.hid hcf
          clear hxy h1 h2
          go_wp2_with fail
          refine hcf.out.mono ?_
          rintro e w2 ⟨rfl, hb2⟩
          go_wp2_with fail
          go_roundw
          case rel => exact ⟨k + 1, by omega, by go_num, hE2, hB.trans ((hA.trans (hb2.mono hA.size)).mono hB.size)⟩
          case measure => simp [intOf]; omega
        · rw [decide_eq_false hxy] at hcf
          have hne : F = false := by
            rw [← hF.out]
            exact decide_eq_false (fun e => hxy (by rw [e]))
          subst hne
          replace hcf := Lib.hid hcf
          clear hxy h1 h2
          go_wp2_with fail
          refine hcf.out.mono ?_
          rintro e w2 ⟨rfl, hb2⟩
          go_wp2_with fail
          go_ret
          exact ⟨rfl, hB.trans ((hA.trans (hb2.mono hA.size)).mono hB.size)⟩
      · obtain rfl : k = xs.length := by omega
        have hne : F = true := by
          rw [← hF.out]
          exact decide_eq_true (ext_get hl.out.symm hE.out)
        subst hne
        go_wp2_with fail
        go_ret
        exact ⟨rfl, hB⟩
  · obtain ⟨a2, cap2, rfl⟩ := hu.len
    have h1 : ((xs.length : Int) != (ys.length : Int)) = true := bne_iff_ne.2 (by omega)
    rw [decide_eq_false (fun e => hl (by rw [e]))]
    clear hl
    go_enter Try.func19, Try.ntmps19
    go_wp2
    go_ret
    exact ⟨rfl, Below.refl _ _⟩

set_option maxHeartbeats 4000000 in
theorem ef37 (v u : Value) (xs ys : List (List Int)) (w : World) (hv : LvlSl w v xs) (hu : LvlSl w u ys) (hn : xs.length ≤ 1000) (hf : ∀ i, i < xs.length → ∀ u1 u2 X, NumSl .u64 X u1 (get xs i) → NumSl .u64 X u2 (get ys i) → Calls Try.prog 38 #[u1, u2] X (BoolBelow (decide (get xs i = get ys i)) X)) :
    Calls Try.prog 37 #[v, u, .func (.func 38) #[] #[]] w (BoolBelow (decide (xs = ys)) w) := by
  obtain ⟨a, cap, rfl⟩ := SlOf.len hv
  replace hf := Lib.hid hf
  by_cases hl : ys.length = xs.length
  · obtain ⟨a2, cap2, rfl⟩ := SlOf.lenN hu hl
    obtain ⟨F, hF⟩ : ∃ F, decide (xs = ys) = F := ⟨_, rfl⟩
    rw [hF]
    replace hF := Lib.hid hF
    replace hl := Lib.hid hl
    go_enter Try.func37, Try.ntmps37
    go_wp2
    go_loopw [17] (fun i W => ∃ k : Nat, k ≤ xs.length ∧ i = .int .i64 k ∧ Hid (∀ j, j < k → get xs j = get ys j) ∧ Below w.heap.size w W) (fun i _ => xs.length - (intOf i).toNat)
    case atStart => exact ⟨0, Nat.zero_le _, rfl, Lib.hid (fun j hj => by omega), Below.refl _ _⟩
    case round =>
      obtain ⟨k, hk, rfl, hE, hB⟩ := hrel
      by_cases hlt : k < xs.length
      · obtain ⟨b, off, cap', he, hc⟩ := SlOf.at (LvlSl.mono hv hB) hlt
        cases he
        obtain ⟨b2, off2, cap2', he2, hc2⟩ := SlOf.atN (LvlSl.mono hu hB) hl.out hlt
        cases he2
        obtain ⟨u1, cx, h1⟩ := hc k hlt
        obtain ⟨u2, cy, h2⟩ := hc2 k hlt
        have hcf := hf.out k hlt u1 u2 wr h1 h2
        have hki : (k : Int) < (xs.length : Int) := by omega
        clear hc hc2
        by_cases hxy : get xs k = get ys k
        · rw [decide_eq_true hxy] at hcf
          have hE2 : ∀ j, j < k + 1 → get xs j = get ys j := fun j hj => by
            rcases Nat.lt_or_ge j k with h1 | h1
            · exact hE.out j h1
            · obtain rfl : j = k := by omega
              exact hxy
          replace hE2 := Lib.hid hE2
          replace hcf := Lib.hid hcf
          clear hxy h1 h2
          go_wp2_with fail
          refine hcf.out.mono ?_
          rintro e w2 ⟨rfl, hb2⟩
          go_wp2_with fail
          go_roundw
          case rel => exact ⟨k + 1, by omega, by go_num, hE2, hB.trans (hb2.mono hB.size)⟩
          case measure => simp [intOf]; omega
        · rw [decide_eq_false hxy] at hcf
          have hne : F = false := by
            rw [← hF.out]
            exact decide_eq_false (fun e => hxy (by rw [e]))
          subst hne
          replace hcf := Lib.hid hcf
          clear hxy h1 h2
          go_wp2_with fail
          refine hcf.out.mono ?_
          rintro e w2 ⟨rfl, hb2⟩
          go_wp2_with fail
          go_ret
          exact ⟨rfl, hB.trans (hb2.mono hB.size)⟩
      · obtain rfl : k = xs.length := by omega
        have hne : F = true := by
          rw [← hF.out]
          exact decide_eq_true (ext_get hl.out.symm hE.out)
        subst hne
        go_wp2_with fail
        go_ret
        exact ⟨rfl, hB⟩
  · obtain ⟨a2, cap2, rfl⟩ := SlOf.len hu
    have h1 : ((xs.length : Int) != (ys.length : Int)) = true := bne_iff_ne.2 (by omega)
    rw [decide_eq_false (fun e => hl (by rw [e]))]
    clear hl
    go_enter Try.func37, Try.ntmps37
    go_wp2
    go_ret
    exact ⟨rfl, Below.refl _ _⟩

set_option maxHeartbeats 4000000 in
theorem cl35 (v u : Value) (w : World) (b : Bool) (hc : Calls Try.prog 19 #[v, u, .func (.func 13) #[] #[]] w (BoolBelow b w)) : Calls Try.prog 35 #[v, u] w (BoolBelow b w) := by
  replace hc := Lib.hid hc
  go_enter Try.func35, Try.ntmps35
  go_wp2_with fail
  refine hc.out.mono ?_
  rintro e w1 ⟨rfl, hb1⟩
  go_wp2
  go_ret
  exact ⟨rfl, hb1⟩

set_option maxHeartbeats 4000000 in
theorem ef39 (v u : Value) (xs ys : List (List Rg)) (w : World) (hv : GenSl w v xs) (hu : GenSl w u ys) (hn : xs.length ≤ 1000) (hf : ∀ i, i < xs.length → ∀ u1 u2 X, RgSl X u1 (get xs i) → RgSl X u2 (get ys i) → Calls Try.prog 35 #[u1, u2] X (BoolBelow (decide (get xs i = get ys i)) X)) :
    Calls Try.prog 39 #[v, u, .func (.func 35) #[] #[]] w (BoolBelow (decide (xs = ys)) w) := by
  obtain ⟨a, cap, rfl⟩ := SlOf.len hv
  replace hf := Lib.hid hf
  by_cases hl : ys.length = xs.length
  · obtain ⟨a2, cap2, rfl⟩ := SlOf.lenN hu hl
    obtain ⟨F, hF⟩ : ∃ F, decide (xs = ys) = F := ⟨_, rfl⟩
    rw [hF]
    replace hF := Lib.hid hF
    replace hl := Lib.hid hl
    go_enter Try.func39, Try.ntmps39
    go_wp2
    go_loopw [17] (fun i W => ∃ k : Nat, k ≤ xs.length ∧ i = .int .i64 k ∧ Hid (∀ j, j < k → get xs j = get ys j) ∧ Below w.heap.size w W) (fun i _ => xs.length - (intOf i).toNat)
    case atStart => exact ⟨0, Nat.zero_le _, rfl, Lib.hid (fun j hj => by omega), Below.refl _ _⟩
    case round =>
      obtain ⟨k, hk, rfl, hE, hB⟩ := hrel
      by_cases hlt : k < xs.length
      · obtain ⟨b, off, cap', he, hc⟩ := SlOf.at (GenSl.mono hv hB) hlt
        cases he
        obtain ⟨b2, off2, cap2', he2, hc2⟩ := SlOf.atN (GenSl.mono hu hB) hl.out hlt
        cases he2
        obtain ⟨u1, cx, h1⟩ := hc k hlt
        obtain ⟨u2, cy, h2⟩ := hc2 k hlt
        have hcf := hf.out k hlt u1 u2 wr h1 h2
        have hki : (k : Int) < (xs.length : Int) := by omega
        clear hc hc2
        by_cases hxy : get xs k = get ys k
        · rw [decide_eq_true hxy] at hcf
          have hE2 : ∀ j, j < k + 1 → get xs j = get ys j := fun j hj => by
            rcases Nat.lt_or_ge j k with h1 | h1
            · exact hE.out j h1
            · obtain rfl : j = k := by omega
              exact hxy
          replace hE2 := Lib.hid hE2
          replace hcf := Lib.hid hcf
          clear hxy h1 h2
          go_wp2_with fail
          refine hcf.out.mono ?_
          rintro e w2 ⟨rfl, hb2⟩
          go_wp2_with fail
          go_roundw
          case rel => exact ⟨k + 1, by omega, by go_num, hE2, hB.trans (hb2.mono hB.size)⟩
          case measure => simp [intOf]; omega
        · rw [decide_eq_false hxy] at hcf
          have hne : F = false := by
            rw [← hF.out]
            exact decide_eq_false (fun e => hxy (by rw [e]))
          subst hne
          replace hcf := Lib.hid hcf
          clear hxy h1 h2
          go_wp2_with fail
          refine hcf.out.mono ?_
          rintro e w2 ⟨rfl, hb2⟩
          go_wp2_with fail
          go_ret
          exact ⟨rfl, hB.trans (hb2.mono hB.size)⟩
      · obtain rfl : k = xs.length := by omega
        have hne : F = true := by
          rw [← hF.out]
          exact decide_eq_true (ext_get hl.out.symm hE.out)
        subst hne
        go_wp2_with fail
        go_ret
        exact ⟨rfl, hB⟩
  · obtain ⟨a2, cap2, rfl⟩ := SlOf.len hu
    have h1 : ((xs.length : Int) != (ys.length : Int)) = true := bne_iff_ne.2 (by omega)
    rw [decide_eq_false (fun e => hl (by rw [e]))]
    clear hl
    go_enter Try.func39, Try.ntmps39
    go_wp2
    go_ret
    exact ⟨rfl, Below.refl _ _⟩

set_option maxHeartbeats 4000000 in
theorem cl38 (v u : Value) (w : World) (b : Bool) (hc : Calls Try.prog 26 #[v, u] w (BoolBelow b w)) : Calls Try.prog 38 #[v, u] w (BoolBelow b w) := by
  replace hc := Lib.hid hc
  go_enter Try.func38, Try.ntmps38
  go_wp2_with fail
  refine hc.out.mono ?_
  rintro e w1 ⟨rfl, hb1⟩
  go_wp2
  go_ret
  exact ⟨rfl, hb1⟩

set_option maxHeartbeats 4000000 in
theorem cl36 (v u : Value) (w : World) (b : Bool) (hc : Calls Try.prog 37 #[v, u, .func (.func 38) #[] #[]] w (BoolBelow b w)) : Calls Try.prog 36 #[v, u] w (BoolBelow b w) := by
  replace hc := Lib.hid hc
  go_enter Try.func36, Try.ntmps36
  go_wp2_with fail
  refine hc.out.mono ?_
  rintro e w1 ⟨rfl, hb1⟩
  go_wp2
  go_ret
  exact ⟨rfl, hb1⟩

set_option maxHeartbeats 4000000 in
theorem ef40 (v u : Value) (xs ys : List (List (List Int))) (w : World) (hv : DivSl w v xs) (hu : DivSl w u ys) (hn : xs.length ≤ 1000) (hf : ∀ i, i < xs.length → ∀ u1 u2 X, LvlSl X u1 (get xs i) → LvlSl X u2 (get ys i) → Calls Try.prog 36 #[u1, u2] X (BoolBelow (decide (get xs i = get ys i)) X)) :
    Calls Try.prog 40 #[v, u, .func (.func 36) #[] #[]] w (BoolBelow (decide (xs = ys)) w) := by
  obtain ⟨a, cap, rfl⟩ := SlOf.len hv
  replace hf := Lib.hid hf
  by_cases hl : ys.length = xs.length
  · obtain ⟨a2, cap2, rfl⟩ := SlOf.lenN hu hl
    obtain ⟨F, hF⟩ : ∃ F, decide (xs = ys) = F := ⟨_, rfl⟩
    rw [hF]
    replace hF := Lib.hid hF
    replace hl := Lib.hid hl
    go_enter Try.func40, Try.ntmps40
    go_wp2
    go_loopw [17] (fun i W => ∃ k : Nat, k ≤ xs.length ∧ i = .int .i64 k ∧ Hid (∀ j, j < k → get xs j = get ys j) ∧ Below w.heap.size w W) (fun i _ => xs.length - (intOf i).toNat)
    case atStart => exact ⟨0, Nat.zero_le _, rfl, Lib.hid (fun j hj => by omega), Below.refl _ _⟩
    case round =>
      obtain ⟨k, hk, rfl, hE, hB⟩ := hrel
      by_cases hlt : k < xs.length
      · obtain ⟨b, off, cap', he, hc⟩ := SlOf.at (DivSl.mono hv hB) hlt
        cases he
        obtain ⟨b2, off2, cap2', he2, hc2⟩ := SlOf.atN (DivSl.mono hu hB) hl.out hlt
        cases he2
        obtain ⟨u1, cx, h1⟩ := hc k hlt
        obtain ⟨u2, cy, h2⟩ := hc2 k hlt
        have hcf := hf.out k hlt u1 u2 wr h1 h2
        have hki : (k : Int) < (xs.length : Int) := by omega
        clear hc hc2
        by_cases hxy : get xs k = get ys k
        · rw [decide_eq_true hxy] at hcf
          have hE2 : ∀ j, j < k + 1 → get xs j = get ys j := fun j hj => by
            rcases Nat.lt_or_ge j k with h1 | h1
            · exact hE.out j h1
            · obtain rfl : j = k := by omega
              exact hxy
          replace hE2 := Lib.hid hE2
          replace hcf := Lib.hid hcf
          clear hxy h1 h2
          go_wp2_with fail
          refine hcf.out.mono ?_
          rintro e w2 ⟨rfl, hb2⟩
          go_wp2_with fail
          go_roundw
          case rel => exact ⟨k + 1, by omega, by go_num, hE2, hB.trans (hb2.mono hB.size)⟩
          case measure => simp [intOf]; omega
        · rw [decide_eq_false hxy] at hcf
          have hne : F = false := by
            rw [← hF.out]
            exact decide_eq_false (fun e => hxy (by rw [e]))
          subst hne
          replace hcf := Lib.hid hcf
          clear hxy h1 h2
          go_wp2_with fail
          refine hcf.out.mono ?_
          rintro e w2 ⟨rfl, hb2⟩
          go_wp2_with fail
          go_ret
          exact ⟨rfl, hB.trans (hb2.mono hB.size)⟩
      · obtain rfl : k = xs.length := by omega
        have hne : F = true := by
          rw [← hF.out]
          exact decide_eq_true (ext_get hl.out.symm hE.out)
        subst hne
        go_wp2_with fail
        go_ret
        exact ⟨rfl, hB⟩
  · obtain ⟨a2, cap2, rfl⟩ := SlOf.len hu
    have h1 : ((xs.length : Int) != (ys.length : Int)) = true := bne_iff_ne.2 (by omega)
    rw [decide_eq_false (fun e => hl (by rw [e]))]
    clear hl
    go_enter Try.func40, Try.ntmps40
    go_wp2
    go_ret
    exact ⟨rfl, Below.refl _ _⟩
end Go.Proofs.Ytgnamahdchefnaa
namespace Go.Proofs.Ytgnamahdchefnaa
open Go.RowKit Go.Shelf

def sameB (s t : St) : Bool := (((decide (s.d = t.d) && decide (s.l = t.l)) && decide (s.g = t.g)) && decide (s.v = t.v)) && decide (s.p = t.p)
theorem sameB_iff {s t : St} : sameB s t = true ↔ s = t := by
  obtain ⟨a, b, c, d, e⟩ := s
  obtain ⟨a', b', c', d', e'⟩ := t
  simp [sameB, and_assoc]
theorem sameB_self (s : St) : sameB s s = true := sameB_iff.2 rfl
set_option maxRecDepth 100000 in
set_option maxHeartbeats 4000000 in
theorem same_any (xd xg xv xp yd yg yv yp : Value) (s t : St) (w : World) (hs : StR w xd xg xv xp s) (ht : StR w yd yg yv yp t) (hF : s.Fit) :
    Calls Try.prog 15 #[stV xd s.d.c s.d.o s.l xg xv xp, stV yd t.d.c t.d.o t.l yg yv yp] w (BoolBelow (sameB s t) w) := by
  have hS0 : ∀ {W : World}, Below w.heap.size w W → StR W xd xg xv xp s := fun h => hs.mono h
  have hT0 : ∀ {W : World}, Below w.heap.size w W → StR W yd yg yv yp t := fun h => ht.mono h
  obtain ⟨a1, c1, rfl⟩ := hs.d.len
  obtain ⟨a2, c2, rfl⟩ := SlOf.len hs.g
  obtain ⟨a3, c3, rfl⟩ := SlOf.len hs.v
  obtain ⟨a4, c4, rfl⟩ := hs.p.len
  obtain ⟨b1, e1, rfl⟩ := ht.d.len
  obtain ⟨b2, e2, rfl⟩ := SlOf.len ht.g
  obtain ⟨b3, e3, rfl⟩ := SlOf.len ht.v
  obtain ⟨b4, e4, rfl⟩ := ht.p.len
  have hB0 := ((Below.refl w.heap.size w).alloc (Nat.le_refl _) (.cells #[.slice a1 s.d.s.length c1, .int .u64 s.d.c, .int .u64 s.d.o, .int .i64 s.l, .slice a2 s.g.length c2, .slice a3 s.v.length c3, .slice a4 s.p.length c4] 42)).alloc (by simp) (.cells #[.slice b1 t.d.s.length e1, .int .u64 t.d.c, .int .u64 t.d.o, .int .i64 t.l, .slice b2 t.g.length e2, .slice b3 t.v.length e3, .slice b4 t.p.length e4] 42)
  have bA0 := (BoxC.new w 42 #[.slice a1 s.d.s.length c1, .int .u64 s.d.c, .int .u64 s.d.o, .int .i64 s.l, .slice a2 s.g.length c2, .slice a3 s.v.length c3, .slice a4 s.p.length c4]).alloc (.cells #[.slice b1 t.d.s.length e1, .int .u64 t.d.c, .int .u64 t.d.o, .int .i64 t.l, .slice b2 t.g.length e2, .slice b3 t.v.length e3, .slice b4 t.p.length e4] 42)
  have bB0 := BoxC.new (w.alloc (.cells #[.slice a1 s.d.s.length c1, .int .u64 s.d.c, .int .u64 s.d.o, .int .i64 s.l, .slice a2 s.g.length c2, .slice a3 s.v.length c3, .slice a4 s.p.length c4] 42)) 42 #[.slice b1 t.d.s.length e1, .int .u64 t.d.c, .int .u64 t.d.o, .int .i64 t.l, .slice b2 t.g.length e2, .slice b3 t.v.length e3, .slice b4 t.p.length e4]
  simp only [World.size_alloc] at bB0
  have k1 : ∀ (W : World), Below w.heap.size w W → Calls Try.prog 13 #[regV (.slice a1 s.d.s.length c1) s.d.c s.d.o, regV (.slice b1 t.d.s.length e1) t.d.c t.d.o] W (BoolBelow (decide (s.d = t.d)) W) := fun W h => by
    have := lawEqual_any _ _ s.d t.d _ (hS0 h).d (hT0 h).d (by have := hF.d; omega)
    rw [eqB_dec] at this
    exact this
  have k2 : ∀ (W : World), Below w.heap.size w W → Calls Try.prog 39 #[.slice a2 s.g.length c2, .slice b2 t.g.length e2, .func (.func 35) #[] #[]] W (BoolBelow (decide (s.g = t.g)) W) := fun W h =>
    ef39 _ _ s.g t.g _ (hS0 h).g (hT0 h).g hF.g (fun i hi u1 u2 X h1 h2 => cl35 u1 u2 X _ (ef19 u1 u2 _ _ X h1 h2 (hF.gl i hi) (fun j hj v1 v2 Y g1 g2 => by
      have := lawEqual_any v1 v2 (get (get s.g i) j) (get (get t.g i) j) Y g1 g2 (by have := hF.gr i j hi hj; omega)
      rw [eqB_dec] at this
      exact this)))
  have k3 : ∀ (W : World), Below w.heap.size w W → Calls Try.prog 40 #[.slice a3 s.v.length c3, .slice b3 t.v.length e3, .func (.func 36) #[] #[]] W (BoolBelow (decide (s.v = t.v)) W) := fun W h =>
    ef40 _ _ s.v t.v _ (hS0 h).v (hT0 h).v hF.v (fun i hi u1 u2 X h1 h2 => cl36 u1 u2 X _ (ef37 u1 u2 _ _ X h1 h2 (hF.vl i hi) (fun j hj v1 v2 Y g1 g2 => cl38 v1 v2 Y _ (by
      have := slEqual_any v1 v2 (get (get s.v i) j) (get (get t.v i) j) Y g1 g2 (by have := hF.vd i j hi hj; omega)
      rw [beq_dec] at this
      exact this))))
  have k4 : ∀ (W : World), Below w.heap.size w W → Calls Try.prog 35 #[.slice a4 s.p.length c4, .slice b4 t.p.length e4] W (BoolBelow (decide (s.p = t.p)) W) := fun W h =>
    cl35 _ _ _ _ (ef19 _ _ s.p t.p _ (hS0 h).p (hT0 h).p hF.p (fun j hj v1 v2 Y g1 g2 => by
      have := lawEqual_any v1 v2 (get s.p j) (get t.p j) Y g1 g2 (by have := hF.pr j hj; omega)
      rw [eqB_dec] at this
      exact this))
  unfold sameB
  generalize decide (s.d = t.d) = B1 at k1 ⊢
  generalize decide (s.g = t.g) = B2 at k2 ⊢
  generalize decide (s.v = t.v) = B3 at k3 ⊢
  generalize decide (s.p = t.p) = B4 at k4 ⊢
  replace k1 := Lib.hid k1
  replace k2 := Lib.hid k2
  replace k3 := Lib.hid k3
  replace k4 := Lib.hid k4
  clear hS0 hT0 hs ht hF
  cases B1
  · go_enter Try.func15, Try.ntmps15
    go_wp2_with fail
    refine (k1.out _ hB0).mono ?_
    rintro e w1 ⟨rfl, hb1⟩
    have bA1 := bA0.grown hb1
    have bB1 := bB0.grown hb1
    have hB1 := hB0.trans (hb1.mono hB0.size)
    have p0 := bA1.cell 0 rfl
    have q0 := bB1.cell 0 rfl
    have p1 := bA1.cell 1 rfl
    have q1 := bB1.cell 1 rfl
    have p2 := bA1.cell 2 rfl
    have q2 := bB1.cell 2 rfl
    have p3 := bA1.cell 3 rfl
    have q3 := bB1.cell 3 rfl
    have p4 := bA1.cell 4 rfl
    have q4 := bB1.cell 4 rfl
    have p5 := bA1.cell 5 rfl
    have q5 := bB1.cell 5 rfl
    have p6 := bA1.cell 6 rfl
    have q6 := bB1.cell 6 rfl
    go_wp2
    go_ret
    exact ⟨ret_bool (by simp), hB1⟩
  · by_cases hl : s.l = t.l
    · have hl2 : (s.l == t.l) = true := by simpa using hl
      have hl3 : decide (s.l = t.l) = true := decide_eq_true hl
      rw [hl3]
      replace hl := Lib.hid hl
      replace hl3 := Lib.hid hl3
      cases B2
      · go_enter Try.func15, Try.ntmps15
        go_wp2_with fail
        refine (k1.out _ hB0).mono ?_
        rintro e w1 ⟨rfl, hb1⟩
        have bA1 := bA0.grown hb1
        have bB1 := bB0.grown hb1
        have hB1 := hB0.trans (hb1.mono hB0.size)
        have p0 := bA1.cell 0 rfl
        have q0 := bB1.cell 0 rfl
        have p1 := bA1.cell 1 rfl
        have q1 := bB1.cell 1 rfl
        have p2 := bA1.cell 2 rfl
        have q2 := bB1.cell 2 rfl
        have p3 := bA1.cell 3 rfl
        have q3 := bB1.cell 3 rfl
        have p4 := bA1.cell 4 rfl
        have q4 := bB1.cell 4 rfl
        have p5 := bA1.cell 5 rfl
        have q5 := bB1.cell 5 rfl
        have p6 := bA1.cell 6 rfl
        have q6 := bB1.cell 6 rfl
        go_wp2_with fail
        refine (k2.out _ hB1).mono ?_
        rintro e w2 ⟨rfl, hb2⟩
        have bA2 := bA1.grown hb2
        have bB2 := bB1.grown hb2
        have hB2 := hB1.trans (hb2.mono hB1.size)
        clear p0 q0 p1 q1 p2 q2 p3 q3 p4 q4 p5 q5 p6 q6
        have p0 := bA2.cell 0 rfl
        have q0 := bB2.cell 0 rfl
        have p1 := bA2.cell 1 rfl
        have q1 := bB2.cell 1 rfl
        have p2 := bA2.cell 2 rfl
        have q2 := bB2.cell 2 rfl
        have p3 := bA2.cell 3 rfl
        have q3 := bB2.cell 3 rfl
        have p4 := bA2.cell 4 rfl
        have q4 := bB2.cell 4 rfl
        have p5 := bA2.cell 5 rfl
        have q5 := bB2.cell 5 rfl
        have p6 := bA2.cell 6 rfl
        have q6 := bB2.cell 6 rfl
        go_wp2
        go_ret
        exact ⟨ret_bool (by simp), hB2⟩
      · cases B3
        · go_enter Try.func15, Try.ntmps15
          go_wp2_with fail
          refine (k1.out _ hB0).mono ?_
          rintro e w1 ⟨rfl, hb1⟩
          have bA1 := bA0.grown hb1
          have bB1 := bB0.grown hb1
          have hB1 := hB0.trans (hb1.mono hB0.size)
          have p0 := bA1.cell 0 rfl
          have q0 := bB1.cell 0 rfl
          have p1 := bA1.cell 1 rfl
          have q1 := bB1.cell 1 rfl
          have p2 := bA1.cell 2 rfl
          have q2 := bB1.cell 2 rfl
          have p3 := bA1.cell 3 rfl
          have q3 := bB1.cell 3 rfl
          have p4 := bA1.cell 4 rfl
          have q4 := bB1.cell 4 rfl
          have p5 := bA1.cell 5 rfl
          have q5 := bB1.cell 5 rfl
          have p6 := bA1.cell 6 rfl
          have q6 := bB1.cell 6 rfl
          go_wp2_with fail
          refine (k2.out _ hB1).mono ?_
          rintro e w2 ⟨rfl, hb2⟩
          have bA2 := bA1.grown hb2
          have bB2 := bB1.grown hb2
          have hB2 := hB1.trans (hb2.mono hB1.size)
          clear p0 q0 p1 q1 p2 q2 p3 q3 p4 q4 p5 q5 p6 q6
          have p0 := bA2.cell 0 rfl
          have q0 := bB2.cell 0 rfl
          have p1 := bA2.cell 1 rfl
          have q1 := bB2.cell 1 rfl
          have p2 := bA2.cell 2 rfl
          have q2 := bB2.cell 2 rfl
          have p3 := bA2.cell 3 rfl
          have q3 := bB2.cell 3 rfl
          have p4 := bA2.cell 4 rfl
          have q4 := bB2.cell 4 rfl
          have p5 := bA2.cell 5 rfl
          have q5 := bB2.cell 5 rfl
          have p6 := bA2.cell 6 rfl
          have q6 := bB2.cell 6 rfl
          go_wp2_with fail
          refine (k3.out _ hB2).mono ?_
          rintro e w3 ⟨rfl, hb3⟩
          have bA3 := bA2.grown hb3
          have bB3 := bB2.grown hb3
          have hB3 := hB2.trans (hb3.mono hB2.size)
          clear p0 q0 p1 q1 p2 q2 p3 q3 p4 q4 p5 q5 p6 q6
          have p0 := bA3.cell 0 rfl
          have q0 := bB3.cell 0 rfl
          have p1 := bA3.cell 1 rfl
          have q1 := bB3.cell 1 rfl
          have p2 := bA3.cell 2 rfl
          have q2 := bB3.cell 2 rfl
          have p3 := bA3.cell 3 rfl
          have q3 := bB3.cell 3 rfl
          have p4 := bA3.cell 4 rfl
          have q4 := bB3.cell 4 rfl
          have p5 := bA3.cell 5 rfl
          have q5 := bB3.cell 5 rfl
          have p6 := bA3.cell 6 rfl
          have q6 := bB3.cell 6 rfl
          go_wp2
          go_ret
          exact ⟨ret_bool (by simp), hB3⟩
        · cases B4
          · go_enter Try.func15, Try.ntmps15
            go_wp2_with fail
            refine (k1.out _ hB0).mono ?_
            rintro e w1 ⟨rfl, hb1⟩
            have bA1 := bA0.grown hb1
            have bB1 := bB0.grown hb1
            have hB1 := hB0.trans (hb1.mono hB0.size)
            have p0 := bA1.cell 0 rfl
            have q0 := bB1.cell 0 rfl
            have p1 := bA1.cell 1 rfl
            have q1 := bB1.cell 1 rfl
            have p2 := bA1.cell 2 rfl
            have q2 := bB1.cell 2 rfl
            have p3 := bA1.cell 3 rfl
            have q3 := bB1.cell 3 rfl
            have p4 := bA1.cell 4 rfl
            have q4 := bB1.cell 4 rfl
            have p5 := bA1.cell 5 rfl
            have q5 := bB1.cell 5 rfl
            have p6 := bA1.cell 6 rfl
            have q6 := bB1.cell 6 rfl
            go_wp2_with fail
            refine (k2.out _ hB1).mono ?_
            rintro e w2 ⟨rfl, hb2⟩
            have bA2 := bA1.grown hb2
            have bB2 := bB1.grown hb2
            have hB2 := hB1.trans (hb2.mono hB1.size)
            clear p0 q0 p1 q1 p2 q2 p3 q3 p4 q4 p5 q5 p6 q6
            have p0 := bA2.cell 0 rfl
            have q0 := bB2.cell 0 rfl
            have p1 := bA2.cell 1 rfl
            have q1 := bB2.cell 1 rfl
            have p2 := bA2.cell 2 rfl
            have q2 := bB2.cell 2 rfl
            have p3 := bA2.cell 3 rfl
            have q3 := bB2.cell 3 rfl
            have p4 := bA2.cell 4 rfl
            have q4 := bB2.cell 4 rfl
            have p5 := bA2.cell 5 rfl
            have q5 := bB2.cell 5 rfl
            have p6 := bA2.cell 6 rfl
            have q6 := bB2.cell 6 rfl
            go_wp2_with fail
            refine (k3.out _ hB2).mono ?_
            rintro e w3 ⟨rfl, hb3⟩
            have bA3 := bA2.grown hb3
            have bB3 := bB2.grown hb3
            have hB3 := hB2.trans (hb3.mono hB2.size)
            clear p0 q0 p1 q1 p2 q2 p3 q3 p4 q4 p5 q5 p6 q6
            have p0 := bA3.cell 0 rfl
            have q0 := bB3.cell 0 rfl
            have p1 := bA3.cell 1 rfl
            have q1 := bB3.cell 1 rfl
            have p2 := bA3.cell 2 rfl
            have q2 := bB3.cell 2 rfl
            have p3 := bA3.cell 3 rfl
            have q3 := bB3.cell 3 rfl
            have p4 := bA3.cell 4 rfl
            have q4 := bB3.cell 4 rfl
            have p5 := bA3.cell 5 rfl
            have q5 := bB3.cell 5 rfl
            have p6 := bA3.cell 6 rfl
            have q6 := bB3.cell 6 rfl
            go_wp2_with fail
            refine (k4.out _ hB3).mono ?_
            rintro e w4 ⟨rfl, hb4⟩
            have bA4 := bA3.grown hb4
            have bB4 := bB3.grown hb4
            have hB4 := hB3.trans (hb4.mono hB3.size)
            clear p0 q0 p1 q1 p2 q2 p3 q3 p4 q4 p5 q5 p6 q6
            have p0 := bA4.cell 0 rfl
            have q0 := bB4.cell 0 rfl
            have p1 := bA4.cell 1 rfl
            have q1 := bB4.cell 1 rfl
            have p2 := bA4.cell 2 rfl
            have q2 := bB4.cell 2 rfl
            have p3 := bA4.cell 3 rfl
            have q3 := bB4.cell 3 rfl
            have p4 := bA4.cell 4 rfl
            have q4 := bB4.cell 4 rfl
            have p5 := bA4.cell 5 rfl
            have q5 := bB4.cell 5 rfl
            have p6 := bA4.cell 6 rfl
            have q6 := bB4.cell 6 rfl
            go_wp2
            go_ret
            exact ⟨ret_bool (by simp), hB4⟩
          · go_enter Try.func15, Try.ntmps15
            go_wp2_with fail
            refine (k1.out _ hB0).mono ?_
            rintro e w1 ⟨rfl, hb1⟩
            have bA1 := bA0.grown hb1
            have bB1 := bB0.grown hb1
            have hB1 := hB0.trans (hb1.mono hB0.size)
            have p0 := bA1.cell 0 rfl
            have q0 := bB1.cell 0 rfl
            have p1 := bA1.cell 1 rfl
            have q1 := bB1.cell 1 rfl
            have p2 := bA1.cell 2 rfl
            have q2 := bB1.cell 2 rfl
            have p3 := bA1.cell 3 rfl
            have q3 := bB1.cell 3 rfl
            have p4 := bA1.cell 4 rfl
            have q4 := bB1.cell 4 rfl
            have p5 := bA1.cell 5 rfl
            have q5 := bB1.cell 5 rfl
            have p6 := bA1.cell 6 rfl
            have q6 := bB1.cell 6 rfl
            go_wp2_with fail
            refine (k2.out _ hB1).mono ?_
            rintro e w2 ⟨rfl, hb2⟩
            have bA2 := bA1.grown hb2
            have bB2 := bB1.grown hb2
            have hB2 := hB1.trans (hb2.mono hB1.size)
            clear p0 q0 p1 q1 p2 q2 p3 q3 p4 q4 p5 q5 p6 q6
            have p0 := bA2.cell 0 rfl
            have q0 := bB2.cell 0 rfl
            have p1 := bA2.cell 1 rfl
            have q1 := bB2.cell 1 rfl
            have p2 := bA2.cell 2 rfl
            have q2 := bB2.cell 2 rfl
            have p3 := bA2.cell 3 rfl
            have q3 := bB2.cell 3 rfl
            have p4 := bA2.cell 4 rfl
            have q4 := bB2.cell 4 rfl
            have p5 := bA2.cell 5 rfl
            have q5 := bB2.cell 5 rfl
            have p6 := bA2.cell 6 rfl
            have q6 := bB2.cell 6 rfl
            go_wp2_with fail
            refine (k3.out _ hB2).mono ?_
            rintro e w3 ⟨rfl, hb3⟩
            have bA3 := bA2.grown hb3
            have bB3 := bB2.grown hb3
            have hB3 := hB2.trans (hb3.mono hB2.size)
            clear p0 q0 p1 q1 p2 q2 p3 q3 p4 q4 p5 q5 p6 q6
            have p0 := bA3.cell 0 rfl
            have q0 := bB3.cell 0 rfl
            have p1 := bA3.cell 1 rfl
            have q1 := bB3.cell 1 rfl
            have p2 := bA3.cell 2 rfl
            have q2 := bB3.cell 2 rfl
            have p3 := bA3.cell 3 rfl
            have q3 := bB3.cell 3 rfl
            have p4 := bA3.cell 4 rfl
            have q4 := bB3.cell 4 rfl
            have p5 := bA3.cell 5 rfl
            have q5 := bB3.cell 5 rfl
            have p6 := bA3.cell 6 rfl
            have q6 := bB3.cell 6 rfl
            go_wp2_with fail
            refine (k4.out _ hB3).mono ?_
            rintro e w4 ⟨rfl, hb4⟩
            have bA4 := bA3.grown hb4
            have bB4 := bB3.grown hb4
            have hB4 := hB3.trans (hb4.mono hB3.size)
            clear p0 q0 p1 q1 p2 q2 p3 q3 p4 q4 p5 q5 p6 q6
            have p0 := bA4.cell 0 rfl
            have q0 := bB4.cell 0 rfl
            have p1 := bA4.cell 1 rfl
            have q1 := bB4.cell 1 rfl
            have p2 := bA4.cell 2 rfl
            have q2 := bB4.cell 2 rfl
            have p3 := bA4.cell 3 rfl
            have q3 := bB4.cell 3 rfl
            have p4 := bA4.cell 4 rfl
            have q4 := bB4.cell 4 rfl
            have p5 := bA4.cell 5 rfl
            have q5 := bB4.cell 5 rfl
            have p6 := bA4.cell 6 rfl
            have q6 := bB4.cell 6 rfl
            go_wp2
            go_ret
            exact ⟨ret_bool (by simp), hB4⟩
    · have hl2 : (s.l == t.l) = false := by simpa using hl
      have hl3 : decide (s.l = t.l) = false := decide_eq_false hl
      rw [hl3]
      replace hl := Lib.hid hl
      replace hl3 := Lib.hid hl3
      go_enter Try.func15, Try.ntmps15
      go_wp2_with fail
      refine (k1.out _ hB0).mono ?_
      rintro e w1 ⟨rfl, hb1⟩
      have bA1 := bA0.grown hb1
      have bB1 := bB0.grown hb1
      have hB1 := hB0.trans (hb1.mono hB0.size)
      have p0 := bA1.cell 0 rfl
      have q0 := bB1.cell 0 rfl
      have p1 := bA1.cell 1 rfl
      have q1 := bB1.cell 1 rfl
      have p2 := bA1.cell 2 rfl
      have q2 := bB1.cell 2 rfl
      have p3 := bA1.cell 3 rfl
      have q3 := bB1.cell 3 rfl
      have p4 := bA1.cell 4 rfl
      have q4 := bB1.cell 4 rfl
      have p5 := bA1.cell 5 rfl
      have q5 := bB1.cell 5 rfl
      have p6 := bA1.cell 6 rfl
      have q6 := bB1.cell 6 rfl
      go_wp2
      go_ret
      exact ⟨ret_bool (by simp), hB1⟩
end Go.Proofs.Ytgnamahdchefnaa
