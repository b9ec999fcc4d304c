/- Contracts of the model's small functions on lists and states: Same, same, zero, sum, small, refused, start. Conditions: lists of at most 2^62 elements. -/
import Derived.Test.YtfefocgekmeahaaW3
namespace Go.Proofs.Ytfefocgekmeahaa
open Go.RowKit Go.Shelf

/-- two lists are the same -/
def sameL (xs ys : List Int) : Bool := decide (xs = ys)
theorem ext_nth {xs ys : List Int} (hl : xs.length = ys.length) (h : ∀ k, k < xs.length → nth xs k = nth ys k) : xs = ys := by
  apply List.ext_getElem hl
  intro k h1 h2
  rw [← nth_lt h1, ← nth_lt h2]
  exact h k h1

set_option maxHeartbeats 2000000 in
theorem Same_any (u v : Value) (xs ys : List Int) (w : World) (hu : NumSl .i64 w u xs) (hv : NumSl .i64 w v ys) (hx : xs.length ≤ 4611686018427387904) :
    Calls Try.prog 29 #[u, v] w (BoolBelow (sameL xs ys) w) := by
  obtain ⟨a, cap, rfl⟩ := hu.len
  obtain ⟨a2, cap2, rfl⟩ := hv.len
  by_cases h1 : xs.length = ys.length
  · have h1' : ((xs.length : Int) != (ys.length : Int)) = false := by simp [h1]
    have hli : (xs.length : Int) ≤ ys.length ∧ (ys.length : Int) ≤ xs.length := by omega
    obtain ⟨g1, g2⟩ := hli
    replace h1 := Lib.hid h1
    go_enter Try.func29, Try.ntmps29
    go_wp2
    go_loopw [5] (fun i wr => ∃ k : Nat, k ≤ xs.length ∧ i = .int .i64 k ∧ Hid (∀ j, j < k → nth xs j = nth ys j) ∧ Below w.heap.size w wr) (fun i _ => xs.length - (intOf i).toNat)
    case atStart => exact ⟨0, Nat.zero_le _, rfl, Lib.hid (fun j hj => absurd hj (by omega)), Below.refl _ _⟩
    case round =>
      obtain ⟨k, hk, rfl, hal, hB⟩ := hrel
      by_cases hlt : k < xs.length
      · obtain ⟨b, off, cap', he, hc⟩ := (hu.mono hB).at hlt
        cases he
        have hlt2 : k < ys.length := by omega
        obtain ⟨b2, off2, cap2', he2, hc2⟩ := (hv.mono hB).at hlt2
        cases he2
        have ck := hc k hlt
        have ck2 := hc2 k hlt2
        have hki : (k : Int) < (xs.length : Int) := by omega
        have hki2 : (k : Int) < (ys.length : Int) := by omega
        clear hc hc2
        by_cases hz : nth xs k = nth ys k
        · have hz' : (nth xs k != nth ys k) = false := by simp [hz]
          have hal2 : ∀ j, j < k + 1 → nth xs j = nth ys j := fun j hj => by
            rcases Nat.lt_or_ge j k with h | h
            · exact hal.out j h
            · obtain rfl : j = k := by omega
              exact hz
          replace hal2 := Lib.hid hal2
          clear hal hz
          generalize nth xs k = x at ck hz'
          generalize nth ys k = y at ck2 hz'
          go_wp2
          go_quiet (fail)
          go_wp2
          go_roundw
          case rel => exact ⟨k + 1, by omega, by go_num, hal2, below_drewN hB _⟩
          case measure => simp [intOf]; omega
        · have hz' : (nth xs k != nth ys k) = true := by simp [hz]
          have hF : sameL xs ys = false := decide_eq_false (fun e => hz (by rw [e]))
          replace hF := Lib.hid hF
          clear hal hz
          generalize nth xs k = x at ck hz'
          generalize nth ys k = y at ck2 hz'
          go_wp2
          go_quiet (fail)
          go_wp2
          go_ret
          exact ⟨ret_bool hF.out.symm, below_drewN hB _⟩
      · obtain rfl : k = xs.length := by omega
        have hF : sameL xs ys = true := decide_eq_true (ext_nth h1.out hal.out)
        replace hF := Lib.hid hF
        go_wp2
        go_ret
        exact ⟨ret_bool hF.out.symm, hB⟩
  · have h1' : ((xs.length : Int) != (ys.length : Int)) = true := by simp; omega
    have hF : sameL xs ys = false := decide_eq_false (fun e => h1 (by rw [e]))
    replace hF := Lib.hid hF
    clear h1
    go_enter Try.func29, Try.ntmps29
    go_wp2
    go_ret
    exact ⟨ret_bool hF.out.symm, Below.refl _ _⟩

/-- three slices read as a state -/
structure StSl (w : World) (v1 v2 v3 : Value) (s : St) : Prop where
  lv : NumSl .i64 w v1 s.lv
  tk : NumSl .i64 w v2 s.tk
  lk : NumSl .i64 w v3 s.lk
theorem StSl.mono {w w' : World} {v1 v2 v3 : Value} {s : St} (h : StSl w v1 v2 v3 s) (hb : Below w.heap.size w w') : StSl w' v1 v2 v3 s := ⟨h.lv.mono hb, h.tk.mono hb, h.lk.mono hb⟩
/-- a state's lists have at most 2^62 numbers -/
structure St.Fit (s : St) : Prop where
  lv : s.lv.length ≤ 4611686018427387904
  tk : s.tk.length ≤ 4611686018427387904
  lk : s.lk.length ≤ 4611686018427387904
def sameS (s t : St) : Bool := sameL s.lv t.lv && sameL s.tk t.tk && sameL s.lk t.lk
abbrev stV (v1 v2 v3 : Value) : Value := .agg #[v1, v2, v3]

set_option maxHeartbeats 4000000 in
theorem same_any (u1 u2 u3 v1 v2 v3 : Value) (s t : St) (w : World) (hs : StSl w u1 u2 u3 s) (ht : StSl w v1 v2 v3 t) (fs : s.Fit) :
    Calls Try.prog 22 #[stV u1 u2 u3, stV v1 v2 v3] w (BoolBelow (sameS s t) w) := by
  have hB : Below w.heap.size w ((w.alloc (.cells #[u1, u2, u3] 44)).alloc (.cells #[v1, v2, v3] 44)) := ((Below.refl _ w).alloc (Nat.le_refl _) _).alloc (by simp) _
  have bS := (BoxC.new w 44 #[u1, u2, u3]).alloc (.cells #[v1, v2, v3] 44)
  have bT := BoxC.new (w.alloc (.cells #[u1, u2, u3] 44)) 44 #[v1, v2, v3]
  simp only [World.size_alloc] at bT
  have hs1 := hs.mono hB
  have ht1 := ht.mono hB
  obtain ⟨a1, c1, rfl⟩ := hs.lv.len
  obtain ⟨a2, c2, rfl⟩ := hs.tk.len
  obtain ⟨a3, c3, rfl⟩ := hs.lk.len
  obtain ⟨b1, d1, rfl⟩ := ht.lv.len
  obtain ⟨b2, d2, rfl⟩ := ht.tk.len
  obtain ⟨b3, d3, rfl⟩ := ht.lk.len
  clear hs ht
  have k1 := fun W (h1 : StSl W (.slice a1 s.lv.length c1) (.slice a2 s.tk.length c2) (.slice a3 s.lk.length c3) s) (h2 : StSl W (.slice b1 t.lv.length d1) (.slice b2 t.tk.length d2) (.slice b3 t.lk.length d3) t) => Same_any _ _ _ _ W h1.lv h2.lv fs.lv
  have k2 := fun W (h1 : StSl W (.slice a1 s.lv.length c1) (.slice a2 s.tk.length c2) (.slice a3 s.lk.length c3) s) (h2 : StSl W (.slice b1 t.lv.length d1) (.slice b2 t.tk.length d2) (.slice b3 t.lk.length d3) t) => Same_any _ _ _ _ W h1.tk h2.tk fs.tk
  have k3 := fun W (h1 : StSl W (.slice a1 s.lv.length c1) (.slice a2 s.tk.length c2) (.slice a3 s.lk.length c3) s) (h2 : StSl W (.slice b1 t.lv.length d1) (.slice b2 t.tk.length d2) (.slice b3 t.lk.length d3) t) => Same_any _ _ _ _ W h1.lk h2.lk fs.lk
  have hF : sameS s t = (sameL s.lv t.lv && sameL s.tk t.tk && sameL s.lk t.lk) := rfl
  obtain ⟨F, hF2⟩ : ∃ F, sameS s t = F := ⟨_, rfl⟩
  rw [hF2] at hF ⊢
  clear hF2
  generalize sameL s.lv t.lv = q1 at k1 hF
  generalize sameL s.tk t.tk = q2 at k2 hF
  generalize sameL s.lk t.lk = q3 at k3 hF
  have kk1 := k1 _ hs1 ht1
  replace kk1 := Lib.hid kk1
  replace k2 := Lib.hid k2
  replace k3 := Lib.hid k3
  clear k1
  have l1 := fun X (hb : Below ((w.alloc (.cells #[.slice a1 s.lv.length c1, .slice a2 s.tk.length c2, .slice a3 s.lk.length c3] 44)).alloc (.cells #[.slice b1 t.lv.length d1, .slice b2 t.tk.length d2, .slice b3 t.lk.length d3] 44)).heap.size ((w.alloc (.cells #[.slice a1 s.lv.length c1, .slice a2 s.tk.length c2, .slice a3 s.lk.length c3] 44)).alloc (.cells #[.slice b1 t.lv.length d1, .slice b2 t.tk.length d2, .slice b3 t.lk.length d3] 44)) X) =>
    And.intro (bS.grown hb) (And.intro (bT.grown hb) (And.intro (hs1.mono hb) (And.intro (ht1.mono hb) (hB.trans (hb.mono hB.size)))))
  replace l1 := Lib.hid l1
  clear bS bT hs1 ht1
  cases q1
  · replace hF := Lib.hid hF
    go_enter Try.func22, Try.ntmps22
    go_wp2_with fail
    refine kk1.out.mono ?_
    rintro e w1 ⟨rfl, hb⟩
    go_wp2
    go_ret
    exact ⟨ret_bool hF.out.symm, hB.trans (hb.mono hB.size)⟩
  · cases q2
    · replace hF := Lib.hid hF
      go_enter Try.func22, Try.ntmps22
      go_wp2_with fail
      refine kk1.out.mono ?_
      rintro e w1 ⟨rfl, hb⟩
      obtain ⟨n1, n2, n3, n4, n5⟩ := l1.out _ hb
      have x1 := n1.cell 1 rfl
      have y1 := n2.cell 1 rfl
      have kk2 := Lib.hid (k2.out _ n3 n4)
      go_wp2_with fail
      refine kk2.out.mono ?_
      rintro e w2 ⟨rfl, hb2⟩
      go_wp2
      go_ret
      exact ⟨ret_bool hF.out.symm, n5.trans (hb2.mono n5.size)⟩
    · replace hF := Lib.hid hF
      go_enter Try.func22, Try.ntmps22
      go_wp2_with fail
      refine kk1.out.mono ?_
      rintro e w1 ⟨rfl, hb⟩
      obtain ⟨n1, n2, n3, n4, n5⟩ := l1.out _ hb
      have x1 := n1.cell 1 rfl
      have y1 := n2.cell 1 rfl
      have kk2 := Lib.hid (k2.out _ n3 n4)
      go_wp2_with fail
      refine kk2.out.mono ?_
      rintro e w2 ⟨rfl, hb2⟩
      have kk3 := Lib.hid (k3.out _ (n3.mono hb2) (n4.mono hb2))
      have x2 := (n1.grown hb2).cell 2 rfl
      have y2 := (n2.grown hb2).cell 2 rfl
      have n6 := n5.trans (hb2.mono n5.size)
      clear x1 y1
      go_wp2_with fail
      refine kk3.out.mono ?_
      rintro e w3 ⟨rfl, hb3⟩
      go_wp2
      go_ret
      exact ⟨ret_bool (by rw [hF.out]; rfl), n6.trans (hb3.mono n6.size)⟩

set_option maxHeartbeats 2000000 in
theorem zero_any (u1 u2 u3 : Value) (s : St) (w : World) (hs : StSl w u1 u2 u3 s) (fs : s.Fit) : Calls Try.prog 32 #[stV u1 u2 u3] w (BoolBelow (sameS s ⟨[], [], []⟩) w) := by
  have hB := (Below.refl w.heap.size w).alloc (Nat.le_refl _) (.cells #[u1, u2, u3] 44)
  have hsm := same_any u1 u2 u3 (.slice none 0 0) (.slice none 0 0) (.slice none 0 0) s ⟨[], [], []⟩ _ (hs.mono hB) ⟨.nil, .nil, .nil⟩ fs
  obtain ⟨a1, c1, rfl⟩ := hs.lv.len
  obtain ⟨a2, c2, rfl⟩ := hs.tk.len
  obtain ⟨a3, c3, rfl⟩ := hs.lk.len
  generalize sameS s ⟨[], [], []⟩ = F at hsm ⊢
  replace hsm := Lib.hid hsm
  go_enter Try.func32, Try.ntmps32
  go_wp2_with fail
  refine hsm.out.mono ?_
  rintro e w1 ⟨rfl, hb⟩
  go_wp2
  go_ret
  exact ⟨rfl, hB.trans (hb.mono hB.size)⟩

set_option maxHeartbeats 1000000 in
theorem sum_any (u : Value) (xs : List Int) (w : World) (hu : NumSl .i64 w u xs) (hx : xs.length ≤ 1000) (hb : ∀ k, -2000000000 ≤ nth xs k ∧ nth xs k ≤ 2000000000) :
    Calls Try.prog 20 #[u] w fun e w' => e = .returned (.int .i64 (sumN (nth xs) xs.length)) ∧ w = w' := by
  obtain ⟨a, cap, rfl⟩ := hu.len
  have hs : ∀ k : Nat, -2000000000 * (k : Int) ≤ sumN (nth xs) k ∧ sumN (nth xs) k ≤ 2000000000 * (k : Int) := fun k => by
    induction k with
    | zero => exact ⟨by simp [sumN], by simp [sumN]⟩
    | succ k ih =>
      have := hb k
      simp only [sumN]
      omega
  obtain ⟨F, hF⟩ : ∃ F, sumN (nth xs) xs.length = F := ⟨_, rfl⟩
  rw [hF]
  replace hF := Lib.hid hF
  replace hs := Lib.hid hs
  replace hb := Lib.hid hb
  go_enter Try.func20, Try.ntmps20
  go_wp2
  go_loop [3, 4] (fun n i => ∃ k : Nat, k ≤ xs.length ∧ i = .int .i64 k ∧ n = .int .i64 (sumN (nth xs) k)) (fun _ i => xs.length - (intOf i).toNat)
  case atStart => exact ⟨0, Nat.zero_le _, rfl, rfl⟩
  case round =>
    obtain ⟨k, hk, rfl, rfl⟩ := hrel
    by_cases hlt : k < xs.length
    · obtain ⟨b, off, cap', he, hc⟩ := hu.at hlt
      cases he
      have ck := hc k hlt
      have hki : (k : Int) < (xs.length : Int) := by omega
      have h1 := hs.out k
      have h2 := hb.out k
      have hsn : sumN (nth xs) (k + 1) = sumN (nth xs) k + nth xs k := rfl
      clear hc
      generalize nth xs k = z at ck h2 hsn
      generalize sumN (nth xs) k = y at h1 hsn ⊢
      replace hsn := Lib.hid hsn
      go_wp2
      go_round
      case rel => exact ⟨k + 1, by omega, by go_num, by rw [hsn.out]⟩
      case measure => simp [intOf]; omega
    · obtain rfl : k = xs.length := by omega
      rw [hF.out]
      go_wp2
      go_ret
      exact ⟨rfl, rfl⟩
end Go.Proofs.Ytfefocgekmeahaa
