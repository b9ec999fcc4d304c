/- Plain laws of the model's Least: the least cost over all assignments, by trying all. No walk. Conditions: none. -/
import Derived.Test.YtoendfpfnfeccaaP2
namespace Go.Proofs.Ytoendfpfnfeccaa

/-- one more candidate -/
def better (acc : Option Int) (x : Option Int) (add : Int) : Option Int := match x with
  | none => acc
  | some n => match acc with
    | none => some (n + add)
    | some b => if n + add < b then some (n + add) else some b
theorem better_le {acc x : Option Int} {add b : Int} (h : better acc x add = some b) : (acc = some b) ∨ ∃ n, x = some n ∧ b = n + add := by
  unfold better at h
  cases x with
  | none => exact .inl h
  | some n =>
    cases acc with
    | none => simp at h; exact .inr ⟨n, rfl, h.symm⟩
    | some b' =>
      simp only at h
      split at h
      · simp at h; exact .inr ⟨n, rfl, h.symm⟩
      · exact .inl h
/-- it is at most both -/
theorem better_acc {acc x : Option Int} {add b : Int} (h : acc = some b) : ∃ b', better acc x add = some b' ∧ b' ≤ b := by
  subst h
  unfold better
  cases x with
  | none => exact ⟨b, rfl, Int.le_refl _⟩
  | some n =>
    simp only
    split
    · exact ⟨_, rfl, by omega⟩
    · exact ⟨_, rfl, Int.le_refl _⟩
theorem better_new {acc x : Option Int} {add n : Int} (h : x = some n) : ∃ b', better acc x add = some b' ∧ b' ≤ n + add := by
  subst h
  unfold better
  cases acc with
  | none => exact ⟨_, rfl, Int.le_refl _⟩
  | some b =>
    simp only
    split
    · exact ⟨_, rfl, Int.le_refl _⟩
    · exact ⟨_, rfl, by omega⟩

/-- the columns below K, of which each that is not used is tried: g k is what the rows behind cost then -/
def tryL (us : List Bool) (g : Nat → Option Int) (cr : Nat → Int) : Nat → Option Int
  | 0 => none
  | K + 1 => if us[K]?.getD false then tryL us g cr K else better (tryL us g cr K) (g K) (cr K)
/-- behind the columns: the row is skipped -/
def tryS (skip : Option Int) (acc x : Option Int) : Option Int := match skip with
  | none => acc
  | some s => better acc x s
/-- the least cost of j rows from one on, without the used columns -/
def leastF (m : Nat) (c : Nat → Nat → Int) (skip : Option Int) : Nat → Nat → List Bool → Option Int
  | 0, _, _ => some 0
  | j + 1, row, us => tryS skip (tryL us (fun k => leastF m c skip j (row + 1) (us.set k true)) (c row) m) (leastF m c skip j (row + 1) us)

/-- what rows from one on cost -/
def sumR (f : Nat → Int) : Nat → Nat → Int
  | 0, _ => 0
  | j + 1, row => f row + sumR f j (row + 1)
theorem sumR_succ (f : Nat → Int) (j row : Nat) : sumR f (j + 1) row = f row + sumR f j (row + 1) := rfl
theorem sumR_congr {f g : Nat → Int} : ∀ (j row : Nat), (∀ r, row ≤ r → r < row + j → f r = g r) → sumR f j row = sumR g j row
  | 0, _, _ => rfl
  | j + 1, row, h => by rw [sumR_succ, sumR_succ, h row (Nat.le_refl _) (by omega), sumR_congr j (row + 1) (fun r h1 h2 => h r (by omega) (by omega))]
theorem sumR_all (f : Nat → Int) : ∀ (j row : Nat), sumN f (row + j) = sumN f row + sumR f j row
  | 0, row => by simp [sumR]
  | j + 1, row => by
    have := sumR_all f j (row + 1)
    rw [show row + (j + 1) = row + 1 + j by omega, this, sumR_succ]
    show sumN f row + f row + _ = _
    omega
/-- an assignment of the rows from one on that keeps off the used columns -/
structure AsgR (m : Nat) (skip : Option Int) (us : List Bool) (j row : Nat) (t : Nat → Nat) : Prop where
  inj : ∀ r s, row ≤ r → r < row + j → row ≤ s → s < row + j → t r = t s → t r < m → r = s
  free : ∀ r, row ≤ r → r < row + j → t r < m → us[t r]?.getD false = false
  skip : ∀ r, row ≤ r → r < row + j → ¬ t r < m → skip ≠ none
def cst (m : Nat) (c : Nat → Nat → Int) (skip : Option Int) (t : Nat → Nat) (r : Nat) : Int := if t r < m then c r (t r) else skip.getD 0

section
variable {m : Nat} {c : Nat → Nat → Int} {skip : Option Int}
theorem set_free {us : List Bool} {k l : Nat} (h : l ≠ k) : (us.set k true)[l]?.getD false = us[l]?.getD false := by rw [List.getElem?_set_ne (by omega)]
theorem set_used {us : List Bool} {k : Nat} (hk : k < us.length) : (us.set k true)[k]?.getD false = true := by simp [hk]
theorem tryL_lower {us : List Bool} {g : Nat → Option Int} {cr : Nat → Int} : ∀ (K : Nat) {b : Int}, tryL us g cr K = some b → ∃ k n, k < K ∧ us[k]?.getD false = false ∧ g k = some n ∧ b = n + cr k
  | 0, b, h => by cases h
  | K + 1, b, h => by
    unfold tryL at h
    by_cases hu : us[K]?.getD false = true
    · rw [if_pos hu] at h
      obtain ⟨k, n, k1, k2⟩ := tryL_lower K h
      exact ⟨k, n, by omega, k2⟩
    · rw [if_neg hu] at h
      rcases better_le h with h1 | ⟨n, h1, h2⟩
      · obtain ⟨k, n, k1, k2⟩ := tryL_lower K h1
        exact ⟨k, n, by omega, k2⟩
      · exact ⟨K, n, by omega, by simpa using hu, h1, h2⟩
theorem tryL_upper {us : List Bool} {g : Nat → Option Int} {cr : Nat → Int} {k : Nat} {n : Int} (hu : us[k]?.getD false = false) (hg : g k = some n) : ∀ K : Nat, k < K → ∃ b, tryL us g cr K = some b ∧ b ≤ n + cr k
  | 0, h => by omega
  | K + 1, h => by
    unfold tryL
    by_cases e : k = K
    · subst e
      rw [if_neg (by simp [hu])]
      exact better_new hg
    · obtain ⟨b, b1, b2⟩ := tryL_upper (cr := cr) hu hg K (by omega)
      by_cases hu2 : us[K]?.getD false = true
      · rw [if_pos hu2]; exact ⟨b, b1, b2⟩
      · rw [if_neg hu2]
        obtain ⟨b', c1, c2⟩ := better_acc (x := g K) (add := cr K) b1
        exact ⟨b', c1, by omega⟩
/-- what it finds is the cost of an assignment -/
theorem least_lower : ∀ (j row : Nat) (us : List Bool) {b : Int}, us.length = m → leastF m c skip j row us = some b → ∃ t, AsgR m skip us j row t ∧ b = sumR (cst m c skip t) j row
  | 0, row, us, b, _, h => ⟨fun _ => 0, ⟨fun r s h1 h2 => by omega, fun r h1 h2 => by omega, fun r h1 h2 => by omega⟩, by simp [leastF] at h; simp [sumR, h]⟩
  | j + 1, row, us, b, hl, h => by
    have hcase : (∃ k n, k < m ∧ us[k]?.getD false = false ∧ leastF m c skip j (row + 1) (us.set k true) = some n ∧ b = n + c row k) ∨ ∃ s n, skip = some s ∧ leastF m c skip j (row + 1) us = some n ∧ b = n + s := by
      unfold leastF tryS at h
      cases hs : skip with
      | none =>
        rw [hs] at h
        obtain ⟨k, n, k1, k2, k3, k4⟩ := tryL_lower m h
        exact .inl ⟨k, n, k1, k2, by simpa [hs] using k3, k4⟩
      | some s =>
        rw [hs] at h
        rcases better_le h with h1 | ⟨n, h1, h2⟩
        · obtain ⟨k, n, k1, k2, k3, k4⟩ := tryL_lower m h1
          exact .inl ⟨k, n, k1, k2, by simpa [hs] using k3, k4⟩
        · exact .inr ⟨s, n, rfl, by simpa [hs] using h1, h2⟩
    rcases hcase with ⟨k, n, k1, k2, k3, rfl⟩ | ⟨s, n, hs, h1, rfl⟩
    · obtain ⟨t, ⟨t1, t2, t3⟩, rfl⟩ := least_lower j (row + 1) (us.set k true) (by simpa using hl) k3
      refine ⟨fun r => if r = row then k else t r, ⟨fun r s h1 h2 h3 h4 e hm => ?_, fun r h1 h2 hm => ?_, fun r h1 h2 hm => ?_⟩, ?_⟩
      · have hne : ∀ q, row < q → q < row + (j + 1) → t q ≠ k := fun q q1 q2 e => by
          have := t2 q (by omega) (by omega) (by omega)
          rw [e, set_used (by omega)] at this
          cases this
        by_cases er : r = row
        · by_cases es : s = row
          · omega
          · rw [if_pos er, if_neg es] at e
            exact absurd e.symm (hne s (by omega) (by omega))
        · by_cases es : s = row
          · rw [if_neg er, if_pos es] at e
            exact absurd e (hne r (by omega) (by omega))
          · rw [if_neg er, if_neg es] at e
            rw [if_neg er] at hm
            exact t1 r s (by omega) (by omega) (by omega) (by omega) e hm
      · by_cases er : r = row
        · rw [if_pos er]; exact k2
        · rw [if_neg er] at hm ⊢
          have h5 := t2 r (by omega) (by omega) hm
          have hne : t r ≠ k := fun e => by rw [e, set_used (by omega)] at h5; cases h5
          rwa [set_free hne] at h5
      · by_cases er : r = row
        · rw [if_pos er] at hm; omega
        · rw [if_neg er] at hm
          exact t3 r (by omega) (by omega) hm
      · have e1 : sumR (cst m c skip t) j (row + 1) = sumR (cst m c skip (fun r => if r = row then k else t r)) j (row + 1) := sumR_congr j (row + 1) (fun r h1 h2 => by
          unfold cst
          simp only [if_neg (show r ≠ row by omega)])
        have e2 : cst m c skip (fun r => if r = row then k else t r) row = c row k := by simp [cst, k1]
        rw [sumR_succ, e1, e2]
        omega
    · obtain ⟨t, ⟨t1, t2, t3⟩, rfl⟩ := least_lower j (row + 1) us hl h1
      refine ⟨fun r => if r = row then m else t r, ⟨fun r s h1 h2 h3 h4 e hm => ?_, fun r h1 h2 hm => ?_, fun r h1 h2 hm => ?_⟩, ?_⟩
      · by_cases er : r = row
        · rw [if_pos er] at hm; omega
        · rw [if_neg er] at hm
          by_cases es : s = row
          · rw [if_neg er, if_pos es] at e; omega
          · rw [if_neg er, if_neg es] at e
            exact t1 r s (by omega) (by omega) (by omega) (by omega) e hm
      · by_cases er : r = row
        · rw [if_pos er] at hm; omega
        · rw [if_neg er] at hm ⊢
          exact t2 r (by omega) (by omega) hm
      · rw [hs]; simp
      · have e1 : sumR (cst m c skip t) j (row + 1) = sumR (cst m c skip (fun r => if r = row then m else t r)) j (row + 1) := sumR_congr j (row + 1) (fun r h1 h2 => by
          unfold cst
          simp only [if_neg (show r ≠ row by omega)])
        have e2 : cst m c skip (fun r => if r = row then m else t r) row = s := by simp [cst, hs]
        rw [sumR_succ, e1, e2]
        omega
/-- and no assignment costs less -/
theorem least_upper : ∀ (j row : Nat) (us : List Bool) {t : Nat → Nat}, us.length = m → AsgR m skip us j row t → ∃ b, leastF m c skip j row us = some b ∧ b ≤ sumR (cst m c skip t) j row
  | 0, row, us, t, _, _ => ⟨0, rfl, Int.le_refl _⟩
  | j + 1, row, us, t, hl, h => by
    by_cases hm : t row < m
    · have hf := h.free row (Nat.le_refl _) (by omega) hm
      obtain ⟨n, n1, n2⟩ := least_upper j (row + 1) (us.set (t row) true) (t := t) (by simpa using hl) ⟨fun r s h1 h2 h3 h4 => h.inj r s (by omega) (by omega) (by omega) (by omega), fun r h1 h2 hr => by
        have hne : t r ≠ t row := fun e => by have := h.inj r row (by omega) (by omega) (by omega) (by omega) e hr; omega
        rw [set_free hne]
        exact h.free r (by omega) (by omega) hr, fun r h1 h2 => h.skip r (by omega) (by omega)⟩
      obtain ⟨b, b1, b2⟩ := tryL_upper (g := fun k => leastF m c skip j (row + 1) (us.set k true)) (cr := c row) hf n1 m hm
      have e : cst m c skip t row = c row (t row) := by simp [cst, hm]
      unfold leastF tryS
      rw [sumR_succ, e]
      cases hs : skip with
      | none => subst hs; exact ⟨b, b1, by omega⟩
      | some s =>
        subst hs
        obtain ⟨b', c1, c2⟩ := better_acc (x := leastF m c (some s) j (row + 1) us) (add := s) b1
        exact ⟨b', c1, by omega⟩
    · have hs := h.skip row (Nat.le_refl _) (by omega) hm
      obtain ⟨n, n1, n2⟩ := least_upper j (row + 1) us (t := t) hl ⟨fun r s h1 h2 h3 h4 => h.inj r s (by omega) (by omega) (by omega) (by omega), fun r h1 h2 => h.free r (by omega) (by omega), fun r h1 h2 => h.skip r (by omega) (by omega)⟩
      cases hk : skip with
      | none => exact absurd hk hs
      | some s =>
        subst hk
        obtain ⟨b', c1, c2⟩ := better_new (acc := tryL us (fun k => leastF m c (some s) j (row + 1) (us.set k true)) (c row) m) (add := s) n1
        have e : cst m c (some s) t row = s := by simp [cst, hm]
        unfold leastF tryS
        rw [sumR_succ, e]
        exact ⟨b', c1, by omega⟩
/-- the least over all assignments of n rows -/
theorem least_is {n : Nat} {tot : Int} {t : Nat → Nat} (ha : Asg n m t) (hs : ∀ r, r < n → ¬ t r < m → skip ≠ none) (hc : costF m c (skip.getD 0) t n = tot)
    (hmin : ∀ t', Asg n m t' → (∀ r, r < n → ¬ t' r < m → skip ≠ none) → tot ≤ costF m c (skip.getD 0) t' n) : leastF m c skip n 0 (List.replicate m false) = some tot := by
  have hfr : ∀ k : Nat, (List.replicate m false)[k]?.getD false = false := fun k => by rw [List.getElem?_replicate]; split <;> rfl
  have hsum : ∀ t, costF m c (skip.getD 0) t n = sumR (cst m c skip t) n 0 := fun t => by
    have := sumR_all (cst m c skip t) n 0
    rw [Nat.zero_add] at this
    have e : sumN (cst m c skip t) n = costF m c (skip.getD 0) t n := rfl
    simp only [sumN] at this
    omega
  obtain ⟨b, b1, b2⟩ := least_upper (c := c) n 0 (List.replicate m false) (t := t) (by simp) ⟨fun r s _ h2 _ h4 => ha r s (by omega) (by omega), fun r _ _ _ => hfr _, fun r _ h2 => hs r (by omega)⟩
  obtain ⟨t', ⟨t1, t2, t3⟩, rfl⟩ := least_lower n 0 (List.replicate m false) (by simp) b1
  have h3 := hmin t' (fun r s hr hs' => t1 r s (by omega) (by omega) (by omega) (by omega)) (fun r hr => t3 r (by omega) (by omega))
  rw [← hsum t'] at b1 b2
  rw [← hsum t, hc] at b2
  rw [b1]
  have : costF m c (skip.getD 0) t' n = tot := by omega
  rw [this]
end
end Go.Proofs.Ytoendfpfnfeccaa
