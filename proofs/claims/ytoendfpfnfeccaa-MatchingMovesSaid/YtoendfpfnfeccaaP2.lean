/- Plain laws of sums, of assignments and of potentials. Rows and columns count from 0. No walk. Conditions: none. -/
import Derived.Test.YtoendfpfnfeccaaP1
namespace Go.Proofs.Ytoendfpfnfeccaa

def sumN (f : Nat → Int) : Nat → Int
  | 0 => 0
  | n + 1 => sumN f n + f n
theorem sumN_congr {f g : Nat → Int} : ∀ n : Nat, (∀ k, k < n → f k = g k) → sumN f n = sumN g n
  | 0, _ => rfl
  | n + 1, h => by unfold sumN; rw [sumN_congr n (fun k hk => h k (by omega)), h n (by omega)]
theorem sumN_add (f g : Nat → Int) : ∀ n : Nat, sumN (fun k => f k + g k) n = sumN f n + sumN g n
  | 0 => rfl
  | n + 1 => by unfold sumN; rw [sumN_add f g n]; omega
theorem sumN_zero : ∀ n : Nat, sumN (fun _ => 0) n = 0
  | 0 => rfl
  | n + 1 => by unfold sumN; rw [sumN_zero n]; rfl
theorem sumN_le {f g : Nat → Int} : ∀ n : Nat, (∀ k, k < n → f k ≤ g k) → sumN f n ≤ sumN g n
  | 0, _ => Int.le_refl _
  | n + 1, h => by unfold sumN; have := sumN_le n (fun k hk => h k (by omega)); have := h n (by omega); omega
theorem sumN_bd {f : Nat → Int} {B : Int} : ∀ n : Nat, (∀ k, k < n → -B ≤ f k ∧ f k ≤ B) → -(n * B) ≤ sumN f n ∧ sumN f n ≤ n * B
  | 0, _ => by simp [sumN]
  | n + 1, h => by
    have h1 := sumN_bd n (fun k hk => h k (by omega))
    have h2 := h n (by omega)
    have e : ((n + 1 : Nat) : Int) * B = n * B + B := by rw [Int.natCast_add, Int.add_mul]; simp
    unfold sumN
    rw [e]
    omega
theorem sumN_swap (f : Nat → Nat → Int) (m : Nat) : ∀ n : Nat, sumN (fun i => sumN (f i) m) n = sumN (fun j => sumN (fun i => f i j) n) m
  | 0 => (sumN_zero m).symm
  | n + 1 => by
    show sumN (fun i => sumN (f i) m) n + sumN (f n) m = sumN (fun j => sumN (fun i => f i j) n + f n j) m
    rw [sumN_swap f m n, ← sumN_add]
theorem sumN_none {f : Nat → Int} {P : Nat → Prop} [DecidablePred P] : ∀ n : Nat, (∀ k, k < n → ¬ P k) → sumN (fun k => if P k then f k else 0) n = 0
  | 0, _ => rfl
  | n + 1, h => by unfold sumN; rw [sumN_none n (fun k hk => h k (by omega)), if_neg (h n (by omega))]; rfl
/-- one alone counts -/
theorem sumN_one {f : Nat → Int} {P : Nat → Prop} [DecidablePred P] {q : Nat} (hq : P q) : ∀ n : Nat, q < n → (∀ k, k < n → P k → k = q) → sumN (fun k => if P k then f k else 0) n = f q
  | 0, h, _ => by omega
  | n + 1, h, hu => by
    unfold sumN
    by_cases e : q = n
    · subst e
      rw [sumN_none q (fun k hk hp => by have := hu k (by omega) hp; omega), if_pos hq]
      omega
    · rw [sumN_one hq n (by omega) (fun k hk => hu k (by omega)), if_neg (fun hp => e (hu n (by omega) hp).symm)]
      omega

/-- each row has a column of its own, or none (a number of m and above) -/
def Asg (n m : Nat) (t : Nat → Nat) : Prop := ∀ r s, r < n → s < n → t r = t s → t r < m → r = s
/-- what it costs, with a cost to skip -/
def costF (m : Nat) (c : Nat → Nat → Int) (skip : Int) (t : Nat → Nat) (n : Nat) : Int := sumN (fun r => if t r < m then c r (t r) else skip) n
section
variable {n m : Nat} {c : Nat → Nat → Int} {skip : Int} {t : Nat → Nat} {u v : Nat → Int}
/-- the potentials of the columns that are used -/
theorem used_sum (v : Nat → Int) (m : Nat) (t : Nat → Nat) (n : Nat) : sumN (fun r => if t r < m then v (t r) else 0) n = sumN (fun k => sumN (fun r => if t r = k then v k else 0) n) m := by
  rw [← sumN_swap (fun r k => if t r = k then v k else 0) m n]
  refine sumN_congr n (fun r _ => ?_)
  by_cases h : t r < m
  · rw [if_pos h]
    have := sumN_one (f := v) (P := fun k => t r = k) (q := t r) rfl m h (fun k _ e => e.symm)
    exact this.symm
  · rw [if_neg h]
    exact (sumN_none (f := v) (P := fun k => t r = k) m (fun k hk e => h (by rw [e]; exact hk))).symm
theorem used_one (ha : Asg n m t) {k : Nat} (hk : k < m) (x : Int) {r : Nat} (hr : r < n) (e : t r = k) : sumN (fun r => if t r = k then x else 0) n = x :=
  sumN_one (f := fun _ => x) (P := fun r => t r = k) e n hr (fun s hs e2 => ha s r hs hr (e2.trans e.symm) (by omega))
theorem used_none {k : Nat} (x : Int) (h : ∀ r, r < n → t r ≠ k) : sumN (fun r => if t r = k then x else 0) n = 0 := sumN_none (f := fun _ => x) (P := fun r => t r = k) n h
/-- potentials are a lower bound -/
theorem weak (ha : Asg n m t) (hf : ∀ r k, r < n → k < m → u r + v k ≤ c r k) (hv : ∀ k, k < m → v k ≤ 0) (hs : ∀ r, r < n → ¬ t r < m → u r ≤ skip) : sumN u n + sumN v m ≤ costF m c skip t n := by
  have h1 : sumN v m ≤ sumN (fun k => sumN (fun r => if t r = k then v k else 0) n) m := sumN_le m (fun k hk => by
    by_cases h : ∃ r, r < n ∧ t r = k
    · obtain ⟨r, hr, e⟩ := h
      rw [used_one ha hk (v k) hr e]
      exact Int.le_refl _
    · rw [used_none (v k) (fun r hr e => h ⟨r, hr, e⟩)]
      exact hv k hk)
  have h2 : sumN u n + sumN (fun r => if t r < m then v (t r) else 0) n ≤ costF m c skip t n := by
    rw [← sumN_add]
    refine sumN_le n (fun r hr => ?_)
    by_cases h : t r < m
    · rw [if_pos h, if_pos h]; exact hf r _ hr h
    · rw [if_neg h, if_neg h]; have := hs r hr h; omega
  rw [used_sum] at h2
  omega
/-- and an assignment that meets them costs as much -/
theorem strong (ha : Asg n m t) (ht : ∀ r, r < n → t r < m → u r + v (t r) = c r (t r)) (hf : ∀ k, k < m → v k = 0 ∨ ∃ r, r < n ∧ t r = k) (hs : ∀ r, r < n → ¬ t r < m → u r = skip) : costF m c skip t n = sumN u n + sumN v m := by
  have h1 : sumN v m = sumN (fun k => sumN (fun r => if t r = k then v k else 0) n) m := sumN_congr m (fun k hk => by
    rcases hf k hk with h0 | ⟨r, hr, e⟩
    · rw [h0]
      by_cases h : ∃ r, r < n ∧ t r = k
      · obtain ⟨r, hr, e⟩ := h
        rw [used_one ha hk 0 hr e]
      · rw [used_none 0 (fun r hr e => h ⟨r, hr, e⟩)]
    · rw [used_one ha hk (v k) hr e])
  rw [h1, ← used_sum, ← sumN_add]
  refine sumN_congr n (fun r hr => ?_)
  by_cases h : t r < m
  · rw [if_pos h, if_pos h]; exact (ht r hr h).symm
  · rw [if_neg h, if_neg h]; have := hs r hr h; omega
end

/-- an assignment of least cost, with potentials that prove it -/
structure SolveOk (n m : Nat) (c : Nat → Nat → Int) (C : Int) (t : Nat → Nat) (tot : Int) (u v : Nat → Int) : Prop where
  lt : ∀ r, r < n → t r < m
  inj : ∀ r s, r < n → s < n → t r = t s → r = s
  tot : tot = sumN (fun r => c r (t r)) n
  feas : ∀ r k, r < n → k < m → u r + v k ≤ c r k
  tight : ∀ r, r < n → u r + v (t r) = c r (t r)
  vneg : ∀ k, k < m → v k ≤ 0
  vfree : ∀ k, k < m → v k = 0 ∨ ∃ r, r < n ∧ t r = k
  ub : ∀ r, r < n → -C ≤ u r ∧ u r ≤ C
  vb : ∀ k, k < m → -(2 * C) ≤ v k
section
variable {n m : Nat} {c : Nat → Nat → Int} {C tot : Int} {t : Nat → Nat} {u v : Nat → Int}
theorem SolveOk.asg (h : SolveOk n m c C t tot u v) : Asg n m t := fun r s hr hs e _ => h.inj r s hr hs e
theorem SolveOk.cost (h : SolveOk n m c C t tot u v) (skip : Int) : costF m c skip t n = tot := by
  rw [h.tot]
  exact sumN_congr n (fun r hr => if_pos (h.lt r hr))
theorem SolveOk.dual (h : SolveOk n m c C t tot u v) : tot = sumN u n + sumN v m := by
  rw [← h.cost 0]
  exact strong h.asg (fun r hr _ => h.tight r hr) h.vfree (fun r hr hn => absurd (h.lt r hr) hn)
/-- of all assignments it costs least -/
theorem SolveOk.least (h : SolveOk n m c C t tot u v) {t' : Nat → Nat} (ha : Asg n m t') (hl : ∀ r, r < n → t' r < m) (skip : Int) : tot ≤ costF m c skip t' n := by
  rw [h.dual]
  exact weak ha h.feas h.vneg (fun r hr hn => absurd (hl r hr) hn)
end

/-- the result of solve: what the last loop has found below column K, from owners o (counted from 1) on -/
structure Fin' (o : Nat → Nat) (c : Nat → Nat → Int) (K : Nat) (cols : Nat → Int) (tot : Int) : Prop where
  col : ∀ j, j < K → o (j + 1) ≠ 0 → cols (o (j + 1) - 1) = j
  tot : tot = sumN (fun j => if o (j + 1) ≠ 0 then c (o (j + 1) - 1) j else 0) K
section
variable {n m : Nat} {c : Nat → Nat → Int} {C far tot : Int} {u v : Nat → Int} {o : Nat → Nat} {cols : Nat → Int}
theorem solve_ok (h : Out m (fun r k => c (r - 1) (k - 1)) C n u v o) (hf : Fin' o c m cols tot) : SolveOk n m c C (fun r => (cols r).toNat) tot (fun r => u (r + 1)) (fun k => v (k + 1)) ∧ ∀ r, r < n → 0 ≤ cols r := by
  have hcol : ∀ r, r < n → ∃ j, j < m ∧ o (j + 1) = r + 1 ∧ cols r = j := fun r hr => by
    obtain ⟨k, k1, k2, k3⟩ := h.sur (r + 1) (by omega) (by omega)
    have := hf.col (k - 1) (by omega) (by rw [show k - 1 + 1 = k by omega]; omega)
    rw [show k - 1 + 1 = k by omega, k3] at this
    exact ⟨k - 1, by omega, by rw [show k - 1 + 1 = k by omega]; exact k3, by simpa using this⟩
  refine ⟨⟨fun r hr => ?_, fun r s hr hs e => ?_, ?_, fun r k hr hk => ?_, fun r hr => ?_, fun k hk => h.vneg (k + 1) (by omega) (by omega), fun k hk => ?_, fun r hr => h.ub (by omega) (by omega), fun k hk => (h.vb (by omega) (by omega)).1⟩, fun r hr => ?_⟩
  · obtain ⟨j, j1, _, j3⟩ := hcol r hr
    simp only [j3]
    omega
  · obtain ⟨j, j1, j2, j3⟩ := hcol r hr
    obtain ⟨l, l1, l2, l3⟩ := hcol s hs
    simp only [j3, l3] at e
    have : j = l := by omega
    subst this
    omega
  · rw [hf.tot]
    have e1 : sumN (fun j => if o (j + 1) ≠ 0 then c (o (j + 1) - 1) j else 0) m = sumN (fun j => sumN (fun r => if o (j + 1) = r + 1 then c r j else 0) n) m := sumN_congr m (fun j hj => by
      by_cases h0 : o (j + 1) = 0
      · rw [if_neg (by simpa using h0)]
        exact (sumN_none (f := fun r => c r j) (P := fun r => o (j + 1) = r + 1) n (fun r _ e => by omega)).symm
      · rw [if_pos h0]
        have := h.ol (j + 1) (by omega) (by omega)
        exact (sumN_one (f := fun r => c r j) (P := fun r => o (j + 1) = r + 1) (q := o (j + 1) - 1) (by omega) n (by omega) (fun r _ e => by omega)).symm)
    rw [e1, sumN_swap (fun j r => if o (j + 1) = r + 1 then c r j else 0) n m]
    refine sumN_congr n (fun r hr => ?_)
    obtain ⟨j, j1, j2, j3⟩ := hcol r hr
    rw [sumN_one (f := fun j => c r j) (P := fun j => o (j + 1) = r + 1) (q := j) j2 m j1 (fun l hl e => by
      have := h.inj (l + 1) (j + 1) (by omega) (by omega) (by omega) (by omega) (e.trans j2.symm) (by omega)
      omega)]
    simp [j3]
  · exact h.feas (r + 1) (k + 1) (by omega) (by omega) (by omega) (by omega)
  · obtain ⟨j, j1, j2, j3⟩ := hcol r hr
    have := h.tight (j + 1) (by omega) (by omega) (by omega)
    rw [j2] at this
    simp only [j3]
    simpa using this
  · by_cases h0 : o (k + 1) = 0
    · exact .inl (h.vfree (k + 1) (by omega) (by omega) h0)
    · right
      have h1 := h.ol (k + 1) (by omega) (by omega)
      refine ⟨o (k + 1) - 1, by omega, ?_⟩
      rw [hf.col k hk h0]
      simp
  · obtain ⟨j, j1, j2, j3⟩ := hcol r hr
    rw [j3]
    omega
end
end Go.Proofs.Ytoendfpfnfeccaa
