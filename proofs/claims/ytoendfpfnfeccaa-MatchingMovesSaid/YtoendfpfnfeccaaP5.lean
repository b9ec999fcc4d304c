/- The potentials move: what the loop over the columns does. No walk. Conditions: none. -/
import Derived.Test.YtoendfpfnfeccaaP1
import Derived.Test.YtoendfpfnfeccaaNums
namespace Go.Proofs.Ytoendfpfnfeccaa

theorem nodup_len : ∀ (m : Nat) (l : List Nat), l.Nodup → (∀ k ∈ l, k < m) → l.length ≤ m
  | 0, [], _, _ => Nat.le_refl _
  | 0, k :: _, _, h => absurd (h k (by simp)) (by omega)
  | m + 1, l, hn, h => by
    have h1 := nodup_len m (l.erase m) (hn.erase m) (fun k hk => by
      obtain ⟨h2, h3⟩ := (hn.mem_erase_iff).1 hk
      have := h k h3
      omega)
    rw [List.length_erase] at h1
    split at h1 <;> omega

/-- what is so when the columns below q are done -/
structure Up (m : Nat) (o : Nat → Nat) (D : Nat → Bool) (d : Int) (u v le : Nat → Int) (q : Nat) (u2 v2 l2 : Nat → Int) : Prop where
  hu : ∀ k, k < q → k ≤ m → D k = true → u2 (o k) = u (o k) + d
  hu2 : ∀ r, (∀ k, k < q → k ≤ m → D k = true → o k ≠ r) → u2 r = u r
  hv : ∀ k, k ≤ m → v2 k = if k < q ∧ D k = true then v k - d else v k
  hl : ∀ k, k ≤ m → l2 k = if k < q ∧ D k = false then le k - d else le k
section
variable {m : Nat} {o : Nat → Nat} {D : Nat → Bool} {d : Int} {u v le : Nat → Int} {q : Nat} {us vs les : List Int}
theorem Up.start : Up m o D d u v le 0 u v le := ⟨fun k h => by omega, fun _ _ => rfl, fun k _ => by simp, fun k _ => by simp⟩
theorem Up.atU (h : Up m o D d u v le q (nth us) (nth vs) (nth les)) (hj : ∀ k, k ≤ m → D k = true → o k = o q → k = q) : nth us (o q) = u (o q) :=
  h.hu2 _ (fun k k1 k2 k3 e => by have := hj k k2 k3 e; omega)
theorem Up.atV (h : Up m o D d u v le q (nth us) (nth vs) (nth les)) (hq : q ≤ m) : nth vs q = v q := by rw [h.hv q hq, if_neg (by omega)]
theorem Up.atL (h : Up m o D d u v le q (nth us) (nth vs) (nth les)) (hq : q ≤ m) : nth les q = le q := by rw [h.hl q hq, if_neg (by omega)]
theorem Up.done (h : Up m o D d u v le q (nth us) (nth vs) (nth les)) (hq : q ≤ m) (hD : D q = true) (hj : ∀ k, k ≤ m → D k = true → o k = o q → k = q) (hlu : o q < us.length) (hlv : q < vs.length) :
    Up m o D d u v le (q + 1) (nth (us.set (o q) (u (o q) + d))) (nth (vs.set q (v q - d))) (nth les) := by
  refine ⟨fun k k1 k2 k3 => ?_, fun r hr => ?_, fun k k2 => ?_, fun k k2 => ?_⟩
  · rw [nth_set hlu]
    by_cases e : o k = o q
    · rw [if_pos e, e]
    · rw [if_neg e]
      exact h.hu k (by have : k ≠ q := fun e2 => e (by rw [e2]); omega) k2 k3
  · rw [nth_set hlu, if_neg (fun e => hr q (by omega) hq hD e.symm)]
    exact h.hu2 r (fun k k1 k2 k3 => hr k (by omega) k2 k3)
  · rw [nth_set hlv]
    by_cases e : k = q
    · subst e
      rw [if_pos rfl, if_pos ⟨by omega, hD⟩]
    · rw [if_neg e, h.hv k k2]
      by_cases hk : k < q
      · simp [hk, show k < q + 1 by omega]
      · simp [hk, show ¬ k < q + 1 by omega]
  · rw [h.hl k k2]
    by_cases e : k = q
    · subst e
      simp [hD]
    · by_cases hk : k < q
      · simp [hk, show k < q + 1 by omega]
      · simp [hk, show ¬ k < q + 1 by omega]
theorem Up.not (h : Up m o D d u v le q (nth us) (nth vs) (nth les)) (hD : D q = false) (hll : q < les.length) :
    Up m o D d u v le (q + 1) (nth us) (nth vs) (nth (les.set q (le q - d))) := by
  refine ⟨fun k k1 k2 k3 => ?_, fun r hr => ?_, fun k k2 => ?_, fun k k2 => ?_⟩
  · exact h.hu k (by have : k ≠ q := fun e2 => by rw [e2, hD] at k3; cases k3
                     omega) k2 k3
  · exact h.hu2 r (fun k k1 k2 k3 => hr k (by omega) k2 k3)
  · rw [h.hv k k2]
    by_cases e : k = q
    · subst e
      simp [hD]
    · by_cases hk : k < q
      · simp [hk, show k < q + 1 by omega]
      · simp [hk, show ¬ k < q + 1 by omega]
  · rw [nth_set hll]
    by_cases e : k = q
    · subst e
      rw [if_pos rfl, if_pos ⟨by omega, hD⟩]
    · rw [if_neg e, h.hl k k2]
      by_cases hk : k < q
      · simp [hk, show k < q + 1 by omega]
      · simp [hk, show ¬ k < q + 1 by omega]
end
section
variable {m i : Nat} {c : Nat → Nat → Int} {C far vs : Int} {u v : Nat → Int} {o w w' : Nat → Nat} {le le' : Nat → Int} {D D' : Nat → Bool} {ord : List Nat} {a x : Nat} {d : Int} {u2 v2 l2 : Nat → Int}
/-- what the scan has found is bounded -/
theorem Ph.lec2 (h : Ph m c C far vs i u v o w le D ord a) (ha : o a ≠ 0) (hs : Sc m c far u v w le (a :: ord) a (o a) (m + 1) w' le' d x) {k : Nat} (h1 : 1 ≤ k) (h2 : k ≤ m) (hk : k ∉ a :: ord) : -(2 * C) ≤ le' k ∧ le' k ≤ 4 * C := by
  obtain ⟨g1, g2, _, _, _⟩ := h.scan ha hs h1 h2 hk
  have g3 : w' k ≤ m ∧ o (w' k) ≠ 0 := by
    rcases List.mem_cons.1 g1 with e | e
    · rw [e]; exact ⟨h.am, ha⟩
    · exact h.om _ e
  have hu := h.ub (r := o (w' k)) (by omega) (h.oi g3.1)
  have hv := h.vb h1 h2
  have hc := h.c0 (o (w' k)) k
  omega
/-- the step to the next column, by the loop -/
theorem Ph.next (h : Ph m c C far vs i u v o w le D ord a) (ha : o a ≠ 0) (hs : Sc m c far u v w le (a :: ord) a (o a) (m + 1) w' le' d x) (hD : ∀ k, k ≤ m → (D' k = true ↔ k ∈ a :: ord))
    (hU : Up m o D' d u v le' (m + 1) u2 v2 l2) : Ph m c C far vs i u2 v2 o w' l2 D' (a :: ord) x := by
  have hom : ∀ k ∈ a :: ord, k ≤ m ∧ o k ≠ 0 := fun k hk => by
    rcases List.mem_cons.1 hk with rfl | hk
    · exact ⟨h.am, ha⟩
    · exact h.om k hk
  refine h.step ha hs (fun k hk => hU.hu k (by have := (hom k hk).1; omega) (hom k hk).1 ((hD k (hom k hk).1).2 hk)) (fun r hr => hU.hu2 r (fun k _ k2 k3 => hr k ((hD k k2).1 k3))) (fun k k2 hk => ?_) (fun k k2 hk => ?_) (fun k k1 k2 hk => ?_) (fun k k2 => ?_)
  · rw [hU.hv k k2, if_pos ⟨by omega, (hD k k2).2 hk⟩]
  · rw [hU.hv k k2, if_neg (fun e => hk ((hD k k2).1 e.2))]
  · rw [hU.hl k k2, if_pos ⟨by omega, by
      cases hd : D' k
      · rfl
      · exact absurd ((hD k k2).1 hd) hk⟩]
  · rw [hD k k2, List.mem_cons, h.dn k k2]; exact Or.comm
/-- bounds of the first column's potential -/
theorem Ph.v0b (h : Ph m c C far vs i u v o w le D ord a) (hi : i ≤ 60) (hC : 0 ≤ C) : -(61 * C) ≤ v 0 ∧ v 0 ≤ 61 * C := by
  have h1 := h.v0
  have h2 := h.vsb
  have h3 := h.ub (r := i) h.i1 (Nat.le_refl _)
  have h4 : ((i - 1 : Nat) : Int) * C ≤ 60 * C := Int.mul_le_mul_of_nonneg_right (by omega) hC
  omega
end
end Go.Proofs.Ytoendfpfnfeccaa
