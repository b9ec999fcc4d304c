/- The example of the chapter, and small costs. No walk. Conditions: none. -/
import Derived.Test.YtoendfpfnfeccaaP8
namespace Go.Proofs.Ytoendfpfnfeccaa

def exCss : List (List Int) := [[4, 1, 3], [2, 0, 5], [3, 2, 2]]
theorem ex_check : ckF exCss true = 0 := by decide
theorem ex_least : leastF (colN exCss) (cF exCss) none exCss.length 0 (List.replicate (colN exCss) false) = some 5 := by decide
theorem ex_least1 : leastF (colN exCss) (cF exCss) (some 1) exCss.length 0 (List.replicate (colN exCss) false) = some 2 := by decide
theorem ex_pot : potF exCss [3, 2, 2] [0, -2, 0] = (5, 0) := by decide
theorem ex_best {cs rows pots : List Int} {tot : Int} (h : ResOk exCss none cs rows pots tot) : tot = 5 ∧ cs.length = 3 ∧ nth cs 0 = 1 := by
  have ht : tot = 5 := Option.some.inj (h.least.symm.trans ex_least)
  refine ⟨ht, h.cl, ?_⟩
  have hc : ∀ r, r < 3 → nth cs r = 0 ∨ nth cs r = 1 ∨ nth cs r = 2 := fun r hr => by
    rcases h.col r hr with ⟨h1, h2⟩ | ⟨h1, _⟩
    · have : (colN exCss : Int) = 3 := rfl
      omega
    · exact absurd rfl h1
  have hk := h.cost
  rw [ht] at hk
  have i01 := h.inj 0 1 (by decide) (by decide)
  have i02 := h.inj 0 2 (by decide) (by decide)
  have i12 := h.inj 1 2 (by decide) (by decide)
  have e : costF (colN exCss) (cF exCss) ((none : Option Int).getD 0) (colT (colN exCss) cs) exCss.length = (((0 : Int) + (if colT 3 cs 0 < 3 then cF exCss 0 (colT 3 cs 0) else 0)) + (if colT 3 cs 1 < 3 then cF exCss 1 (colT 3 cs 1) else 0)) + (if colT 3 cs 2 < 3 then cF exCss 2 (colT 3 cs 2) else 0) := rfl
  rw [e] at hk
  unfold colT at hk
  rcases hc 0 (by decide) with h0 | h0 | h0
  · rcases hc 1 (by decide) with h1 | h1 | h1 <;> rcases hc 2 (by decide) with h2 | h2 | h2 <;> rw [h0, h1, h2] at hk <;> first | (rw [h0, h1] at i01; omega) | (rw [h1, h2] at i12; omega) | (rw [h0, h2] at i02; omega) | exact absurd hk (by decide)
  · exact h0
  · rcases hc 1 (by decide) with h1 | h1 | h1 <;> rcases hc 2 (by decide) with h2 | h2 | h2 <;> rw [h0, h1, h2] at hk <;> first | (rw [h0, h1] at i01; omega) | (rw [h1, h2] at i12; omega) | (rw [h0, h2] at i02; omega) | exact absurd hk (by decide)
theorem ex_part {cs rows pots : List Int} {tot : Int} (h : ResOk exCss (some 1) cs rows pots tot) : tot = 2 := Option.some.inj (h.least.symm.trans ex_least1)

/-- whether all rows are short, from row k on -/
def smS (css : List (List Int)) (k : Nat) : Bool := scan css.length (fun k (_ : Unit) => if 6 < (nths css k).length then .inl false else .inr ()) (fun _ => decide (css.length ≤ 5)) k ()
section
variable {css : List (List Int)} {k : Nat}
theorem smS_long (h : k < css.length) (h1 : 6 < (nths css k).length) : smS css k = false := scan_inl h (by simp [h1])
theorem smS_next (h : k < css.length) (h1 : ¬ 6 < (nths css k).length) : smS css k = smS css (k + 1) := scan_inr h (by simp [h1])
theorem smS_end (h : css.length ≤ k) : smS css k = decide (css.length ≤ 5) := scan_ge h
theorem smS_all (h : smS css 0 = true) : ∀ k, k ≤ css.length → smS css k = true ∧ ∀ i, i < k → (nths css i).length ≤ 6
  | 0, _ => ⟨h, fun i hi => by omega⟩
  | k + 1, hk => by
    obtain ⟨h1, h2⟩ := smS_all h k (by omega)
    by_cases hl : 6 < (nths css k).length
    · rw [smS_long (by omega) hl] at h1; cases h1
    · refine ⟨by rw [← smS_next (by omega) hl]; exact h1, fun i hi => ?_⟩
      rcases Nat.lt_or_ge i k with h3 | h3
      · exact h2 i h3
      · obtain rfl : i = k := by omega
        omega
theorem smS_ok (h : smS css 0 = true) : css.length ≤ 5 ∧ ∀ i, i < css.length → (nths css i).length ≤ 6 := by
  obtain ⟨h1, h2⟩ := smS_all h css.length (Nat.le_refl _)
  rw [smS_end (Nat.le_refl _)] at h1
  exact ⟨of_decide_eq_true h1, h2⟩
end
end Go.Proofs.Ytoendfpfnfeccaa
