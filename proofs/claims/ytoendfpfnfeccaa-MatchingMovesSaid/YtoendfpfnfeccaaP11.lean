/- A row of the costs moves; skipping costs much: what becomes of the least total. No walk. Conditions: none. -/
import Derived.Test.YtoendfpfnfeccaaP8
namespace Go.Proofs.Ytoendfpfnfeccaa

section
variable {css : List (List Int)} {skip : Option Int} {cs rows pots : List Int} {tot : Int}
/-- no assignment costs less -/
theorem ResOk.le (h : ResOk css skip cs rows pots tot) {t : Nat → Nat} (ha : Asg css.length (colN css) t) (hs : ∀ r, r < css.length → ¬ t r < colN css → skip ≠ none) : tot ≤ costF (colN css) (cF css) (skip.getD 0) t css.length := by
  rw [h.dual]
  refine weak ha h.feas h.vneg (fun r hr hn => ?_)
  cases hk : skip with
  | none => exact absurd hk (hs r hr hn)
  | some s => exact h.sk r s hr hk
theorem ResOk.full (h : ResOk css none cs rows pots tot) {r : Nat} (hr : r < css.length) : colT (colN css) cs r < colN css := Decidable.byContradiction fun hn => h.skips hr hn rfl
end
/-- row k moves by a number -/
def mvd (css : List (List Int)) (k : Nat) (d : Int) : List (List Int) := css.mapIdx (fun i r => if i = k then r.map (· + d) else r)
section
variable {css : List (List Int)} {k : Nat} {d : Int}
theorem mvd_len : (mvd css k d).length = css.length := by simp [mvd]
theorem mvd_row {i : Nat} (h : i < css.length) : nths (mvd css k d) i = if i = k then (nths css i).map (· + d) else nths css i := by simp [mvd, nths, h]
theorem mvd_rlen {i : Nat} (h : i < css.length) : (nths (mvd css k d) i).length = (nths css i).length := by rw [mvd_row h]; split <;> simp
theorem mvd_col : colN (mvd css k d) = colN css := by
  rcases Nat.eq_zero_or_pos css.length with h | h
  · obtain rfl : css = [] := List.eq_nil_of_length_eq_zero h
    rfl
  · exact mvd_rlen h
theorem nth_map_add {xs : List Int} {j : Nat} (h : j < xs.length) : nth (xs.map (· + d)) j = nth xs j + d := by simp [nth, h]
theorem mvd_val {i j : Nat} (h : i < css.length) (hj : j < (nths css i).length) : cF (mvd css k d) i j = cF css i j + if i = k then d else 0 := by
  unfold cF
  rw [mvd_row h]
  by_cases e : i = k
  · rw [if_pos e, if_pos e, nth_map_add hj]
  · rw [if_neg e, if_neg e, Int.add_zero]
theorem sumN_at {f : Nat → Int} {k : Nat} {d : Int} : ∀ n : Nat, k < n → sumN (fun r => f r + if r = k then d else 0) n = sumN f n + d
  | n, h => by rw [sumN_add, sumN_one (f := fun _ => d) (P := fun r => r = k) (q := k) rfl n h (fun r _ e => e)]
/-- a whole assignment costs as much more -/
theorem mvd_cost (hrow : ∀ i, i < css.length → (nths css i).length = colN css) (hk : k < css.length) {t : Nat → Nat} (ht : ∀ r, r < css.length → t r < colN css) : costF (colN css) (cF (mvd css k d)) 0 t css.length = costF (colN css) (cF css) 0 t css.length + d := by
  unfold costF
  rw [← sumN_at css.length hk]
  refine sumN_congr _ (fun r hr => ?_)
  rw [if_pos (ht r hr), if_pos (ht r hr)]
  exact mvd_val hr (by rw [hrow r hr]; exact ht r hr)
theorem mvd_tot {cs rows pots cs' rows' pots' : List Int} {tot tot' : Int} (hrow : ∀ i, i < css.length → (nths css i).length = colN css) (hk : k < css.length) (h : ResOk css none cs rows pots tot) (h' : ResOk (mvd css k d) none cs' rows' pots' tot') : tot' = tot + d := by
  have e1 : (none : Option Int).getD 0 = 0 := rfl
  have f1 : ∀ r, r < css.length → colT (colN css) cs r < colN css := fun r hr => h.full hr
  have f2 : ∀ r, r < css.length → colT (colN css) cs' r < colN css := fun r hr => by
    have := h'.full (r := r) (by rw [mvd_len]; exact hr)
    rwa [mvd_col] at this
  have g1 := h'.le (t := colT (colN css) cs) (by rw [mvd_len, mvd_col]; exact h.asg) (fun r hr hn => absurd (by rw [mvd_col]; exact f1 r (by rw [mvd_len] at hr; exact hr)) hn)
  have g2 := h.le (t := colT (colN css) cs') (by have := h'.asg; rwa [mvd_len, mvd_col] at this) (fun r hr hn => absurd (f2 r hr) hn)
  have c1 := h.cost
  have c2 := h'.cost
  rw [mvd_len, mvd_col, e1] at g1 c2
  rw [e1] at g2 c1
  rw [mvd_cost hrow hk f1] at g1
  rw [mvd_cost hrow hk f2] at c2
  omega
end
theorem sumN_hit {f : Nat → Int} {B S : Int} {q : Nat} : ∀ n : Nat, (∀ r, r < n → -B ≤ f r) → 0 ≤ B → 0 ≤ S → q < n → f q = S → S - n * B ≤ sumN f n
  | 0, _, _, _, h, _ => by omega
  | n + 1, hb, hB, hS, h, e => by
    have e1 : ((n + 1 : Nat) : Int) * B = n * B + B := by rw [Int.natCast_add, Int.add_mul]; simp
    rw [e1]
    have hn := hb n (by omega)
    show S - (n * B + B) ≤ sumN f n + f n
    by_cases hq : q = n
    · subst hq
      have : -(q * B) ≤ sumN f q := by
        have := sumN_le (f := fun _ => -B) (g := f) q (fun k hk => hb k (by omega))
        have e2 : ∀ m : Nat, sumN (fun _ => -B) m = -(m * B) := fun m => by
          induction m with
          | zero => simp [sumN]
          | succ m ih =>
            show sumN (fun _ => -B) m + -B = _
            rw [ih, Int.natCast_add, Int.add_mul]
            simp
            omega
        rw [e2] at this
        exact this
      rw [e]
      omega
    · have := sumN_hit n (fun r hr => hb r (by omega)) hB hS (by omega) e
      omega
/-- skipping costs too much -/
theorem skip_tot {css : List (List Int)} {cs rows pots cs' rows' pots' : List Int} {tot tot' : Int} (hn : css.length ≤ 5) (hv : ∀ r k, -1000 ≤ cF css r k ∧ cF css r k ≤ 1000) (h : ResOk css none cs rows pots tot) (h' : ResOk css (some 100000) cs' rows' pots' tot') : tot' = tot := by
  have f1 : ∀ r, r < css.length → colT (colN css) cs r < colN css := fun r hr => h.full hr
  have g1 := h'.le (t := colT (colN css) cs) h.asg (fun r _ _ => by simp)
  have c1 := h.cost
  have c2 := h'.cost
  have hsame : costF (colN css) (cF css) ((some (100000 : Int)).getD 0) (colT (colN css) cs) css.length = costF (colN css) (cF css) ((none : Option Int).getD 0) (colT (colN css) cs) css.length := sumN_congr _ (fun r hr => by rw [if_pos (f1 r hr), if_pos (f1 r hr)])
  rw [hsame, ← c1] at g1
  by_cases hall : ∀ r, r < css.length → colT (colN css) cs' r < colN css
  · have g2 := h.le (t := colT (colN css) cs') h'.asg (fun r hr hn => absurd (hall r hr) hn)
    have hsame2 : costF (colN css) (cF css) ((some (100000 : Int)).getD 0) (colT (colN css) cs') css.length = costF (colN css) (cF css) ((none : Option Int).getD 0) (colT (colN css) cs') css.length := sumN_congr _ (fun r hr => by rw [if_pos (hall r hr), if_pos (hall r hr)])
    rw [hsame2] at c2
    omega
  · exfalso
    obtain ⟨q, hq⟩ := Classical.not_forall.1 hall
    obtain ⟨hq1, hq2⟩ := Classical.not_imp.1 hq
    have hb : ∀ r, r < css.length → -1000 ≤ (fun r => if colT (colN css) cs' r < colN css then cF css r (colT (colN css) cs' r) else (some (100000 : Int)).getD 0) r := fun r _ => by
      show -1000 ≤ if colT (colN css) cs' r < colN css then cF css r (colT (colN css) cs' r) else (some (100000 : Int)).getD 0
      split
      · exact (hv _ _).1
      · simp
    have g2 := sumN_hit (S := 100000) css.length hb (by omega) (by omega) hq1 (by show (if colT (colN css) cs' q < colN css then _ else _) = _; rw [if_neg hq2]; rfl)
    have c3 : tot' = sumN (fun r => if colT (colN css) cs' r < colN css then cF css r (colT (colN css) cs' r) else (some (100000 : Int)).getD 0) css.length := c2
    rw [← c3] at g2
    have g3 := sumN_bd (f := fun r => if colT (colN css) cs r < colN css then cF css r (colT (colN css) cs r) else (none : Option Int).getD 0) (B := 1000) css.length (fun r hr => by
      show -1000 ≤ (if colT (colN css) cs r < colN css then _ else _) ∧ (if colT (colN css) cs r < colN css then _ else _) ≤ 1000
      rw [if_pos (f1 r hr)]
      exact hv _ _)
    have c4 : tot = sumN (fun r => if colT (colN css) cs r < colN css then cF css r (colT (colN css) cs r) else (none : Option Int).getD 0) css.length := c1
    rw [← c4] at g3
    omega
end Go.Proofs.Ytoendfpfnfeccaa
