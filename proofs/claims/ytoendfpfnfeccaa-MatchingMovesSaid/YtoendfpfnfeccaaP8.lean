/- What a result of least cost is, in lists, and what the checks of the model say of it. No walk. Conditions: none. -/
import Derived.Test.YtoendfpfnfeccaaP7
import Derived.Test.YtoendfpfnfeccaaP3
namespace Go.Proofs.Ytoendfpfnfeccaa

def cF (css : List (List Int)) (r k : Nat) : Int := nth (nths css r) k
/-- the column of a row, or m for none -/
def colT (m : Nat) (cs : List Int) (r : Nat) : Nat := if nth cs r < 0 then m else (nth cs r).toNat
/-- a result of least cost, with potentials that prove it; with or without a cost to skip -/
structure ResOk (css : List (List Int)) (skip : Option Int) (cs rows pots : List Int) (tot : Int) : Prop where
  cl : cs.length = css.length
  rl : rows.length = css.length
  pl : pots.length = colN css
  col : ∀ r, r < css.length → (0 ≤ nth cs r ∧ nth cs r < colN css) ∨ (skip ≠ none ∧ nth cs r = -1)
  inj : ∀ r s, r < css.length → s < css.length → nth cs r = nth cs s → 0 ≤ nth cs r → r = s
  cost : tot = costF (colN css) (cF css) (skip.getD 0) (colT (colN css) cs) css.length
  feas : ∀ r k, r < css.length → k < colN css → nth rows r + nth pots k ≤ cF css r k
  vneg : ∀ k, k < colN css → nth pots k ≤ 0
  sk : ∀ r s, r < css.length → skip = some s → nth rows r ≤ s
  dual : tot = sumN (nth rows) css.length + sumN (nth pots) (colN css)
  rb : ∀ r, r < css.length → -1000000000 ≤ nth rows r ∧ nth rows r ≤ 1000000000
  pb : ∀ k, k < colN css → -2000000000 ≤ nth pots k ∧ nth pots k ≤ 0
section
variable {css : List (List Int)} {skip : Option Int} {cs rows pots : List Int} {tot : Int}
theorem ResOk.asg (h : ResOk css skip cs rows pots tot) : Asg css.length (colN css) (colT (colN css) cs) := fun r s hr hs e hm => by
  unfold colT at e hm
  rcases h.col r hr with ⟨h1, h2⟩ | ⟨_, h1⟩
  · rcases h.col s hs with ⟨h3, h4⟩ | ⟨_, h3⟩
    · rw [if_neg (by omega), if_neg (by omega)] at e
      exact h.inj r s hr hs (by omega) h1
    · rw [if_neg (by omega), if_pos (by omega)] at e
      omega
  · rw [if_pos (by omega)] at hm
    omega
theorem ResOk.skips (h : ResOk css skip cs rows pots tot) {r : Nat} (hr : r < css.length) (hn : ¬ colT (colN css) cs r < colN css) : skip ≠ none := by
  unfold colT at hn
  rcases h.col r hr with ⟨h1, h2⟩ | ⟨h1, _⟩
  · rw [if_neg (by omega)] at hn; omega
  · exact h1
/-- the model's least total -/
theorem ResOk.least (h : ResOk css skip cs rows pots tot) : leastF (colN css) (cF css) skip css.length 0 (List.replicate (colN css) false) = some tot := by
  refine least_is h.asg (fun r hr hn => h.skips hr hn) h.cost.symm (fun t' ha hs => ?_)
  rw [h.dual]
  refine weak ha h.feas h.vneg (fun r hr hn => ?_)
  cases hk : skip with
  | none => exact absurd hk (hs r hr hn)
  | some s => exact h.sk r s hr hk
theorem ResOk.szOk (h : ResOk css skip cs rows pots tot) : SzOk css rows pots := by
  refine ⟨h.rl, h.pl, fun k => ?_, fun k => ?_⟩
  · rcases Nat.lt_or_ge k rows.length with h1 | h1
    · have := h.rb k (by rw [← h.rl]; exact h1); omega
    · rw [nth_over h1]; omega
  · rcases Nat.lt_or_ge k pots.length with h1 | h1
    · have := h.pb k (by rw [← h.pl]; exact h1); omega
    · rw [nth_over h1]; omega
theorem ResOk.valid (h : ResOk css skip cs rows pots tot) : valF css rows pots = true :=
  valF_true (fun k hk => h.vneg k (by rw [← h.pl]; exact hk)) (fun i k hi hk => h.feas i k hi (by rw [← h.pl]; exact hk))
theorem ResOk.sum (h : ResOk css skip cs rows pots tot) : sumF rows pots = tot := by
  rw [h.dual]
  unfold sumF
  rw [h.rl, h.pl]
theorem ResOk.pot (h : ResOk css skip cs rows pots tot) : potF css rows pots = (tot, 0) := by
  unfold potF
  rw [szE_zero h.szOk, h.valid, h.sum]
  simp
theorem ResOk.nodup (h : ResOk css skip cs rows pots tot) {r : Nat} (hr : r < css.length) (h0 : 0 ≤ nth cs r) : dupF cs r 0 = false := by
  cases e : dupF cs r 0
  · rfl
  · obtain ⟨q, h1, h2⟩ := dupF_iff.1 e
    have := h.inj q r (by omega) hr h2 (by rw [h2]; exact h0)
    omega
theorem ResOk.totS (h : ResOk css skip cs rows pots tot) : ∀ (r i : Nat), r = css.length - i → i ≤ css.length →
    totS css cs skip.isSome (skip.getD 0) i (costF (colN css) (cF css) (skip.getD 0) (colT (colN css) cs) i) = (costF (colN css) (cF css) (skip.getD 0) (colT (colN css) cs) css.length, 0)
  | 0, i, hr, hi => by
    obtain rfl : i = css.length := by omega
    exact totS_end (Nat.le_refl _)
  | r + 1, i, hr, hi => by
    have hlt : i < css.length := by omega
    have hc := h.col i hlt
    have ih := ResOk.totS h r (i + 1) (by omega) (by omega)
    have hstep : costF (colN css) (cF css) (skip.getD 0) (colT (colN css) cs) (i + 1) = costF (colN css) (cF css) (skip.getD 0) (colT (colN css) cs) i + (if colT (colN css) cs i < colN css then cF css i (colT (colN css) cs i) else skip.getD 0) := rfl
    rw [hstep] at ih
    unfold colT at ih ⊢
    rcases hc with ⟨h1, h2⟩ | ⟨h1, h2⟩
    · rw [if_neg (show ¬ nth cs i < 0 by omega), if_pos (show (nth cs i).toNat < colN css by omega)] at ih
      rw [totS_next hlt (by omega) (by omega) (h.nodup hlt h1)]
      exact ih
    · rw [if_pos (show nth cs i < 0 by omega), if_neg (Nat.lt_irrefl _)] at ih
      rw [totS_skip hlt (by cases skip; exact absurd rfl h1; rfl) h2]
      exact ih
theorem ResOk.total (h : ResOk css skip cs rows pots tot) : totF css cs skip.isSome (skip.getD 0) = (tot, 0) := by
  unfold totF
  rw [if_neg (by simp [h.cl])]
  have := h.totS css.length 0 rfl (Nat.zero_le _)
  rw [show costF (colN css) (cF css) (skip.getD 0) (colT (colN css) cs) 0 = 0 from rfl] at this
  rw [this, ← h.cost]
/-- the lists of the result of solve are such a result -/
theorem resOk_of {us vs : List Int} (hul : us.length = css.length + 1) (hvl : vs.length = colN css + 1) (hcl : cs.length = css.length)
    (h : SolveOk css.length (colN css) (cF css) 1000000000 (fun r => (nth cs r).toNat) tot (fun r => nth us (r + 1)) (fun k => nth vs (k + 1))) (hn : ∀ r, r < css.length → 0 ≤ nth cs r) : ResOk css none cs (us.drop 1) (vs.drop 1) tot := by
  have e1 : ∀ (xs : List Int) k, nth (xs.drop 1) k = nth xs (k + 1) := fun xs k => by unfold nth; simp
  have ec : ∀ r, r < css.length → colT (colN css) cs r = (nth cs r).toNat := fun r hr => by unfold colT; rw [if_neg (by have := hn r hr; omega)]
  refine ⟨hcl, by simp; omega, by simp; omega, fun r hr => .inl ⟨hn r hr, by have := h.lt r hr; have := hn r hr; omega⟩, fun r s hr hs e _ => h.inj r s hr hs (by show (nth cs r).toNat = (nth cs s).toNat; rw [e]), ?_, fun r k hr hk => by rw [e1, e1]; exact h.feas r k hr hk, fun k hk => by rw [e1]; exact h.vneg k hk, fun r s _ hs => (by cases hs), ?_, fun r hr => by rw [e1]; exact h.ub r hr, fun k hk => by rw [e1]; exact ⟨h.vb k hk, h.vneg k hk⟩⟩
  · rw [← h.cost 0]
    exact sumN_congr _ (fun r hr => by rw [ec r hr]; rfl)
  · rw [h.dual]
    rw [sumN_congr (f := nth (us.drop 1)) (g := fun r => nth us (r + 1)) _ (fun k _ => e1 us k), sumN_congr (f := nth (vs.drop 1)) (g := fun k => nth vs (k + 1)) _ (fun k _ => e1 vs k)]
end

/-- the costs with further columns to skip -/
def wides (css : List (List Int)) (skip : Int) : List (List Int) := css.map (fun r => r ++ List.replicate (css.length + 1) skip)
section
variable {css : List (List Int)} {skip : Int} {cs rows pots : List Int} {tot : Int}
theorem wides_len : (wides css skip).length = css.length := by simp [wides]
theorem wides_row {k : Nat} (h : k < css.length) : nths (wides css skip) k = nths css k ++ List.replicate (css.length + 1) skip := by simp [wides, nths, h]
theorem wides_col (h : 0 < css.length) : colN (wides css skip) = colN css + (css.length + 1) := by unfold colN; rw [wides_row h]; simp
theorem wides_lo {r k : Nat} (hr : r < css.length) (hk : k < (nths css r).length) : cF (wides css skip) r k = cF css r k := by unfold cF; rw [wides_row hr, nth_append_lt hk]
theorem nth_rep {n k : Nat} {x : Int} (h : k < n) : nth (List.replicate n x) k = x := by simp [nth, h]
theorem wides_hi {r k : Nat} (hr : r < css.length) (hl : (nths css r).length = colN css) (h1 : colN css ≤ k) (h2 : k < colN css + (css.length + 1)) : cF (wides css skip) r k = skip := by
  obtain ⟨j, rfl⟩ := Nat.exists_eq_add_of_le h1
  unfold cF
  rw [wides_row hr, ← hl, nth_append_ge]
  exact nth_rep (by omega)
/-- the columns of the wide costs as they are handed out -/
def shut (m : Nat) (xs : List Int) : List Int := xs.map (fun x => if (m : Int) ≤ x then -1 else x)
theorem shut_nth {m : Nat} {xs : List Int} {k : Nat} (h : k < xs.length) : nth (shut m xs) k = if (m : Int) ≤ nth xs k then -1 else nth xs k := by simp [shut, nth, h]
/-- n + 1 further columns: one stays free -/
theorem free_skip {n m : Nat} (t : Nat → Nat) : ∃ j, j < n + 1 ∧ ∀ r, r < n → t r ≠ m + j := by
  classical
  obtain ⟨k, k1, k2, k3⟩ := free_col (n + 1) n (fun k => if h : ∃ r, r < n ∧ t r = m + (k - 1) then h.choose + 1 else 0) (by omega)
    (fun k _ _ => by
      split
      · rename_i h; have := h.choose_spec.1; omega
      · omega)
    (fun k l h1 h2 h3 h4 e e0 => by
      by_cases hk : ∃ r, r < n ∧ t r = m + (k - 1)
      · by_cases hl : ∃ r, r < n ∧ t r = m + (l - 1)
        · rw [dif_pos hk, dif_pos hl] at e
          have e1 := hk.choose_spec.2
          have e2 := hl.choose_spec.2
          have e3 : hk.choose = hl.choose := by omega
          rw [e3, e2] at e1
          omega
        · rw [dif_pos hk, dif_neg hl] at e; omega
      · rw [dif_neg hk] at e0; exact absurd rfl e0)
  refine ⟨k - 1, by omega, fun r hr e => ?_⟩
  rw [dif_pos ⟨r, hr, e⟩] at k3
  omega
/-- the result for the wide costs, with the further columns shut, is a result with a cost to skip -/
theorem resOk_wide {us vs : List Int} (hok : ∀ r, r < css.length → (nths css r).length = colN css) (h0 : 0 < css.length) (hul : us.length = css.length + 1) (hvl : vs.length = colN (wides css skip) + 1) (hcl : cs.length = css.length)
    (h : SolveOk css.length (colN (wides css skip)) (cF (wides css skip)) 1000000000 (fun r => (nth cs r).toNat) tot (fun r => nth us (r + 1)) (fun k => nth vs (k + 1))) (hn : ∀ r, r < css.length → 0 ≤ nth cs r) :
    ResOk css (some skip) (shut (colN css) cs) (us.drop 1) ((vs.drop 1).take (colN css)) tot := by
  have hM := wides_col (skip := skip) h0
  have e1 : ∀ (xs : List Int) k, nth (xs.drop 1) k = nth xs (k + 1) := fun xs k => by unfold nth; simp
  have e2 : ∀ k, k < colN css → nth ((vs.drop 1).take (colN css)) k = nth vs (k + 1) := fun k hk => by rw [← e1]; unfold nth; rw [List.getElem?_take_of_lt hk]
  obtain ⟨j, j1, j2⟩ := free_skip (n := css.length) (m := colN css) (fun r => (nth cs r).toNat)
  have hv0 : nth vs (colN css + j + 1) = 0 := by
    rcases h.vfree (colN css + j) (by omega) with e | ⟨r, hr, e⟩
    · exact e
    · exact absurd e (j2 r hr)
  have hus : ∀ r, r < css.length → nth us (r + 1) ≤ skip := fun r hr => by
    have := h.feas r (colN css + j) hr (by omega)
    rw [wides_hi hr (hok r hr) (by omega) (by omega)] at this
    omega
  have hvx : ∀ k, colN css ≤ k → k < colN (wides css skip) → nth vs (k + 1) = 0 := fun k h1 h2 => by
    rcases h.vfree k h2 with e | ⟨r, hr, e⟩
    · exact e
    · have h3 := h.tight r hr
      have h4 := h.vneg k h2
      have h5 := hus r hr
      rw [show (nth cs r).toNat = k from e, wides_hi hr (hok r hr) h1 (by omega)] at h3
      omega
  have hcol : ∀ r, r < css.length → (nth cs r < colN css ∧ nth (shut (colN css) cs) r = nth cs r ∧ colT (colN css) (shut (colN css) cs) r = (nth cs r).toNat) ∨ ((colN css : Int) ≤ nth cs r ∧ nth (shut (colN css) cs) r = -1 ∧ colT (colN css) (shut (colN css) cs) r = colN css) := fun r hr => by
    have hr0 := hn r hr
    unfold colT
    rw [shut_nth (by omega)]
    by_cases hm : (colN css : Int) ≤ nth cs r
    · rw [if_pos hm]
      exact .inr ⟨hm, rfl, by simp⟩
    · rw [if_neg hm, if_neg (by omega)]
      exact .inl ⟨by omega, rfl, rfl⟩
  refine ⟨by simp [shut, hcl], by simp; omega, by simp; omega, fun r hr => ?_, fun r s hr hs e h1 => ?_, ?_, fun r k hr hk => ?_, fun k hk => ?_, fun r s hr hs => ?_, ?_, fun r hr => by rw [e1]; exact h.ub r hr, fun k hk => by rw [e2 k hk]; exact ⟨h.vb k (by omega), h.vneg k (by omega)⟩⟩
  · have := hn r hr
    rcases hcol r hr with ⟨a, b, _⟩ | ⟨a, b, _⟩
    · rw [b]; exact .inl ⟨by omega, a⟩
    · rw [b]; exact .inr ⟨by simp, rfl⟩
  · rcases hcol r hr with ⟨a, b, _⟩ | ⟨a, b, _⟩
    · rcases hcol s hs with ⟨a', b', _⟩ | ⟨a', b', _⟩
      · rw [b, b'] at e
        exact h.inj r s hr hs (by show (nth cs r).toNat = (nth cs s).toNat; rw [e])
      · rw [b'] at e; omega
    · rw [b] at h1; omega
  · rw [h.tot]
    refine sumN_congr _ (fun r hr => ?_)
    have hr0 := hn r hr
    have hlt := h.lt r hr
    rcases hcol r hr with ⟨a, _, b⟩ | ⟨a, _, b⟩
    · rw [b, if_pos (by omega)]
      exact wides_lo hr (by rw [hok r hr]; omega)
    · rw [b, if_neg (Nat.lt_irrefl _)]
      exact wides_hi hr (hok r hr) (by show colN css ≤ (nth cs r).toNat; omega) (by have : (nth cs r).toNat < colN (wides css skip) := hlt
                                                                                    omega)
  · rw [e1, e2 k hk]
    have := h.feas r k hr (by omega)
    rwa [wides_lo hr (by rw [hok r hr]; exact hk)] at this
  · rw [e2 k hk]; exact h.vneg k (by omega)
  · cases hs
    rw [e1]; exact hus r hr
  · rw [h.dual]
    have f1 : sumN (fun r => nth us (r + 1)) css.length = sumN (nth (us.drop 1)) css.length := sumN_congr _ (fun k _ => (e1 us k).symm)
    have f2 : ∀ q, sumN (fun k => nth vs (k + 1)) (colN css + q) = sumN (nth ((vs.drop 1).take (colN css))) (colN css) ∨ colN (wides css skip) < colN css + q := fun q => by
      induction q with
      | zero => exact .inl (sumN_congr _ (fun k hk => (e2 k (by omega)).symm))
      | succ q ih =>
        rcases ih with ih | ih
        · by_cases hq : colN css + q < colN (wides css skip)
          · left
            show sumN (fun k => nth vs (k + 1)) (colN css + q) + nth vs (colN css + q + 1) = _
            rw [ih, hvx _ (by omega) hq]
            omega
          · right; omega
        · right; omega
    rcases f2 (css.length + 1) with e | e
    · rw [hM, f1, e]
    · omega
end
end Go.Proofs.Ytoendfpfnfeccaa
