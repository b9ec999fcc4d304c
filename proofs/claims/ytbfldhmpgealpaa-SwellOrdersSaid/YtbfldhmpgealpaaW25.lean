/- Plain facts of the law on orders: the model's key, the error behind k registrations, what an order's list holds. Conditions: none. -/
import Derived.Test.YtbfldhmpgealpaaW24
import Derived.Test.YtbfldhmpgealpaaW12
namespace Go.Proofs.Ytbfldhmpgealpaa
open Go Go.RowKit Go.Shelf

theorem loudF_congr {T : Tab} {rs : List Int} {st st' : Nat → Int} : ∀ n : Nat, (∀ i, i < n → st i = st' i) → loudF T rs st n = loudF T rs st' n
  | 0, _ => rfl
  | n + 1, h => by
    have h1 := loudF_congr (T := T) (rs := rs) n (fun i hi => h i (by omega))
    have h2 := h n (by omega)
    simp only [loudF, divF, h1, h2]
/-- the model's loudness without stages is the key -/
theorem key_law (T : Tab) (ls : List Rg) (k : Nat) (h : T.b.length = T.s.length) : loudF T (rgAt ls k).s (lawSt T []) T.s.length = keyF T ls k := by
  unfold keyF
  refine loudF_congr _ fun i hi => ?_
  rw [lastTo_nth _ _ _ (by omega)]
  simp [lawSt]
theorem lawSt_ok (T : Tab) : StOk T (lawSt T []) := by
  intro k hk
  rcases Nat.eq_zero_or_pos (nths T.b k).length with h0 | h0
  · exact .inl h0
  · right
    simp only [lawSt, List.length_nil, if_true]
    omega
/-- the error that the law wants, behind k registrations -/
def wantTo (T : Tab) (ls : List Rg) : Nat → Int
  | 0 => tabF T
  | k + 1 => if wantTo T ls k = 0 then fitF T (rgAt ls k).s else wantTo T ls k
theorem want_end (T : Tab) (ls : List Rg) : ∀ k, k ≤ ls.length → (wantTo T ls k = 0 → tabF T = 0 ∧ ordS T ls 0 = ordS T ls k) ∧ (wantTo T ls k ≠ 0 → ordF T ls = wantTo T ls k)
  | 0, _ => ⟨fun h => ⟨h, rfl⟩, fun (h : tabF T ≠ 0) => by unfold ordF; rw [if_pos h]; rfl⟩
  | k + 1, hk => by
    obtain ⟨h1, h2⟩ := want_end T ls k (by omega)
    by_cases h0 : wantTo T ls k = 0
    · obtain ⟨a, b⟩ := h1 h0
      have e : wantTo T ls (k + 1) = fitF T (rgAt ls k).s := by simp [wantTo, h0]
      refine ⟨fun h => ⟨a, ?_⟩, fun h => ?_⟩
      · rw [e] at h
        rw [b, ordS_next (by omega) h]
      · rw [e] at h ⊢
        unfold ordF
        rw [if_neg (by simpa using a), b, ordS_bad (by omega) h]
    · have e : wantTo T ls (k + 1) = wantTo T ls k := by simp [wantTo, h0]
      rw [e]
      exact ⟨fun h => absurd h h0, h2⟩
theorem want_eq (T : Tab) (ls : List Rg) : wantTo T ls ls.length = ordF T ls := by
  obtain ⟨h1, h2⟩ := want_end T ls ls.length (Nat.le_refl _)
  by_cases h0 : wantTo T ls ls.length = 0
  · obtain ⟨a, b⟩ := h1 h0
    rw [h0]
    unfold ordF
    rw [if_neg (by simpa using a), b, ordS_end (Nat.le_refl _)]
  · exact (h2 h0).symm
/-- two places of an order hold two registrations -/
theorem out_inj {f : Int → Int} {ys : List Int} {n : Nat} (h : OutSt f ys n n) {p q : Nat} (hp : p < q) (hq : q < n) : nth ys p ≠ nth ys q := fun e => by
  have h1 := h.srt p q hp hq hq
  unfold ltK at h1
  rw [e] at h1
  omega
end Go.Proofs.Ytbfldhmpgealpaa
