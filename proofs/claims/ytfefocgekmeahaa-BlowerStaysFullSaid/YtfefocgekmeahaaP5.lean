/- Plain laws of runs: more supply lacks less. No walk. Conditions: a right plant and right demands. -/
import Derived.Test.YtfefocgekmeahaaW18
namespace Go.Proofs.Ytfefocgekmeahaa

section
variable {ns : List Nd} {dss : List (List Int)} {sup sup' : Int}
theorem runT_ok (hp : PlOk ns) (hs : 0 ≤ sup) (hd : DssOk ns dss) {k : Nat} (hk : k < dss.length) : StepOk ns sup (runT ns sup dss k).lv (nths dss k) (runT ns sup dss (k + 1)) :=
  stepOk hp (runT_lv hp hs hd k (by omega)) (hd k hk) hs
theorem runT_mono (hp : PlOk ns) (h0 : 0 ≤ sup) (hs : sup ≤ sup') (hd : DssOk ns dss) : ∀ k, k ≤ dss.length → (∀ j, nth (runT ns sup dss k).lv j ≤ nth (runT ns sup' dss k).lv j) ∧ ∀ j, nth (runT ns sup' dss k).lk j ≤ nth (runT ns sup dss k).lk j
  | 0, _ => ⟨fun _ => Int.le_refl _, fun _ => Int.le_refl _⟩
  | k + 1, hk => by
    have ih := runT_mono hp h0 hs hd k (by omega)
    exact step_mono hp (runT_lv hp h0 hd k (by omega)) (runT_lv hp (by omega) hd k (by omega)) (hd k (by omega)) hs ih.1 (runT_ok hp h0 hd (by omega)) (runT_ok hp (by omega) hd (by omega))
theorem lkI_iff (hp : PlOk ns) (hs : 0 ≤ sup) (hd : DssOk ns dss) {k : Nat} (hk : k < dss.length) : 0 ≤ lkI ns sup dss k ↔ ∃ j, j < ns.length ∧ 0 < nth (runT ns sup dss (k + 1)).lk j := by
  have hl := (runT_ok (sup := sup) hp hs hd hk).l3
  unfold lkI
  rcases idxS_spec (p := posP) (xs := (runT ns sup dss (k + 1)).lk) 0 (Nat.zero_le _) (by omega) with ⟨h1, h2⟩ | h
  · rw [h1]
    constructor
    · intro h; omega
    · rintro ⟨j, hj, h3⟩
      have := h2 j (by omega)
      simp [posP] at this
      omega
  · obtain ⟨i, h2, h1, h3, _⟩ := h
    rw [h1]
    exact ⟨fun _ => ⟨i, by omega, by simpa [posP] using h3⟩, fun _ => by omega⟩
theorem lkS_iff : ∀ r k : Nat, r = dss.length - k → ((lkS ns sup dss k).2.2 = true ↔ ∃ i, k ≤ i ∧ i < dss.length ∧ 0 ≤ lkI ns sup dss i)
  | 0, k, hr => by
    rw [lkS_end (by omega)]
    simp only [Bool.false_eq_true, false_iff, not_exists]
    intro i hi
    omega
  | r + 1, k, hr => by
    by_cases h1 : 0 ≤ lkI ns sup dss k
    · rw [lkS_hit (by omega) h1]
      simp only [true_iff]
      exact ⟨k, Nat.le_refl _, by omega, h1⟩
    · rw [lkS_next (by omega) h1, lkS_iff r (k + 1) (by omega)]
      constructor
      · rintro ⟨i, h2, h3, h4⟩
        exact ⟨i, by omega, h3, h4⟩
      · rintro ⟨i, h2, h3, h4⟩
        refine ⟨i, ?_, h3, h4⟩
        rcases Nat.lt_or_ge k i with h5 | h5
        · exact h5
        · obtain rfl : k = i := by omega
          exact absurd h4 h1
/-- if something lacks with more, it lacks with less -/
theorem lkS_anti (hp : PlOk ns) (h0 : 0 ≤ sup) (hs : sup ≤ sup') (hd : DssOk ns dss) (h : (lkS ns sup' dss 0).2.2 = true) : (lkS ns sup dss 0).2.2 = true := by
  rw [lkS_iff dss.length 0 (by omega)] at h ⊢
  obtain ⟨i, h1, h2, h3⟩ := h
  refine ⟨i, h1, h2, ?_⟩
  rw [lkI_iff hp (by omega) hd h2] at h3
  rw [lkI_iff hp h0 hd h2]
  obtain ⟨j, h4, h5⟩ := h3
  have := (runT_mono hp h0 hs hd (i + 1) (by omega)).2 j
  exact ⟨j, h4, by omega⟩
theorem lkN_anti (hp : PlOk ns) (hd : DssOk ns dss) {n n' : Nat} (hn : n ≤ n') (h : lkN ns dss n' = true) : lkN ns dss n = true :=
  lkS_anti hp (by omega) (by omega) hd h
/-- the place at which lkN turns is the only one -/
theorem lkN_turn (hp : PlOk ns) (hd : DssOk ns dss) {k q : Nat} (h1 : ∀ j, j + 1 = k → lkN ns dss j = true) (h2 : k < 1000000001 → lkN ns dss k = false) (q1 : ∀ j, j + 1 = q → lkN ns dss j = true) (q2 : lkN ns dss q = false) (hq : q < 1000000001) : k = q := by
  rcases Nat.lt_trichotomy k q with h | h | h
  · have := lkN_anti hp hd (n := k) (n' := q - 1) (by omega) (q1 (q - 1) (by omega))
    rw [h2 (by omega)] at this
    cases this
  · exact h
  · have := lkN_anti hp hd (n := q) (n' := k - 1) (by omega) (h1 (k - 1) (by omega))
    rw [q2] at this
    cases this
end
section
variable {ns : List Nd} {dm : List Int} {sup : Int}
theorem btF_turn (hp : PlOk ns) (hd : DmOk ns dm) {k q : Nat} (h1 : ∀ j : Nat, j + 1 = k → (btF ns sup dm ((j : Int) + 1)).2 = false) (h2 : k < 1000 → (btF ns sup dm ((k : Int) + 1)).2 = true) (q1 : ∀ j : Nat, j + 1 = q → (btF ns sup dm ((j : Int) + 1)).2 = false) (q2 : q < 1000 → (btF ns sup dm ((q : Int) + 1)).2 = true) (hk : k ≤ 1000) (hq : q ≤ 1000) : k = q := by
  rcases Nat.lt_trichotomy k q with h | h | h
  · have := btF_mono hp hd (k := (k : Int) + 1) (k' := ((q - 1 : Nat) : Int) + 1) (by omega) (h2 (by omega))
    rw [q1 (q - 1) (by omega)] at this
    cases this
  · exact h
  · have := btF_mono hp hd (k := (q : Int) + 1) (k' := ((k - 1 : Nat) : Int) + 1) (by omega) (q2 (by omega))
    rw [h1 (k - 1) (by omega)] at this
    cases this
end

/-- the plant of the chapter, and its demands -/
def plN : List Nd := [⟨-1, 8, 6, 6⟩, ⟨0, 5, 0, 0⟩, ⟨0, 5, 0, 0⟩]
def dm0 : List Int := [0, 4, 5]
theorem plN_ok : ckF 10 plN = 0 := by decide
theorem caN (n : Nat) (hn : n = 6 ∨ n = 7) : caF 10 plN (List.replicate n dm0) = 0 := by rcases hn with rfl | rfl <;> decide
theorem run1 : (runT plN 10 (List.replicate 7 dm0) 1).lv = [5, 0, 0] := by decide
theorem run7 : (runT plN 10 (List.replicate 7 dm0) 7).lk = [0, 0, 1] := by decide
theorem lk7 : lkN plN (List.replicate 6 dm0) 7 = true := by decide
theorem lk8 : lkN plN (List.replicate 6 dm0) 8 = false := by decide
theorem bt999 : (btF plN 10 dm0 999).2 = false := by decide
theorem bt1000 : (btF plN 10 dm0 1000).2 = true := by decide
end Go.Proofs.Ytfefocgekmeahaa
