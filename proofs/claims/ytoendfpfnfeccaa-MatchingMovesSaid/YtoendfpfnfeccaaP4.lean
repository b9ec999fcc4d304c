/- What the errors of costs are. No walk. Conditions: none. -/
import Derived.Test.YtoendfpfnfeccaaP3
import Derived.Test.YtoendfpfnfeccaaNums
namespace Go.Proofs.Ytoendfpfnfeccaa

/-- the number of columns -/
def colN (css : List (List Int)) : Nat := (nths css 0).length
def szB (css : List (List Int)) (k : Nat) (_ : Unit) : Int ⊕ Unit := if (nths css k).length ≠ colN css then .inl 5 else .inr ()
/-- whether all rows are of one length, from row k on -/
def szS (css : List (List Int)) (k : Nat) : Int := scan css.length (szB css) (fun _ => 0) k ()
def badC (n : Int) : Bool := !betw n (-1000000000) 1000000000
/-- the first number that is out of range, in a row from a place on -/
def rgR (xs : List Int) (k : Nat) : Bool := scan xs.length (fun k (_ : Unit) => if badC (nth xs k) then .inl true else .inr ()) (fun _ => false) k ()
def rgB (css : List (List Int)) (k : Nat) (_ : Unit) : Int ⊕ Unit := if rgR (nths css k) 0 = true then .inl 3 else .inr ()
/-- whether all numbers are in range, from row k on -/
def rgS (css : List (List Int)) (k : Nat) : Int := scan css.length (rgB css) (fun _ => 0) k ()
/-- the error of costs -/
def ckF (css : List (List Int)) (whole : Bool) : Int :=
  if 60 < css.length ∨ (0 < css.length ∧ 120 < colN css) then 4 else if szS css 0 ≠ 0 then szS css 0 else if whole = true ∧ 0 < css.length ∧ colN css < css.length then 6 else rgS css 0
section
variable {css : List (List Int)} {k : Nat} {xs : List Int}
theorem szS_bad (h : k < css.length) (h1 : (nths css k).length ≠ colN css) : szS css k = 5 := scan_inl h (by unfold szB; rw [if_pos h1])
theorem szS_next (h : k < css.length) (h1 : (nths css k).length = colN css) : szS css k = szS css (k + 1) := scan_inr h (by unfold szB; rw [if_neg (by simpa using h1)])
theorem szS_end (h : css.length ≤ k) : szS css k = 0 := scan_ge h
theorem szS_step (h : k < css.length) (h0 : szS css k = 0) : (nths css k).length = colN css ∧ szS css (k + 1) = 0 := by
  by_cases h1 : (nths css k).length = colN css
  · exact ⟨h1, by rw [← szS_next h h1]; exact h0⟩
  · rw [szS_bad h h1] at h0; cases h0
theorem szS_all (h0 : szS css 0 = 0) : ∀ k, k ≤ css.length → szS css k = 0
  | 0, _ => h0
  | k + 1, h => (szS_step (by omega) (szS_all h0 k (by omega))).2
theorem rgR_hit (h : k < xs.length) (h1 : badC (nth xs k) = true) : rgR xs k = true := scan_inl h (by simp [h1])
theorem rgR_next (h : k < xs.length) (h1 : badC (nth xs k) = false) : rgR xs k = rgR xs (k + 1) := scan_inr h (by simp [h1])
theorem rgR_end (h : xs.length ≤ k) : rgR xs k = false := scan_ge h
theorem rgR_step (h : k < xs.length) (h0 : rgR xs k = false) : badC (nth xs k) = false ∧ rgR xs (k + 1) = false := by
  cases h1 : badC (nth xs k)
  · exact ⟨rfl, by rw [← rgR_next h h1]; exact h0⟩
  · rw [rgR_hit h h1] at h0; cases h0
theorem rgR_all (h0 : rgR xs 0 = false) : ∀ k, k ≤ xs.length → rgR xs k = false
  | 0, _ => h0
  | k + 1, h => (rgR_step (by omega) (rgR_all h0 k (by omega))).2
theorem rgS_bad (h : k < css.length) (h1 : rgR (nths css k) 0 = true) : rgS css k = 3 := scan_inl h (by unfold rgB; rw [if_pos h1])
theorem rgS_next (h : k < css.length) (h1 : rgR (nths css k) 0 = false) : rgS css k = rgS css (k + 1) := scan_inr h (by unfold rgB; rw [if_neg (by simp [h1])])
theorem rgS_end (h : css.length ≤ k) : rgS css k = 0 := scan_ge h
theorem rgS_step (h : k < css.length) (h0 : rgS css k = 0) : rgR (nths css k) 0 = false ∧ rgS css (k + 1) = 0 := by
  cases h1 : rgR (nths css k) 0
  · exact ⟨rfl, by rw [← rgS_next h h1]; exact h0⟩
  · rw [rgS_bad h h1] at h0; cases h0
theorem rgS_all (h0 : rgS css 0 = 0) : ∀ k, k ≤ css.length → rgS css k = 0
  | 0, _ => h0
  | k + 1, h => (rgS_step (by omega) (rgS_all h0 k (by omega))).2
end
/-- right costs, with n rows of m numbers -/
structure CsOk (css : List (List Int)) : Prop where
  n : css.length ≤ 60
  m : colN css ≤ 120
  row : ∀ k, k < css.length → (nths css k).length = colN css
  val : ∀ k j, -1000000000 ≤ nth (nths css k) j ∧ nth (nths css k) j ≤ 1000000000
theorem csOk_of {css : List (List Int)} {whole : Bool} (h : ckF css whole = 0) : CsOk css ∧ (whole = true → css.length ≤ colN css) := by
  unfold ckF at h
  split at h
  · cases h
  · rename_i h1
    split at h
    · rename_i h2; exact absurd h h2
    · rename_i h2
      have h2' : szS css 0 = 0 := by simpa using h2
      split at h
      · cases h
      · rename_i h3
        refine ⟨⟨by omega, ?_, fun k hk => (szS_step hk (szS_all h2' k (by omega))).1, fun k j => ?_⟩, fun hw => ?_⟩
        · rcases Nat.eq_zero_or_pos css.length with h0 | h0
          · have : css = [] := List.eq_nil_of_length_eq_zero h0
            subst this
            simp [colN, nths]
          · omega
        · rcases Nat.lt_or_ge k css.length with hk | hk
          · rcases Nat.lt_or_ge j (nths css k).length with hj | hj
            · have := (rgR_step hj (rgR_all (rgS_step hk (rgS_all h k (by omega))).1 j (by omega))).1
              unfold badC at this
              exact betw_iff.1 (by simpa using this)
            · rw [nth_over hj]; omega
          · have : nths css k = [] := by simp [nths, hk]
            rw [this, nth_over (by simp)]
            omega
        · rcases Nat.lt_or_ge (colN css) css.length with hlt | hge
          · exact absurd ⟨hw, by omega, hlt⟩ h3
          · exact hge
end Go.Proofs.Ytoendfpfnfeccaa
