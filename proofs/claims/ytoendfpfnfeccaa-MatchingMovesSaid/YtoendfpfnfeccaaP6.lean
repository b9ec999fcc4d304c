/- The last loop of solve: the columns of the rows and the sum. No walk. Conditions: none. -/
import Derived.Test.YtoendfpfnfeccaaP2
import Derived.Test.YtoendfpfnfeccaaNums
namespace Go.Proofs.Ytoendfpfnfeccaa

section
variable {o : Nat → Nat} {c : Nat → Nat → Int} {K r : Nat} {tot : Int}
theorem Fin'.start {cols : Nat → Int} : Fin' o c 0 cols 0 := ⟨fun j h => by omega, rfl⟩
theorem Fin'.skip {cols : Nat → Int} (h : Fin' o c K cols tot) (h0 : o (K + 1) = 0) : Fin' o c (K + 1) cols tot := by
  refine ⟨fun j hj hn => ?_, ?_⟩
  · have : j ≠ K := fun e => hn (by rw [e]; exact h0)
    exact h.col j (by omega) hn
  · show tot = sumN _ K + _
    rw [← h.tot]
    simp [h0]
theorem Fin'.put {cs : List Int} (h : Fin' o c K (nth cs) tot) (hr : o (K + 1) = r + 1) (hi : ∀ j, j < K → o (j + 1) ≠ r + 1) (hl : r < cs.length) : Fin' o c (K + 1) (nth (cs.set r (K : Int))) (tot + c r K) := by
  refine ⟨fun j hj hn => ?_, ?_⟩
  · rw [nth_set hl]
    by_cases e : j = K
    · subst e
      rw [hr, if_pos (by omega)]
    · rw [if_neg (fun e2 => hi j (by omega) (by omega))]
      exact h.col j (by omega) hn
  · show tot + c r K = sumN _ K + _
    rw [← h.tot]
    simp [hr]
end
end Go.Proofs.Ytoendfpfnfeccaa
