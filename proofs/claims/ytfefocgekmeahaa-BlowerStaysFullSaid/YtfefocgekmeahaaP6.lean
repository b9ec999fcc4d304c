/- Plain laws of the balance of a run. No walk. Conditions: a right plant and right demands. -/
import Derived.Test.YtfefocgekmeahaaP5
namespace Go.Proofs.Ytfefocgekmeahaa

section
variable {ns : List Nd} {dss : List (List Int)} {sup sup' : Int} {i : Nat}
/-- what the roots are given in a step of a run -/
theorem run_given (hp : PlOk ns) (hs : 0 ≤ sup) (hd : DssOk ns dss) (hi : i < dss.length) : givenF ns (runT ns sup dss (i + 1)).tk ns.length ≤ sup ∧
    givenF ns (runT ns sup dss (i + 1)).tk ns.length = sumN (nth (runT ns sup dss (i + 1)).lv) ns.length - sumN (nth (runT ns sup dss i).lv) ns.length + sumN (nth (nths dss i)) ns.length - sumN (nth (runT ns sup dss (i + 1)).lk) ns.length :=
  ⟨given_le hp (runT_lv hp hs hd i (by omega)) (hd i hi) (runT_ok hp hs hd hi) hs, given_eq hp (runT_lv hp hs hd i (by omega)) (hd i hi) (runT_ok hp hs hd hi)⟩
/-- what is tested of each node in a step of two runs -/
theorem run_node (hp : PlOk ns) (hs : 0 ≤ sup) (hss : sup ≤ sup') (hd : DssOk ns dss) (hi : i < dss.length) {j : Nat} (hj : j < ns.length) :
    nth (runT ns sup' dss (i + 1)).lk j ≤ nth (runT ns sup dss (i + 1)).lk j ∧ nth (runT ns sup dss (i + 1)).lv j ≤ nth (runT ns sup' dss (i + 1)).lv j ∧ nth (runT ns sup dss (i + 1)).lv j ≤ (nd ns j).c := by
  have h := runT_mono hp hs hss hd (i + 1) (by omega)
  exact ⟨h.2 j, h.1 j, ((runT_lv hp hs hd (i + 1) (by omega)).r j hj).2⟩
end
end Go.Proofs.Ytfefocgekmeahaa
