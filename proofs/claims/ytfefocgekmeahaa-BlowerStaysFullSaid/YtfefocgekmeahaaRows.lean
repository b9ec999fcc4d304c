/-
  No cell of these rows narrows 'for every input' (looked for: loops, veiled, ifaces, maps, wideKeys, modest, calm, conditions, laid).
  DERIVED. THE GIVEN ROWS OF THIS SEAT. 8 by the template 'for every input the law returns true; each argument reads behind the call as it read before'; 0 by the template 'total and deterministic' (their statements: YtfefocgekmeahaaTotals.lean).
  GIVEN WITH THE SEED: the statements are not yours to turn. If you find one false, say at which input.
  Laid BY PROGRAM, IN A SANDBOX (cutbox-rows.mjs): the forced cells as the released guide's own fill.sh prints them over the translation 0efb6615ea96ea45… (all of the seat's roots in one cut). By AI agents, Wed Nov 11 2026. No macro, syntax, notation, axiom, sorry.
-/
import Derived.Test.YtfefocgekmeahaaChecked
import GoSem.Claim
import GoSem.ClaimJoined
import GoSem.ClaimMapViews
import Derived.JoinedTies
import Derived.KernelRfl
namespace Go.Proofs.Ytfefocgekmeahaa
/- THE CELL 'sum', in the pinned program and in every row, IS THE sha256 OF THE DUMP (.gsa) THAT YtfefocgekmeahaaProg.lean LOADS. Nothing in Lean hashes anything: it is a label: what it is worth is what the hold of that sum in a sandbox is worth. -/
noncomputable def Try.pinned : Pinned := { name := "ytfefocgekmeahaa", sum := "0efb6615ea96ea451924269d502ca2295dcb3cd962b529802804aec45dbccfa2", checked := Try.checked }
namespace Rows
def none {H : Type} : Left H := { results := [], args := [] }

/-- 'bombardelaw35.BlowerLeast': WHATEVER THE INPUT: true; the input reads as it did. -/
def blowerLeastSpec : ChangeSpec := { name := "blowerLeast", fn := fun _ => fun
  | [d1, d2] => { results := [.lit (.bool true)], args := [d1, d2] }
  | _ => none }
def blowerLeastRow : OpenClaim := { program := "ytfefocgekmeahaa", sum := "0efb6615ea96ea451924269d502ca2295dcb3cd962b529802804aec45dbccfa2", func := "bombarde/bombardelaw35.BlowerLeast", spec := "blowerLeast", unfollowed := true, recurses := true, apart := false }
def BlowerLeastSaid : Prop := blowerLeastRow.holds Try.pinned (OpenSpec.ofChange blowerLeastSpec)

/-- ITS FALSE NEIGHBOUR: 'it returns false'. Refute it at one input. -/
def blowerLeastWrong : ChangeSpec := { name := "blowerLeast", fn := fun _ => fun
  | [d1, d2] => { results := [.lit (.bool false)], args := [d1, d2] }
  | _ => none }
def BlowerLeastWrongFalsely : Prop := blowerLeastRow.holds Try.pinned (OpenSpec.ofChange blowerLeastWrong)

/-- 'bombardelaw35.BlowerBalances': WHATEVER THE INPUT: true; the input reads as it did. -/
def blowerBalancesSpec : ChangeSpec := { name := "blowerBalances", fn := fun _ => fun
  | [d1, d2, d3] => { results := [.lit (.bool true)], args := [d1, d2, d3] }
  | _ => none }
def blowerBalancesRow : OpenClaim := { program := "ytfefocgekmeahaa", sum := "0efb6615ea96ea451924269d502ca2295dcb3cd962b529802804aec45dbccfa2", func := "bombarde/bombardelaw35.BlowerBalances", spec := "blowerBalances", unfollowed := true, recurses := true, apart := false }
def BlowerBalancesSaid : Prop := blowerBalancesRow.holds Try.pinned (OpenSpec.ofChange blowerBalancesSpec)

/-- ITS FALSE NEIGHBOUR: 'it returns false'. Refute it at one input. -/
def blowerBalancesWrong : ChangeSpec := { name := "blowerBalances", fn := fun _ => fun
  | [d1, d2, d3] => { results := [.lit (.bool false)], args := [d1, d2, d3] }
  | _ => none }
def BlowerBalancesWrongFalsely : Prop := blowerBalancesRow.holds Try.pinned (OpenSpec.ofChange blowerBalancesWrong)

/-- 'bombardelaw35.BlowerRuns': WHATEVER THE INPUT: true; the input reads as it did. -/
def blowerRunsSpec : ChangeSpec := { name := "blowerRuns", fn := fun _ => fun
  | [d1, d2] => { results := [.lit (.bool true)], args := [d1, d2] }
  | _ => none }
def blowerRunsRow : OpenClaim := { program := "ytfefocgekmeahaa", sum := "0efb6615ea96ea451924269d502ca2295dcb3cd962b529802804aec45dbccfa2", func := "bombarde/bombardelaw35.BlowerRuns", spec := "blowerRuns", unfollowed := true, recurses := true, apart := false }
def BlowerRunsSaid : Prop := blowerRunsRow.holds Try.pinned (OpenSpec.ofChange blowerRunsSpec)

/-- ITS FALSE NEIGHBOUR: 'it returns false'. Refute it at one input. -/
def blowerRunsWrong : ChangeSpec := { name := "blowerRuns", fn := fun _ => fun
  | [d1, d2] => { results := [.lit (.bool false)], args := [d1, d2] }
  | _ => none }
def BlowerRunsWrongFalsely : Prop := blowerRunsRow.holds Try.pinned (OpenSpec.ofChange blowerRunsWrong)

/-- 'bombardelaw35.BlowerLimits': WHATEVER THE INPUT: true; the input reads as it did. -/
def blowerLimitsSpec : ChangeSpec := { name := "blowerLimits", fn := fun _ => fun
  | [d] => { results := [.lit (.bool true)], args := [d] }
  | _ => none }
def blowerLimitsRow : OpenClaim := { program := "ytfefocgekmeahaa", sum := "0efb6615ea96ea451924269d502ca2295dcb3cd962b529802804aec45dbccfa2", func := "bombarde/bombardelaw35.BlowerLimits", spec := "blowerLimits", unfollowed := true, recurses := true, apart := false }
def BlowerLimitsSaid : Prop := blowerLimitsRow.holds Try.pinned (OpenSpec.ofChange blowerLimitsSpec)

/-- ITS FALSE NEIGHBOUR: 'it returns false'. Refute it at one input. -/
def blowerLimitsWrong : ChangeSpec := { name := "blowerLimits", fn := fun _ => fun
  | [d] => { results := [.lit (.bool false)], args := [d] }
  | _ => none }
def BlowerLimitsWrongFalsely : Prop := blowerLimitsRow.holds Try.pinned (OpenSpec.ofChange blowerLimitsWrong)

/-- 'bombardelaw35.BlowerSteady': WHATEVER THE INPUT: true; the input reads as it did. -/
def blowerSteadySpec : ChangeSpec := { name := "blowerSteady", fn := fun _ => fun
  | [d1, d2] => { results := [.lit (.bool true)], args := [d1, d2] }
  | _ => none }
def blowerSteadyRow : OpenClaim := { program := "ytfefocgekmeahaa", sum := "0efb6615ea96ea451924269d502ca2295dcb3cd962b529802804aec45dbccfa2", func := "bombarde/bombardelaw35.BlowerSteady", spec := "blowerSteady", unfollowed := true, recurses := true, apart := false }
def BlowerSteadySaid : Prop := blowerSteadyRow.holds Try.pinned (OpenSpec.ofChange blowerSteadySpec)

/-- ITS FALSE NEIGHBOUR: 'it returns false'. Refute it at one input. -/
def blowerSteadyWrong : ChangeSpec := { name := "blowerSteady", fn := fun _ => fun
  | [d1, d2] => { results := [.lit (.bool false)], args := [d1, d2] }
  | _ => none }
def BlowerSteadyWrongFalsely : Prop := blowerSteadyRow.holds Try.pinned (OpenSpec.ofChange blowerSteadyWrong)

/-- 'bombardelaw35.BlowerStaysFull': WHATEVER THE INPUT: true; the input reads as it did. -/
def blowerStaysFullSpec : ChangeSpec := { name := "blowerStaysFull", fn := fun _ => fun
  | [d1, d2] => { results := [.lit (.bool true)], args := [d1, d2] }
  | _ => none }
def blowerStaysFullRow : OpenClaim := { program := "ytfefocgekmeahaa", sum := "0efb6615ea96ea451924269d502ca2295dcb3cd962b529802804aec45dbccfa2", func := "bombarde/bombardelaw35.BlowerStaysFull", spec := "blowerStaysFull", unfollowed := true, recurses := true, apart := false }
def BlowerStaysFullSaid : Prop := blowerStaysFullRow.holds Try.pinned (OpenSpec.ofChange blowerStaysFullSpec)

/-- ITS FALSE NEIGHBOUR: 'it returns false'. Refute it at one input. -/
def blowerStaysFullWrong : ChangeSpec := { name := "blowerStaysFull", fn := fun _ => fun
  | [d1, d2] => { results := [.lit (.bool false)], args := [d1, d2] }
  | _ => none }
def BlowerStaysFullWrongFalsely : Prop := blowerStaysFullRow.holds Try.pinned (OpenSpec.ofChange blowerStaysFullWrong)

/-- 'bombardelaw35.BlowerSteps': WHATEVER THE INPUT: true; the input reads as it did. -/
def blowerStepsSpec : ChangeSpec := { name := "blowerSteps", fn := fun _ => fun
  | [d1, d2, d3] => { results := [.lit (.bool true)], args := [d1, d2, d3] }
  | _ => none }
def blowerStepsRow : OpenClaim := { program := "ytfefocgekmeahaa", sum := "0efb6615ea96ea451924269d502ca2295dcb3cd962b529802804aec45dbccfa2", func := "bombarde/bombardelaw35.BlowerSteps", spec := "blowerSteps", unfollowed := true, recurses := true, apart := false }
def BlowerStepsSaid : Prop := blowerStepsRow.holds Try.pinned (OpenSpec.ofChange blowerStepsSpec)

/-- ITS FALSE NEIGHBOUR: 'it returns false'. Refute it at one input. -/
def blowerStepsWrong : ChangeSpec := { name := "blowerSteps", fn := fun _ => fun
  | [d1, d2, d3] => { results := [.lit (.bool false)], args := [d1, d2, d3] }
  | _ => none }
def BlowerStepsWrongFalsely : Prop := blowerStepsRow.holds Try.pinned (OpenSpec.ofChange blowerStepsWrong)

/-- 'bombardelaw35.BlowerChecks': WHATEVER THE INPUT: true; the input reads as it did. -/
def blowerChecksSpec : ChangeSpec := { name := "blowerChecks", fn := fun _ => fun
  | [d] => { results := [.lit (.bool true)], args := [d] }
  | _ => none }
def blowerChecksRow : OpenClaim := { program := "ytfefocgekmeahaa", sum := "0efb6615ea96ea451924269d502ca2295dcb3cd962b529802804aec45dbccfa2", func := "bombarde/bombardelaw35.BlowerChecks", spec := "blowerChecks", unfollowed := true, recurses := true, apart := false }
def BlowerChecksSaid : Prop := blowerChecksRow.holds Try.pinned (OpenSpec.ofChange blowerChecksSpec)

/-- ITS FALSE NEIGHBOUR: 'it returns false'. Refute it at one input. -/
def blowerChecksWrong : ChangeSpec := { name := "blowerChecks", fn := fun _ => fun
  | [d] => { results := [.lit (.bool false)], args := [d] }
  | _ => none }
def BlowerChecksWrongFalsely : Prop := blowerChecksRow.holds Try.pinned (OpenSpec.ofChange blowerChecksWrong)

/- THE SECOND FORM. 'bulk': how many values and letters a reading holds, each counted each time it is reached (what is shared counts as often as it is met; a slice's spare places count too). A statement '..UptoSaid' is the law's where the arguments, and the package variables that the reading takes, are together of bulk at most 1048576: NARROWER than '..Said'. Prove '..Said' where nothing that the law and all that it calls make is longer than what came in: it says more and counts as full. Else prove '..UptoSaid'. A law counts once. -/
mutual
def uptoBulk {H : Type} : DataW H → Nat
  | .lit (.string bytes) => bytes.length + 1
  | .lit _ => 1
  | .nil => 1
  | .ptr d => uptoBulk d + 1
  | .slice elems spare => uptoBulkAll elems + uptoBulkAll spare + 1
  | .agg parts => uptoBulkAll parts + 1
  | .iface _ d => uptoBulk d + 1
  | .map entries => uptoBulkEntries entries + 1
  | .held _ => 1
def uptoBulkAll {H : Type} : List (DataW H) → Nat
  | [] => 0
  | d :: r => uptoBulk d + uptoBulkAll r
def uptoBulkEntries {H : Type} : List (Lit × DataW H) → Nat
  | [] => 0
  | x :: r => uptoBulkEntry x + uptoBulkEntries r
def uptoBulkEntry {H : Type} : Lit × DataW H → Nat
  | (.string bytes, d) => bytes.length + uptoBulk d + 1
  | (_, d) => uptoBulk d + 1
 end
def uptoSmall : (H : Type) → List (DataW H) → Bool := fun _ ds => decide (uptoBulkAll ds ≤ 1048576)
def OpenSpec.upto (s : _root_.Go.ChangeSpec) : _root_.Go.OpenSpec := { _root_.Go.OpenSpec.ofChange s with cond := some uptoSmall }

/-- 'bombardelaw35.BlowerLeast', WHERE WHAT IT READS IS OF BULK AT MOST 1048576: true; the input reads as it did. -/
def blowerLeastUptoRow : OpenClaim := { program := "ytfefocgekmeahaa", sum := "0efb6615ea96ea451924269d502ca2295dcb3cd962b529802804aec45dbccfa2", func := "bombarde/bombardelaw35.BlowerLeast", spec := "blowerLeast", unfollowed := true, recurses := true, apart := false, narrowed := true }
def BlowerLeastUptoSaid : Prop := blowerLeastUptoRow.holds Try.pinned (OpenSpec.upto blowerLeastSpec)

/-- 'bombardelaw35.BlowerBalances', WHERE WHAT IT READS IS OF BULK AT MOST 1048576: true; the input reads as it did. -/
def blowerBalancesUptoRow : OpenClaim := { program := "ytfefocgekmeahaa", sum := "0efb6615ea96ea451924269d502ca2295dcb3cd962b529802804aec45dbccfa2", func := "bombarde/bombardelaw35.BlowerBalances", spec := "blowerBalances", unfollowed := true, recurses := true, apart := false, narrowed := true }
def BlowerBalancesUptoSaid : Prop := blowerBalancesUptoRow.holds Try.pinned (OpenSpec.upto blowerBalancesSpec)

/-- 'bombardelaw35.BlowerRuns', WHERE WHAT IT READS IS OF BULK AT MOST 1048576: true; the input reads as it did. -/
def blowerRunsUptoRow : OpenClaim := { program := "ytfefocgekmeahaa", sum := "0efb6615ea96ea451924269d502ca2295dcb3cd962b529802804aec45dbccfa2", func := "bombarde/bombardelaw35.BlowerRuns", spec := "blowerRuns", unfollowed := true, recurses := true, apart := false, narrowed := true }
def BlowerRunsUptoSaid : Prop := blowerRunsUptoRow.holds Try.pinned (OpenSpec.upto blowerRunsSpec)

/-- 'bombardelaw35.BlowerLimits', WHERE WHAT IT READS IS OF BULK AT MOST 1048576: true; the input reads as it did. -/
def blowerLimitsUptoRow : OpenClaim := { program := "ytfefocgekmeahaa", sum := "0efb6615ea96ea451924269d502ca2295dcb3cd962b529802804aec45dbccfa2", func := "bombarde/bombardelaw35.BlowerLimits", spec := "blowerLimits", unfollowed := true, recurses := true, apart := false, narrowed := true }
def BlowerLimitsUptoSaid : Prop := blowerLimitsUptoRow.holds Try.pinned (OpenSpec.upto blowerLimitsSpec)

/-- 'bombardelaw35.BlowerSteady', WHERE WHAT IT READS IS OF BULK AT MOST 1048576: true; the input reads as it did. -/
def blowerSteadyUptoRow : OpenClaim := { program := "ytfefocgekmeahaa", sum := "0efb6615ea96ea451924269d502ca2295dcb3cd962b529802804aec45dbccfa2", func := "bombarde/bombardelaw35.BlowerSteady", spec := "blowerSteady", unfollowed := true, recurses := true, apart := false, narrowed := true }
def BlowerSteadyUptoSaid : Prop := blowerSteadyUptoRow.holds Try.pinned (OpenSpec.upto blowerSteadySpec)

/-- 'bombardelaw35.BlowerStaysFull', WHERE WHAT IT READS IS OF BULK AT MOST 1048576: true; the input reads as it did. -/
def blowerStaysFullUptoRow : OpenClaim := { program := "ytfefocgekmeahaa", sum := "0efb6615ea96ea451924269d502ca2295dcb3cd962b529802804aec45dbccfa2", func := "bombarde/bombardelaw35.BlowerStaysFull", spec := "blowerStaysFull", unfollowed := true, recurses := true, apart := false, narrowed := true }
def BlowerStaysFullUptoSaid : Prop := blowerStaysFullUptoRow.holds Try.pinned (OpenSpec.upto blowerStaysFullSpec)

/-- 'bombardelaw35.BlowerSteps', WHERE WHAT IT READS IS OF BULK AT MOST 1048576: true; the input reads as it did. -/
def blowerStepsUptoRow : OpenClaim := { program := "ytfefocgekmeahaa", sum := "0efb6615ea96ea451924269d502ca2295dcb3cd962b529802804aec45dbccfa2", func := "bombarde/bombardelaw35.BlowerSteps", spec := "blowerSteps", unfollowed := true, recurses := true, apart := false, narrowed := true }
def BlowerStepsUptoSaid : Prop := blowerStepsUptoRow.holds Try.pinned (OpenSpec.upto blowerStepsSpec)

/-- 'bombardelaw35.BlowerChecks', WHERE WHAT IT READS IS OF BULK AT MOST 1048576: true; the input reads as it did. -/
def blowerChecksUptoRow : OpenClaim := { program := "ytfefocgekmeahaa", sum := "0efb6615ea96ea451924269d502ca2295dcb3cd962b529802804aec45dbccfa2", func := "bombarde/bombardelaw35.BlowerChecks", spec := "blowerChecks", unfollowed := true, recurses := true, apart := false, narrowed := true }
def BlowerChecksUptoSaid : Prop := blowerChecksUptoRow.holds Try.pinned (OpenSpec.upto blowerChecksSpec)

end Rows
end Go.Proofs.Ytfefocgekmeahaa
