/-
  No cell of these rows narrows 'for every input' (looked for: loops, veiled, ifaces, maps, wideKeys, modest, calm, conditions, laid).
  DERIVED. THE GIVEN ROWS OF THIS SEAT. 8 by the template 'for every input the law returns true; each argument reads behind the call as it read before'; 0 by the template 'total and deterministic' (their statements: YtbflocamicebhaaTotals.lean).
  GIVEN WITH THE SEED: the statements are not yours to turn. If you find one false, say at which input.
  Laid BY PROGRAM, IN A SANDBOX (cutbox-rows.mjs): the forced cells as the released guide's own fill.sh prints them over the translation cc62b666efc7419b… (all of the seat's roots in one cut). By AI agents, Wed Nov 11 2026. No macro, syntax, notation, axiom, sorry.
-/
import Derived.Test.YtbflocamicebhaaChecked
import GoSem.Claim
import GoSem.ClaimJoined
import GoSem.ClaimMapViews
import Derived.JoinedTies
import Derived.KernelRfl
namespace Go.Proofs.Ytbflocamicebhaa
/- THE CELL 'sum', in the pinned program and in every row, IS THE sha256 OF THE DUMP (.gsa) THAT YtbflocamicebhaaProg.lean LOADS. Nothing in Lean hashes anything: it is a label: what it is worth is what the hold of that sum in a sandbox is worth. -/
noncomputable def Try.pinned : Pinned := { name := "ytbflocamicebhaa", sum := "cc62b666efc7419b6376eb0536deb511e5dcfc49a13e3ae3a16b7c7916c9ef56", checked := Try.checked }
namespace Rows
def none {H : Type} : Left H := { results := [], args := [] }

/-- 'bombardelaw34.ReservoirCapacities': WHATEVER THE INPUT: true; the input reads as it did. -/
def reservoirCapacitiesSpec : ChangeSpec := { name := "reservoirCapacities", fn := fun _ => fun
  | [d] => { results := [.lit (.bool true)], args := [d] }
  | _ => none }
def reservoirCapacitiesRow : OpenClaim := { program := "ytbflocamicebhaa", sum := "cc62b666efc7419b6376eb0536deb511e5dcfc49a13e3ae3a16b7c7916c9ef56", func := "bombarde/bombardelaw34.ReservoirCapacities", spec := "reservoirCapacities", unfollowed := true, recurses := true, apart := false }
def ReservoirCapacitiesSaid : Prop := reservoirCapacitiesRow.holds Try.pinned (OpenSpec.ofChange reservoirCapacitiesSpec)

/-- ITS FALSE NEIGHBOUR: 'it returns false'. Refute it at one input. -/
def reservoirCapacitiesWrong : ChangeSpec := { name := "reservoirCapacities", fn := fun _ => fun
  | [d] => { results := [.lit (.bool false)], args := [d] }
  | _ => none }
def ReservoirCapacitiesWrongFalsely : Prop := reservoirCapacitiesRow.holds Try.pinned (OpenSpec.ofChange reservoirCapacitiesWrong)

/-- 'bombardelaw34.ReservoirLarge': WHATEVER THE INPUT: true; the input reads as it did. -/
def reservoirLargeSpec : ChangeSpec := { name := "reservoirLarge", fn := fun _ => fun
  | [d] => { results := [.lit (.bool true)], args := [d] }
  | _ => none }
def reservoirLargeRow : OpenClaim := { program := "ytbflocamicebhaa", sum := "cc62b666efc7419b6376eb0536deb511e5dcfc49a13e3ae3a16b7c7916c9ef56", func := "bombarde/bombardelaw34.ReservoirLarge", spec := "reservoirLarge", unfollowed := true, recurses := true, apart := false }
def ReservoirLargeSaid : Prop := reservoirLargeRow.holds Try.pinned (OpenSpec.ofChange reservoirLargeSpec)

/-- ITS FALSE NEIGHBOUR: 'it returns false'. Refute it at one input. -/
def reservoirLargeWrong : ChangeSpec := { name := "reservoirLarge", fn := fun _ => fun
  | [d] => { results := [.lit (.bool false)], args := [d] }
  | _ => none }
def ReservoirLargeWrongFalsely : Prop := reservoirLargeRow.holds Try.pinned (OpenSpec.ofChange reservoirLargeWrong)

/-- 'bombardelaw34.ReservoirSupplies': WHATEVER THE INPUT: true; the input reads as it did. -/
def reservoirSuppliesSpec : ChangeSpec := { name := "reservoirSupplies", fn := fun _ => fun
  | [d] => { results := [.lit (.bool true)], args := [d] }
  | _ => none }
def reservoirSuppliesRow : OpenClaim := { program := "ytbflocamicebhaa", sum := "cc62b666efc7419b6376eb0536deb511e5dcfc49a13e3ae3a16b7c7916c9ef56", func := "bombarde/bombardelaw34.ReservoirSupplies", spec := "reservoirSupplies", unfollowed := true, recurses := true, apart := false }
def ReservoirSuppliesSaid : Prop := reservoirSuppliesRow.holds Try.pinned (OpenSpec.ofChange reservoirSuppliesSpec)

/-- ITS FALSE NEIGHBOUR: 'it returns false'. Refute it at one input. -/
def reservoirSuppliesWrong : ChangeSpec := { name := "reservoirSupplies", fn := fun _ => fun
  | [d] => { results := [.lit (.bool false)], args := [d] }
  | _ => none }
def ReservoirSuppliesWrongFalsely : Prop := reservoirSuppliesRow.holds Try.pinned (OpenSpec.ofChange reservoirSuppliesWrong)

/-- 'bombardelaw34.ReservoirSteps': WHATEVER THE INPUT: true; the input reads as it did. -/
def reservoirStepsSpec : ChangeSpec := { name := "reservoirSteps", fn := fun _ => fun
  | [d1, d2, d3] => { results := [.lit (.bool true)], args := [d1, d2, d3] }
  | _ => none }
def reservoirStepsRow : OpenClaim := { program := "ytbflocamicebhaa", sum := "cc62b666efc7419b6376eb0536deb511e5dcfc49a13e3ae3a16b7c7916c9ef56", func := "bombarde/bombardelaw34.ReservoirSteps", spec := "reservoirSteps", unfollowed := true, recurses := true, apart := false }
def ReservoirStepsSaid : Prop := reservoirStepsRow.holds Try.pinned (OpenSpec.ofChange reservoirStepsSpec)

/-- ITS FALSE NEIGHBOUR: 'it returns false'. Refute it at one input. -/
def reservoirStepsWrong : ChangeSpec := { name := "reservoirSteps", fn := fun _ => fun
  | [d1, d2, d3] => { results := [.lit (.bool false)], args := [d1, d2, d3] }
  | _ => none }
def ReservoirStepsWrongFalsely : Prop := reservoirStepsRow.holds Try.pinned (OpenSpec.ofChange reservoirStepsWrong)

/-- 'bombardelaw34.ReservoirLaws': WHATEVER THE INPUT: true; the input reads as it did. -/
def reservoirLawsSpec : ChangeSpec := { name := "reservoirLaws", fn := fun _ => fun
  | [d1, d2] => { results := [.lit (.bool true)], args := [d1, d2] }
  | _ => none }
def reservoirLawsRow : OpenClaim := { program := "ytbflocamicebhaa", sum := "cc62b666efc7419b6376eb0536deb511e5dcfc49a13e3ae3a16b7c7916c9ef56", func := "bombarde/bombardelaw34.ReservoirLaws", spec := "reservoirLaws", unfollowed := true, recurses := true, apart := false }
def ReservoirLawsSaid : Prop := reservoirLawsRow.holds Try.pinned (OpenSpec.ofChange reservoirLawsSpec)

/-- ITS FALSE NEIGHBOUR: 'it returns false'. Refute it at one input. -/
def reservoirLawsWrong : ChangeSpec := { name := "reservoirLaws", fn := fun _ => fun
  | [d1, d2] => { results := [.lit (.bool false)], args := [d1, d2] }
  | _ => none }
def ReservoirLawsWrongFalsely : Prop := reservoirLawsRow.holds Try.pinned (OpenSpec.ofChange reservoirLawsWrong)

/-- 'bombardelaw34.ReservoirLasts': WHATEVER THE INPUT: true; the input reads as it did. -/
def reservoirLastsSpec : ChangeSpec := { name := "reservoirLasts", fn := fun _ => fun
  | [d1, d2] => { results := [.lit (.bool true)], args := [d1, d2] }
  | _ => none }
def reservoirLastsRow : OpenClaim := { program := "ytbflocamicebhaa", sum := "cc62b666efc7419b6376eb0536deb511e5dcfc49a13e3ae3a16b7c7916c9ef56", func := "bombarde/bombardelaw34.ReservoirLasts", spec := "reservoirLasts", unfollowed := true, recurses := true, apart := false }
def ReservoirLastsSaid : Prop := reservoirLastsRow.holds Try.pinned (OpenSpec.ofChange reservoirLastsSpec)

/-- ITS FALSE NEIGHBOUR: 'it returns false'. Refute it at one input. -/
def reservoirLastsWrong : ChangeSpec := { name := "reservoirLasts", fn := fun _ => fun
  | [d1, d2] => { results := [.lit (.bool false)], args := [d1, d2] }
  | _ => none }
def ReservoirLastsWrongFalsely : Prop := reservoirLastsRow.holds Try.pinned (OpenSpec.ofChange reservoirLastsWrong)

/-- 'bombardelaw34.ReservoirRuns': WHATEVER THE INPUT: true; the input reads as it did. -/
def reservoirRunsSpec : ChangeSpec := { name := "reservoirRuns", fn := fun _ => fun
  | [d] => { results := [.lit (.bool true)], args := [d] }
  | _ => none }
def reservoirRunsRow : OpenClaim := { program := "ytbflocamicebhaa", sum := "cc62b666efc7419b6376eb0536deb511e5dcfc49a13e3ae3a16b7c7916c9ef56", func := "bombarde/bombardelaw34.ReservoirRuns", spec := "reservoirRuns", unfollowed := true, recurses := true, apart := false }
def ReservoirRunsSaid : Prop := reservoirRunsRow.holds Try.pinned (OpenSpec.ofChange reservoirRunsSpec)

/-- ITS FALSE NEIGHBOUR: 'it returns false'. Refute it at one input. -/
def reservoirRunsWrong : ChangeSpec := { name := "reservoirRuns", fn := fun _ => fun
  | [d] => { results := [.lit (.bool false)], args := [d] }
  | _ => none }
def ReservoirRunsWrongFalsely : Prop := reservoirRunsRow.holds Try.pinned (OpenSpec.ofChange reservoirRunsWrong)

/-- 'bombardelaw34.ReservoirChecks': WHATEVER THE INPUT: true; the input reads as it did. -/
def reservoirChecksSpec : ChangeSpec := { name := "reservoirChecks", fn := fun _ => fun
  | [d1, d2, d3] => { results := [.lit (.bool true)], args := [d1, d2, d3] }
  | _ => none }
def reservoirChecksRow : OpenClaim := { program := "ytbflocamicebhaa", sum := "cc62b666efc7419b6376eb0536deb511e5dcfc49a13e3ae3a16b7c7916c9ef56", func := "bombarde/bombardelaw34.ReservoirChecks", spec := "reservoirChecks", unfollowed := true, recurses := true, apart := false }
def ReservoirChecksSaid : Prop := reservoirChecksRow.holds Try.pinned (OpenSpec.ofChange reservoirChecksSpec)

/-- ITS FALSE NEIGHBOUR: 'it returns false'. Refute it at one input. -/
def reservoirChecksWrong : ChangeSpec := { name := "reservoirChecks", fn := fun _ => fun
  | [d1, d2, d3] => { results := [.lit (.bool false)], args := [d1, d2, d3] }
  | _ => none }
def ReservoirChecksWrongFalsely : Prop := reservoirChecksRow.holds Try.pinned (OpenSpec.ofChange reservoirChecksWrong)

/- THE SECOND FORM. 'bulk': how many values and letters a reading holds, each counted each time it is reached (what is shared counts as often as it is met; a slice's spare places count too). A statement '..UptoSaid' is the law's where the arguments, and the package variables that the reading takes, are together of bulk at most 1048576: NARROWER than '..Said'. Prove '..Said' where nothing that the law and all that it calls make is longer than what came in: it says more and counts as full. Else prove '..UptoSaid'. A law counts once. -/
mutual
def uptoBulk {H : Type} : DataW H → Nat
  | .lit (.string bytes) => bytes.length + 1
  | .lit _ => 1
  | .nil => 1
  | .ptr d => uptoBulk d + 1
  | .slice elems spare => uptoBulkAll elems + uptoBulkAll spare + 1
  | .agg parts => uptoBulkAll parts + 1
  | .iface _ d => uptoBulk d + 1
  | .map entries => uptoBulkEntries entries + 1
  | .held _ => 1
def uptoBulkAll {H : Type} : List (DataW H) → Nat
  | [] => 0
  | d :: r => uptoBulk d + uptoBulkAll r
def uptoBulkEntries {H : Type} : List (Lit × DataW H) → Nat
  | [] => 0
  | x :: r => uptoBulkEntry x + uptoBulkEntries r
def uptoBulkEntry {H : Type} : Lit × DataW H → Nat
  | (.string bytes, d) => bytes.length + uptoBulk d + 1
  | (_, d) => uptoBulk d + 1
 end
def uptoSmall : (H : Type) → List (DataW H) → Bool := fun _ ds => decide (uptoBulkAll ds ≤ 1048576)
def OpenSpec.upto (s : _root_.Go.ChangeSpec) : _root_.Go.OpenSpec := { _root_.Go.OpenSpec.ofChange s with cond := some uptoSmall }

/-- 'bombardelaw34.ReservoirCapacities', WHERE WHAT IT READS IS OF BULK AT MOST 1048576: true; the input reads as it did. -/
def reservoirCapacitiesUptoRow : OpenClaim := { program := "ytbflocamicebhaa", sum := "cc62b666efc7419b6376eb0536deb511e5dcfc49a13e3ae3a16b7c7916c9ef56", func := "bombarde/bombardelaw34.ReservoirCapacities", spec := "reservoirCapacities", unfollowed := true, recurses := true, apart := false, narrowed := true }
def ReservoirCapacitiesUptoSaid : Prop := reservoirCapacitiesUptoRow.holds Try.pinned (OpenSpec.upto reservoirCapacitiesSpec)

/-- 'bombardelaw34.ReservoirLarge', WHERE WHAT IT READS IS OF BULK AT MOST 1048576: true; the input reads as it did. -/
def reservoirLargeUptoRow : OpenClaim := { program := "ytbflocamicebhaa", sum := "cc62b666efc7419b6376eb0536deb511e5dcfc49a13e3ae3a16b7c7916c9ef56", func := "bombarde/bombardelaw34.ReservoirLarge", spec := "reservoirLarge", unfollowed := true, recurses := true, apart := false, narrowed := true }
def ReservoirLargeUptoSaid : Prop := reservoirLargeUptoRow.holds Try.pinned (OpenSpec.upto reservoirLargeSpec)

/-- 'bombardelaw34.ReservoirSupplies', WHERE WHAT IT READS IS OF BULK AT MOST 1048576: true; the input reads as it did. -/
def reservoirSuppliesUptoRow : OpenClaim := { program := "ytbflocamicebhaa", sum := "cc62b666efc7419b6376eb0536deb511e5dcfc49a13e3ae3a16b7c7916c9ef56", func := "bombarde/bombardelaw34.ReservoirSupplies", spec := "reservoirSupplies", unfollowed := true, recurses := true, apart := false, narrowed := true }
def ReservoirSuppliesUptoSaid : Prop := reservoirSuppliesUptoRow.holds Try.pinned (OpenSpec.upto reservoirSuppliesSpec)

/-- 'bombardelaw34.ReservoirSteps', WHERE WHAT IT READS IS OF BULK AT MOST 1048576: true; the input reads as it did. -/
def reservoirStepsUptoRow : OpenClaim := { program := "ytbflocamicebhaa", sum := "cc62b666efc7419b6376eb0536deb511e5dcfc49a13e3ae3a16b7c7916c9ef56", func := "bombarde/bombardelaw34.ReservoirSteps", spec := "reservoirSteps", unfollowed := true, recurses := true, apart := false, narrowed := true }
def ReservoirStepsUptoSaid : Prop := reservoirStepsUptoRow.holds Try.pinned (OpenSpec.upto reservoirStepsSpec)

/-- 'bombardelaw34.ReservoirLaws', WHERE WHAT IT READS IS OF BULK AT MOST 1048576: true; the input reads as it did. -/
def reservoirLawsUptoRow : OpenClaim := { program := "ytbflocamicebhaa", sum := "cc62b666efc7419b6376eb0536deb511e5dcfc49a13e3ae3a16b7c7916c9ef56", func := "bombarde/bombardelaw34.ReservoirLaws", spec := "reservoirLaws", unfollowed := true, recurses := true, apart := false, narrowed := true }
def ReservoirLawsUptoSaid : Prop := reservoirLawsUptoRow.holds Try.pinned (OpenSpec.upto reservoirLawsSpec)

/-- 'bombardelaw34.ReservoirLasts', WHERE WHAT IT READS IS OF BULK AT MOST 1048576: true; the input reads as it did. -/
def reservoirLastsUptoRow : OpenClaim := { program := "ytbflocamicebhaa", sum := "cc62b666efc7419b6376eb0536deb511e5dcfc49a13e3ae3a16b7c7916c9ef56", func := "bombarde/bombardelaw34.ReservoirLasts", spec := "reservoirLasts", unfollowed := true, recurses := true, apart := false, narrowed := true }
def ReservoirLastsUptoSaid : Prop := reservoirLastsUptoRow.holds Try.pinned (OpenSpec.upto reservoirLastsSpec)

/-- 'bombardelaw34.ReservoirRuns', WHERE WHAT IT READS IS OF BULK AT MOST 1048576: true; the input reads as it did. -/
def reservoirRunsUptoRow : OpenClaim := { program := "ytbflocamicebhaa", sum := "cc62b666efc7419b6376eb0536deb511e5dcfc49a13e3ae3a16b7c7916c9ef56", func := "bombarde/bombardelaw34.ReservoirRuns", spec := "reservoirRuns", unfollowed := true, recurses := true, apart := false, narrowed := true }
def ReservoirRunsUptoSaid : Prop := reservoirRunsUptoRow.holds Try.pinned (OpenSpec.upto reservoirRunsSpec)

/-- 'bombardelaw34.ReservoirChecks', WHERE WHAT IT READS IS OF BULK AT MOST 1048576: true; the input reads as it did. -/
def reservoirChecksUptoRow : OpenClaim := { program := "ytbflocamicebhaa", sum := "cc62b666efc7419b6376eb0536deb511e5dcfc49a13e3ae3a16b7c7916c9ef56", func := "bombarde/bombardelaw34.ReservoirChecks", spec := "reservoirChecks", unfollowed := true, recurses := true, apart := false, narrowed := true }
def ReservoirChecksUptoSaid : Prop := reservoirChecksUptoRow.holds Try.pinned (OpenSpec.upto reservoirChecksSpec)

end Rows
end Go.Proofs.Ytbflocamicebhaa
