/-
  No cell of these rows narrows 'for every input' (looked for: loops, veiled, ifaces, maps, wideKeys, modest, calm, conditions, laid).
  DERIVED. THE GIVEN ROWS OF THIS SEAT. 4 by the template 'for every input the law returns true; each argument reads behind the call as it read before'; 0 by the template 'total and deterministic' (their statements: YtgnamahdchefnaaTotals.lean).
  GIVEN WITH THE SEED: the statements are not yours to turn. If you find one false, say at which input.
  Laid BY PROGRAM, IN A SANDBOX (cutbox-rows.mjs): the forced cells as the released guide's own fill.sh prints them over the translation 97f7fdd1d0ff94f0… (all of the seat's roots in one cut). By AI agents, Wed Nov 11 2026. No macro, syntax, notation, axiom, sorry.
-/
import Derived.Test.YtgnamahdchefnaaChecked
import GoSem.Claim
import GoSem.ClaimJoined
import GoSem.ClaimMapViews
import Derived.JoinedTies
import Derived.KernelRfl
namespace Go.Proofs.Ytgnamahdchefnaa
/- THE CELL 'sum', in the pinned program and in every row, IS THE sha256 OF THE DUMP (.gsa) THAT YtgnamahdchefnaaProg.lean LOADS. Nothing in Lean hashes anything: it is a label: what it is worth is what the hold of that sum in a sandbox is worth. -/
noncomputable def Try.pinned : Pinned := { name := "ytgnamahdchefnaa", sum := "97f7fdd1d0ff94f02f205d3637ceaf6ea5bf952ed1ba390ef44a0bbe96cec8e3", checked := Try.checked }
namespace Rows
def none {H : Type} : Left H := { results := [], args := [] }

/-- 'bombardelaw17.ControlUndoes': WHATEVER THE INPUT: true; the input reads as it did. -/
def controlUndoesSpec : ChangeSpec := { name := "controlUndoes", fn := fun _ => fun
  | [d1, d2, d3] => { results := [.lit (.bool true)], args := [d1, d2, d3] }
  | _ => none }
def controlUndoesRow : OpenClaim := { program := "ytgnamahdchefnaa", sum := "97f7fdd1d0ff94f02f205d3637ceaf6ea5bf952ed1ba390ef44a0bbe96cec8e3", func := "bombarde/bombardelaw17.ControlUndoes", spec := "controlUndoes", unfollowed := true, recurses := true, apart := false }
def ControlUndoesSaid : Prop := controlUndoesRow.holds Try.pinned (OpenSpec.ofChange controlUndoesSpec)

/-- ITS FALSE NEIGHBOUR: 'it returns false'. Refute it at one input. -/
def controlUndoesWrong : ChangeSpec := { name := "controlUndoes", fn := fun _ => fun
  | [d1, d2, d3] => { results := [.lit (.bool false)], args := [d1, d2, d3] }
  | _ => none }
def ControlUndoesWrongFalsely : Prop := controlUndoesRow.holds Try.pinned (OpenSpec.ofChange controlUndoesWrong)

/-- 'bombardelaw17.ControlRecalls': WHATEVER THE INPUT: true; the input reads as it did. -/
def controlRecallsSpec : ChangeSpec := { name := "controlRecalls", fn := fun _ => fun
  | [d1, d2, d3] => { results := [.lit (.bool true)], args := [d1, d2, d3] }
  | _ => none }
def controlRecallsRow : OpenClaim := { program := "ytgnamahdchefnaa", sum := "97f7fdd1d0ff94f02f205d3637ceaf6ea5bf952ed1ba390ef44a0bbe96cec8e3", func := "bombarde/bombardelaw17.ControlRecalls", spec := "controlRecalls", unfollowed := true, recurses := true, apart := false }
def ControlRecallsSaid : Prop := controlRecallsRow.holds Try.pinned (OpenSpec.ofChange controlRecallsSpec)

/-- ITS FALSE NEIGHBOUR: 'it returns false'. Refute it at one input. -/
def controlRecallsWrong : ChangeSpec := { name := "controlRecalls", fn := fun _ => fun
  | [d1, d2, d3] => { results := [.lit (.bool false)], args := [d1, d2, d3] }
  | _ => none }
def ControlRecallsWrongFalsely : Prop := controlRecallsRow.holds Try.pinned (OpenSpec.ofChange controlRecallsWrong)

/-- 'bombardelaw17.ControlApart': WHATEVER THE INPUT: true; the input reads as it did. -/
def controlApartSpec : ChangeSpec := { name := "controlApart", fn := fun _ => fun
  | [d1, d2, d3] => { results := [.lit (.bool true)], args := [d1, d2, d3] }
  | _ => none }
def controlApartRow : OpenClaim := { program := "ytgnamahdchefnaa", sum := "97f7fdd1d0ff94f02f205d3637ceaf6ea5bf952ed1ba390ef44a0bbe96cec8e3", func := "bombarde/bombardelaw17.ControlApart", spec := "controlApart", unfollowed := true, recurses := true, apart := false }
def ControlApartSaid : Prop := controlApartRow.holds Try.pinned (OpenSpec.ofChange controlApartSpec)

/-- ITS FALSE NEIGHBOUR: 'it returns false'. Refute it at one input. -/
def controlApartWrong : ChangeSpec := { name := "controlApart", fn := fun _ => fun
  | [d1, d2, d3] => { results := [.lit (.bool false)], args := [d1, d2, d3] }
  | _ => none }
def ControlApartWrongFalsely : Prop := controlApartRow.holds Try.pinned (OpenSpec.ofChange controlApartWrong)

/-- 'bombardelaw17.ControlRegistrations': WHATEVER THE INPUT: true; the input reads as it did. -/
def controlRegistrationsSpec : ChangeSpec := { name := "controlRegistrations", fn := fun _ => fun
  | [d1, d2, d3] => { results := [.lit (.bool true)], args := [d1, d2, d3] }
  | _ => none }
def controlRegistrationsRow : OpenClaim := { program := "ytgnamahdchefnaa", sum := "97f7fdd1d0ff94f02f205d3637ceaf6ea5bf952ed1ba390ef44a0bbe96cec8e3", func := "bombarde/bombardelaw17.ControlRegistrations", spec := "controlRegistrations", unfollowed := true, recurses := true, apart := false }
def ControlRegistrationsSaid : Prop := controlRegistrationsRow.holds Try.pinned (OpenSpec.ofChange controlRegistrationsSpec)

/-- ITS FALSE NEIGHBOUR: 'it returns false'. Refute it at one input. -/
def controlRegistrationsWrong : ChangeSpec := { name := "controlRegistrations", fn := fun _ => fun
  | [d1, d2, d3] => { results := [.lit (.bool false)], args := [d1, d2, d3] }
  | _ => none }
def ControlRegistrationsWrongFalsely : Prop := controlRegistrationsRow.holds Try.pinned (OpenSpec.ofChange controlRegistrationsWrong)

/- THE SECOND FORM. 'bulk': how many values and letters a reading holds, each counted each time it is reached (what is shared counts as often as it is met; a slice's spare places count too). A statement '..UptoSaid' is the law's where the arguments, and the package variables that the reading takes, are together of bulk at most 1048576: NARROWER than '..Said'. Prove '..Said' where nothing that the law and all that it calls make is longer than what came in: it says more and counts as full. Else prove '..UptoSaid'. A law counts once. -/
mutual
def uptoBulk {H : Type} : DataW H → Nat
  | .lit (.string bytes) => bytes.length + 1
  | .lit _ => 1
  | .nil => 1
  | .ptr d => uptoBulk d + 1
  | .slice elems spare => uptoBulkAll elems + uptoBulkAll spare + 1
  | .agg parts => uptoBulkAll parts + 1
  | .iface _ d => uptoBulk d + 1
  | .map entries => uptoBulkEntries entries + 1
  | .held _ => 1
def uptoBulkAll {H : Type} : List (DataW H) → Nat
  | [] => 0
  | d :: r => uptoBulk d + uptoBulkAll r
def uptoBulkEntries {H : Type} : List (Lit × DataW H) → Nat
  | [] => 0
  | x :: r => uptoBulkEntry x + uptoBulkEntries r
def uptoBulkEntry {H : Type} : Lit × DataW H → Nat
  | (.string bytes, d) => bytes.length + uptoBulk d + 1
  | (_, d) => uptoBulk d + 1
 end
def uptoSmall : (H : Type) → List (DataW H) → Bool := fun _ ds => decide (uptoBulkAll ds ≤ 1048576)
def OpenSpec.upto (s : _root_.Go.ChangeSpec) : _root_.Go.OpenSpec := { _root_.Go.OpenSpec.ofChange s with cond := some uptoSmall }

/-- 'bombardelaw17.ControlUndoes', WHERE WHAT IT READS IS OF BULK AT MOST 1048576: true; the input reads as it did. -/
def controlUndoesUptoRow : OpenClaim := { program := "ytgnamahdchefnaa", sum := "97f7fdd1d0ff94f02f205d3637ceaf6ea5bf952ed1ba390ef44a0bbe96cec8e3", func := "bombarde/bombardelaw17.ControlUndoes", spec := "controlUndoes", unfollowed := true, recurses := true, apart := false, narrowed := true }
def ControlUndoesUptoSaid : Prop := controlUndoesUptoRow.holds Try.pinned (OpenSpec.upto controlUndoesSpec)

/-- 'bombardelaw17.ControlRecalls', WHERE WHAT IT READS IS OF BULK AT MOST 1048576: true; the input reads as it did. -/
def controlRecallsUptoRow : OpenClaim := { program := "ytgnamahdchefnaa", sum := "97f7fdd1d0ff94f02f205d3637ceaf6ea5bf952ed1ba390ef44a0bbe96cec8e3", func := "bombarde/bombardelaw17.ControlRecalls", spec := "controlRecalls", unfollowed := true, recurses := true, apart := false, narrowed := true }
def ControlRecallsUptoSaid : Prop := controlRecallsUptoRow.holds Try.pinned (OpenSpec.upto controlRecallsSpec)

/-- 'bombardelaw17.ControlApart', WHERE WHAT IT READS IS OF BULK AT MOST 1048576: true; the input reads as it did. -/
def controlApartUptoRow : OpenClaim := { program := "ytgnamahdchefnaa", sum := "97f7fdd1d0ff94f02f205d3637ceaf6ea5bf952ed1ba390ef44a0bbe96cec8e3", func := "bombarde/bombardelaw17.ControlApart", spec := "controlApart", unfollowed := true, recurses := true, apart := false, narrowed := true }
def ControlApartUptoSaid : Prop := controlApartUptoRow.holds Try.pinned (OpenSpec.upto controlApartSpec)

/-- 'bombardelaw17.ControlRegistrations', WHERE WHAT IT READS IS OF BULK AT MOST 1048576: true; the input reads as it did. -/
def controlRegistrationsUptoRow : OpenClaim := { program := "ytgnamahdchefnaa", sum := "97f7fdd1d0ff94f02f205d3637ceaf6ea5bf952ed1ba390ef44a0bbe96cec8e3", func := "bombarde/bombardelaw17.ControlRegistrations", spec := "controlRegistrations", unfollowed := true, recurses := true, apart := false, narrowed := true }
def ControlRegistrationsUptoSaid : Prop := controlRegistrationsUptoRow.holds Try.pinned (OpenSpec.upto controlRegistrationsSpec)

end Rows
end Go.Proofs.Ytgnamahdchefnaa
