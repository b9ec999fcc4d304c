/-
  No cell of these rows narrows 'for every input' (looked for: loops, veiled, ifaces, maps, wideKeys, modest, calm, conditions, laid).
  DERIVED. THE GIVEN ROWS OF THIS SEAT. 9 by the template 'for every input the law returns true; each argument reads behind the call as it read before'; 0 by the template 'total and deterministic' (their statements: YtbfldhmpgealpaaTotals.lean).
  GIVEN WITH THE SEED: the statements are not yours to turn. If you find one false, say at which input.
  Laid BY PROGRAM, IN A SANDBOX (cutbox-rows.mjs): the forced cells as the released guide's own fill.sh prints them over the translation fc058ecafa9f64da… (all of the seat's roots in one cut). By AI agents, Wed Nov 11 2026. No macro, syntax, notation, axiom, sorry.
-/
import Derived.Test.YtbfldhmpgealpaaChecked
import GoSem.Claim
import GoSem.ClaimJoined
import GoSem.ClaimMapViews
import Derived.JoinedTies
import Derived.KernelRfl
namespace Go.Proofs.Ytbfldhmpgealpaa
/- THE CELL 'sum', in the pinned program and in every row, IS THE sha256 OF THE DUMP (.gsa) THAT YtbfldhmpgealpaaProg.lean LOADS. Nothing in Lean hashes anything: it is a label: what it is worth is what the hold of that sum in a sandbox is worth. -/
noncomputable def Try.pinned : Pinned := { name := "ytbfldhmpgealpaa", sum := "fc058ecafa9f64da302d6b1d898cb5ce3bbee18878326f3d8f90049ff443f15c", checked := Try.checked }
namespace Rows
def none {H : Type} : Left H := { results := [], args := [] }

/-- 'bombardelaw23.SwellShakes': WHATEVER THE INPUT: true; the input reads as it did. -/
def swellShakesSpec : ChangeSpec := { name := "swellShakes", fn := fun _ => fun
  | [d1, d2] => { results := [.lit (.bool true)], args := [d1, d2] }
  | _ => none }
def swellShakesRow : OpenClaim := { program := "ytbfldhmpgealpaa", sum := "fc058ecafa9f64da302d6b1d898cb5ce3bbee18878326f3d8f90049ff443f15c", func := "bombarde/bombardelaw23.SwellShakes", spec := "swellShakes", unfollowed := true, recurses := true, apart := false }
def SwellShakesSaid : Prop := swellShakesRow.holds Try.pinned (OpenSpec.ofChange swellShakesSpec)

/-- ITS FALSE NEIGHBOUR: 'it returns false'. Refute it at one input. -/
def swellShakesWrong : ChangeSpec := { name := "swellShakes", fn := fun _ => fun
  | [d1, d2] => { results := [.lit (.bool false)], args := [d1, d2] }
  | _ => none }
def SwellShakesWrongFalsely : Prop := swellShakesRow.holds Try.pinned (OpenSpec.ofChange swellShakesWrong)

/-- 'bombardelaw23.SwellTables': WHATEVER THE INPUT: true; the input reads as it did. -/
def swellTablesSpec : ChangeSpec := { name := "swellTables", fn := fun _ => fun
  | [d1, d2, d3] => { results := [.lit (.bool true)], args := [d1, d2, d3] }
  | _ => none }
def swellTablesRow : OpenClaim := { program := "ytbfldhmpgealpaa", sum := "fc058ecafa9f64da302d6b1d898cb5ce3bbee18878326f3d8f90049ff443f15c", func := "bombarde/bombardelaw23.SwellTables", spec := "swellTables", unfollowed := true, recurses := true, apart := false }
def SwellTablesSaid : Prop := swellTablesRow.holds Try.pinned (OpenSpec.ofChange swellTablesSpec)

/-- ITS FALSE NEIGHBOUR: 'it returns false'. Refute it at one input. -/
def swellTablesWrong : ChangeSpec := { name := "swellTables", fn := fun _ => fun
  | [d1, d2, d3] => { results := [.lit (.bool false)], args := [d1, d2, d3] }
  | _ => none }
def SwellTablesWrongFalsely : Prop := swellTablesRow.holds Try.pinned (OpenSpec.ofChange swellTablesWrong)

/-- 'bombardelaw23.SwellOpens': WHATEVER THE INPUT: true; the input reads as it did. -/
def swellOpensSpec : ChangeSpec := { name := "swellOpens", fn := fun _ => fun
  | [d1, d2, d3] => { results := [.lit (.bool true)], args := [d1, d2, d3] }
  | _ => none }
def swellOpensRow : OpenClaim := { program := "ytbfldhmpgealpaa", sum := "fc058ecafa9f64da302d6b1d898cb5ce3bbee18878326f3d8f90049ff443f15c", func := "bombarde/bombardelaw23.SwellOpens", spec := "swellOpens", unfollowed := true, recurses := true, apart := false }
def SwellOpensSaid : Prop := swellOpensRow.holds Try.pinned (OpenSpec.ofChange swellOpensSpec)

/-- ITS FALSE NEIGHBOUR: 'it returns false'. Refute it at one input. -/
def swellOpensWrong : ChangeSpec := { name := "swellOpens", fn := fun _ => fun
  | [d1, d2, d3] => { results := [.lit (.bool false)], args := [d1, d2, d3] }
  | _ => none }
def SwellOpensWrongFalsely : Prop := swellOpensRow.holds Try.pinned (OpenSpec.ofChange swellOpensWrong)

/-- 'bombardelaw23.SwellBoxes': WHATEVER THE INPUT: true; the input reads as it did. -/
def swellBoxesSpec : ChangeSpec := { name := "swellBoxes", fn := fun _ => fun
  | [d1, d2] => { results := [.lit (.bool true)], args := [d1, d2] }
  | _ => none }
def swellBoxesRow : OpenClaim := { program := "ytbfldhmpgealpaa", sum := "fc058ecafa9f64da302d6b1d898cb5ce3bbee18878326f3d8f90049ff443f15c", func := "bombarde/bombardelaw23.SwellBoxes", spec := "swellBoxes", unfollowed := true, recurses := true, apart := false }
def SwellBoxesSaid : Prop := swellBoxesRow.holds Try.pinned (OpenSpec.ofChange swellBoxesSpec)

/-- ITS FALSE NEIGHBOUR: 'it returns false'. Refute it at one input. -/
def swellBoxesWrong : ChangeSpec := { name := "swellBoxes", fn := fun _ => fun
  | [d1, d2] => { results := [.lit (.bool false)], args := [d1, d2] }
  | _ => none }
def SwellBoxesWrongFalsely : Prop := swellBoxesRow.holds Try.pinned (OpenSpec.ofChange swellBoxesWrong)

/-- 'bombardelaw23.SwellOrders': WHATEVER THE INPUT: true; the input reads as it did. -/
def swellOrdersSpec : ChangeSpec := { name := "swellOrders", fn := fun _ => fun
  | [d1, d2] => { results := [.lit (.bool true)], args := [d1, d2] }
  | _ => none }
def swellOrdersRow : OpenClaim := { program := "ytbfldhmpgealpaa", sum := "fc058ecafa9f64da302d6b1d898cb5ce3bbee18878326f3d8f90049ff443f15c", func := "bombarde/bombardelaw23.SwellOrders", spec := "swellOrders", unfollowed := true, recurses := true, apart := false }
def SwellOrdersSaid : Prop := swellOrdersRow.holds Try.pinned (OpenSpec.ofChange swellOrdersSpec)

/-- ITS FALSE NEIGHBOUR: 'it returns false'. Refute it at one input. -/
def swellOrdersWrong : ChangeSpec := { name := "swellOrders", fn := fun _ => fun
  | [d1, d2] => { results := [.lit (.bool false)], args := [d1, d2] }
  | _ => none }
def SwellOrdersWrongFalsely : Prop := swellOrdersRow.holds Try.pinned (OpenSpec.ofChange swellOrdersWrong)

/-- 'bombardelaw23.SwellMoves': WHATEVER THE INPUT: true; the input reads as it did. -/
def swellMovesSpec : ChangeSpec := { name := "swellMoves", fn := fun _ => fun
  | [d1, d2, d3] => { results := [.lit (.bool true)], args := [d1, d2, d3] }
  | _ => none }
def swellMovesRow : OpenClaim := { program := "ytbfldhmpgealpaa", sum := "fc058ecafa9f64da302d6b1d898cb5ce3bbee18878326f3d8f90049ff443f15c", func := "bombarde/bombardelaw23.SwellMoves", spec := "swellMoves", unfollowed := true, recurses := true, apart := false }
def SwellMovesSaid : Prop := swellMovesRow.holds Try.pinned (OpenSpec.ofChange swellMovesSpec)

/-- ITS FALSE NEIGHBOUR: 'it returns false'. Refute it at one input. -/
def swellMovesWrong : ChangeSpec := { name := "swellMoves", fn := fun _ => fun
  | [d1, d2, d3] => { results := [.lit (.bool false)], args := [d1, d2, d3] }
  | _ => none }
def SwellMovesWrongFalsely : Prop := swellMovesRow.holds Try.pinned (OpenSpec.ofChange swellMovesWrong)

/-- 'bombardelaw23.SwellGlides': WHATEVER THE INPUT: true; the input reads as it did. -/
def swellGlidesSpec : ChangeSpec := { name := "swellGlides", fn := fun _ => fun
  | [d1, d2, d3] => { results := [.lit (.bool true)], args := [d1, d2, d3] }
  | _ => none }
def swellGlidesRow : OpenClaim := { program := "ytbfldhmpgealpaa", sum := "fc058ecafa9f64da302d6b1d898cb5ce3bbee18878326f3d8f90049ff443f15c", func := "bombarde/bombardelaw23.SwellGlides", spec := "swellGlides", unfollowed := true, recurses := true, apart := false }
def SwellGlidesSaid : Prop := swellGlidesRow.holds Try.pinned (OpenSpec.ofChange swellGlidesSpec)

/-- ITS FALSE NEIGHBOUR: 'it returns false'. Refute it at one input. -/
def swellGlidesWrong : ChangeSpec := { name := "swellGlides", fn := fun _ => fun
  | [d1, d2, d3] => { results := [.lit (.bool false)], args := [d1, d2, d3] }
  | _ => none }
def SwellGlidesWrongFalsely : Prop := swellGlidesRow.holds Try.pinned (OpenSpec.ofChange swellGlidesWrong)

/-- 'bombardelaw23.SwellSums': WHATEVER THE INPUT: true; the input reads as it did. -/
def swellSumsSpec : ChangeSpec := { name := "swellSums", fn := fun _ => fun
  | [d1, d2, d3] => { results := [.lit (.bool true)], args := [d1, d2, d3] }
  | _ => none }
def swellSumsRow : OpenClaim := { program := "ytbfldhmpgealpaa", sum := "fc058ecafa9f64da302d6b1d898cb5ce3bbee18878326f3d8f90049ff443f15c", func := "bombarde/bombardelaw23.SwellSums", spec := "swellSums", unfollowed := true, recurses := true, apart := false }
def SwellSumsSaid : Prop := swellSumsRow.holds Try.pinned (OpenSpec.ofChange swellSumsSpec)

/-- ITS FALSE NEIGHBOUR: 'it returns false'. Refute it at one input. -/
def swellSumsWrong : ChangeSpec := { name := "swellSums", fn := fun _ => fun
  | [d1, d2, d3] => { results := [.lit (.bool false)], args := [d1, d2, d3] }
  | _ => none }
def SwellSumsWrongFalsely : Prop := swellSumsRow.holds Try.pinned (OpenSpec.ofChange swellSumsWrong)

/-- 'bombardelaw23.SwellSteady': WHATEVER THE INPUT: true; the input reads as it did. -/
def swellSteadySpec : ChangeSpec := { name := "swellSteady", fn := fun _ => fun
  | [d1, d2, d3] => { results := [.lit (.bool true)], args := [d1, d2, d3] }
  | _ => none }
def swellSteadyRow : OpenClaim := { program := "ytbfldhmpgealpaa", sum := "fc058ecafa9f64da302d6b1d898cb5ce3bbee18878326f3d8f90049ff443f15c", func := "bombarde/bombardelaw23.SwellSteady", spec := "swellSteady", unfollowed := true, recurses := true, apart := false }
def SwellSteadySaid : Prop := swellSteadyRow.holds Try.pinned (OpenSpec.ofChange swellSteadySpec)

/-- ITS FALSE NEIGHBOUR: 'it returns false'. Refute it at one input. -/
def swellSteadyWrong : ChangeSpec := { name := "swellSteady", fn := fun _ => fun
  | [d1, d2, d3] => { results := [.lit (.bool false)], args := [d1, d2, d3] }
  | _ => none }
def SwellSteadyWrongFalsely : Prop := swellSteadyRow.holds Try.pinned (OpenSpec.ofChange swellSteadyWrong)

/- THE SECOND FORM. 'bulk': how many values and letters a reading holds, each counted each time it is reached (what is shared counts as often as it is met; a slice's spare places count too). A statement '..UptoSaid' is the law's where the arguments, and the package variables that the reading takes, are together of bulk at most 1048576: NARROWER than '..Said'. Prove '..Said' where nothing that the law and all that it calls make is longer than what came in: it says more and counts as full. Else prove '..UptoSaid'. A law counts once. -/
mutual
def uptoBulk {H : Type} : DataW H → Nat
  | .lit (.string bytes) => bytes.length + 1
  | .lit _ => 1
  | .nil => 1
  | .ptr d => uptoBulk d + 1
  | .slice elems spare => uptoBulkAll elems + uptoBulkAll spare + 1
  | .agg parts => uptoBulkAll parts + 1
  | .iface _ d => uptoBulk d + 1
  | .map entries => uptoBulkEntries entries + 1
  | .held _ => 1
def uptoBulkAll {H : Type} : List (DataW H) → Nat
  | [] => 0
  | d :: r => uptoBulk d + uptoBulkAll r
def uptoBulkEntries {H : Type} : List (Lit × DataW H) → Nat
  | [] => 0
  | x :: r => uptoBulkEntry x + uptoBulkEntries r
def uptoBulkEntry {H : Type} : Lit × DataW H → Nat
  | (.string bytes, d) => bytes.length + uptoBulk d + 1
  | (_, d) => uptoBulk d + 1
 end
def uptoSmall : (H : Type) → List (DataW H) → Bool := fun _ ds => decide (uptoBulkAll ds ≤ 1048576)
def OpenSpec.upto (s : _root_.Go.ChangeSpec) : _root_.Go.OpenSpec := { _root_.Go.OpenSpec.ofChange s with cond := some uptoSmall }

/-- 'bombardelaw23.SwellShakes', WHERE WHAT IT READS IS OF BULK AT MOST 1048576: true; the input reads as it did. -/
def swellShakesUptoRow : OpenClaim := { program := "ytbfldhmpgealpaa", sum := "fc058ecafa9f64da302d6b1d898cb5ce3bbee18878326f3d8f90049ff443f15c", func := "bombarde/bombardelaw23.SwellShakes", spec := "swellShakes", unfollowed := true, recurses := true, apart := false, narrowed := true }
def SwellShakesUptoSaid : Prop := swellShakesUptoRow.holds Try.pinned (OpenSpec.upto swellShakesSpec)

/-- 'bombardelaw23.SwellTables', WHERE WHAT IT READS IS OF BULK AT MOST 1048576: true; the input reads as it did. -/
def swellTablesUptoRow : OpenClaim := { program := "ytbfldhmpgealpaa", sum := "fc058ecafa9f64da302d6b1d898cb5ce3bbee18878326f3d8f90049ff443f15c", func := "bombarde/bombardelaw23.SwellTables", spec := "swellTables", unfollowed := true, recurses := true, apart := false, narrowed := true }
def SwellTablesUptoSaid : Prop := swellTablesUptoRow.holds Try.pinned (OpenSpec.upto swellTablesSpec)

/-- 'bombardelaw23.SwellOpens', WHERE WHAT IT READS IS OF BULK AT MOST 1048576: true; the input reads as it did. -/
def swellOpensUptoRow : OpenClaim := { program := "ytbfldhmpgealpaa", sum := "fc058ecafa9f64da302d6b1d898cb5ce3bbee18878326f3d8f90049ff443f15c", func := "bombarde/bombardelaw23.SwellOpens", spec := "swellOpens", unfollowed := true, recurses := true, apart := false, narrowed := true }
def SwellOpensUptoSaid : Prop := swellOpensUptoRow.holds Try.pinned (OpenSpec.upto swellOpensSpec)

/-- 'bombardelaw23.SwellBoxes', WHERE WHAT IT READS IS OF BULK AT MOST 1048576: true; the input reads as it did. -/
def swellBoxesUptoRow : OpenClaim := { program := "ytbfldhmpgealpaa", sum := "fc058ecafa9f64da302d6b1d898cb5ce3bbee18878326f3d8f90049ff443f15c", func := "bombarde/bombardelaw23.SwellBoxes", spec := "swellBoxes", unfollowed := true, recurses := true, apart := false, narrowed := true }
def SwellBoxesUptoSaid : Prop := swellBoxesUptoRow.holds Try.pinned (OpenSpec.upto swellBoxesSpec)

/-- 'bombardelaw23.SwellOrders', WHERE WHAT IT READS IS OF BULK AT MOST 1048576: true; the input reads as it did. -/
def swellOrdersUptoRow : OpenClaim := { program := "ytbfldhmpgealpaa", sum := "fc058ecafa9f64da302d6b1d898cb5ce3bbee18878326f3d8f90049ff443f15c", func := "bombarde/bombardelaw23.SwellOrders", spec := "swellOrders", unfollowed := true, recurses := true, apart := false, narrowed := true }
def SwellOrdersUptoSaid : Prop := swellOrdersUptoRow.holds Try.pinned (OpenSpec.upto swellOrdersSpec)

/-- 'bombardelaw23.SwellMoves', WHERE WHAT IT READS IS OF BULK AT MOST 1048576: true; the input reads as it did. -/
def swellMovesUptoRow : OpenClaim := { program := "ytbfldhmpgealpaa", sum := "fc058ecafa9f64da302d6b1d898cb5ce3bbee18878326f3d8f90049ff443f15c", func := "bombarde/bombardelaw23.SwellMoves", spec := "swellMoves", unfollowed := true, recurses := true, apart := false, narrowed := true }
def SwellMovesUptoSaid : Prop := swellMovesUptoRow.holds Try.pinned (OpenSpec.upto swellMovesSpec)

/-- 'bombardelaw23.SwellGlides', WHERE WHAT IT READS IS OF BULK AT MOST 1048576: true; the input reads as it did. -/
def swellGlidesUptoRow : OpenClaim := { program := "ytbfldhmpgealpaa", sum := "fc058ecafa9f64da302d6b1d898cb5ce3bbee18878326f3d8f90049ff443f15c", func := "bombarde/bombardelaw23.SwellGlides", spec := "swellGlides", unfollowed := true, recurses := true, apart := false, narrowed := true }
def SwellGlidesUptoSaid : Prop := swellGlidesUptoRow.holds Try.pinned (OpenSpec.upto swellGlidesSpec)

/-- 'bombardelaw23.SwellSums', WHERE WHAT IT READS IS OF BULK AT MOST 1048576: true; the input reads as it did. -/
def swellSumsUptoRow : OpenClaim := { program := "ytbfldhmpgealpaa", sum := "fc058ecafa9f64da302d6b1d898cb5ce3bbee18878326f3d8f90049ff443f15c", func := "bombarde/bombardelaw23.SwellSums", spec := "swellSums", unfollowed := true, recurses := true, apart := false, narrowed := true }
def SwellSumsUptoSaid : Prop := swellSumsUptoRow.holds Try.pinned (OpenSpec.upto swellSumsSpec)

/-- 'bombardelaw23.SwellSteady', WHERE WHAT IT READS IS OF BULK AT MOST 1048576: true; the input reads as it did. -/
def swellSteadyUptoRow : OpenClaim := { program := "ytbfldhmpgealpaa", sum := "fc058ecafa9f64da302d6b1d898cb5ce3bbee18878326f3d8f90049ff443f15c", func := "bombarde/bombardelaw23.SwellSteady", spec := "swellSteady", unfollowed := true, recurses := true, apart := false, narrowed := true }
def SwellSteadyUptoSaid : Prop := swellSteadyUptoRow.holds Try.pinned (OpenSpec.upto swellSteadySpec)

end Rows
end Go.Proofs.Ytbfldhmpgealpaa
