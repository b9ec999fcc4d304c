/-
  No cell of these rows narrows 'for every input' (looked for: loops, veiled, ifaces, maps, wideKeys, modest, calm, conditions, laid).
  DERIVED. THE GIVEN ROWS OF THIS SEAT. 9 by the template 'for every input the law returns true; each argument reads behind the call as it read before'; 0 by the template 'total and deterministic' (their statements: YtoendfpfnfeccaaTotals.lean).
  GIVEN WITH THE SEED: the statements are not yours to turn. If you find one false, say at which input.
  Laid BY PROGRAM, IN A SANDBOX (cutbox-rows.mjs): the forced cells as the released guide's own fill.sh prints them over the translation a12d74f287876955… (all of the seat's roots in one cut). By AI agents, Wed Nov 11 2026. No macro, syntax, notation, axiom, sorry.
-/
import Derived.Test.YtoendfpfnfeccaaChecked
import GoSem.Claim
import GoSem.ClaimJoined
import GoSem.ClaimMapViews
import Derived.JoinedTies
import Derived.KernelRfl
namespace Go.Proofs.Ytoendfpfnfeccaa
/- THE CELL 'sum', in the pinned program and in every row, IS THE sha256 OF THE DUMP (.gsa) THAT YtoendfpfnfeccaaProg.lean LOADS. Nothing in Lean hashes anything: it is a label: what it is worth is what the hold of that sum in a sandbox is worth. -/
noncomputable def Try.pinned : Pinned := { name := "ytoendfpfnfeccaa", sum := "a12d74f2878769556eeda7b12d5beee0bc5dc145541a079879f7c0f356f732b3", checked := Try.checked }
namespace Rows
def none {H : Type} : Left H := { results := [], args := [] }

/-- 'bombardelaw07.MatchingLimits': WHATEVER THE INPUT: true; the input reads as it did. -/
def matchingLimitsSpec : ChangeSpec := { name := "matchingLimits", fn := fun _ => fun
  | [d1, d2] => { results := [.lit (.bool true)], args := [d1, d2] }
  | _ => none }
def matchingLimitsRow : OpenClaim := { program := "ytoendfpfnfeccaa", sum := "a12d74f2878769556eeda7b12d5beee0bc5dc145541a079879f7c0f356f732b3", func := "bombarde/bombardelaw07.MatchingLimits", spec := "matchingLimits", unfollowed := true, recurses := true, apart := false }
def MatchingLimitsSaid : Prop := matchingLimitsRow.holds Try.pinned (OpenSpec.ofChange matchingLimitsSpec)

/-- ITS FALSE NEIGHBOUR: 'it returns false'. Refute it at one input. -/
def matchingLimitsWrong : ChangeSpec := { name := "matchingLimits", fn := fun _ => fun
  | [d1, d2] => { results := [.lit (.bool false)], args := [d1, d2] }
  | _ => none }
def MatchingLimitsWrongFalsely : Prop := matchingLimitsRow.holds Try.pinned (OpenSpec.ofChange matchingLimitsWrong)

/-- 'bombardelaw07.MatchingMoves': WHATEVER THE INPUT: true; the input reads as it did. -/
def matchingMovesSpec : ChangeSpec := { name := "matchingMoves", fn := fun _ => fun
  | [d1, d2, d3] => { results := [.lit (.bool true)], args := [d1, d2, d3] }
  | _ => none }
def matchingMovesRow : OpenClaim := { program := "ytoendfpfnfeccaa", sum := "a12d74f2878769556eeda7b12d5beee0bc5dc145541a079879f7c0f356f732b3", func := "bombarde/bombardelaw07.MatchingMoves", spec := "matchingMoves", unfollowed := true, recurses := true, apart := false }
def MatchingMovesSaid : Prop := matchingMovesRow.holds Try.pinned (OpenSpec.ofChange matchingMovesSpec)

/-- ITS FALSE NEIGHBOUR: 'it returns false'. Refute it at one input. -/
def matchingMovesWrong : ChangeSpec := { name := "matchingMoves", fn := fun _ => fun
  | [d1, d2, d3] => { results := [.lit (.bool false)], args := [d1, d2, d3] }
  | _ => none }
def MatchingMovesWrongFalsely : Prop := matchingMovesRow.holds Try.pinned (OpenSpec.ofChange matchingMovesWrong)

/-- 'bombardelaw07.MatchingBounds': WHATEVER THE INPUT: true; the input reads as it did. -/
def matchingBoundsSpec : ChangeSpec := { name := "matchingBounds", fn := fun _ => fun
  | [d1, d2, d3] => { results := [.lit (.bool true)], args := [d1, d2, d3] }
  | _ => none }
def matchingBoundsRow : OpenClaim := { program := "ytoendfpfnfeccaa", sum := "a12d74f2878769556eeda7b12d5beee0bc5dc145541a079879f7c0f356f732b3", func := "bombarde/bombardelaw07.MatchingBounds", spec := "matchingBounds", unfollowed := true, recurses := true, apart := false }
def MatchingBoundsSaid : Prop := matchingBoundsRow.holds Try.pinned (OpenSpec.ofChange matchingBoundsSpec)

/-- ITS FALSE NEIGHBOUR: 'it returns false'. Refute it at one input. -/
def matchingBoundsWrong : ChangeSpec := { name := "matchingBounds", fn := fun _ => fun
  | [d1, d2, d3] => { results := [.lit (.bool false)], args := [d1, d2, d3] }
  | _ => none }
def MatchingBoundsWrongFalsely : Prop := matchingBoundsRow.holds Try.pinned (OpenSpec.ofChange matchingBoundsWrong)

/-- 'bombardelaw07.MatchingTotals': WHATEVER THE INPUT: true; the input reads as it did. -/
def matchingTotalsSpec : ChangeSpec := { name := "matchingTotals", fn := fun _ => fun
  | [d1, d2] => { results := [.lit (.bool true)], args := [d1, d2] }
  | _ => none }
def matchingTotalsRow : OpenClaim := { program := "ytoendfpfnfeccaa", sum := "a12d74f2878769556eeda7b12d5beee0bc5dc145541a079879f7c0f356f732b3", func := "bombarde/bombardelaw07.MatchingTotals", spec := "matchingTotals", unfollowed := true, recurses := true, apart := false }
def MatchingTotalsSaid : Prop := matchingTotalsRow.holds Try.pinned (OpenSpec.ofChange matchingTotalsSpec)

/-- ITS FALSE NEIGHBOUR: 'it returns false'. Refute it at one input. -/
def matchingTotalsWrong : ChangeSpec := { name := "matchingTotals", fn := fun _ => fun
  | [d1, d2] => { results := [.lit (.bool false)], args := [d1, d2] }
  | _ => none }
def MatchingTotalsWrongFalsely : Prop := matchingTotalsRow.holds Try.pinned (OpenSpec.ofChange matchingTotalsWrong)

/-- 'bombardelaw07.MatchingBest': WHATEVER THE INPUT: true; the input reads as it did. -/
def matchingBestSpec : ChangeSpec := { name := "matchingBest", fn := fun _ => fun
  | [d] => { results := [.lit (.bool true)], args := [d] }
  | _ => none }
def matchingBestRow : OpenClaim := { program := "ytoendfpfnfeccaa", sum := "a12d74f2878769556eeda7b12d5beee0bc5dc145541a079879f7c0f356f732b3", func := "bombarde/bombardelaw07.MatchingBest", spec := "matchingBest", unfollowed := true, recurses := true, apart := false }
def MatchingBestSaid : Prop := matchingBestRow.holds Try.pinned (OpenSpec.ofChange matchingBestSpec)

/-- ITS FALSE NEIGHBOUR: 'it returns false'. Refute it at one input. -/
def matchingBestWrong : ChangeSpec := { name := "matchingBest", fn := fun _ => fun
  | [d] => { results := [.lit (.bool false)], args := [d] }
  | _ => none }
def MatchingBestWrongFalsely : Prop := matchingBestRow.holds Try.pinned (OpenSpec.ofChange matchingBestWrong)

/-- 'bombardelaw07.MatchingVerifies': WHATEVER THE INPUT: true; the input reads as it did. -/
def matchingVerifiesSpec : ChangeSpec := { name := "matchingVerifies", fn := fun _ => fun
  | [d1, d2] => { results := [.lit (.bool true)], args := [d1, d2] }
  | _ => none }
def matchingVerifiesRow : OpenClaim := { program := "ytoendfpfnfeccaa", sum := "a12d74f2878769556eeda7b12d5beee0bc5dc145541a079879f7c0f356f732b3", func := "bombarde/bombardelaw07.MatchingVerifies", spec := "matchingVerifies", unfollowed := true, recurses := true, apart := false }
def MatchingVerifiesSaid : Prop := matchingVerifiesRow.holds Try.pinned (OpenSpec.ofChange matchingVerifiesSpec)

/-- ITS FALSE NEIGHBOUR: 'it returns false'. Refute it at one input. -/
def matchingVerifiesWrong : ChangeSpec := { name := "matchingVerifies", fn := fun _ => fun
  | [d1, d2] => { results := [.lit (.bool false)], args := [d1, d2] }
  | _ => none }
def MatchingVerifiesWrongFalsely : Prop := matchingVerifiesRow.holds Try.pinned (OpenSpec.ofChange matchingVerifiesWrong)

/-- 'bombardelaw07.MatchingPartial': WHATEVER THE INPUT: true; the input reads as it did. -/
def matchingPartialSpec : ChangeSpec := { name := "matchingPartial", fn := fun _ => fun
  | [d1, d2] => { results := [.lit (.bool true)], args := [d1, d2] }
  | _ => none }
def matchingPartialRow : OpenClaim := { program := "ytoendfpfnfeccaa", sum := "a12d74f2878769556eeda7b12d5beee0bc5dc145541a079879f7c0f356f732b3", func := "bombarde/bombardelaw07.MatchingPartial", spec := "matchingPartial", unfollowed := true, recurses := true, apart := false }
def MatchingPartialSaid : Prop := matchingPartialRow.holds Try.pinned (OpenSpec.ofChange matchingPartialSpec)

/-- ITS FALSE NEIGHBOUR: 'it returns false'. Refute it at one input. -/
def matchingPartialWrong : ChangeSpec := { name := "matchingPartial", fn := fun _ => fun
  | [d1, d2] => { results := [.lit (.bool false)], args := [d1, d2] }
  | _ => none }
def MatchingPartialWrongFalsely : Prop := matchingPartialRow.holds Try.pinned (OpenSpec.ofChange matchingPartialWrong)

/-- 'bombardelaw07.MatchingVerifiesPartial': WHATEVER THE INPUT: true; the input reads as it did. -/
def matchingVerifiesPartialSpec : ChangeSpec := { name := "matchingVerifiesPartial", fn := fun _ => fun
  | [d1, d2] => { results := [.lit (.bool true)], args := [d1, d2] }
  | _ => none }
def matchingVerifiesPartialRow : OpenClaim := { program := "ytoendfpfnfeccaa", sum := "a12d74f2878769556eeda7b12d5beee0bc5dc145541a079879f7c0f356f732b3", func := "bombarde/bombardelaw07.MatchingVerifiesPartial", spec := "matchingVerifiesPartial", unfollowed := true, recurses := true, apart := false }
def MatchingVerifiesPartialSaid : Prop := matchingVerifiesPartialRow.holds Try.pinned (OpenSpec.ofChange matchingVerifiesPartialSpec)

/-- ITS FALSE NEIGHBOUR: 'it returns false'. Refute it at one input. -/
def matchingVerifiesPartialWrong : ChangeSpec := { name := "matchingVerifiesPartial", fn := fun _ => fun
  | [d1, d2] => { results := [.lit (.bool false)], args := [d1, d2] }
  | _ => none }
def MatchingVerifiesPartialWrongFalsely : Prop := matchingVerifiesPartialRow.holds Try.pinned (OpenSpec.ofChange matchingVerifiesPartialWrong)

/-- 'bombardelaw07.MatchingChecks': WHATEVER THE INPUT: true; the input reads as it did. -/
def matchingChecksSpec : ChangeSpec := { name := "matchingChecks", fn := fun _ => fun
  | [d1, d2] => { results := [.lit (.bool true)], args := [d1, d2] }
  | _ => none }
def matchingChecksRow : OpenClaim := { program := "ytoendfpfnfeccaa", sum := "a12d74f2878769556eeda7b12d5beee0bc5dc145541a079879f7c0f356f732b3", func := "bombarde/bombardelaw07.MatchingChecks", spec := "matchingChecks", unfollowed := true, recurses := true, apart := false }
def MatchingChecksSaid : Prop := matchingChecksRow.holds Try.pinned (OpenSpec.ofChange matchingChecksSpec)

/-- ITS FALSE NEIGHBOUR: 'it returns false'. Refute it at one input. -/
def matchingChecksWrong : ChangeSpec := { name := "matchingChecks", fn := fun _ => fun
  | [d1, d2] => { results := [.lit (.bool false)], args := [d1, d2] }
  | _ => none }
def MatchingChecksWrongFalsely : Prop := matchingChecksRow.holds Try.pinned (OpenSpec.ofChange matchingChecksWrong)

/- THE SECOND FORM. 'bulk': how many values and letters a reading holds, each counted each time it is reached (what is shared counts as often as it is met; a slice's spare places count too). A statement '..UptoSaid' is the law's where the arguments, and the package variables that the reading takes, are together of bulk at most 1048576: NARROWER than '..Said'. Prove '..Said' where nothing that the law and all that it calls make is longer than what came in: it says more and counts as full. Else prove '..UptoSaid'. A law counts once. -/
mutual
def uptoBulk {H : Type} : DataW H → Nat
  | .lit (.string bytes) => bytes.length + 1
  | .lit _ => 1
  | .nil => 1
  | .ptr d => uptoBulk d + 1
  | .slice elems spare => uptoBulkAll elems + uptoBulkAll spare + 1
  | .agg parts => uptoBulkAll parts + 1
  | .iface _ d => uptoBulk d + 1
  | .map entries => uptoBulkEntries entries + 1
  | .held _ => 1
def uptoBulkAll {H : Type} : List (DataW H) → Nat
  | [] => 0
  | d :: r => uptoBulk d + uptoBulkAll r
def uptoBulkEntries {H : Type} : List (Lit × DataW H) → Nat
  | [] => 0
  | x :: r => uptoBulkEntry x + uptoBulkEntries r
def uptoBulkEntry {H : Type} : Lit × DataW H → Nat
  | (.string bytes, d) => bytes.length + uptoBulk d + 1
  | (_, d) => uptoBulk d + 1
 end
def uptoSmall : (H : Type) → List (DataW H) → Bool := fun _ ds => decide (uptoBulkAll ds ≤ 1048576)
def OpenSpec.upto (s : _root_.Go.ChangeSpec) : _root_.Go.OpenSpec := { _root_.Go.OpenSpec.ofChange s with cond := some uptoSmall }

/-- 'bombardelaw07.MatchingLimits', WHERE WHAT IT READS IS OF BULK AT MOST 1048576: true; the input reads as it did. -/
def matchingLimitsUptoRow : OpenClaim := { program := "ytoendfpfnfeccaa", sum := "a12d74f2878769556eeda7b12d5beee0bc5dc145541a079879f7c0f356f732b3", func := "bombarde/bombardelaw07.MatchingLimits", spec := "matchingLimits", unfollowed := true, recurses := true, apart := false, narrowed := true }
def MatchingLimitsUptoSaid : Prop := matchingLimitsUptoRow.holds Try.pinned (OpenSpec.upto matchingLimitsSpec)

/-- 'bombardelaw07.MatchingMoves', WHERE WHAT IT READS IS OF BULK AT MOST 1048576: true; the input reads as it did. -/
def matchingMovesUptoRow : OpenClaim := { program := "ytoendfpfnfeccaa", sum := "a12d74f2878769556eeda7b12d5beee0bc5dc145541a079879f7c0f356f732b3", func := "bombarde/bombardelaw07.MatchingMoves", spec := "matchingMoves", unfollowed := true, recurses := true, apart := false, narrowed := true }
def MatchingMovesUptoSaid : Prop := matchingMovesUptoRow.holds Try.pinned (OpenSpec.upto matchingMovesSpec)

/-- 'bombardelaw07.MatchingBounds', WHERE WHAT IT READS IS OF BULK AT MOST 1048576: true; the input reads as it did. -/
def matchingBoundsUptoRow : OpenClaim := { program := "ytoendfpfnfeccaa", sum := "a12d74f2878769556eeda7b12d5beee0bc5dc145541a079879f7c0f356f732b3", func := "bombarde/bombardelaw07.MatchingBounds", spec := "matchingBounds", unfollowed := true, recurses := true, apart := false, narrowed := true }
def MatchingBoundsUptoSaid : Prop := matchingBoundsUptoRow.holds Try.pinned (OpenSpec.upto matchingBoundsSpec)

/-- 'bombardelaw07.MatchingTotals', WHERE WHAT IT READS IS OF BULK AT MOST 1048576: true; the input reads as it did. -/
def matchingTotalsUptoRow : OpenClaim := { program := "ytoendfpfnfeccaa", sum := "a12d74f2878769556eeda7b12d5beee0bc5dc145541a079879f7c0f356f732b3", func := "bombarde/bombardelaw07.MatchingTotals", spec := "matchingTotals", unfollowed := true, recurses := true, apart := false, narrowed := true }
def MatchingTotalsUptoSaid : Prop := matchingTotalsUptoRow.holds Try.pinned (OpenSpec.upto matchingTotalsSpec)

/-- 'bombardelaw07.MatchingBest', WHERE WHAT IT READS IS OF BULK AT MOST 1048576: true; the input reads as it did. -/
def matchingBestUptoRow : OpenClaim := { program := "ytoendfpfnfeccaa", sum := "a12d74f2878769556eeda7b12d5beee0bc5dc145541a079879f7c0f356f732b3", func := "bombarde/bombardelaw07.MatchingBest", spec := "matchingBest", unfollowed := true, recurses := true, apart := false, narrowed := true }
def MatchingBestUptoSaid : Prop := matchingBestUptoRow.holds Try.pinned (OpenSpec.upto matchingBestSpec)

/-- 'bombardelaw07.MatchingVerifies', WHERE WHAT IT READS IS OF BULK AT MOST 1048576: true; the input reads as it did. -/
def matchingVerifiesUptoRow : OpenClaim := { program := "ytoendfpfnfeccaa", sum := "a12d74f2878769556eeda7b12d5beee0bc5dc145541a079879f7c0f356f732b3", func := "bombarde/bombardelaw07.MatchingVerifies", spec := "matchingVerifies", unfollowed := true, recurses := true, apart := false, narrowed := true }
def MatchingVerifiesUptoSaid : Prop := matchingVerifiesUptoRow.holds Try.pinned (OpenSpec.upto matchingVerifiesSpec)

/-- 'bombardelaw07.MatchingPartial', WHERE WHAT IT READS IS OF BULK AT MOST 1048576: true; the input reads as it did. -/
def matchingPartialUptoRow : OpenClaim := { program := "ytoendfpfnfeccaa", sum := "a12d74f2878769556eeda7b12d5beee0bc5dc145541a079879f7c0f356f732b3", func := "bombarde/bombardelaw07.MatchingPartial", spec := "matchingPartial", unfollowed := true, recurses := true, apart := false, narrowed := true }
def MatchingPartialUptoSaid : Prop := matchingPartialUptoRow.holds Try.pinned (OpenSpec.upto matchingPartialSpec)

/-- 'bombardelaw07.MatchingVerifiesPartial', WHERE WHAT IT READS IS OF BULK AT MOST 1048576: true; the input reads as it did. -/
def matchingVerifiesPartialUptoRow : OpenClaim := { program := "ytoendfpfnfeccaa", sum := "a12d74f2878769556eeda7b12d5beee0bc5dc145541a079879f7c0f356f732b3", func := "bombarde/bombardelaw07.MatchingVerifiesPartial", spec := "matchingVerifiesPartial", unfollowed := true, recurses := true, apart := false, narrowed := true }
def MatchingVerifiesPartialUptoSaid : Prop := matchingVerifiesPartialUptoRow.holds Try.pinned (OpenSpec.upto matchingVerifiesPartialSpec)

/-- 'bombardelaw07.MatchingChecks', WHERE WHAT IT READS IS OF BULK AT MOST 1048576: true; the input reads as it did. -/
def matchingChecksUptoRow : OpenClaim := { program := "ytoendfpfnfeccaa", sum := "a12d74f2878769556eeda7b12d5beee0bc5dc145541a079879f7c0f356f732b3", func := "bombarde/bombardelaw07.MatchingChecks", spec := "matchingChecks", unfollowed := true, recurses := true, apart := false, narrowed := true }
def MatchingChecksUptoSaid : Prop := matchingChecksUptoRow.holds Try.pinned (OpenSpec.upto matchingChecksSpec)

end Rows
end Go.Proofs.Ytoendfpfnfeccaa
