/- What the rows of this chapter share. Conditions: none. -/
import Derived.Test.YtfefocgekmeahaaRows
import Derived.Test.YtfefocgekmeahaaW20
import Derived.ProofKit
import Derived.OpenShut
import Derived.Lib.SmallJoins
import Derived.Carry
import Derived.Deep.Fields
import Derived.ChangeSame
namespace Go.Proofs.Ytfefocgekmeahaa
open Go.ChangeShapes Go.WideShapes Go.ChangeAt Go.RowKit Go.Joins Go.Deep

theorem own : ownKnob Try.prog.godebug = none := by kernel_rfl
theorem laidOut : laidOutB Try.prog = true := by kernel_rfl
theorem wf_u8 {n : Int} (h : (Lit.int .u8 n).wf = true) : 0 ≤ n ∧ n ≤ 255 := by simpa [Lit.wf, IntKind.min, IntKind.max, IntKind.signed, IntKind.bits] using h
end Go.Proofs.Ytfefocgekmeahaa
