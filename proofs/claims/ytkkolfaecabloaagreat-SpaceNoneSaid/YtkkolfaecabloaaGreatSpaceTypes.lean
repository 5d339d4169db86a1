/-
  Closed facts on the program's types.
-/
import Derived.Test.YtkkolfaecabloaaGreatRows
import Derived.Test.YtkkolfaecabloaaGreatSimOpen
import Derived.WalkKit
import Derived.ProofKit
import Derived.OpenShut
import Derived.ChangeOld
import Derived.Below
namespace Go.Proofs.YtkkolfaecabloaaGreat.space
open Go Go.ChangeShapes Go.WideShapes Go.ChangeAt Go.RowKit CSim
set_option maxRecDepth 100000
set_option linter.unusedSimpArgs false
set_option linter.unusedVariables false

theorem own : ownKnob Tryz.prog.godebug = none := by kernel_rfl
theorem laidOut : laidOutB Tryz.prog = true := by kernel_rfl
theorem t3 : oneT Tryz.prog 3 = true := by kernel_rfl
theorem t30 : oneT Tryz.prog 30 = true := by kernel_rfl
theorem readable : readB Tryz.prog [3, 3, 3, 30] = true := by kernel_rfl
theorem bounds {a : Int} (h : (Lit.int .i64 a).wf = true) : -9223372036854775808 ≤ a ∧ a ≤ 9223372036854775807 := by
  simpa [Lit.wf, IntKind.min, IntKind.max, IntKind.signed, IntKind.bits] using h
end Go.Proofs.YtkkolfaecabloaaGreat.space
