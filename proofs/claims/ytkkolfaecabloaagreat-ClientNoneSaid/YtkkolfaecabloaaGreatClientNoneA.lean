/-
  The closed fact that all statements of layer 22 begin with, run by the kernel.
-/
import Derived.Test.YtkkolfaecabloaaGreatChecked
import Derived.Test.YtkkolfaecabloaaGreatSimTop
import Derived.KernelRfl
namespace Go.Proofs.YtkkolfaecabloaaGreat.clientNone
open Go CSim
set_option maxRecDepth 100000
set_option linter.unusedSimpArgs false
set_option linter.unusedVariables false
theorem mixed : Tryz.prog.follows .mixedOrders = true := by kernel_rfl
theorem names : namesOkB Tryz.prog = true := by kernel_rfl
/-! ### the runs, by the kernel -/
theorem awake_run : isTrue ((CSim.run Tryz.prog ext0 1000).fn 11 [] H00) = true := by kernel_rfl
end Go.Proofs.YtkkolfaecabloaaGreat.clientNone
