/-
  The statement's runs, by the kernel: part 3.
-/
import Derived.Test.YtkkolfaecabloaaGreatSpaceB
namespace Go.Proofs.YtkkolfaecabloaaGreat.space
open Go CSim
set_option maxRecDepth 100000
set_option linter.unusedSimpArgs false
set_option linter.unusedVariables false

theorem none_17 : isTrue (calls.fn 5 [.s (.int kI 17), One, One, One] H00) = true := by kernel_rfl
theorem none_18 : isTrue (calls.fn 5 [.s (.int kI 18), One, One, One] H00) = true := by kernel_rfl
theorem none_19 : isTrue (calls.fn 5 [.s (.int kI 19), One, One, One] H00) = true := by kernel_rfl
theorem none_20 : isTrue (calls.fn 5 [.s (.int kI 20), One, One, One] H00) = true := by kernel_rfl
theorem none_21 : isTrue (calls.fn 5 [.s (.int kI 21), One, One, One] H00) = true := by kernel_rfl
theorem none_22 : isTrue (calls.fn 5 [.s (.int kI 22), One, One, One] H00) = true := by kernel_rfl
theorem none_23 : isTrue (calls.fn 5 [.s (.int kI 23), One, One, One] H00) = true := by kernel_rfl
theorem none_24 : isTrue (calls.fn 5 [.s (.int kI 24), One, One, One] H00) = true := by kernel_rfl
theorem none_25 : isTrue (calls.fn 5 [.s (.int kI 25), One, One, One] H00) = true := by kernel_rfl
end Go.Proofs.YtkkolfaecabloaaGreat.space
