/-
  The statement's runs, by the kernel: part 2.
-/
import Derived.Test.YtkkolfaecabloaaGreatSpaceB
namespace Go.Proofs.YtkkolfaecabloaaGreat.space
open Go CSim
set_option maxRecDepth 100000
set_option linter.unusedSimpArgs false
set_option linter.unusedVariables false

theorem none_8 : isTrue (calls.fn 5 [.s (.int kI 8), One, One, One] H00) = true := by kernel_rfl
theorem none_9 : isTrue (calls.fn 5 [.s (.int kI 9), One, One, One] H00) = true := by kernel_rfl
theorem none_10 : isTrue (calls.fn 5 [.s (.int kI 10), One, One, One] H00) = true := by kernel_rfl
theorem none_11 : isTrue (calls.fn 5 [.s (.int kI 11), One, One, One] H00) = true := by kernel_rfl
theorem none_12 : isTrue (calls.fn 5 [.s (.int kI 12), One, One, One] H00) = true := by kernel_rfl
theorem none_13 : isTrue (calls.fn 5 [.s (.int kI 13), One, One, One] H00) = true := by kernel_rfl
theorem none_14 : isTrue (calls.fn 5 [.s (.int kI 14), One, One, One] H00) = true := by kernel_rfl
theorem none_15 : isTrue (calls.fn 5 [.s (.int kI 15), One, One, One] H00) = true := by kernel_rfl
theorem none_16 : isTrue (calls.fn 5 [.s (.int kI 16), One, One, One] H00) = true := by kernel_rfl
end Go.Proofs.YtkkolfaecabloaaGreat.space
