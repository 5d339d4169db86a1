/-
  The statement's runs, by the kernel: part 4.
-/
import Derived.Test.YtkkolfaecabloaaGreatSpaceB
namespace Go.Proofs.YtkkolfaecabloaaGreat.space
open Go CSim
set_option maxRecDepth 100000
set_option linter.unusedSimpArgs false
set_option linter.unusedVariables false

theorem none_26 : isTrue (calls.fn 5 [.s (.int kI 26), One, One, One] H00) = true := by kernel_rfl
theorem none_27 : isTrue (calls.fn 5 [.s (.int kI 27), One, One, One] H00) = true := by kernel_rfl
theorem none_28 : isTrue (calls.fn 5 [.s (.int kI 28), One, One, One] H00) = true := by kernel_rfl
theorem none_29 : isTrue (calls.fn 5 [.s (.int kI 29), One, One, One] H00) = true := by kernel_rfl
theorem none_30 : isTrue (calls.fn 5 [.s (.int kI 30), One, One, One] H00) = true := by kernel_rfl
theorem none_31 : isTrue (calls.fn 5 [.s (.int kI 31), One, One, One] H00) = true := by kernel_rfl
theorem none_p : isTrue (calls.fn 5 [.s (.oth (.rng kI 32 9223372036854775807)), One, One, One] H00) = true := by kernel_rfl
end Go.Proofs.YtkkolfaecabloaaGreat.space
