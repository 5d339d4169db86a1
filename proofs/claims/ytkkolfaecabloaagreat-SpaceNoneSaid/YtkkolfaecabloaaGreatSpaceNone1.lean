/-
  The statement's runs, by the kernel: part 1.
-/
import Derived.Test.YtkkolfaecabloaaGreatSpaceB
namespace Go.Proofs.YtkkolfaecabloaaGreat.space
open Go CSim
set_option maxRecDepth 100000
set_option linter.unusedSimpArgs false
set_option linter.unusedVariables false

theorem none_m : isTrue (calls.fn 5 [.s (.oth (.rng kI (-9223372036854775808) (-1))), One, One, One] H00) = true := by kernel_rfl
theorem none_0 : isTrue (calls.fn 5 [.s (.int kI 0), One, One, One] H00) = true := by kernel_rfl
theorem none_1 : isTrue (calls.fn 5 [.s (.int kI 1), One, One, One] H00) = true := by kernel_rfl
theorem none_2 : isTrue (calls.fn 5 [.s (.int kI 2), One, One, One] H00) = true := by kernel_rfl
theorem none_3 : isTrue (calls.fn 5 [.s (.int kI 3), One, One, One] H00) = true := by kernel_rfl
theorem none_4 : isTrue (calls.fn 5 [.s (.int kI 4), One, One, One] H00) = true := by kernel_rfl
theorem none_5 : isTrue (calls.fn 5 [.s (.int kI 5), One, One, One] H00) = true := by kernel_rfl
theorem none_6 : isTrue (calls.fn 5 [.s (.int kI 6), One, One, One] H00) = true := by kernel_rfl
theorem none_7 : isTrue (calls.fn 5 [.s (.int kI 7), One, One, One] H00) = true := by kernel_rfl
end Go.Proofs.YtkkolfaecabloaaGreat.space
