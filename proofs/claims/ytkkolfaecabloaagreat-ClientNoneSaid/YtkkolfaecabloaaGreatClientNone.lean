/-
  'copyholdlaw22.ClientNone' returns true, whatever the seat, the life, the moment, the call, the letter and the handle are.
  Conditions: none.
-/
import Derived.Test.YtkkolfaecabloaaGreatRows
import Derived.Test.YtkkolfaecabloaaGreatSimOpen
import Derived.Test.YtkkolfaecabloaaGreatClientNoneD
import Derived.WalkKit
import Derived.ProofKit
import Derived.OpenShut
import Derived.ChangeOld
import Derived.Below
namespace Go.Proofs.YtkkolfaecabloaaGreat.clientNone
open Go.ChangeShapes Go.WideShapes Go.ChangeAt Go.RowKit CSim
set_option maxRecDepth 100000
set_option linter.unusedSimpArgs false
set_option linter.unusedVariables false

theorem over : Rows.clientNoneRow.holds Tryz.pinned (OpenSpec.ofChange Rows.clientNoneSpec) :=
  OpenClaim.holds_of_wide 4 Tryz.f4 rfl rfl rfl rfl rfl rfl rfl ⟨rfl, rfl, rfl, rfl, rfl⟩ rfl rfl rfl rfl rfl (by kernel_rfl) Tryz.func4 (by kernel_rfl)
    (of_decide_eq_true (by kernel_rfl)) (by unfold Func.isWrapper; first | (rw [if_pos (by decide +kernel)]; kernel_rfl) | (rw [if_neg (by decide +kernel)]; exact ⟨rfl, rfl⟩))
    (fun os started H enc _ => lifted os started H enc)

/-- the statement -/
theorem proved : Rows.ClientNoneSaid := over
#print axioms proved
end Go.Proofs.YtkkolfaecabloaaGreat.clientNone
