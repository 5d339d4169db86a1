/-
  The closed fact that all statements of layer 14 begin with, run by the kernel.
-/
import Derived.Test.YtkkolfaecabloaaGreatSpaceA
namespace Go.Proofs.YtkkolfaecabloaaGreat.space
open Go CSim
set_option maxRecDepth 100000
set_option linter.unusedSimpArgs false
set_option linter.unusedVariables false

theorem awake_run : isTrue ((CSim.run Tryz.prog exts 1000).fn 20 [] H00) = true := by kernel_rfl
noncomputable def all : Ext := extOr (extTrue [20]) exts
theorem all_mono : ExtMono all := extOr_mono (extTrue_mono _) exts_mono
theorem all_ok : ExtOk Tryz.prog all := extOr_ok (extTrue_ok fun g hg => by
  cases hg with
  | head => exact ⟨_, (run_ok (drawAll mixed) (namesOk names) exts_ok exts_mono 1000).fn, awake_run⟩
  | tail _ h => cases h) exts_ok
noncomputable def calls : CSim.Calls := CSim.run Tryz.prog all 1000
theorem calls_ok : FnOk Tryz.prog calls.fn := (run_ok (drawAll mixed) (namesOk names) all_ok all_mono 1000).fn
/-- what an argument may be of which nothing is asked -/
abbrev One : V := .s (.oth .one)
end Go.Proofs.YtkkolfaecabloaaGreat.space
