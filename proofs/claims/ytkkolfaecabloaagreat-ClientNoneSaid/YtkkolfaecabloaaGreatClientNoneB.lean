/-
  The statement's runs over five classes of seats and lives, by the kernel.
-/
import Derived.Test.YtkkolfaecabloaaGreatClientNoneA
namespace Go.Proofs.YtkkolfaecabloaaGreat.clientNone
open Go CSim
set_option maxRecDepth 100000
set_option linter.unusedSimpArgs false
set_option linter.unusedVariables false
theorem ext_ok : ExtOk Tryz.prog (extTrue [11]) := extTrue_ok fun g hg => by
  cases hg with
  | head => exact ⟨_, (run_ok (drawAll mixed) (namesOk names) ext0_ok ext0_mono 1000).fn, awake_run⟩
  | tail _ h => cases h
noncomputable def calls : CSim.Calls := CSim.run Tryz.prog (extTrue [11]) 1000
theorem calls_ok : FnOk Tryz.prog calls.fn := (run_ok (drawAll mixed) (namesOk names) ext_ok (extTrue_mono _) 1000).fn

/-- an int between bounds -/
abbrev R (lo hi : Int) : V := .s (.oth (.rng kI lo hi))
abbrev One : V := .s (.oth .one)
abbrev Ones (n : Nat) : V := .agg (List.replicate n (.oth .one))
abbrev rest : List V := [One, Ones 7, Ones 3, Ones 2]
abbrev lowest : Int := -9223372036854775808
abbrev highest : Int := 9223372036854775807
theorem run0 : isTrue (calls.fn 4 (R lowest (-1) :: R lowest highest :: rest) H00) = true := by kernel_rfl
theorem run1 : isTrue (calls.fn 4 (R 8 highest :: R lowest highest :: rest) H00) = true := by kernel_rfl
theorem run2 : isTrue (calls.fn 4 (R 0 7 :: R lowest 0 :: rest) H00) = true := by kernel_rfl
theorem run3 : isTrue (calls.fn 4 (R 0 7 :: R 1 1073741824 :: rest) H00) = true := by kernel_rfl
theorem run4 : isTrue (calls.fn 4 (R 0 7 :: R 1073741825 highest :: rest) H00) = true := by kernel_rfl

end Go.Proofs.YtkkolfaecabloaaGreat.clientNone
