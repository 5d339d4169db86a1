/-
  What the statements of layer 14 lean on: the program's check sum, and the sorted keys of a map, as external functions of the evaluator.
-/
import Derived.Test.YtkkolfaecabloaaGreatLays
import Derived.Test.YtkkolfaecabloaaGreatChecked
import Derived.Test.YtkkolfaecabloaaGreatSimSorted
import Derived.KernelRfl
namespace Go.Proofs.YtkkolfaecabloaaGreat.space
open Go Go.Maps Go.Sort Go.Shelf Go.RowKit
set_option maxRecDepth 100000
set_option linter.unusedSimpArgs false
set_option linter.unusedVariables false

theorem sorts (m : Nat) : AnyZI.SortsIn Tryz.prog Tryz.sortedA_ren Fence.wide m :=
  ⟨fun blk off cap ss W hH hblk hsz => callsIn_wide.2 (AnyM.slices_Sort_int Tryz.sortA blk off cap ss W hH hblk hsz),
   fun p cap W => callsIn_wide.2 (AnyM.slices_Sort_int_none Tryz.sortA p cap W)⟩
theorem sorted_ok : CSim.SortedOk Tryz.prog 70 125 3 := by
  refine ⟨Tryz.underlying3, enters_of Tryz.func70 (by kernel_rfl) rfl, fun Bm b nn D0 R w hBm hcell hown hmax hbytes => ?_⟩
  have hseq : SeqGives Fence.wide 2 Tryz.prog 125 #[.pointer (some ⟨Bm, 0, none⟩)] encZ (fun ss => ss.Perm (intKeys D0)) (Maps.size D0) w :=
    AnyZI.keys_gives (ρ := Tryz.keysA_ren) { Tryz.keysA with } Fence.wide _ trivial rfl (by omega) Bm b nn D0 _ hBm hcell hown
  have cS := AnyZI.sorted_in Tryz.sortedA Fence.wide 5 trivial trivial trivial trivial rfl (by omega) (sorts _) (enters_of Tryz.func58 (by kernel_rfl) rfl) 125 #[.pointer (some ⟨Bm, 0, none⟩)] trivial (enters_of Tryz.func125 (by kernel_rfl) rfl) _ _ hmax hbytes _ hseq
  exact callsIn_wide.1 cS

theorem mixed : Tryz.prog.follows .mixedOrders = true := by kernel_rfl
theorem names : CSim.namesOkB Tryz.prog = true := by kernel_rfl
theorem sum_is : CSim.compF Tryz.prog 199 = some CSim.sumC := by kernel_rfl
noncomputable def exts : CSim.Ext := CSim.extOr (CSim.extSum [199]) (CSim.extSorted 70 125)
theorem exts_mono : CSim.ExtMono exts := CSim.extOr_mono (CSim.extSum_mono _) (CSim.extSorted_mono _ _)
theorem exts_ok : CSim.ExtOk Tryz.prog exts := CSim.extOr_ok (CSim.extSum_ok (CSim.drawAll mixed) (CSim.namesOk names) fun f hf => by
  cases hf with
  | head => exact sum_is
  | tail _ h => cases h) (CSim.extSorted_ok sorted_ok)
end Go.Proofs.YtkkolfaecabloaaGreat.space
