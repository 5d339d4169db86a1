/-
  What runs do to memory: nothing; nothing, but they read it; they make one block.
-/
import Derived.Test.YtkkolfaecabloaaGreatSimLocal2
namespace CSim
set_option linter.unusedSimpArgs false
set_option linter.unusedVariables false
open Go
variable {P : Program} {n : Nat} {o : Oper}

def PureR (r : Run) : Prop := ∀ c ev h h2 v h', r c ev h = .ok v h' → h' = h ∧ r c ev h2 = .ok v h2
def ReadR (r : Run) : Prop := ∀ c ev h v h', r c ev h = .ok v h' → h' = h
def AllocR (r : Run) : Prop := ∀ c ev h v h', r c ev h = .ok v h' → h.next < most ∧ ∃ O, h' = ⟨Nat.succ h.next, h.m.set h.next (some O)⟩ ∧ ∀ m, r c ev ⟨h.next, m⟩ = .ok v ⟨Nat.succ h.next, m.set h.next (some O)⟩
theorem ok_heap {v v' : V} {h h' : Heap} (hr : Res.ok v h = .ok v' h') : h' = h := by injection hr with _ h2; exact h2.symm
theorem new_all {ob : AObj} {f : Nat → V} {h h' : Heap} {v : V} (hr : h.new ob f = .ok v h') : h.next < most ∧ ∃ O, h' = ⟨Nat.succ h.next, h.m.set h.next (some O)⟩ ∧ ∀ m, (⟨h.next, m⟩ : Heap).new ob f = .ok v ⟨Nat.succ h.next, m.set h.next (some O)⟩ := by
  obtain ⟨h1, h2, h3⟩ := Heap.new_ok hr
  refine ⟨h1, ob, h3, fun m => ?_⟩
  unfold Heap.new
  rw [fNat_eq]
  have : Nat.blt h.next most = true := nat_blt.2 h1
  simp only [this, h2]
theorem pure_rMv : ∀ a0, PureR (rMv a0) := by
  intro a0 c ev h h2 v h' hr
  simp only [rMv, asOth, asPtr, asInt, V.sc, rv, loaded, notNil, found, cut, cutBounds, fSlice_eq, fNat_eq] at hr ⊢
  repeat' split at hr
  all_goals first
    | (cases hr; done)
    | (cases hr; exact ⟨rfl, rfl⟩)
    | (cases hr; refine ⟨rfl, ?_⟩; simp_all; done)
    | (cases hr; simp_all; done)
theorem pure_rPick : ∀ a0 a1 a2, PureR (rPick a0 a1 a2) := by
  intro a0 a1 a2 c ev h h2 v h' hr
  simp only [rPick, asOth, asPtr, asInt, V.sc, rv, loaded, notNil, found, cut, cutBounds, fSlice_eq, fNat_eq] at hr ⊢
  repeat' split at hr
  all_goals first
    | (cases hr; done)
    | (cases hr; exact ⟨rfl, rfl⟩)
    | (cases hr; refine ⟨rfl, ?_⟩; simp_all; done)
    | (cases hr; simp_all; done)
theorem pure_rBuild : ∀ a0 a1, PureR (rBuild a0 a1) := by
  intro a0 a1 c ev h h2 v h' hr
  simp only [rBuild, asOth, asPtr, asInt, V.sc, rv, loaded, notNil, found, cut, cutBounds, fSlice_eq, fNat_eq] at hr ⊢
  repeat' split at hr
  all_goals first
    | (cases hr; done)
    | (cases hr; exact ⟨rfl, rfl⟩)
    | (cases hr; refine ⟨rfl, ?_⟩; simp_all; done)
    | (cases hr; simp_all; done)
theorem pure_rNilCheck : ∀ a0, PureR (rNilCheck a0) := by
  intro a0 c ev h h2 v h' hr
  simp only [rNilCheck, asOth, asPtr, asInt, V.sc, rv, loaded, notNil, found, cut, cutBounds, fSlice_eq, fNat_eq] at hr ⊢
  repeat' split at hr
  all_goals first
    | (cases hr; done)
    | (cases hr; exact ⟨rfl, rfl⟩)
    | (cases hr; refine ⟨rfl, ?_⟩; simp_all; done)
    | (cases hr; simp_all; done)
theorem pure_rNot : ∀ a0, PureR (rNot a0) := by
  intro a0 c ev h h2 v h' hr
  simp only [rNot, asOth, asPtr, asInt, V.sc, rv, loaded, notNil, found, cut, cutBounds, fSlice_eq, fNat_eq] at hr ⊢
  repeat' split at hr
  all_goals first
    | (cases hr; done)
    | (cases hr; exact ⟨rfl, rfl⟩)
    | (cases hr; refine ⟨rfl, ?_⟩; simp_all; done)
    | (cases hr; simp_all; done)
theorem pure_rNeg : ∀ a0, PureR (rNeg a0) := by
  intro a0 c ev h h2 v h' hr
  simp only [rNeg, asOth, asPtr, asInt, V.sc, rv, loaded, notNil, found, cut, cutBounds, fSlice_eq, fNat_eq] at hr ⊢
  repeat' split at hr
  all_goals first
    | (cases hr; done)
    | (cases hr; exact ⟨rfl, rfl⟩)
    | (cases hr; refine ⟨rfl, ?_⟩; simp_all; done)
    | (cases hr; simp_all; done)
theorem pure_rCompl : ∀ a0, PureR (rCompl a0) := by
  intro a0 c ev h h2 v h' hr
  simp only [rCompl, asOth, asPtr, asInt, V.sc, rv, loaded, notNil, found, cut, cutBounds, fSlice_eq, fNat_eq] at hr ⊢
  repeat' split at hr
  all_goals first
    | (cases hr; done)
    | (cases hr; exact ⟨rfl, rfl⟩)
    | (cases hr; refine ⟨rfl, ?_⟩; simp_all; done)
    | (cases hr; simp_all; done)
theorem pure_rS2ap : ∀ a0 a1 a2, PureR (rS2ap a0 a1 a2) := by
  intro a0 a1 a2 c ev h h2 v h' hr
  simp only [rS2ap, asOth, asPtr, asInt, V.sc, rv, loaded, notNil, found, cut, cutBounds, fSlice_eq, fNat_eq] at hr ⊢
  repeat' split at hr
  all_goals first
    | (cases hr; done)
    | (cases hr; exact ⟨rfl, rfl⟩)
    | (cases hr; refine ⟨rfl, ?_⟩; simp_all; done)
    | (cases hr; simp_all; done)
theorem pure_rMakeFunc : ∀ a0 a1, PureR (rMakeFunc a0 a1) := by
  intro a0 a1 c ev h h2 v h' hr
  simp only [rMakeFunc, asOth, asPtr, asInt, V.sc, rv, loaded, notNil, found, cut, cutBounds, fSlice_eq, fNat_eq] at hr ⊢
  repeat' split at hr
  all_goals first
    | (cases hr; done)
    | (cases hr; exact ⟨rfl, rfl⟩)
    | (cases hr; refine ⟨rfl, ?_⟩; simp_all; done)
    | (cases hr; simp_all; done)
theorem pure_rFieldAddr : ∀ a0 a1, PureR (rFieldAddr a0 a1) := by
  intro a0 a1 c ev h h2 v h' hr
  simp only [rFieldAddr, asOth, asPtr, asInt, V.sc, rv, loaded, notNil, found, cut, cutBounds, fSlice_eq, fNat_eq] at hr ⊢
  repeat' split at hr
  all_goals first
    | (cases hr; done)
    | (cases hr; exact ⟨rfl, rfl⟩)
    | (cases hr; refine ⟨rfl, ?_⟩; simp_all; done)
    | (cases hr; simp_all; done)
theorem pure_rField : ∀ a0 a1 a2 a3, PureR (rField a0 a1 a2 a3) := by
  intro a0 a1 a2 a3 c ev h h2 v h' hr
  simp only [rField, asOth, asPtr, asInt, V.sc, rv, loaded, notNil, found, cut, cutBounds, fSlice_eq, fNat_eq] at hr ⊢
  repeat' split at hr
  all_goals first
    | (cases hr; done)
    | (cases hr; exact ⟨rfl, rfl⟩)
    | (cases hr; refine ⟨rfl, ?_⟩; simp_all; done)
    | (cases hr; simp_all; done)
theorem pure_rAddrArr : ∀ a0 a1 a2 a3, PureR (rAddrArr a0 a1 a2 a3) := by
  intro a0 a1 a2 a3 c ev h h2 v h' hr
  simp only [rAddrArr, asOth, asPtr, asInt, V.sc, rv, loaded, notNil, found, cut, cutBounds, fSlice_eq, fNat_eq] at hr ⊢
  repeat' split at hr
  all_goals first
    | (cases hr; done)
    | (cases hr; exact ⟨rfl, rfl⟩)
    | (cases hr; refine ⟨rfl, ?_⟩; simp_all; done)
    | (cases hr; simp_all; done)
theorem pure_rAddrSl : ∀ a0 a1 a2, PureR (rAddrSl a0 a1 a2) := by
  intro a0 a1 a2 c ev h h2 v h' hr
  simp only [rAddrSl, asOth, asPtr, asInt, V.sc, rv, loaded, notNil, found, cut, cutBounds, fSlice_eq, fNat_eq] at hr ⊢
  repeat' split at hr
  all_goals first
    | (cases hr; done)
    | (cases hr; exact ⟨rfl, rfl⟩)
    | (cases hr; refine ⟨rfl, ?_⟩; simp_all; done)
    | (cases hr; simp_all; done)
theorem pure_rIdxArr : ∀ a0 a1 a2 a3 a4, PureR (rIdxArr a0 a1 a2 a3 a4) := by
  intro a0 a1 a2 a3 a4 c ev h h2 v h' hr
  simp only [rIdxArr, asOth, asPtr, asInt, V.sc, rv, loaded, notNil, found, cut, cutBounds, fSlice_eq, fNat_eq] at hr ⊢
  repeat' split at hr
  all_goals first
    | (cases hr; done)
    | (cases hr; exact ⟨rfl, rfl⟩)
    | (cases hr; refine ⟨rfl, ?_⟩; simp_all; done)
    | (cases hr; simp_all; done)
theorem pure_rIdxStr : ∀ a0 a1, PureR (rIdxStr a0 a1) := by
  intro a0 a1 c ev h h2 v h' hr
  simp only [rIdxStr, asOth, asPtr, asInt, V.sc, rv, loaded, notNil, found, cut, cutBounds, fSlice_eq, fNat_eq] at hr ⊢
  repeat' split at hr
  all_goals first
    | (cases hr; done)
    | (cases hr; exact ⟨rfl, rfl⟩)
    | (cases hr; refine ⟨rfl, ?_⟩; simp_all; done)
    | (cases hr; simp_all; done)
theorem pure_rExtract : ∀ a0 a1, PureR (rExtract a0 a1) := by
  intro a0 a1 c ev h h2 v h' hr
  simp only [rExtract, asOth, asPtr, asInt, V.sc, rv, loaded, notNil, found, cut, cutBounds, fSlice_eq, fNat_eq] at hr ⊢
  repeat' split at hr
  all_goals first
    | (cases hr; done)
    | (cases hr; exact ⟨rfl, rfl⟩)
    | (cases hr; refine ⟨rfl, ?_⟩; simp_all; done)
    | (cases hr; simp_all; done)
theorem pure_rBin : ∀ a0 a1 a2 a3, PureR (rBin a0 a1 a2 a3) := by
  intro a0 a1 a2 a3 c ev h h2 v h' hr
  simp only [rBin, asOth, asPtr, asInt, V.sc, rv, loaded, notNil, found, cut, cutBounds, fSlice_eq, fNat_eq] at hr ⊢
  repeat' split at hr
  all_goals first
    | (cases hr; done)
    | (cases hr; exact ⟨rfl, rfl⟩)
    | (cases hr; refine ⟨rfl, ?_⟩; simp_all; done)
    | (cases hr; simp_all; done)
theorem pure_rShift : ∀ a0 a1 a2, PureR (rShift a0 a1 a2) := by
  intro a0 a1 a2 c ev h h2 v h' hr
  simp only [rShift, asOth, asPtr, asInt, V.sc, rv, loaded, notNil, found, cut, cutBounds, fSlice_eq, fNat_eq] at hr ⊢
  repeat' split at hr
  all_goals first
    | (cases hr; done)
    | (cases hr; exact ⟨rfl, rfl⟩)
    | (cases hr; refine ⟨rfl, ?_⟩; simp_all; done)
    | (cases hr; simp_all; done)
theorem pure_rI2i : ∀ a0 a1, PureR (rI2i a0 a1) := by
  intro a0 a1 c ev h h2 v h' hr
  simp only [rI2i, asOth, asPtr, asInt, V.sc, rv, loaded, notNil, found, cut, cutBounds, fSlice_eq, fNat_eq] at hr ⊢
  repeat' split at hr
  all_goals first
    | (cases hr; done)
    | (cases hr; exact ⟨rfl, rfl⟩)
    | (cases hr; refine ⟨rfl, ?_⟩; simp_all; done)
    | (cases hr; simp_all; done)
theorem pure_rI2f : ∀ a0 a1, PureR (rI2f a0 a1) := by
  intro a0 a1 c ev h h2 v h' hr
  simp only [rI2f, asOth, asPtr, asInt, V.sc, rv, loaded, notNil, found, cut, cutBounds, fSlice_eq, fNat_eq] at hr ⊢
  repeat' split at hr
  all_goals first
    | (cases hr; done)
    | (cases hr; exact ⟨rfl, rfl⟩)
    | (cases hr; refine ⟨rfl, ?_⟩; simp_all; done)
    | (cases hr; simp_all; done)
theorem pure_rF2i : ∀ a0 a1 a2 a3, PureR (rF2i a0 a1 a2 a3) := by
  intro a0 a1 a2 a3 c ev h h2 v h' hr
  simp only [rF2i, asOth, asPtr, asInt, V.sc, rv, loaded, notNil, found, cut, cutBounds, fSlice_eq, fNat_eq] at hr ⊢
  repeat' split at hr
  all_goals first
    | (cases hr; done)
    | (cases hr; exact ⟨rfl, rfl⟩)
    | (cases hr; refine ⟨rfl, ?_⟩; simp_all; done)
    | (cases hr; simp_all; done)
theorem pure_rSame : ∀ a0, PureR (rSame a0) := by
  intro a0 c ev h h2 v h' hr
  simp only [rSame, asOth, asPtr, asInt, V.sc, rv, loaded, notNil, found, cut, cutBounds, fSlice_eq, fNat_eq] at hr ⊢
  repeat' split at hr
  all_goals first
    | (cases hr; done)
    | (cases hr; exact ⟨rfl, rfl⟩)
    | (cases hr; refine ⟨rfl, ?_⟩; simp_all; done)
    | (cases hr; simp_all; done)
theorem pure_rMinmax : ∀ a0 a1 a2, PureR (rMinmax a0 a1 a2) := by
  intro a0 a1 a2 c ev h h2 v h' hr
  simp only [rMinmax, asOth, asPtr, asInt, V.sc, rv, loaded, notNil, found, cut, cutBounds, fSlice_eq, fNat_eq] at hr ⊢
  repeat' split at hr
  all_goals first
    | (cases hr; done)
    | (cases hr; exact ⟨rfl, rfl⟩)
    | (cases hr; refine ⟨rfl, ?_⟩; simp_all; done)
    | (cases hr; simp_all; done)
theorem pure_rRe : ∀ a0, PureR (rRe a0) := by
  intro a0 c ev h h2 v h' hr
  simp only [rRe, asOth, asPtr, asInt, V.sc, rv, loaded, notNil, found, cut, cutBounds, fSlice_eq, fNat_eq] at hr ⊢
  repeat' split at hr
  all_goals first
    | (cases hr; done)
    | (cases hr; exact ⟨rfl, rfl⟩)
    | (cases hr; refine ⟨rfl, ?_⟩; simp_all; done)
    | (cases hr; simp_all; done)
theorem pure_rIm : ∀ a0, PureR (rIm a0) := by
  intro a0 c ev h h2 v h' hr
  simp only [rIm, asOth, asPtr, asInt, V.sc, rv, loaded, notNil, found, cut, cutBounds, fSlice_eq, fNat_eq] at hr ⊢
  repeat' split at hr
  all_goals first
    | (cases hr; done)
    | (cases hr; exact ⟨rfl, rfl⟩)
    | (cases hr; refine ⟨rfl, ?_⟩; simp_all; done)
    | (cases hr; simp_all; done)
theorem pure_rCplx : ∀ a0 a1, PureR (rCplx a0 a1) := by
  intro a0 a1 c ev h h2 v h' hr
  simp only [rCplx, asOth, asPtr, asInt, V.sc, rv, loaded, notNil, found, cut, cutBounds, fSlice_eq, fNat_eq] at hr ⊢
  repeat' split at hr
  all_goals first
    | (cases hr; done)
    | (cases hr; exact ⟨rfl, rfl⟩)
    | (cases hr; refine ⟨rfl, ?_⟩; simp_all; done)
    | (cases hr; simp_all; done)
theorem pure_rBad : ∀ a0, PureR (rBad a0) := by
  intro a0 c ev h h2 v h' hr
  simp only [rBad, asOth, asPtr, asInt, V.sc, rv, loaded, notNil, found, cut, cutBounds, fSlice_eq, fNat_eq] at hr ⊢
  repeat' split at hr
  all_goals first
    | (cases hr; done)
    | (cases hr; exact ⟨rfl, rfl⟩)
    | (cases hr; refine ⟨rfl, ?_⟩; simp_all; done)
    | (cases hr; simp_all; done)
theorem read_rLoad : ∀ a0 a1 a2, ReadR (rLoad a0 a1 a2) := by
  intro a0 a1 a2 c ev h v h' hr
  simp only [rLoad, asOth, asPtr, asInt, V.sc, rv, loaded, notNil, found, cut, cutBounds, fSlice_eq, fNat_eq] at hr
  repeat' split at hr
  all_goals first
    | exact ok_heap hr
    | (cases hr; done)
theorem read_rEq : ∀ a0 a1 a2 a3 a4, ReadR (rEq a0 a1 a2 a3 a4) := by
  intro a0 a1 a2 a3 a4 c ev h v h' hr
  simp only [rEq, asOth, asPtr, asInt, V.sc, rv, loaded, notNil, found, cut, cutBounds, fSlice_eq, fNat_eq] at hr
  repeat' split at hr
  all_goals first
    | exact ok_heap hr
    | (cases hr; done)
theorem read_rBin : ∀ a0 a1 a2 a3, ReadR (rBin a0 a1 a2 a3) := by
  intro a0 a1 a2 a3 c ev h v h' hr
  simp only [rBin, asOth, asPtr, asInt, V.sc, rv, loaded, notNil, found, cut, cutBounds, fSlice_eq, fNat_eq] at hr
  repeat' split at hr
  all_goals first
    | exact ok_heap hr
    | (cases hr; done)
theorem read_rShift : ∀ a0 a1 a2, ReadR (rShift a0 a1 a2) := by
  intro a0 a1 a2 c ev h v h' hr
  simp only [rShift, asOth, asPtr, asInt, V.sc, rv, loaded, notNil, found, cut, cutBounds, fSlice_eq, fNat_eq] at hr
  repeat' split at hr
  all_goals first
    | exact ok_heap hr
    | (cases hr; done)
theorem read_rB2s : ∀ a0, ReadR (rB2s a0) := by
  intro a0 c ev h v h' hr
  simp only [rB2s, asOth, asPtr, asInt, V.sc, rv, loaded, notNil, found, cut, cutBounds, fSlice_eq, fNat_eq] at hr
  repeat' split at hr
  all_goals first
    | exact ok_heap hr
    | (cases hr; done)
theorem read_rShared : ∀ a0, ReadR (rShared a0) := by
  intro a0 c ev h v h' hr
  simp only [rShared, asOth, asPtr, asInt, V.sc, rv, loaded, notNil, found, cut, cutBounds, fSlice_eq, fNat_eq] at hr
  repeat' split at hr
  all_goals first
    | exact ok_heap hr
    | (cases hr; done)
theorem read_rCutStr : ∀ a0 a1 a2, ReadR (rCutStr a0 a1 a2) := by
  intro a0 a1 a2 c ev h v h' hr
  simp only [rCutStr, asOth, asPtr, asInt, V.sc, rv, loaded, notNil, found, cut, cutBounds, fSlice_eq, fNat_eq] at hr
  repeat' split at hr
  all_goals first
    | exact ok_heap hr
    | (cases hr; done)
theorem read_rCutSl : ∀ a0 a1 a2 a3 a4, ReadR (rCutSl a0 a1 a2 a3 a4) := by
  intro a0 a1 a2 a3 a4 c ev h v h' hr
  simp only [rCutSl, asOth, asPtr, asInt, V.sc, rv, loaded, notNil, found, cut, cutBounds, fSlice_eq, fNat_eq] at hr
  repeat' split at hr
  all_goals first
    | exact ok_heap hr
    | (cases hr; done)
theorem read_rCutArr : ∀ a0 a1 a2 a3 a4 a5, ReadR (rCutArr a0 a1 a2 a3 a4 a5) := by
  intro a0 a1 a2 a3 a4 a5 c ev h v h' hr
  simp only [rCutArr, asOth, asPtr, asInt, V.sc, rv, loaded, notNil, found, cut, cutBounds, fSlice_eq, fNat_eq] at hr
  repeat' split at hr
  all_goals first
    | exact ok_heap hr
    | (cases hr; done)
theorem read_rLookup : ∀ a0 a1 a2 a3 a4, ReadR (rLookup a0 a1 a2 a3 a4) := by
  intro a0 a1 a2 a3 a4 c ev h v h' hr
  simp only [rLookup, asOth, asPtr, asInt, V.sc, rv, loaded, notNil, found, cut, cutBounds, fSlice_eq, fNat_eq] at hr
  repeat' split at hr
  all_goals first
    | exact ok_heap hr
    | (cases hr; done)
theorem read_rLenK : ∀ a0, ReadR (rLenK a0) := by
  intro a0 c ev h v h' hr
  simp only [rLenK, asOth, asPtr, asInt, V.sc, rv, loaded, notNil, found, cut, cutBounds, fSlice_eq, fNat_eq] at hr
  repeat' split at hr
  all_goals first
    | exact ok_heap hr
    | (cases hr; done)
theorem read_rLen : ∀ a0 a1, ReadR (rLen a0 a1) := by
  intro a0 a1 c ev h v h' hr
  simp only [rLen, asOth, asPtr, asInt, V.sc, rv, loaded, notNil, found, cut, cutBounds, fSlice_eq, fNat_eq] at hr
  repeat' split at hr
  all_goals first
    | exact ok_heap hr
    | (cases hr; done)
theorem read_rBad : ∀ a0, ReadR (rBad a0) := by
  intro a0 c ev h v h' hr
  simp only [rBad, asOth, asPtr, asInt, V.sc, rv, loaded, notNil, found, cut, cutBounds, fSlice_eq, fNat_eq] at hr
  repeat' split at hr
  all_goals first
    | exact ok_heap hr
    | (cases hr; done)
theorem alloc_rAlloc : ∀ a0, AllocR (rAlloc a0) := by
  intro a0 c ev h v h' hr
  simp only [rAlloc, asOth, asPtr, asInt, V.sc, rv, loaded, notNil, found, cut, cutBounds, fSlice_eq, fNat_eq] at hr ⊢
  repeat' split at hr
  all_goals first
    | exact new_all hr
    | (cases hr; done)
    | (have := new_all hr; simp_all; done)
theorem alloc_rBox : ∀ a0, AllocR (rBox a0) := by
  intro a0 c ev h v h' hr
  simp only [rBox, asOth, asPtr, asInt, V.sc, rv, loaded, notNil, found, cut, cutBounds, fSlice_eq, fNat_eq] at hr ⊢
  repeat' split at hr
  all_goals first
    | exact new_all hr
    | (cases hr; done)
    | (have := new_all hr; simp_all; done)
theorem alloc_rBuildSlice : ∀ a0 a1 a2 a3 a4 a5, AllocR (rBuildSlice a0 a1 a2 a3 a4 a5) := by
  intro a0 a1 a2 a3 a4 a5 c ev h v h' hr
  simp only [rBuildSlice, asOth, asPtr, asInt, V.sc, rv, loaded, notNil, found, cut, cutBounds, fSlice_eq, fNat_eq] at hr ⊢
  repeat' split at hr
  all_goals first
    | exact new_all hr
    | (cases hr; done)
    | (have := new_all hr; simp_all; done)
theorem alloc_rMakeMap : AllocR (rMakeMap ) := by
  intro  c ev h v h' hr
  simp only [rMakeMap, asOth, asPtr, asInt, V.sc, rv, loaded, notNil, found, cut, cutBounds, fSlice_eq, fNat_eq] at hr ⊢
  repeat' split at hr
  all_goals first
    | exact new_all hr
    | (cases hr; done)
    | (have := new_all hr; simp_all; done)
theorem alloc_rMakeSlice : ∀ a0 a1 a2 a3 a4, AllocR (rMakeSlice a0 a1 a2 a3 a4) := by
  intro a0 a1 a2 a3 a4 c ev h v h' hr
  simp only [rMakeSlice, asOth, asPtr, asInt, V.sc, rv, loaded, notNil, found, cut, cutBounds, fSlice_eq, fNat_eq] at hr ⊢
  repeat' split at hr
  all_goals first
    | exact new_all hr
    | (cases hr; done)
    | (have := new_all hr; simp_all; done)
theorem alloc_rS2b : ∀ a0, AllocR (rS2b a0) := by
  intro a0 c ev h v h' hr
  simp only [rS2b, asOth, asPtr, asInt, V.sc, rv, loaded, notNil, found, cut, cutBounds, fSlice_eq, fNat_eq] at hr ⊢
  repeat' split at hr
  all_goals first
    | exact new_all hr
    | (cases hr; done)
    | (have := new_all hr; simp_all; done)
theorem alloc_rBad : ∀ a0, AllocR (rBad a0) := by
  intro a0 c ev h v h' hr
  simp only [rBad, asOth, asPtr, asInt, V.sc, rv, loaded, notNil, found, cut, cutBounds, fSlice_eq, fNat_eq] at hr ⊢
  repeat' split at hr
  all_goals first
    | exact new_all hr
    | (cases hr; done)
    | (have := new_all hr; simp_all; done)
end CSim
