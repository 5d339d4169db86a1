/-
  Numbers of blocks only grow.
-/
import Derived.Test.YtkkolfaecabloaaGreatSimMaster2
namespace CSim
set_option linter.unusedSimpArgs false
set_option linter.unusedVariables false
open Go
variable {P : Program} {n : Nat} {o : Oper}

def CallsMono (c : Calls) : Prop := (∀ f args h v h', c.fn f args h = .ok v h' → h.next ≤ h'.next) ∧ ∀ f args h v h', c.yield f args h = .ok v h' → h.next ≤ h'.next
def Mono (r : Run) : Prop := ∀ c, CallsMono c → ∀ ev h v h', r c ev h = .ok v h' → h.next ≤ h'.next
theorem new_mono {h h' : Heap} {ob : AObj} {f : Nat → V} {v : V} (hn : h.new ob f = .ok v h') : h.next ≤ h'.next := by
  obtain ⟨_, _, rfl⟩ := Heap.new_ok hn
  exact Nat.le_succ _
theorem upd_new_mono {h h' : Heap} {b : Nat} {x : H0} {ob : AObj} {f : Nat → V} {v : V} (hn : (h.upd b x).new ob f = .ok v h') : h.next ≤ h'.next := by
  have := new_mono hn
  exact this
theorem same_mono {h1 h h' : Heap} {v1 v : V} (hr : Res.ok v1 h1 = .ok v h') (hn : h1.next = h.next) : h.next ≤ h'.next := by
  injection hr with _ h2
  subst h2
  omega
theorem mono_rMv : ∀ a0, Mono (rMv a0) := by
  intro a0 c hc ev h v h' hr
  simp only [rMv, asOth, asPtr, asInt, V.sc, rv, loaded, notNil, Heap.write, found, cut, cutBounds, grow, growIn, appendTo, fSlice_eq, fNat_eq] at hr
  repeat' split at hr
  all_goals first
    | exact new_mono hr
    | exact upd_new_mono hr
    | exact same_mono hr rfl
    | (cases hr; done)
theorem mono_rPick : ∀ a0 a1 a2, Mono (rPick a0 a1 a2) := by
  intro a0 a1 a2 c hc ev h v h' hr
  simp only [rPick, asOth, asPtr, asInt, V.sc, rv, loaded, notNil, Heap.write, found, cut, cutBounds, grow, growIn, appendTo, fSlice_eq, fNat_eq] at hr
  repeat' split at hr
  all_goals first
    | exact new_mono hr
    | exact upd_new_mono hr
    | exact same_mono hr rfl
    | (cases hr; done)
theorem mono_rAlloc : ∀ a0, Mono (rAlloc a0) := by
  intro a0 c hc ev h v h' hr
  simp only [rAlloc, asOth, asPtr, asInt, V.sc, rv, loaded, notNil, Heap.write, found, cut, cutBounds, grow, growIn, appendTo, fSlice_eq, fNat_eq] at hr
  repeat' split at hr
  all_goals first
    | exact new_mono hr
    | exact upd_new_mono hr
    | exact same_mono hr rfl
    | (cases hr; done)
theorem mono_rBox : ∀ a0, Mono (rBox a0) := by
  intro a0 c hc ev h v h' hr
  simp only [rBox, asOth, asPtr, asInt, V.sc, rv, loaded, notNil, Heap.write, found, cut, cutBounds, grow, growIn, appendTo, fSlice_eq, fNat_eq] at hr
  repeat' split at hr
  all_goals first
    | exact new_mono hr
    | exact upd_new_mono hr
    | exact same_mono hr rfl
    | (cases hr; done)
theorem mono_rBuild : ∀ a0 a1, Mono (rBuild a0 a1) := by
  intro a0 a1 c hc ev h v h' hr
  simp only [rBuild, asOth, asPtr, asInt, V.sc, rv, loaded, notNil, Heap.write, found, cut, cutBounds, grow, growIn, appendTo, fSlice_eq, fNat_eq] at hr
  repeat' split at hr
  all_goals first
    | exact new_mono hr
    | exact upd_new_mono hr
    | exact same_mono hr rfl
    | (cases hr; done)
theorem mono_rBuildSlice : ∀ a0 a1 a2 a3 a4 a5, Mono (rBuildSlice a0 a1 a2 a3 a4 a5) := by
  intro a0 a1 a2 a3 a4 a5 c hc ev h v h' hr
  simp only [rBuildSlice, asOth, asPtr, asInt, V.sc, rv, loaded, notNil, Heap.write, found, cut, cutBounds, grow, growIn, appendTo, fSlice_eq, fNat_eq] at hr
  repeat' split at hr
  all_goals first
    | exact new_mono hr
    | exact upd_new_mono hr
    | exact same_mono hr rfl
    | (cases hr; done)
theorem mono_rLoad : ∀ a0 a1 a2, Mono (rLoad a0 a1 a2) := by
  intro a0 a1 a2 c hc ev h v h' hr
  simp only [rLoad, asOth, asPtr, asInt, V.sc, rv, loaded, notNil, Heap.write, found, cut, cutBounds, grow, growIn, appendTo, fSlice_eq, fNat_eq] at hr
  repeat' split at hr
  all_goals first
    | exact new_mono hr
    | exact upd_new_mono hr
    | exact same_mono hr rfl
    | (cases hr; done)
theorem mono_rStore : ∀ a0 a1 a2, Mono (rStore a0 a1 a2) := by
  intro a0 a1 a2 c hc ev h v h' hr
  simp only [rStore, asOth, asPtr, asInt, V.sc, rv, loaded, notNil, Heap.write, found, cut, cutBounds, grow, growIn, appendTo, fSlice_eq, fNat_eq] at hr
  repeat' split at hr
  all_goals first
    | exact new_mono hr
    | exact upd_new_mono hr
    | exact same_mono hr rfl
    | (cases hr; done)
theorem mono_rNilCheck : ∀ a0, Mono (rNilCheck a0) := by
  intro a0 c hc ev h v h' hr
  simp only [rNilCheck, asOth, asPtr, asInt, V.sc, rv, loaded, notNil, Heap.write, found, cut, cutBounds, grow, growIn, appendTo, fSlice_eq, fNat_eq] at hr
  repeat' split at hr
  all_goals first
    | exact new_mono hr
    | exact upd_new_mono hr
    | exact same_mono hr rfl
    | (cases hr; done)
theorem mono_rBin : ∀ a0 a1 a2 a3, Mono (rBin a0 a1 a2 a3) := by
  intro a0 a1 a2 a3 c hc ev h v h' hr
  simp only [rBin, asOth, asPtr, asInt, V.sc, rv, loaded, notNil, Heap.write, found, cut, cutBounds, grow, growIn, appendTo, fSlice_eq, fNat_eq] at hr
  repeat' split at hr
  all_goals first
    | exact new_mono hr
    | exact upd_new_mono hr
    | exact same_mono hr rfl
    | (cases hr; done)
theorem mono_rShift : ∀ a0 a1 a2, Mono (rShift a0 a1 a2) := by
  intro a0 a1 a2 c hc ev h v h' hr
  simp only [rShift, asOth, asPtr, asInt, V.sc, rv, loaded, notNil, Heap.write, found, cut, cutBounds, grow, growIn, appendTo, fSlice_eq, fNat_eq] at hr
  repeat' split at hr
  all_goals first
    | exact new_mono hr
    | exact upd_new_mono hr
    | exact same_mono hr rfl
    | (cases hr; done)
theorem mono_rEq : ∀ a0 a1 a2 a3 a4, Mono (rEq a0 a1 a2 a3 a4) := by
  intro a0 a1 a2 a3 a4 c hc ev h v h' hr
  simp only [rEq, asOth, asPtr, asInt, V.sc, rv, loaded, notNil, Heap.write, found, cut, cutBounds, grow, growIn, appendTo, fSlice_eq, fNat_eq] at hr
  repeat' split at hr
  all_goals first
    | exact new_mono hr
    | exact upd_new_mono hr
    | exact same_mono hr rfl
    | (cases hr; done)
theorem mono_rNot : ∀ a0, Mono (rNot a0) := by
  intro a0 c hc ev h v h' hr
  simp only [rNot, asOth, asPtr, asInt, V.sc, rv, loaded, notNil, Heap.write, found, cut, cutBounds, grow, growIn, appendTo, fSlice_eq, fNat_eq] at hr
  repeat' split at hr
  all_goals first
    | exact new_mono hr
    | exact upd_new_mono hr
    | exact same_mono hr rfl
    | (cases hr; done)
theorem mono_rNeg : ∀ a0, Mono (rNeg a0) := by
  intro a0 c hc ev h v h' hr
  simp only [rNeg, asOth, asPtr, asInt, V.sc, rv, loaded, notNil, Heap.write, found, cut, cutBounds, grow, growIn, appendTo, fSlice_eq, fNat_eq] at hr
  repeat' split at hr
  all_goals first
    | exact new_mono hr
    | exact upd_new_mono hr
    | exact same_mono hr rfl
    | (cases hr; done)
theorem mono_rCompl : ∀ a0, Mono (rCompl a0) := by
  intro a0 c hc ev h v h' hr
  simp only [rCompl, asOth, asPtr, asInt, V.sc, rv, loaded, notNil, Heap.write, found, cut, cutBounds, grow, growIn, appendTo, fSlice_eq, fNat_eq] at hr
  repeat' split at hr
  all_goals first
    | exact new_mono hr
    | exact upd_new_mono hr
    | exact same_mono hr rfl
    | (cases hr; done)
theorem mono_rI2i : ∀ a0 a1, Mono (rI2i a0 a1) := by
  intro a0 a1 c hc ev h v h' hr
  simp only [rI2i, asOth, asPtr, asInt, V.sc, rv, loaded, notNil, Heap.write, found, cut, cutBounds, grow, growIn, appendTo, fSlice_eq, fNat_eq] at hr
  repeat' split at hr
  all_goals first
    | exact new_mono hr
    | exact upd_new_mono hr
    | exact same_mono hr rfl
    | (cases hr; done)
theorem mono_rI2f : ∀ a0 a1, Mono (rI2f a0 a1) := by
  intro a0 a1 c hc ev h v h' hr
  simp only [rI2f, asOth, asPtr, asInt, V.sc, rv, loaded, notNil, Heap.write, found, cut, cutBounds, grow, growIn, appendTo, fSlice_eq, fNat_eq] at hr
  repeat' split at hr
  all_goals first
    | exact new_mono hr
    | exact upd_new_mono hr
    | exact same_mono hr rfl
    | (cases hr; done)
theorem mono_rF2i : ∀ a0 a1 a2 a3, Mono (rF2i a0 a1 a2 a3) := by
  intro a0 a1 a2 a3 c hc ev h v h' hr
  simp only [rF2i, asOth, asPtr, asInt, V.sc, rv, loaded, notNil, Heap.write, found, cut, cutBounds, grow, growIn, appendTo, fSlice_eq, fNat_eq] at hr
  repeat' split at hr
  all_goals first
    | exact new_mono hr
    | exact upd_new_mono hr
    | exact same_mono hr rfl
    | (cases hr; done)
theorem mono_rSame : ∀ a0, Mono (rSame a0) := by
  intro a0 c hc ev h v h' hr
  simp only [rSame, asOth, asPtr, asInt, V.sc, rv, loaded, notNil, Heap.write, found, cut, cutBounds, grow, growIn, appendTo, fSlice_eq, fNat_eq] at hr
  repeat' split at hr
  all_goals first
    | exact new_mono hr
    | exact upd_new_mono hr
    | exact same_mono hr rfl
    | (cases hr; done)
theorem mono_rS2b : ∀ a0, Mono (rS2b a0) := by
  intro a0 c hc ev h v h' hr
  simp only [rS2b, asOth, asPtr, asInt, V.sc, rv, loaded, notNil, Heap.write, found, cut, cutBounds, grow, growIn, appendTo, fSlice_eq, fNat_eq] at hr
  repeat' split at hr
  all_goals first
    | exact new_mono hr
    | exact upd_new_mono hr
    | exact same_mono hr rfl
    | (cases hr; done)
theorem mono_rB2s : ∀ a0, Mono (rB2s a0) := by
  intro a0 c hc ev h v h' hr
  simp only [rB2s, asOth, asPtr, asInt, V.sc, rv, loaded, notNil, Heap.write, found, cut, cutBounds, grow, growIn, appendTo, fSlice_eq, fNat_eq] at hr
  repeat' split at hr
  all_goals first
    | exact new_mono hr
    | exact upd_new_mono hr
    | exact same_mono hr rfl
    | (cases hr; done)
theorem mono_rShared : ∀ a0, Mono (rShared a0) := by
  intro a0 c hc ev h v h' hr
  simp only [rShared, asOth, asPtr, asInt, V.sc, rv, loaded, notNil, Heap.write, found, cut, cutBounds, grow, growIn, appendTo, fSlice_eq, fNat_eq] at hr
  repeat' split at hr
  all_goals first
    | exact new_mono hr
    | exact upd_new_mono hr
    | exact same_mono hr rfl
    | (cases hr; done)
theorem mono_rS2ap : ∀ a0 a1 a2, Mono (rS2ap a0 a1 a2) := by
  intro a0 a1 a2 c hc ev h v h' hr
  simp only [rS2ap, asOth, asPtr, asInt, V.sc, rv, loaded, notNil, Heap.write, found, cut, cutBounds, grow, growIn, appendTo, fSlice_eq, fNat_eq] at hr
  repeat' split at hr
  all_goals first
    | exact new_mono hr
    | exact upd_new_mono hr
    | exact same_mono hr rfl
    | (cases hr; done)
theorem mono_rMakeFunc : ∀ a0 a1, Mono (rMakeFunc a0 a1) := by
  intro a0 a1 c hc ev h v h' hr
  simp only [rMakeFunc, asOth, asPtr, asInt, V.sc, rv, loaded, notNil, Heap.write, found, cut, cutBounds, grow, growIn, appendTo, fSlice_eq, fNat_eq] at hr
  repeat' split at hr
  all_goals first
    | exact new_mono hr
    | exact upd_new_mono hr
    | exact same_mono hr rfl
    | (cases hr; done)
theorem mono_rMakeMap : Mono (rMakeMap ) := by
  intro  c hc ev h v h' hr
  simp only [rMakeMap, asOth, asPtr, asInt, V.sc, rv, loaded, notNil, Heap.write, found, cut, cutBounds, grow, growIn, appendTo, fSlice_eq, fNat_eq] at hr
  repeat' split at hr
  all_goals first
    | exact new_mono hr
    | exact upd_new_mono hr
    | exact same_mono hr rfl
    | (cases hr; done)
theorem mono_rMakeSlice : ∀ a0 a1 a2 a3 a4, Mono (rMakeSlice a0 a1 a2 a3 a4) := by
  intro a0 a1 a2 a3 a4 c hc ev h v h' hr
  simp only [rMakeSlice, asOth, asPtr, asInt, V.sc, rv, loaded, notNil, Heap.write, found, cut, cutBounds, grow, growIn, appendTo, fSlice_eq, fNat_eq] at hr
  repeat' split at hr
  all_goals first
    | exact new_mono hr
    | exact upd_new_mono hr
    | exact same_mono hr rfl
    | (cases hr; done)
theorem mono_rCutStr : ∀ a0 a1 a2, Mono (rCutStr a0 a1 a2) := by
  intro a0 a1 a2 c hc ev h v h' hr
  simp only [rCutStr, asOth, asPtr, asInt, V.sc, rv, loaded, notNil, Heap.write, found, cut, cutBounds, grow, growIn, appendTo, fSlice_eq, fNat_eq] at hr
  repeat' split at hr
  all_goals first
    | exact new_mono hr
    | exact upd_new_mono hr
    | exact same_mono hr rfl
    | (cases hr; done)
theorem mono_rCutSl : ∀ a0 a1 a2 a3 a4, Mono (rCutSl a0 a1 a2 a3 a4) := by
  intro a0 a1 a2 a3 a4 c hc ev h v h' hr
  simp only [rCutSl, asOth, asPtr, asInt, V.sc, rv, loaded, notNil, Heap.write, found, cut, cutBounds, grow, growIn, appendTo, fSlice_eq, fNat_eq] at hr
  repeat' split at hr
  all_goals first
    | exact new_mono hr
    | exact upd_new_mono hr
    | exact same_mono hr rfl
    | (cases hr; done)
theorem mono_rCutArr : ∀ a0 a1 a2 a3 a4 a5, Mono (rCutArr a0 a1 a2 a3 a4 a5) := by
  intro a0 a1 a2 a3 a4 a5 c hc ev h v h' hr
  simp only [rCutArr, asOth, asPtr, asInt, V.sc, rv, loaded, notNil, Heap.write, found, cut, cutBounds, grow, growIn, appendTo, fSlice_eq, fNat_eq] at hr
  repeat' split at hr
  all_goals first
    | exact new_mono hr
    | exact upd_new_mono hr
    | exact same_mono hr rfl
    | (cases hr; done)
theorem mono_rFieldAddr : ∀ a0 a1, Mono (rFieldAddr a0 a1) := by
  intro a0 a1 c hc ev h v h' hr
  simp only [rFieldAddr, asOth, asPtr, asInt, V.sc, rv, loaded, notNil, Heap.write, found, cut, cutBounds, grow, growIn, appendTo, fSlice_eq, fNat_eq] at hr
  repeat' split at hr
  all_goals first
    | exact new_mono hr
    | exact upd_new_mono hr
    | exact same_mono hr rfl
    | (cases hr; done)
theorem mono_rField : ∀ a0 a1 a2 a3, Mono (rField a0 a1 a2 a3) := by
  intro a0 a1 a2 a3 c hc ev h v h' hr
  simp only [rField, asOth, asPtr, asInt, V.sc, rv, loaded, notNil, Heap.write, found, cut, cutBounds, grow, growIn, appendTo, fSlice_eq, fNat_eq] at hr
  repeat' split at hr
  all_goals first
    | exact new_mono hr
    | exact upd_new_mono hr
    | exact same_mono hr rfl
    | (cases hr; done)
theorem mono_rAddrArr : ∀ a0 a1 a2 a3, Mono (rAddrArr a0 a1 a2 a3) := by
  intro a0 a1 a2 a3 c hc ev h v h' hr
  simp only [rAddrArr, asOth, asPtr, asInt, V.sc, rv, loaded, notNil, Heap.write, found, cut, cutBounds, grow, growIn, appendTo, fSlice_eq, fNat_eq] at hr
  repeat' split at hr
  all_goals first
    | exact new_mono hr
    | exact upd_new_mono hr
    | exact same_mono hr rfl
    | (cases hr; done)
theorem mono_rAddrSl : ∀ a0 a1 a2, Mono (rAddrSl a0 a1 a2) := by
  intro a0 a1 a2 c hc ev h v h' hr
  simp only [rAddrSl, asOth, asPtr, asInt, V.sc, rv, loaded, notNil, Heap.write, found, cut, cutBounds, grow, growIn, appendTo, fSlice_eq, fNat_eq] at hr
  repeat' split at hr
  all_goals first
    | exact new_mono hr
    | exact upd_new_mono hr
    | exact same_mono hr rfl
    | (cases hr; done)
theorem mono_rIdxArr : ∀ a0 a1 a2 a3 a4, Mono (rIdxArr a0 a1 a2 a3 a4) := by
  intro a0 a1 a2 a3 a4 c hc ev h v h' hr
  simp only [rIdxArr, asOth, asPtr, asInt, V.sc, rv, loaded, notNil, Heap.write, found, cut, cutBounds, grow, growIn, appendTo, fSlice_eq, fNat_eq] at hr
  repeat' split at hr
  all_goals first
    | exact new_mono hr
    | exact upd_new_mono hr
    | exact same_mono hr rfl
    | (cases hr; done)
theorem mono_rIdxStr : ∀ a0 a1, Mono (rIdxStr a0 a1) := by
  intro a0 a1 c hc ev h v h' hr
  simp only [rIdxStr, asOth, asPtr, asInt, V.sc, rv, loaded, notNil, Heap.write, found, cut, cutBounds, grow, growIn, appendTo, fSlice_eq, fNat_eq] at hr
  repeat' split at hr
  all_goals first
    | exact new_mono hr
    | exact upd_new_mono hr
    | exact same_mono hr rfl
    | (cases hr; done)
theorem mono_rLookup : ∀ a0 a1 a2 a3 a4, Mono (rLookup a0 a1 a2 a3 a4) := by
  intro a0 a1 a2 a3 a4 c hc ev h v h' hr
  simp only [rLookup, asOth, asPtr, asInt, V.sc, rv, loaded, notNil, Heap.write, found, cut, cutBounds, grow, growIn, appendTo, fSlice_eq, fNat_eq] at hr
  repeat' split at hr
  all_goals first
    | exact new_mono hr
    | exact upd_new_mono hr
    | exact same_mono hr rfl
    | (cases hr; done)
theorem mono_rMapUpdate : ∀ a0 a1 a2 a3, Mono (rMapUpdate a0 a1 a2 a3) := by
  intro a0 a1 a2 a3 c hc ev h v h' hr
  simp only [rMapUpdate, asOth, asPtr, asInt, V.sc, rv, loaded, notNil, Heap.write, found, cut, cutBounds, grow, growIn, appendTo, fSlice_eq, fNat_eq] at hr
  repeat' split at hr
  all_goals first
    | exact new_mono hr
    | exact upd_new_mono hr
    | exact same_mono hr rfl
    | (cases hr; done)
theorem mono_rExtract : ∀ a0 a1, Mono (rExtract a0 a1) := by
  intro a0 a1 c hc ev h v h' hr
  simp only [rExtract, asOth, asPtr, asInt, V.sc, rv, loaded, notNil, Heap.write, found, cut, cutBounds, grow, growIn, appendTo, fSlice_eq, fNat_eq] at hr
  repeat' split at hr
  all_goals first
    | exact new_mono hr
    | exact upd_new_mono hr
    | exact same_mono hr rfl
    | (cases hr; done)
theorem mono_rAppend : ∀ a0 a1 a2 a3 a4 a5, Mono (rAppend a0 a1 a2 a3 a4 a5) := by
  intro a0 a1 a2 a3 a4 a5 c hc ev h v h' hr
  simp only [rAppend, asOth, asPtr, asInt, V.sc, rv, loaded, notNil, Heap.write, found, cut, cutBounds, grow, growIn, appendTo, fSlice_eq, fNat_eq] at hr
  repeat' split at hr
  all_goals first
    | exact new_mono hr
    | exact upd_new_mono hr
    | exact same_mono hr rfl
    | (cases hr; done)
theorem mono_rCopy : ∀ a0 a1 a2, Mono (rCopy a0 a1 a2) := by
  intro a0 a1 a2 c hc ev h v h' hr
  simp only [rCopy, asOth, asPtr, asInt, V.sc, rv, loaded, notNil, Heap.write, found, cut, cutBounds, grow, growIn, appendTo, fSlice_eq, fNat_eq] at hr
  repeat' split at hr
  all_goals first
    | exact new_mono hr
    | exact upd_new_mono hr
    | exact same_mono hr rfl
    | (cases hr; done)
theorem mono_rClearSl : ∀ a0 a1, Mono (rClearSl a0 a1) := by
  intro a0 a1 c hc ev h v h' hr
  simp only [rClearSl, asOth, asPtr, asInt, V.sc, rv, loaded, notNil, Heap.write, found, cut, cutBounds, grow, growIn, appendTo, fSlice_eq, fNat_eq] at hr
  repeat' split at hr
  all_goals first
    | exact new_mono hr
    | exact upd_new_mono hr
    | exact same_mono hr rfl
    | (cases hr; done)
theorem mono_rClearMap : ∀ a0, Mono (rClearMap a0) := by
  intro a0 c hc ev h v h' hr
  simp only [rClearMap, asOth, asPtr, asInt, V.sc, rv, loaded, notNil, Heap.write, found, cut, cutBounds, grow, growIn, appendTo, fSlice_eq, fNat_eq] at hr
  repeat' split at hr
  all_goals first
    | exact new_mono hr
    | exact upd_new_mono hr
    | exact same_mono hr rfl
    | (cases hr; done)
theorem mono_rLenK : ∀ a0, Mono (rLenK a0) := by
  intro a0 c hc ev h v h' hr
  simp only [rLenK, asOth, asPtr, asInt, V.sc, rv, loaded, notNil, Heap.write, found, cut, cutBounds, grow, growIn, appendTo, fSlice_eq, fNat_eq] at hr
  repeat' split at hr
  all_goals first
    | exact new_mono hr
    | exact upd_new_mono hr
    | exact same_mono hr rfl
    | (cases hr; done)
theorem mono_rLen : ∀ a0 a1, Mono (rLen a0 a1) := by
  intro a0 a1 c hc ev h v h' hr
  simp only [rLen, asOth, asPtr, asInt, V.sc, rv, loaded, notNil, Heap.write, found, cut, cutBounds, grow, growIn, appendTo, fSlice_eq, fNat_eq] at hr
  repeat' split at hr
  all_goals first
    | exact new_mono hr
    | exact upd_new_mono hr
    | exact same_mono hr rfl
    | (cases hr; done)
theorem mono_rMinmax : ∀ a0 a1 a2, Mono (rMinmax a0 a1 a2) := by
  intro a0 a1 a2 c hc ev h v h' hr
  simp only [rMinmax, asOth, asPtr, asInt, V.sc, rv, loaded, notNil, Heap.write, found, cut, cutBounds, grow, growIn, appendTo, fSlice_eq, fNat_eq] at hr
  repeat' split at hr
  all_goals first
    | exact new_mono hr
    | exact upd_new_mono hr
    | exact same_mono hr rfl
    | (cases hr; done)
theorem mono_rRe : ∀ a0, Mono (rRe a0) := by
  intro a0 c hc ev h v h' hr
  simp only [rRe, asOth, asPtr, asInt, V.sc, rv, loaded, notNil, Heap.write, found, cut, cutBounds, grow, growIn, appendTo, fSlice_eq, fNat_eq] at hr
  repeat' split at hr
  all_goals first
    | exact new_mono hr
    | exact upd_new_mono hr
    | exact same_mono hr rfl
    | (cases hr; done)
theorem mono_rIm : ∀ a0, Mono (rIm a0) := by
  intro a0 c hc ev h v h' hr
  simp only [rIm, asOth, asPtr, asInt, V.sc, rv, loaded, notNil, Heap.write, found, cut, cutBounds, grow, growIn, appendTo, fSlice_eq, fNat_eq] at hr
  repeat' split at hr
  all_goals first
    | exact new_mono hr
    | exact upd_new_mono hr
    | exact same_mono hr rfl
    | (cases hr; done)
theorem mono_rCplx : ∀ a0 a1, Mono (rCplx a0 a1) := by
  intro a0 a1 c hc ev h v h' hr
  simp only [rCplx, asOth, asPtr, asInt, V.sc, rv, loaded, notNil, Heap.write, found, cut, cutBounds, grow, growIn, appendTo, fSlice_eq, fNat_eq] at hr
  repeat' split at hr
  all_goals first
    | exact new_mono hr
    | exact upd_new_mono hr
    | exact same_mono hr rfl
    | (cases hr; done)
theorem mono_rBad : ∀ a0, Mono (rBad a0) := by
  intro a0 c hc ev h v h' hr
  simp only [rBad, asOth, asPtr, asInt, V.sc, rv, loaded, notNil, Heap.write, found, cut, cutBounds, grow, growIn, appendTo, fSlice_eq, fNat_eq] at hr
  repeat' split at hr
  all_goals first
    | exact new_mono hr
    | exact upd_new_mono hr
    | exact same_mono hr rfl
    | (cases hr; done)
theorem mono_rCallF : ∀ f as, Mono (rCallF f as) := fun _ _ _ hc _ _ _ _ hr => hc.1 _ _ _ _ _ hr
theorem mono_rCall : ∀ f as, Mono (rCall f as) := by
  intro f as c hc ev h v h' hr
  obtain ⟨q, hu, hr⟩ := asOth_ok hr no_ne
  cases q with
  | func g cap => exact hc.1 _ _ _ _ _ hr
  | yield l => exact hc.2 _ _ _ _ _ hr
  | _ => cases hr
theorem compRun_mono {r : Run} (h : compRun P n o = .mk r) : Mono r := by
  unfold compRun at h
  repeat' split at h
  all_goals injection h with h; subst h
  all_goals first
    | exact mono_rBad _
    | exact mono_rMv _
    | exact mono_rPick _ _ _
    | exact mono_rAlloc _
    | exact mono_rBox _
    | exact mono_rBuild _ _
    | exact mono_rBuildSlice _ _ _ _ _ _
    | exact mono_rLoad _ _ _
    | exact mono_rStore _ _ _
    | exact mono_rNilCheck _
    | exact mono_rBin _ _ _ _
    | exact mono_rShift _ _ _
    | exact mono_rEq _ _ _ _ _
    | exact mono_rNot _
    | exact mono_rNeg _
    | exact mono_rCompl _
    | exact mono_rI2i _ _
    | exact mono_rI2f _ _
    | exact mono_rF2i _ _ _ _
    | exact mono_rSame _
    | exact mono_rS2b _
    | exact mono_rB2s _
    | exact mono_rShared _
    | exact mono_rS2ap _ _ _
    | exact mono_rMakeFunc _ _
    | exact mono_rMakeMap 
    | exact mono_rMakeSlice _ _ _ _ _
    | exact mono_rCutStr _ _ _
    | exact mono_rCutSl _ _ _ _ _
    | exact mono_rCutArr _ _ _ _ _ _
    | exact mono_rFieldAddr _ _
    | exact mono_rField _ _ _ _
    | exact mono_rAddrArr _ _ _ _
    | exact mono_rAddrSl _ _ _
    | exact mono_rIdxArr _ _ _ _ _
    | exact mono_rIdxStr _ _
    | exact mono_rLookup _ _ _ _ _
    | exact mono_rMapUpdate _ _ _ _
    | exact mono_rExtract _ _
    | exact mono_rAppend _ _ _ _ _ _
    | exact mono_rCopy _ _ _
    | exact mono_rClearSl _ _
    | exact mono_rClearMap _
    | exact mono_rLenK _
    | exact mono_rLen _ _
    | exact mono_rMinmax _ _ _
    | exact mono_rRe _
    | exact mono_rIm _
    | exact mono_rCplx _ _
    | exact mono_rCallF _ _
    | exact mono_rCall _ _
end CSim
