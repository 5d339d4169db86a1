/-
  A run hangs on its operands' slots; runs that read memory only, or make one block.
-/
import Derived.Test.YtkkolfaecabloaaGreatSimSound
namespace CSim
set_option linter.unusedSimpArgs false
set_option linter.unusedVariables false
open Go
variable {P : Program} {n : Nat} {o : Oper}

/-! ### slots -/
theorem loc_cut {ev ev' : Env} {lo hi mx : Option Opnd} {len cap : Nat} {f : Nat → Nat → Nat → Res} (h1 : lo.map ev = lo.map ev') (h2 : hi.map ev = hi.map ev') (h3 : mx.map ev = mx.map ev') : cutBounds ev lo hi mx len cap f = cutBounds ev' lo hi mx len cap f := by
  have key : ∀ {x : Option Opnd} (a b : Nat), x.map ev = x.map ev' → uptoOr ev x a b = uptoOr ev' x a b := by
    intro x a b h
    cases x with
    | none => rfl
    | some x => have h : ev x = ev' x := Option.some.inj h; simp only [uptoOr, h]
  unfold cutBounds
  rw [key cap cap h3]
  split
  · rw [key _ len h2]
    split
    · rw [key _ 0 h1]
    · rfl
  · rfl
theorem loc_evs {ev ev' : Env} : ∀ {l : List Opnd}, (∀ x ∈ l, ev x = ev' x) → evs ev l = evs ev' l
  | [], _ => rfl
  | x :: l, h => by simp only [evs]; rw [h x (List.mem_cons_self ..), loc_evs fun y hy => h y (List.mem_cons_of_mem _ hy)]
theorem loc_caps {ev ev' : Env} : ∀ {l : List Opnd}, (∀ x ∈ l, ev x = ev' x) → capsOf ev l = capsOf ev' l
  | [], _ => rfl
  | x :: l, h => by simp only [capsOf]; rw [h x (List.mem_cons_self ..), loc_caps fun y hy => h y (List.mem_cons_of_mem _ hy)]
theorem loc_fold {mx : Bool} {ev ev' : Env} : ∀ {l : List Opnd} {a : AV}, (∀ x ∈ l, ev x = ev' x) → foldA mx ev a l = foldA mx ev' a l
  | [], _, _ => rfl
  | x :: l, a, h => by
    simp only [foldA]
    rw [h x (List.mem_cons_self ..)]
    congr 1
    funext y
    split
    · exact loc_fold fun y hy => h y (List.mem_cons_of_mem _ hy)
    · rfl
theorem loc_fill {ev ev' : Env} : ∀ {l : List (Nat × Nat × Opnd)} {a : List AV}, (∀ x ∈ l, ev x.2.2 = ev' x.2.2) → fillA ev l a = fillA ev' l a
  | [], _, _ => rfl
  | (i, s, x) :: l, a, h => by
    have ih := fun {a} => loc_fill (a := a) (l := l) fun y hy => h y (List.mem_cons_of_mem _ hy)
    have h0 : ev x = ev' x := h (i, s, x) (List.mem_cons_self ..)
    simp only [fillA, h0, ih]
def Loc (r : Run) (ev ev' : Env) : Prop := ∀ c h, r c ev h = r c ev' h
theorem loc_rMv {ev ev' : Env} (a0 : Opnd) (h0 : ev a0 = ev' a0) : Loc (rMv a0) ev ev' := by
  intro c h
  simp only [rMv, h0]
theorem loc_rPick {ev ev' : Env} (a0 : Opnd) (a1 : Opnd) (a2 : Opnd) (h0 : ev a0 = ev' a0) (h1 : ev a1 = ev' a1) (h2 : ev a2 = ev' a2) : Loc (rPick a0 a1 a2) ev ev' := by
  intro c h
  simp only [rPick, h0, h1, h2]
theorem loc_rAlloc {ev ev' : Env} (a0 : List AV)  : Loc (rAlloc a0) ev ev' := by
  intro c h
  rfl
theorem loc_rBox {ev ev' : Env} (a0 : Opnd) (h0 : ev a0 = ev' a0) : Loc (rBox a0) ev ev' := by
  intro c h
  simp only [rBox, h0]
theorem loc_rBuild {ev ev' : Env} (a0 : List AV) (a1 : List (Nat × Nat × Opnd)) (h1 : ∀ x ∈ a1, ev x.2.2 = ev' x.2.2) : Loc (rBuild a0 a1) ev ev' := by
  intro c h
  simp only [rBuild, loc_fill h1]
theorem loc_rBuildSlice {ev ev' : Env} (a0 : Bool) (a1 : Nat) (a2 : Nat) (a3 : List AV) (a4 : List AV) (a5 : List (Nat × Nat × Opnd)) (h5 : ∀ x ∈ a5, ev x.2.2 = ev' x.2.2) : Loc (rBuildSlice a0 a1 a2 a3 a4 a5) ev ev' := by
  intro c h
  simp only [rBuildSlice, loc_fill h5]
theorem loc_rLoad {ev ev' : Env} (a0 : Bool) (a1 : Nat) (a2 : Opnd) (h2 : ev a2 = ev' a2) : Loc (rLoad a0 a1 a2) ev ev' := by
  intro c h
  simp only [rLoad, h2]
theorem loc_rStore {ev ev' : Env} (a0 : Nat) (a1 : Opnd) (a2 : Opnd) (h1 : ev a1 = ev' a1) (h2 : ev a2 = ev' a2) : Loc (rStore a0 a1 a2) ev ev' := by
  intro c h
  simp only [rStore, h1, h2]
theorem loc_rNilCheck {ev ev' : Env} (a0 : Opnd) (h0 : ev a0 = ev' a0) : Loc (rNilCheck a0) ev ev' := by
  intro c h
  simp only [rNilCheck, h0]
theorem loc_rBin {ev ev' : Env} (a0 : BinOp) (a1 : IOp) (a2 : Opnd) (a3 : Opnd) (h2 : ev a2 = ev' a2) (h3 : ev a3 = ev' a3) : Loc (rBin a0 a1 a2 a3) ev ev' := by
  intro c h
  simp only [rBin, h2, h3]
theorem loc_rShift {ev ev' : Env} (a0 : Bool) (a1 : Opnd) (a2 : Opnd) (h1 : ev a1 = ev' a1) (h2 : ev a2 = ev' a2) : Loc (rShift a0 a1 a2) ev ev' := by
  intro c h
  simp only [rShift, h1, h2]
theorem loc_rEq {ev ev' : Env} (a0 : Bool) (a1 : Bool) (a2 : List EK) (a3 : Opnd) (a4 : Opnd) (h3 : ev a3 = ev' a3) (h4 : ev a4 = ev' a4) : Loc (rEq a0 a1 a2 a3 a4) ev ev' := by
  intro c h
  simp only [rEq, h3, h4]
theorem loc_rNot {ev ev' : Env} (a0 : Opnd) (h0 : ev a0 = ev' a0) : Loc (rNot a0) ev ev' := by
  intro c h
  simp only [rNot, h0]
theorem loc_rNeg {ev ev' : Env} (a0 : Opnd) (h0 : ev a0 = ev' a0) : Loc (rNeg a0) ev ev' := by
  intro c h
  simp only [rNeg, h0]
theorem loc_rCompl {ev ev' : Env} (a0 : Opnd) (h0 : ev a0 = ev' a0) : Loc (rCompl a0) ev ev' := by
  intro c h
  simp only [rCompl, h0]
theorem loc_rI2i {ev ev' : Env} (a0 : Nat) (a1 : Opnd) (h1 : ev a1 = ev' a1) : Loc (rI2i a0 a1) ev ev' := by
  intro c h
  simp only [rI2i, h1]
theorem loc_rI2f {ev ev' : Env} (a0 : Nat) (a1 : Opnd) (h1 : ev a1 = ev' a1) : Loc (rI2f a0 a1) ev ev' := by
  intro c h
  simp only [rI2f, h1]
theorem loc_rF2i {ev ev' : Env} (a0 : Nat) (a1 : Int) (a2 : Int) (a3 : Opnd) (h3 : ev a3 = ev' a3) : Loc (rF2i a0 a1 a2 a3) ev ev' := by
  intro c h
  simp only [rF2i, h3]
theorem loc_rSame {ev ev' : Env} (a0 : Opnd) (h0 : ev a0 = ev' a0) : Loc (rSame a0) ev ev' := by
  intro c h
  simp only [rSame, h0]
theorem loc_rS2b {ev ev' : Env} (a0 : Opnd) (h0 : ev a0 = ev' a0) : Loc (rS2b a0) ev ev' := by
  intro c h
  simp only [rS2b, h0]
theorem loc_rB2s {ev ev' : Env} (a0 : Opnd) (h0 : ev a0 = ev' a0) : Loc (rB2s a0) ev ev' := by
  intro c h
  simp only [rB2s, h0]
theorem loc_rShared {ev ev' : Env} (a0 : Opnd) (h0 : ev a0 = ev' a0) : Loc (rShared a0) ev ev' := by
  intro c h
  simp only [rShared, h0]
theorem loc_rS2ap {ev ev' : Env} (a0 : Nat) (a1 : Nat) (a2 : Opnd) (h2 : ev a2 = ev' a2) : Loc (rS2ap a0 a1 a2) ev ev' := by
  intro c h
  simp only [rS2ap, h2]
theorem loc_rMakeFunc {ev ev' : Env} (a0 : Nat) (a1 : List Opnd) (h1 : ∀ x ∈ a1, ev x = ev' x) : Loc (rMakeFunc a0 a1) ev ev' := by
  intro c h
  simp only [rMakeFunc, loc_caps h1]
theorem loc_rMakeMap {ev ev' : Env}   : Loc (rMakeMap ) ev ev' := by
  intro c h
  rfl
theorem loc_rMakeSlice {ev ev' : Env} (a0 : Nat) (a1 : Nat) (a2 : List AV) (a3 : Opnd) (a4 : Opnd) (h3 : ev a3 = ev' a3) (h4 : ev a4 = ev' a4) : Loc (rMakeSlice a0 a1 a2 a3 a4) ev ev' := by
  intro c h
  simp only [rMakeSlice, h3, h4]
theorem loc_rCutStr {ev ev' : Env} (a0 : Opnd) (a1 : Option Opnd) (a2 : Option Opnd) (h0 : ev a0 = ev' a0) (h1 : a1.map ev = a1.map ev') (h2 : a2.map ev = a2.map ev') : Loc (rCutStr a0 a1 a2) ev ev' := by
  intro c h
  simp only [rCutStr, h0]
  congr 1
  funext y
  split
  · simp only [fNat_eq]
    exact loc_cut h1 h2 rfl
  · rfl
theorem loc_rCutSl {ev ev' : Env} (a0 : Nat) (a1 : Opnd) (a2 : Option Opnd) (a3 : Option Opnd) (a4 : Option Opnd) (h1 : ev a1 = ev' a1) (h2 : a2.map ev = a2.map ev') (h3 : a3.map ev = a3.map ev') (h4 : a4.map ev = a4.map ev') : Loc (rCutSl a0 a1 a2 a3 a4) ev ev' := by
  intro c h
  simp only [rCutSl, h1]
  congr 1
  funext y
  split
  · exact loc_cut h2 h3 h4
  · split
    · rfl
    · exact loc_cut h2 h3 h4
  · rfl
theorem loc_rCutArr {ev ev' : Env} (a0 : Nat) (a1 : Nat) (a2 : Opnd) (a3 : Option Opnd) (a4 : Option Opnd) (a5 : Option Opnd) (h2 : ev a2 = ev' a2) (h3 : a3.map ev = a3.map ev') (h4 : a4.map ev = a4.map ev') (h5 : a5.map ev = a5.map ev') : Loc (rCutArr a0 a1 a2 a3 a4 a5) ev ev' := by
  intro c h
  simp only [rCutArr, h2]
  congr 1
  funext y z
  split
  · exact loc_cut h3 h4 h5
  · rfl
theorem loc_rFieldAddr {ev ev' : Env} (a0 : Nat) (a1 : Opnd) (h1 : ev a1 = ev' a1) : Loc (rFieldAddr a0 a1) ev ev' := by
  intro c h
  simp only [rFieldAddr, h1]
theorem loc_rField {ev ev' : Env} (a0 : Bool) (a1 : Nat) (a2 : Nat) (a3 : Opnd) (h3 : ev a3 = ev' a3) : Loc (rField a0 a1 a2 a3) ev ev' := by
  intro c h
  simp only [rField, h3]
theorem loc_rAddrArr {ev ev' : Env} (a0 : Nat) (a1 : Nat) (a2 : Opnd) (a3 : Opnd) (h2 : ev a2 = ev' a2) (h3 : ev a3 = ev' a3) : Loc (rAddrArr a0 a1 a2 a3) ev ev' := by
  intro c h
  simp only [rAddrArr, h2, h3]
theorem loc_rAddrSl {ev ev' : Env} (a0 : Nat) (a1 : Opnd) (a2 : Opnd) (h1 : ev a1 = ev' a1) (h2 : ev a2 = ev' a2) : Loc (rAddrSl a0 a1 a2) ev ev' := by
  intro c h
  simp only [rAddrSl, h1, h2]
theorem loc_rIdxArr {ev ev' : Env} (a0 : Nat) (a1 : Nat) (a2 : Bool) (a3 : Opnd) (a4 : Opnd) (h3 : ev a3 = ev' a3) (h4 : ev a4 = ev' a4) : Loc (rIdxArr a0 a1 a2 a3 a4) ev ev' := by
  intro c h
  simp only [rIdxArr, h3, h4]
theorem loc_rIdxStr {ev ev' : Env} (a0 : Opnd) (a1 : Opnd) (h0 : ev a0 = ev' a0) (h1 : ev a1 = ev' a1) : Loc (rIdxStr a0 a1) ev ev' := by
  intro c h
  simp only [rIdxStr, h0, h1]
theorem loc_rLookup {ev ev' : Env} (a0 : Bool) (a1 : V) (a2 : Bool) (a3 : Opnd) (a4 : Opnd) (h3 : ev a3 = ev' a3) (h4 : ev a4 = ev' a4) : Loc (rLookup a0 a1 a2 a3 a4) ev ev' := by
  intro c h
  simp only [rLookup, h3, h4]
theorem loc_rMapUpdate {ev ev' : Env} (a0 : Bool) (a1 : Opnd) (a2 : Opnd) (a3 : Opnd) (h1 : ev a1 = ev' a1) (h2 : ev a2 = ev' a2) (h3 : ev a3 = ev' a3) : Loc (rMapUpdate a0 a1 a2 a3) ev ev' := by
  intro c h
  simp only [rMapUpdate, h1, h2, h3]
theorem loc_rExtract {ev ev' : Env} (a0 : Opnd) (a1 : Nat) (h0 : ev a0 = ev' a0) : Loc (rExtract a0 a1) ev ev' := by
  intro c h
  simp only [rExtract, h0]
theorem loc_rAppend {ev ev' : Env} (a0 : Nat) (a1 : Nat) (a2 : List AV) (a3 : Src) (a4 : Opnd) (a5 : Opnd) (h4 : ev a4 = ev' a4) (h5 : ev a5 = ev' a5) : Loc (rAppend a0 a1 a2 a3 a4 a5) ev ev' := by
  intro c h
  simp only [rAppend, h4, h5]
theorem loc_rCopy {ev ev' : Env} (a0 : Nat) (a1 : Opnd) (a2 : Opnd) (h1 : ev a1 = ev' a1) (h2 : ev a2 = ev' a2) : Loc (rCopy a0 a1 a2) ev ev' := by
  intro c h
  simp only [rCopy, h1, h2]
theorem loc_rClearSl {ev ev' : Env} (a0 : List AV) (a1 : Opnd) (h1 : ev a1 = ev' a1) : Loc (rClearSl a0 a1) ev ev' := by
  intro c h
  simp only [rClearSl, h1]
theorem loc_rClearMap {ev ev' : Env} (a0 : Opnd) (h0 : ev a0 = ev' a0) : Loc (rClearMap a0) ev ev' := by
  intro c h
  simp only [rClearMap, h0]
theorem loc_rLenK {ev ev' : Env} (a0 : Nat)  : Loc (rLenK a0) ev ev' := by
  intro c h
  rfl
theorem loc_rLen {ev ev' : Env} (a0 : EK) (a1 : Opnd) (h1 : ev a1 = ev' a1) : Loc (rLen a0 a1) ev ev' := by
  intro c h
  simp only [rLen, h1]
theorem loc_rMinmax {ev ev' : Env} (a0 : Bool) (a1 : Opnd) (a2 : List Opnd) (h1 : ev a1 = ev' a1) (h2 : ∀ x ∈ a2, ev x = ev' x) : Loc (rMinmax a0 a1 a2) ev ev' := by
  intro c h
  simp only [rMinmax, h1, loc_fold h2]
theorem loc_rRe {ev ev' : Env} (a0 : Opnd) (h0 : ev a0 = ev' a0) : Loc (rRe a0) ev ev' := by
  intro c h
  simp only [rRe, h0]
theorem loc_rIm {ev ev' : Env} (a0 : Opnd) (h0 : ev a0 = ev' a0) : Loc (rIm a0) ev ev' := by
  intro c h
  simp only [rIm, h0]
theorem loc_rCplx {ev ev' : Env} (a0 : Opnd) (a1 : Opnd) (h0 : ev a0 = ev' a0) (h1 : ev a1 = ev' a1) : Loc (rCplx a0 a1) ev ev' := by
  intro c h
  simp only [rCplx, h0, h1]
theorem loc_rCallF {ev ev' : Env} (a0 : Nat) (a1 : List Opnd) (h1 : ∀ x ∈ a1, ev x = ev' x) : Loc (rCallF a0 a1) ev ev' := by
  intro c h
  simp only [rCallF, loc_evs h1]
theorem loc_rCall {ev ev' : Env} (a0 : Opnd) (a1 : List Opnd) (h0 : ev a0 = ev' a0) (h1 : ∀ x ∈ a1, ev x = ev' x) : Loc (rCall a0 a1) ev ev' := by
  intro c h
  simp only [rCall, h0, loc_evs h1]
theorem loc_rBad {ev ev' : Env} (a0 : String)  : Loc (rBad a0) ev ev' := by
  intro c h
  rfl
end CSim
