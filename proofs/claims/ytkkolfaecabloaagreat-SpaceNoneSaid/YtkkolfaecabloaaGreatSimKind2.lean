/-
  What every operation that is compiled does to memory, by its class.
-/
import Derived.Test.YtkkolfaecabloaaGreatSimKind
namespace CSim
set_option linter.unusedSimpArgs false
set_option linter.unusedVariables false
open Go
variable {P : Program} {n : Nat} {o : Oper}

theorem pure_bin {r : Run} {op : BinOp} {t t' : TypeId} {x y : Operand} (hop : o.op = .binOp op t x y t') (hk : effOf P (.binOp op t x y t') = .pure) (h : compRun P n o = .mk r) : PureR r := by
  unfold compRun at h
  cases op
  all_goals first
    | (have hk2 : Kind.alloc = .pure := hk; cases hk2; done)
    | (have hk2 : Kind.eff = .pure := hk; cases hk2; done)
    | (have hk2 : Kind.read 0 = .pure := hk; cases hk2; done)
    | skip
  all_goals simp only [hop, isCmp] at h
  all_goals repeat' split at h
  all_goals injection h with h; subst h
  all_goals first
    | exact pure_rMv _
    | exact pure_rPick _ _ _
    | exact pure_rBuild _ _
    | exact pure_rNilCheck _
    | exact pure_rNot _
    | exact pure_rNeg _
    | exact pure_rCompl _
    | exact pure_rS2ap _ _ _
    | exact pure_rMakeFunc _ _
    | exact pure_rFieldAddr _ _
    | exact pure_rField _ _ _ _
    | exact pure_rAddrArr _ _ _ _
    | exact pure_rAddrSl _ _ _
    | exact pure_rIdxArr _ _ _ _ _
    | exact pure_rIdxStr _ _
    | exact pure_rExtract _ _
    | exact pure_rBin _ _ _ _
    | exact pure_rShift _ _ _
    | exact pure_rI2i _ _
    | exact pure_rI2f _ _
    | exact pure_rF2i _ _ _ _
    | exact pure_rSame _
    | exact pure_rMinmax _ _ _
    | exact pure_rRe _
    | exact pure_rIm _
    | exact pure_rCplx _ _
    | exact pure_rBad _
    | (exfalso; simp_all; done)
theorem pure_conv {r : Run} {s d : TypeId} {x : Operand} (hop : o.op = .convert s d x) (hk : effOf P (.convert s d x) = .pure) (h : compRun P n o = .mk r) : PureR r := by
  unfold compRun at h
  simp only [hop] at h
  simp only [effOf] at hk
  repeat' split at h
  all_goals injection h with h; subst h
  all_goals first
    | exact pure_rMv _
    | exact pure_rPick _ _ _
    | exact pure_rBuild _ _
    | exact pure_rNilCheck _
    | exact pure_rNot _
    | exact pure_rNeg _
    | exact pure_rCompl _
    | exact pure_rS2ap _ _ _
    | exact pure_rMakeFunc _ _
    | exact pure_rFieldAddr _ _
    | exact pure_rField _ _ _ _
    | exact pure_rAddrArr _ _ _ _
    | exact pure_rAddrSl _ _ _
    | exact pure_rIdxArr _ _ _ _ _
    | exact pure_rIdxStr _ _
    | exact pure_rExtract _ _
    | exact pure_rBin _ _ _ _
    | exact pure_rShift _ _ _
    | exact pure_rI2i _ _
    | exact pure_rI2f _ _
    | exact pure_rF2i _ _ _ _
    | exact pure_rSame _
    | exact pure_rMinmax _ _ _
    | exact pure_rRe _
    | exact pure_rIm _
    | exact pure_rCplx _ _
    | exact pure_rBad _
    | (exfalso; simp_all; done)
theorem pure_call {r : Run} {c : Call} (hop : o.op = .call c) (hk : effOf P (.call c) = .pure) (h : compRun P n o = .mk r) : PureR r := by
  obtain ⟨ce, args, ats⟩ := c
  unfold compRun at h
  simp only [hop] at h
  cases ce with
  | value f => exact absurd (show Kind.eff = .pure from hk) nofun
  | invoke a c =>
    simp only at h
    injection h with h; subst h
    exact pure_rBad _
  | builtin bi =>
    simp only at h
    cases bi
    all_goals first
      | (have hk2 : Kind.alloc = .pure := hk; cases hk2; done)
      | (have hk2 : Kind.eff = .pure := hk; cases hk2; done)
      | (have hk2 : Kind.read 0 = .pure := hk; cases hk2; done)
      | skip
    all_goals repeat' split at h
    all_goals injection h with h; subst h
    all_goals first
      | exact pure_rMv _
      | exact pure_rPick _ _ _
      | exact pure_rBuild _ _
      | exact pure_rNilCheck _
      | exact pure_rNot _
      | exact pure_rNeg _
      | exact pure_rCompl _
      | exact pure_rS2ap _ _ _
      | exact pure_rMakeFunc _ _
      | exact pure_rFieldAddr _ _
      | exact pure_rField _ _ _ _
      | exact pure_rAddrArr _ _ _ _
      | exact pure_rAddrSl _ _ _
      | exact pure_rIdxArr _ _ _ _ _
      | exact pure_rIdxStr _ _
      | exact pure_rExtract _ _
      | exact pure_rBin _ _ _ _
      | exact pure_rShift _ _ _
      | exact pure_rI2i _ _
      | exact pure_rI2f _ _
      | exact pure_rF2i _ _ _ _
      | exact pure_rSame _
      | exact pure_rMinmax _ _ _
      | exact pure_rRe _
      | exact pure_rIm _
      | exact pure_rCplx _ _
      | exact pure_rBad _
      | (exfalso; simp_all; done)
theorem compRun_pure {r : Run} (hk : effOf P o.op = .pure) (h : compRun P n o = .mk r) : PureR r := by
  cases hop : o.op
  case binOp => rw [hop] at hk; exact pure_bin hop hk h
  case convert => rw [hop] at hk; exact pure_conv hop hk h
  case call => rw [hop] at hk; exact pure_call hop hk h
  all_goals rw [hop] at hk
  all_goals first
    | (have hk2 : Kind.alloc = .pure := hk; cases hk2; done)
    | (have hk2 : Kind.eff = .pure := hk; cases hk2; done)
    | (have hk2 : Kind.read 0 = .pure := hk; cases hk2; done)
    | skip
  all_goals unfold compRun at h
  all_goals simp only [hop] at h
  all_goals repeat' split at h
  all_goals injection h with h; subst h
  all_goals first
    | exact pure_rMv _
    | exact pure_rPick _ _ _
    | exact pure_rBuild _ _
    | exact pure_rNilCheck _
    | exact pure_rNot _
    | exact pure_rNeg _
    | exact pure_rCompl _
    | exact pure_rS2ap _ _ _
    | exact pure_rMakeFunc _ _
    | exact pure_rFieldAddr _ _
    | exact pure_rField _ _ _ _
    | exact pure_rAddrArr _ _ _ _
    | exact pure_rAddrSl _ _ _
    | exact pure_rIdxArr _ _ _ _ _
    | exact pure_rIdxStr _ _
    | exact pure_rExtract _ _
    | exact pure_rBin _ _ _ _
    | exact pure_rShift _ _ _
    | exact pure_rI2i _ _
    | exact pure_rI2f _ _
    | exact pure_rF2i _ _ _ _
    | exact pure_rSame _
    | exact pure_rMinmax _ _ _
    | exact pure_rRe _
    | exact pure_rIm _
    | exact pure_rCplx _ _
    | exact pure_rBad _
    | (exfalso; simp_all; done)

theorem read_bin {r : Run} {b : Nat} {op : BinOp} {t t' : TypeId} {x y : Operand} (hop : o.op = .binOp op t x y t') (hk : effOf P (.binOp op t x y t') = .read b) (h : compRun P n o = .mk r) : ReadR r := by
  unfold compRun at h
  cases op
  all_goals first
    | (have hk2 : Kind.alloc = .read b := hk; cases hk2; done)
    | (have hk2 : Kind.eff = .read b := hk; cases hk2; done)
    | (have hk2 : Kind.pure = .read b := hk; cases hk2; done)
    | skip
  all_goals simp only [hop, isCmp] at h
  all_goals repeat' split at h
  all_goals injection h with h; subst h
  all_goals first
    | exact read_rLoad _ _ _
    | exact read_rEq _ _ _ _ _
    | exact read_rBin _ _ _ _
    | exact read_rShift _ _ _
    | exact read_rB2s _
    | exact read_rShared _
    | exact read_rCutStr _ _ _
    | exact read_rCutSl _ _ _ _ _
    | exact read_rCutArr _ _ _ _ _ _
    | exact read_rLookup _ _ _ _ _
    | exact read_rLenK _
    | exact read_rLen _ _
    | exact read_rBad _
    | (exfalso; simp_all; done)
theorem read_conv {r : Run} {b : Nat} {s d : TypeId} {x : Operand} (hop : o.op = .convert s d x) (hk : effOf P (.convert s d x) = .read b) (h : compRun P n o = .mk r) : ReadR r := by
  unfold compRun at h
  simp only [hop] at h
  simp only [effOf] at hk
  repeat' split at h
  all_goals injection h with h; subst h
  all_goals first
    | exact read_rLoad _ _ _
    | exact read_rEq _ _ _ _ _
    | exact read_rBin _ _ _ _
    | exact read_rShift _ _ _
    | exact read_rB2s _
    | exact read_rShared _
    | exact read_rCutStr _ _ _
    | exact read_rCutSl _ _ _ _ _
    | exact read_rCutArr _ _ _ _ _ _
    | exact read_rLookup _ _ _ _ _
    | exact read_rLenK _
    | exact read_rLen _ _
    | exact read_rBad _
    | (exfalso; simp_all; done)
theorem read_call {r : Run} {b : Nat} {c : Call} (hop : o.op = .call c) (hk : effOf P (.call c) = .read b) (h : compRun P n o = .mk r) : ReadR r := by
  obtain ⟨ce, args, ats⟩ := c
  unfold compRun at h
  simp only [hop] at h
  cases ce with
  | value f => exact absurd (show Kind.eff = .read b from hk) nofun
  | invoke a c =>
    simp only at h
    injection h with h; subst h
    exact read_rBad _
  | builtin bi =>
    simp only at h
    cases bi
    all_goals first
      | (have hk2 : Kind.alloc = .read b := hk; cases hk2; done)
      | (have hk2 : Kind.eff = .read b := hk; cases hk2; done)
      | (have hk2 : Kind.pure = .read b := hk; cases hk2; done)
      | skip
    all_goals repeat' split at h
    all_goals injection h with h; subst h
    all_goals first
      | exact read_rLoad _ _ _
      | exact read_rEq _ _ _ _ _
      | exact read_rBin _ _ _ _
      | exact read_rShift _ _ _
      | exact read_rB2s _
      | exact read_rShared _
      | exact read_rCutStr _ _ _
      | exact read_rCutSl _ _ _ _ _
      | exact read_rCutArr _ _ _ _ _ _
      | exact read_rLookup _ _ _ _ _
      | exact read_rLenK _
      | exact read_rLen _ _
      | exact read_rBad _
      | (exfalso; simp_all; done)
theorem compRun_read {r : Run} {b : Nat} (hk : effOf P o.op = .read b) (h : compRun P n o = .mk r) : ReadR r := by
  cases hop : o.op
  case binOp => rw [hop] at hk; exact read_bin hop hk h
  case convert => rw [hop] at hk; exact read_conv hop hk h
  case call => rw [hop] at hk; exact read_call hop hk h
  all_goals rw [hop] at hk
  all_goals first
    | (have hk2 : Kind.alloc = .read b := hk; cases hk2; done)
    | (have hk2 : Kind.eff = .read b := hk; cases hk2; done)
    | (have hk2 : Kind.pure = .read b := hk; cases hk2; done)
    | skip
  all_goals unfold compRun at h
  all_goals simp only [hop] at h
  all_goals repeat' split at h
  all_goals injection h with h; subst h
  all_goals first
    | exact read_rLoad _ _ _
    | exact read_rEq _ _ _ _ _
    | exact read_rBin _ _ _ _
    | exact read_rShift _ _ _
    | exact read_rB2s _
    | exact read_rShared _
    | exact read_rCutStr _ _ _
    | exact read_rCutSl _ _ _ _ _
    | exact read_rCutArr _ _ _ _ _ _
    | exact read_rLookup _ _ _ _ _
    | exact read_rLenK _
    | exact read_rLen _ _
    | exact read_rBad _
    | (exfalso; simp_all; done)

theorem alloc_bin {r : Run} {op : BinOp} {t t' : TypeId} {x y : Operand} (hop : o.op = .binOp op t x y t') (hk : effOf P (.binOp op t x y t') = .alloc) (h : compRun P n o = .mk r) : AllocR r := by
  unfold compRun at h
  cases op
  all_goals first
    | (have hk2 : Kind.pure = .alloc := hk; cases hk2; done)
    | (have hk2 : Kind.eff = .alloc := hk; cases hk2; done)
    | (have hk2 : Kind.read 0 = .alloc := hk; cases hk2; done)
    | skip
  all_goals simp only [hop, isCmp] at h
  all_goals repeat' split at h
  all_goals injection h with h; subst h
  all_goals first
    | exact alloc_rAlloc _
    | exact alloc_rBox _
    | exact alloc_rBuildSlice _ _ _ _ _ _
    | exact alloc_rMakeMap 
    | exact alloc_rMakeSlice _ _ _ _ _
    | exact alloc_rS2b _
    | exact alloc_rBad _
    | (exfalso; simp_all; done)
theorem alloc_conv {r : Run} {s d : TypeId} {x : Operand} (hop : o.op = .convert s d x) (hk : effOf P (.convert s d x) = .alloc) (h : compRun P n o = .mk r) : AllocR r := by
  unfold compRun at h
  simp only [hop] at h
  simp only [effOf] at hk
  repeat' split at h
  all_goals injection h with h; subst h
  all_goals first
    | exact alloc_rAlloc _
    | exact alloc_rBox _
    | exact alloc_rBuildSlice _ _ _ _ _ _
    | exact alloc_rMakeMap 
    | exact alloc_rMakeSlice _ _ _ _ _
    | exact alloc_rS2b _
    | exact alloc_rBad _
    | (exfalso; simp_all; done)
theorem alloc_call {r : Run} {c : Call} (hop : o.op = .call c) (hk : effOf P (.call c) = .alloc) (h : compRun P n o = .mk r) : AllocR r := by
  obtain ⟨ce, args, ats⟩ := c
  unfold compRun at h
  simp only [hop] at h
  cases ce with
  | value f => exact absurd (show Kind.eff = .alloc from hk) nofun
  | invoke a c =>
    simp only at h
    injection h with h; subst h
    exact alloc_rBad _
  | builtin bi =>
    simp only at h
    cases bi
    all_goals first
      | (have hk2 : Kind.pure = .alloc := hk; cases hk2; done)
      | (have hk2 : Kind.eff = .alloc := hk; cases hk2; done)
      | (have hk2 : Kind.read 0 = .alloc := hk; cases hk2; done)
      | skip
    all_goals repeat' split at h
    all_goals injection h with h; subst h
    all_goals first
      | exact alloc_rAlloc _
      | exact alloc_rBox _
      | exact alloc_rBuildSlice _ _ _ _ _ _
      | exact alloc_rMakeMap 
      | exact alloc_rMakeSlice _ _ _ _ _
      | exact alloc_rS2b _
      | exact alloc_rBad _
      | (exfalso; simp_all; done)
theorem compRun_alloc {r : Run} (hk : effOf P o.op = .alloc) (h : compRun P n o = .mk r) : AllocR r := by
  cases hop : o.op
  case binOp => rw [hop] at hk; exact alloc_bin hop hk h
  case convert => rw [hop] at hk; exact alloc_conv hop hk h
  case call => rw [hop] at hk; exact alloc_call hop hk h
  all_goals rw [hop] at hk
  all_goals first
    | (have hk2 : Kind.pure = .alloc := hk; cases hk2; done)
    | (have hk2 : Kind.eff = .alloc := hk; cases hk2; done)
    | (have hk2 : Kind.read 0 = .alloc := hk; cases hk2; done)
    | skip
  all_goals unfold compRun at h
  all_goals simp only [hop] at h
  all_goals repeat' split at h
  all_goals injection h with h; subst h
  all_goals first
    | exact alloc_rAlloc _
    | exact alloc_rBox _
    | exact alloc_rBuildSlice _ _ _ _ _ _
    | exact alloc_rMakeMap 
    | exact alloc_rMakeSlice _ _ _ _ _
    | exact alloc_rS2b _
    | exact alloc_rBad _
    | (exfalso; simp_all; done)
end CSim
