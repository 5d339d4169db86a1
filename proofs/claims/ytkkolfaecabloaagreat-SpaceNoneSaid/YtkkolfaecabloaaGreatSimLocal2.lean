/-
  A run hangs on its operands' slots: every operation that is compiled.
-/
import Derived.Test.YtkkolfaecabloaaGreatSimLocal
namespace CSim
set_option linter.unusedSimpArgs false
set_option linter.unusedVariables false
open Go
variable {P : Program} {n : Nat} {o : Oper}

/-- two sets of slots agree on some operands -/
def Agree (n : Nat) (e e' : E) (l : List Operand) : Prop := ∀ t, Operand.tmp t ∈ l → t < n → getter t e = getter t e'
theorem Agree.one {e e' : E} {l : List Operand} (K : Agree n e e' l) {x : Operand} {y : Opnd} (h : opnd n x = some y) (hx : x ∈ l) : evO e y = evO e' y := by
  cases x with
  | tmp t =>
    simp only [opnd] at h
    split at h
    · rename_i ht
      rw [nat_blt] at ht
      rw [withGetter_eq] at h
      injection h with h; subst h
      exact K t hx ht
    · cases h
  | const v =>
    simp only [opnd] at h
    split at h
    · injection h with h; subst h; rfl
    · cases h
  | global g => cases h
  | func f => injection h with h; subst h; rfl
theorem Agree.opt {e e' : E} {l : List Operand} (K : Agree n e e' l) {x : Option Operand} {y : Option Opnd} (h : opndO n x = some y) (hx : ∀ z ∈ x, z ∈ l) : y.map (evO e) = y.map (evO e') := by
  cases x with
  | none => injection h with h; subst h; rfl
  | some x =>
    simp only [opndO] at h
    split at h
    · rename_i a ha
      injection h with h; subst h
      exact congrArg some (K.one ha (hx x rfl))
    · cases h
theorem Agree.many {e e' : E} {l : List Operand} (K : Agree n e e' l) : ∀ {xs : List Operand} {ys : List Opnd}, opnds n xs = some ys → (∀ z ∈ xs, z ∈ l) → ∀ y ∈ ys, evO e y = evO e' y
  | [], ys, h, hx, y, hy => by injection h with h; subst h; cases hy
  | x :: xs, ys, h, hx, y, hy => by
    simp only [opnds] at h
    split at h
    · rename_i a r h1 h2
      injection h with h; subst h
      cases hy with
      | head => exact K.one h1 (hx x (List.mem_cons_self ..))
      | tail _ hm => exact K.many h2 (fun z hz => hx z (List.mem_cons_of_mem _ hz)) y hm
    · cases h
theorem Agree.parts {e e' : E} {l : List Operand} (K : Agree n e e' l) {place : Nat → Option (Nat × Nat)} : ∀ {xs : List (Nat × Operand)} {ys : List (Nat × Nat × Opnd)}, partsOf n xs place = some ys → (∀ z ∈ xs, z.2 ∈ l) → ∀ y ∈ ys, evO e y.2.2 = evO e' y.2.2
  | [], ys, h, hx, y, hy => by injection h with h; subst h; cases hy
  | (i, x) :: xs, ys, h, hx, y, hy => by
    simp only [partsOf] at h
    split at h
    · rename_i a b c r h1 h2 h3
      injection h with h; subst h
      cases hy with
      | head => exact K.one h2 (hx (i, x) (List.mem_cons_self ..))
      | tail _ hm => exact K.parts h3 (fun z hz => hx z (List.mem_cons_of_mem _ hz)) y hm
    · cases h
theorem Agree.mono {e e' : E} {l m : List Operand} (K : Agree n e e' l) (h : ∀ x ∈ m, x ∈ l) : Agree n e e' m := fun t ht => K t (h _ ht)

theorem local_call {cl : Call} {r : Run} {e e' : E} (hop : o.op = .call cl) (K : Agree n e e' o.op.operands.toList) (h : compRun P n o = .mk r) : Loc r (evO e) (evO e') := by
  obtain ⟨ce, args, ats⟩ := cl
  rw [hop] at K
  have Ka : Agree n e e' args.toList := K.mono fun x hx => by
    cases ce <;> simp [Op.operands, Call.operands] at * <;> simp [hx]
  unfold compRun at h
  simp only [hop] at h
  cases ce with
  | value f =>
    have Kf : Agree n e e' [f] := K.mono fun x hx => by
      simp [Op.operands, Call.operands] at *
      simp [hx]
    simp only at h
    split at h
    · rename_i as has
      split at h
      · injection h with h; subst h
        exact loc_rCallF _ _ (Ka.many has fun _ h => h)
      · split at h
        · rename_i f1 hf1
          injection h with h; subst h
          exact loc_rCall _ _ (Kf.one hf1 (by simp)) (Ka.many has fun _ h => h)
        · injection h with h; subst h; exact loc_rBad _
    · injection h with h; subst h; exact loc_rBad _
  | invoke a b => simp only at h; injection h with h; subst h; exact loc_rBad _
  | builtin b =>
    simp only at h
    split at h
    · injection h with h; subst h; exact loc_rBad _
    · rename_i as has
      have KA := Ka.many has fun _ h => h
      repeat' split at h
      all_goals injection h with h; subst h
      all_goals first
        | exact loc_rBad _
        | exact loc_rAppend _ _ _ _ _ _ (KA _ (by simp)) (KA _ (by simp))
        | exact loc_rCopy _ _ _ (KA _ (by simp)) (KA _ (by simp))
        | exact loc_rClearSl _ _ (KA _ (by simp))
        | exact loc_rClearMap _ (KA _ (by simp))
        | exact loc_rLenK _
        | exact loc_rLen _ _ (KA _ (by simp))
        | exact loc_rMinmax _ _ _ (KA _ (by simp)) (fun x hx => KA x (by simp [hx]))
        | exact loc_rRe _ (KA _ (by simp))
        | exact loc_rIm _ (KA _ (by simp))
        | exact loc_rCplx _ _ (KA _ (by simp)) (KA _ (by simp))

theorem compRun_local {r : Run} {e e' : E} (K : Agree n e e' o.op.operands.toList) (h : compRun P n o = .mk r) : Loc r (evO e) (evO e') := by
  cases hop : o.op
  case call c => exact local_call hop K h
  case makeFunc f a b =>
    rw [hop] at K
    unfold compRun at h
    simp only [hop] at h
    cases f with
    | func f =>
      simp only at h
      split at h
      · rename_i m h1 h2
        injection h with h; subst h
        exact loc_rMakeFunc _ _ (K.many h2 (by
          intro z hz
          simp only [Op.operands, Array.toList_append, List.mem_append]
          exact .inr hz))
      · injection h with h; subst h; exact loc_rBad _
    | _ => injection h with h; subst h; exact loc_rBad _
  case makeMap t r =>
    unfold compRun at h
    simp only [hop] at h
    cases r with
    | none => injection h with h; subst h; exact loc_rMakeMap
    | some r => injection h with h; subst h; exact loc_rBad _
  all_goals rw [hop] at K
  all_goals simp only [Op.operands] at K
  all_goals unfold compRun at h
  all_goals simp only [hop] at h
  all_goals repeat' split at h
  all_goals injection h with h; subst h
  all_goals first
    | exact loc_rBad _
    | exact loc_rMv _ (K.one (by assumption) (by simp))
    | exact loc_rPick _ _ _ (K.one (by assumption) (by simp)) (K.one (by assumption) (by simp)) (K.one (by assumption) (by simp))
    | exact loc_rAlloc _ 
    | exact loc_rBox _ (K.one (by assumption) (by simp))
    | exact loc_rBuild _ _ (K.parts (by assumption) (fun z hz => by first | exact List.mem_map.2 ⟨z, hz, rfl⟩ | (simp; exact ⟨_, hz⟩)))
    | exact loc_rBuildSlice _ _ _ _ _ _ (K.parts (by assumption) (fun z hz => by first | exact List.mem_map.2 ⟨z, hz, rfl⟩ | (simp; exact ⟨_, hz⟩)))
    | exact loc_rLoad _ _ _ (K.one (by assumption) (by simp))
    | exact loc_rStore _ _ _ (K.one (by assumption) (by simp)) (K.one (by assumption) (by simp))
    | exact loc_rNilCheck _ (K.one (by assumption) (by simp))
    | exact loc_rBin _ _ _ _ (K.one (by assumption) (by simp)) (K.one (by assumption) (by simp))
    | exact loc_rShift _ _ _ (K.one (by assumption) (by simp)) (K.one (by assumption) (by simp))
    | exact loc_rEq _ _ _ _ _ (K.one (by assumption) (by simp)) (K.one (by assumption) (by simp))
    | exact loc_rNot _ (K.one (by assumption) (by simp))
    | exact loc_rNeg _ (K.one (by assumption) (by simp))
    | exact loc_rCompl _ (K.one (by assumption) (by simp))
    | exact loc_rI2i _ _ (K.one (by assumption) (by simp))
    | exact loc_rI2f _ _ (K.one (by assumption) (by simp))
    | exact loc_rF2i _ _ _ _ (K.one (by assumption) (by simp))
    | exact loc_rSame _ (K.one (by assumption) (by simp))
    | exact loc_rS2b _ (K.one (by assumption) (by simp))
    | exact loc_rB2s _ (K.one (by assumption) (by simp))
    | exact loc_rShared _ (K.one (by assumption) (by simp))
    | exact loc_rS2ap _ _ _ (K.one (by assumption) (by simp))
    | exact loc_rMakeFunc _ _ (K.many (by assumption) (by simp))
    | exact loc_rMakeMap  
    | exact loc_rMakeSlice _ _ _ _ _ (K.one (by assumption) (by simp)) (K.one (by assumption) (by simp))
    | exact loc_rCutStr _ _ _ (K.one (by assumption) (by simp)) (K.opt (by assumption) (fun z hz => by have hz2 := Option.mem_def.1 hz; simp [hz2])) (K.opt (by assumption) (fun z hz => by have hz2 := Option.mem_def.1 hz; simp [hz2]))
    | exact loc_rCutSl _ _ _ _ _ (K.one (by assumption) (by simp)) (K.opt (by assumption) (fun z hz => by have hz2 := Option.mem_def.1 hz; simp [hz2])) (K.opt (by assumption) (fun z hz => by have hz2 := Option.mem_def.1 hz; simp [hz2])) (K.opt (by assumption) (fun z hz => by have hz2 := Option.mem_def.1 hz; simp [hz2]))
    | exact loc_rCutArr _ _ _ _ _ _ (K.one (by assumption) (by simp)) (K.opt (by assumption) (fun z hz => by have hz2 := Option.mem_def.1 hz; simp [hz2])) (K.opt (by assumption) (fun z hz => by have hz2 := Option.mem_def.1 hz; simp [hz2])) (K.opt (by assumption) (fun z hz => by have hz2 := Option.mem_def.1 hz; simp [hz2]))
    | exact loc_rFieldAddr _ _ (K.one (by assumption) (by simp))
    | exact loc_rField _ _ _ _ (K.one (by assumption) (by simp))
    | exact loc_rAddrArr _ _ _ _ (K.one (by assumption) (by simp)) (K.one (by assumption) (by simp))
    | exact loc_rAddrSl _ _ _ (K.one (by assumption) (by simp)) (K.one (by assumption) (by simp))
    | exact loc_rIdxArr _ _ _ _ _ (K.one (by assumption) (by simp)) (K.one (by assumption) (by simp))
    | exact loc_rIdxStr _ _ (K.one (by assumption) (by simp)) (K.one (by assumption) (by simp))
    | exact loc_rLookup _ _ _ _ _ (K.one (by assumption) (by simp)) (K.one (by assumption) (by simp))
    | exact loc_rMapUpdate _ _ _ _ (K.one (by assumption) (by simp)) (K.one (by assumption) (by simp)) (K.one (by assumption) (by simp))
    | exact loc_rExtract _ _ (K.one (by assumption) (by simp))
    | exact loc_rAppend _ _ _ _ _ _ (K.one (by assumption) (by simp)) (K.one (by assumption) (by simp))
    | exact loc_rCopy _ _ _ (K.one (by assumption) (by simp)) (K.one (by assumption) (by simp))
    | exact loc_rClearSl _ _ (K.one (by assumption) (by simp))
    | exact loc_rClearMap _ (K.one (by assumption) (by simp))
    | exact loc_rLenK _ 
    | exact loc_rLen _ _ (K.one (by assumption) (by simp))
    | exact loc_rMinmax _ _ _ (K.one (by assumption) (by simp)) (K.many (by assumption) (by simp))
    | exact loc_rRe _ (K.one (by assumption) (by simp))
    | exact loc_rIm _ (K.one (by assumption) (by simp))
    | exact loc_rCplx _ _ (K.one (by assumption) (by simp)) (K.one (by assumption) (by simp))
    | exact loc_rCallF _ _ (K.many (by assumption) (by simp))
    | exact loc_rCall _ _ (K.one (by assumption) (by simp)) (K.many (by assumption) (by simp))
end CSim
