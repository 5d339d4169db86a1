/-
  Each operation that calls nothing: what it yields in the abstract memory, it yields in the model's.
-/
import Derived.Test.YtkkolfaecabloaaGreatSimHeap
import Derived.Laws.Sem
namespace CSim
set_option linter.unusedSimpArgs false
set_option linter.unusedVariables false
open Go

/-! ### values, taken apart -/
theorem asPtr_ok {β : Type} {x : V} {d r : β} {f : Nat → Nat → β} (h : asPtr x d f = r) (hd : d ≠ r) : ∃ b o, x = .s (.ptr b o) ∧ f b o = r := by
  cases x with
  | s a => cases a with
    | ptr b o => exact ⟨b, o, rfl, h⟩
    | _ => exact absurd h hd
  | _ => exact absurd h hd
theorem asInt_ok {β : Type} {x : V} {d r : β} {f : Nat → Int → β} (h : asInt x d f = r) (hd : d ≠ r) : ∃ k n, x = .s (.int k n) ∧ f k n = r := by
  cases x with
  | s a => cases a with
    | int k n => exact ⟨k, n, rfl, h⟩
    | _ => exact absurd h hd
  | _ => exact absurd h hd
theorem asOth_ok {β : Type} {x : V} {d r : β} {f : AX → β} (h : asOth x d f = r) (hd : d ≠ r) : ∃ y, x = .s (.oth y) ∧ f y = r := by
  cases x with
  | s a => cases a with
    | oth y => exact ⟨y, rfl, h⟩
    | _ => exact absurd h hd
  | _ => exact absurd h hd
theorem sc_ok {β : Type} {x : V} {d r : β} {f : AV → β} (h : x.sc d f = r) (hd : d ≠ r) : ∃ y, x = .s y ∧ f y = r := by
  cases x with
  | s a => exact ⟨a, rfl, h⟩
  | _ => exact absurd h hd
theorem no_ne {v : V} {h : Heap} : Res.no ≠ .ok v h := nofun
theorem none_ne {α : Type} {x : α} : (none : Option α) ≠ some x := nofun
theorem rv_ok {h h' : Heap} {x : Option AV} {v : V} (hx : rv h x = .ok v h') : ∃ y, x = some y ∧ v = .s y ∧ h' = h := by
  cases x with
  | none => cases hx
  | some y => injection hx with h1 h2; exact ⟨y, rfl, h1.symm, h2.symm⟩

/-! ### what is compiled of types -/
section
variable {P : Program}
theorem und_some {t : TypeId} {d : TypeDesc} (h : und P t = d) (hd : d ≠ .invalid) : P.underlying t = some d := by
  unfold und at h
  cases hx : P.underlying t with
  | none => rw [hx] at h; exact absurd h.symm hd
  | some y => rw [hx] at h; simp at h; rw [h]
theorem run_und {t : TypeId} {d : TypeDesc} (h : und P t = d) (hd : d ≠ .invalid) (w : World) : (underlying t).run P w = .ok d w := by
  have := und_some h hd
  simp [underlying, this]
theorem run_sizeT {t : TypeId} {s : Nat} (h : sizeT P t = some s) (w : World) : (Go.sizeOf t).run P w = .ok s w := by
  unfold sizeT at h
  cases hx : P.info? t with
  | none => rw [hx] at h; cases h
  | some i => rw [hx] at h; simp at h; simp [Go.sizeOf, typeInfo, hx, h]
theorem run_bytesT {t : TypeId} {s : Nat} (h : bytesT P t = some s) (w : World) : ∃ i, (typeInfo t).run P w = .ok i w ∧ i.bytes = s := by
  unfold bytesT at h
  cases hx : P.info? t with
  | none => rw [hx] at h; cases h
  | some i => rw [hx] at h; simp at h; exact ⟨i, by simp [typeInfo, hx], h⟩
/-- is it of several cells? -/
theorem run_isAgg {t : TypeId} {g : Bool} (h : isAggT P t = some g) (w : World) : (isAgg t).run P w = .ok g w := by
  unfold isAggT at h
  split at h
  · rename_i d hd
    injection h with h; subst h
    simp only [isAgg, Sem.run_bind, underlying, hd, run_program, Result.andThen_ok, Sem.run_pure]
    cases d <;> rfl
  · cases h
end

/-! ### constants and slots -/
theorem All2.of_scals : ∀ {l : List Value} {m : List AV} {ρ : Ren}, scals l = some m → (∀ v x, scal v = some x → CRel1 ρ x v) → All2 (CRel1 ρ) m l
  | [], m, ρ, h, _ => by injection h with h; subst h; exact .nil
  | v :: l, m, ρ, h, hs => by
    simp only [scals] at h
    split at h
    · rename_i x r h1 h2
      injection h with h; subst h
      exact .cons (hs _ _ h1) (All2.of_scals h2 hs)
    · cases h
theorem scal_ok {ρ : Ren} {v : Value} {x : AV} (h : scal v = some x) : CRel ρ x v := by
  cases v with
  | bool b => injection h with h; subst h; rfl
  | int k n => injection h with h; subst h; exact ⟨k, rfl, rfl⟩
  | float k n => injection h with h; subst h; exact ⟨k, rfl, rfl⟩
  | complex k a b => injection h with h; subst h; exact ⟨k, rfl, rfl⟩
  | string s => injection h with h; subst h; exact ⟨s, rfl, rfl⟩
  | pointer a => cases a with
    | none => injection h with h; subst h; rfl
    | some a => cases h
  | slice a l c => cases a with
    | none => cases l with
      | zero => cases c with
        | zero => injection h with h; subst h; rfl
        | succ c => cases h
      | succ l => cases h
    | some a => cases h
  | map r => cases r with
    | none => injection h with h; subst h; rfl
    | some r => cases h
  | nilFunc => injection h with h; subst h; rfl
  | func fn a b =>
    cases fn with
    | func f =>
      simp only [scal] at h
      split at h
      · rename_i h1 h2
        injection h with h; subst h
        have e1 : a = #[] := by simpa using h1
        subst e1
        exact ⟨b, rfl, by rw [h2]; exact .nil⟩
      · cases h
    | _ => cases h
  | _ => cases h
theorem scal_one {v : Value} {x : AV} (h : scal v = some x) : v.oneCell' = true := by cases v <;> first | rfl | cases h
theorem avOf_ok {ρ : Ren} {v : Value} {x : V} (h : avOf v = some x) : VRel ρ x v := by
  unfold avOf at h
  split at h
  · split at h
    · rename_i cs l hl
      injection h with h; subst h
      exact ⟨_, rfl, All2.of_scals hl fun _ _ h => ⟨scal_one h, scal_ok h⟩⟩
    · cases h
  · split at h
    · rename_i a ha
      injection h with h; subst h
      exact scal_ok ha
    · cases h

theorem opnd_ok {n : Nat} {x : Operand} {y : Opnd} (h : opnd n x = some y) {ρ : Ren} {e : E} {a : Act} (he : ERel ρ n e a.tmps) : VRel ρ (evO e y) (a.eval x) := by
  cases x with
  | tmp t =>
    simp only [opnd] at h
    split at h
    · rename_i ht
      rw [nat_blt] at ht
      rw [withGetter_eq] at h
      injection h with h; subst h
      exact he.2.2 t ht
    · cases h
  | const v =>
    simp only [opnd] at h
    split at h
    · rename_i x hx
      injection h with h; subst h
      exact avOf_ok hx
    · cases h
  | global g => cases h
  | func f =>
    injection h with h; subst h
    exact ⟨#[], rfl, .nil⟩
theorem opnds_ok {n : Nat} {ρ : Ren} {e : E} {a : Act} (he : ERel ρ n e a.tmps) : ∀ {l : List Operand} {m : List Opnd}, opnds n l = some m → VsRel ρ (evs (evO e) m) (l.map a.eval)
  | [], m, h => by injection h with h; subst h; rfl
  | x :: l, m, h => by
    simp only [opnds] at h
    split at h
    · rename_i y r h1 h2
      injection h with h; subst h
      exact ⟨_, _, rfl, opnd_ok h1 he, opnds_ok he h2⟩
    · cases h
/-- one operand, perhaps -/
def OptRel (ρ : Ren) (x : Option V) (v : Option Value) : Prop := match x, v with
  | none, none => True
  | some x, some v => VRel ρ x v
  | _, _ => False
theorem opndO_ok {n : Nat} {x : Option Operand} {y : Option Opnd} (h : opndO n x = some y) {ρ : Ren} {e : E} {a : Act} (he : ERel ρ n e a.tmps) :
    OptRel ρ (y.map (evO e)) (x.map a.eval) := by
  cases x with
  | none => injection h with h; subst h; trivial
  | some x =>
    simp only [opndO] at h
    split at h
    · rename_i z hz
      injection h with h; subst h
      exact opnd_ok hz he
    · cases h

/-! ### the statement for one operation -/
def Out (ρ : Ren) (h : Heap) (w : World) (v : V) (h' : Heap) (cv : Value) (w' : World) : Prop := ∃ ρ', VRel ρ' v cv ∧ Step ρ h w ρ' h' w'

theorem Out.same {ρ : Ren} {h : Heap} {w : World} {v : V} {cv : Value} (hr : HRel ρ h w) (hv : VRel ρ v cv) : Out ρ h w v h cv w := ⟨ρ, hv, Step.refl hr⟩

/-- 'r' does what the operation does, and calls nothing -/
def ValOk (P : Program) (n : Nat) (o : Oper) (r : Run) : Prop :=
  ∀ c e h v h', r c (evO e) h = .ok v h' → ∀ ρ w (a : Act), ERel ρ n e a.tmps → HRel ρ h w → Fresh ρ h.next h'.next →
    ∃ x cv w', (execOp a.eval o).run P w = .ok x w' ∧ (x = .value cv ∨ (x = .skip ∧ cv = undef)) ∧ Out ρ h w v h' cv w'

theorem undef_rel {ρ : Ren} : VRel ρ undefA undef := ⟨#[], rfl, rfl⟩

theorem ptr_rel {ρ : Ren} {b o : Nat} {v : Value} (h : VRel ρ (.s (.ptr b o)) v) : ∃ p, ρ b = some p ∧ v = .pointer (some ⟨p.blk, p.sh + o, none⟩) := h

variable {P : Program} {n : Nat} {o : Oper}

theorem ok_bad (why : String) : ValOk P n o (rBad why) := fun _ _ _ _ _ h => nomatch h

theorem ok_move {x : Operand} {y : Opnd} (ho : o.op = .move x ∨ o.op = .assign x) (hx : opnd n x = some y) : ValOk P n o (rMv y) := by
  intro c e h v h' hr ρ w a he hh _
  injection hr with h1 h2; subst h1; subst h2
  refine ⟨.value (a.eval x), a.eval x, w, ?_, .inl rfl, Out.same hh (opnd_ok hx he)⟩
  rcases ho with ho | ho <;> simp [execOp, ho]

theorem ok_pick {c0 a0 b0 : Operand} {c1 a1 b1 : Opnd} (ho : o.op = .pick c0 a0 b0) (hc : opnd n c0 = some c1) (ha : opnd n a0 = some a1) (hb : opnd n b0 = some b1) : ValOk P n o (rPick c1 a1 b1) := by
  intro c e h v h' hr ρ w a he hh _
  obtain ⟨y, hy, hr⟩ := sc_ok hr no_ne
  have hcr := opnd_ok hc he
  rw [hy] at hcr
  cases y with
  | bool t =>
    have e1 : a.eval c0 = .bool t := hcr
    cases t with
    | true =>
      injection hr with h1 h2; subst h1; subst h2
      exact ⟨.value (a.eval a0), a.eval a0, w, by simp [execOp, ho, e1, asBool], .inl rfl, Out.same hh (opnd_ok ha he)⟩
    | false =>
      injection hr with h1 h2; subst h1; subst h2
      exact ⟨.value (a.eval b0), a.eval b0, w, by simp [execOp, ho, e1, asBool], .inl rfl, Out.same hh (opnd_ok hb he)⟩
  | _ => cases hr

/-- a cell's value is no aggregate, unless it may be anything -/
theorem oneCell_of {ρ : Ren} {x : AV} {v : Value} (h : CRel ρ x v) (hx : isAny x = false) : v.oneCell' = true := by
  cases x with
  | int k n => obtain ⟨k', _, rfl⟩ := h; rfl
  | bool b => have : v = .bool b := h; subst this; rfl
  | ptr b o => obtain ⟨p, _, rfl⟩ := h; rfl
  | oth y => cases y with
    | any => cases hx
    | one => exact h.1
    | rng k lo hi => obtain ⟨k', n, _, rfl, _⟩ := h; rfl
    | float k n => obtain ⟨k', _, rfl⟩ := h; rfl
    | complex k a b => obtain ⟨k', _, rfl⟩ := h; rfl
    | str s => obtain ⟨b, rfl, _⟩ := h; rfl
    | nilptr => have : v = .pointer none := h; subst this; rfl
    | nilslice => have : v = .slice none 0 0 := h; subst this; rfl
    | slice b o len cap es ex => obtain ⟨p, co, cap', _, rfl, _⟩ := h; rfl
    | nilmap => have : v = .map none := h; subst this; rfl
    | map b => obtain ⟨p, _, rfl⟩ := h; rfl
    | func f cap => obtain ⟨cs, rfl, _⟩ := h; rfl
    | yield l => obtain ⟨p, _, rfl⟩ := h; rfl
    | nilfunc => have : v = .nilFunc := h; subst this; rfl

theorem cells_one {v : Value} (h : v.oneCell' = true) : v.cells = #[v] := by cases v <;> first | rfl | cases h

/-- a value's cells; are they single? An aggregate's are, if it is well-formed -/
theorem cellsOf_rel {ρ : Ren} {x : V} {v : Value} {l : List AV} (hx : VRel ρ x v) (hl : cellsOf x = some l) : All2 (CRel1 ρ) l v.cells.toList := by
  cases x with
  | s a =>
    simp only [cellsOf] at hl
    split at hl
    · cases hl
    · rename_i hany
      injection hl with hl; subst hl
      have h1 := oneCell_of (show CRel ρ a v from hx) hany
      rw [cells_one h1]
      exact .cons ⟨h1, hx⟩ .nil
  | agg m =>
    injection hl with hl; subst hl
    obtain ⟨cs, rfl, h⟩ := hx
    exact h
  | tup m => cases hl

theorem run_loadCells_rel {P : Program} {w : World} {b o : Nat} {vs : List Value} (h : ∀ (j : Nat) v, vs[j]? = some v → w.cell? ⟨b, o + j, none⟩ = some v) :
    (loadCells ⟨b, o, none⟩ vs.length).run P w = .ok vs.toArray w := by
  refine run_loadCells_list (P := P) (w := w) ⟨b, o, none⟩ vs fun j v hj => ?_
  have : (⟨b, o, none⟩ : Addr).add j = ⟨b, o + j, none⟩ := by unfold Addr.add; split <;> simp_all
  rw [this]; exact h j v hj

theorem loaded_ok {agg : Bool} {l : List AV} {h : Heap} {v : V} {h' : Heap} (hl : loaded agg l .no (fun v => .ok v h) = Res.ok v h') :
    h' = h ∧ ((agg = true ∧ v = .agg l) ∨ (agg = false ∧ ∃ x, l = [x] ∧ v = .s x)) := by
  cases agg with
  | true => injection hl with h1 h2; exact ⟨h2.symm, .inl ⟨rfl, h1.symm⟩⟩
  | false =>
    cases l with
    | nil => cases hl
    | cons x l =>
      cases l with
      | nil => injection hl with h1 h2; exact ⟨h2.symm, .inr ⟨rfl, x, rfl, h1.symm⟩⟩
      | cons y l => cases hl

/-- reading a variable -/
theorem loadVar_ok {P : Program} {ρ : Ren} {h : Heap} {w : World} (hh : HRel ρ h w) {t : TypeId} {agg : Bool} {s k : Nat} (ha : isAggT P t = some agg) (hs : sizeT P t = some s)
    (hk : k = if agg then s else 1) {b o : Nat} {p : Plc} (hp : ρ b = some p) {l : List AV} (hl : h.read b o k = some l) {v : V} {h' : Heap} (hv : loaded agg l .no (fun v => .ok v h) = Res.ok v h') :
    ∃ cv, (loadVar t ⟨p.blk, p.sh + o, none⟩).run P w = .ok cv w ∧ VRel ρ v cv ∧ h' = h := by
  obtain ⟨vs, h1, h2, h3, _⟩ := hh.read hp hl
  obtain ⟨rfl, hv2⟩ := loaded_ok hv
  clear hv
  rcases hv2 with ⟨rfl, rfl⟩ | ⟨rfl, x, rfl, rfl⟩
  · refine ⟨.agg vs.toArray, ?_, ⟨vs.toArray, rfl, by simpa using h2⟩, rfl⟩
    have hk' : k = s := by simpa using hk
    have hc := run_loadCells_rel (P := P) h3
    rw [h1, hk'] at hc
    simp only [loadVar, Sem.run_bind, run_isAgg ha, Result.andThen_ok, if_true, run_sizeT hs, hc, Sem.run_pure]
  · cases h2 with
    | cons hab t =>
      rename_i v0 m
      refine ⟨v0, ?_, hab.2, rfl⟩
      have := h3 0 v0 rfl
      rw [Nat.add_zero] at this
      simp [loadVar, run_isAgg ha, this]

theorem ok_load {t : TypeId} {x : Operand} {y : Opnd} {agg : Bool} {s k : Nat} (ho : o.op = .load t x) (ha : isAggT P t = some agg) (hs : sizeT P t = some s) (hk : k = if agg then s else 1) (hx : opnd n x = some y) :
    ValOk P n o (rLoad agg k y) := by
  intro c e h v h' hr ρ w a he hh _
  obtain ⟨b, off, hy, hr⟩ := asPtr_ok hr no_ne
  have hxr := opnd_ok hx he
  rw [hy] at hxr
  obtain ⟨p, hp, hpv⟩ := ptr_rel hxr
  split at hr
  · rename_i l hl
    obtain ⟨cv, h1, h2, rfl⟩ := loadVar_ok hh ha hs hk hp hl hr
    refine ⟨.value cv, cv, w, ?_, .inl rfl, Out.same hh h2⟩
    simp [execOp, ho, Instr.loadAt, hpv, Instr.sureAddr, h1]
  · cases hr

theorem storeVar_ok {P : Program} {ρ : Ren} {h : Heap} {w : World} (hh : HRel ρ h w) {t : TypeId} {s : Nat} (hs : sizeT P t = some s) {b o : Nat} {p : Plc} (hp : ρ b = some p)
    {ob ob' : AObj} {xs : List AV} {cv : Value} (hg : h.get b = some ob) (hw : ob.write o xs = some ob') (hxs : All2 (CRel1 ρ) xs cv.cells.toList) (hlen : xs.length = s) :
    ∃ w', (storeVar t ⟨p.blk, p.sh + o, none⟩ cv).run P w = .ok () w' ∧ Step ρ h w ρ (h.upd b (some ob')) w' := by
  obtain ⟨h1, h2⟩ := hh.write (P := P) hp hg hw hxs
  refine ⟨_, ?_, h2⟩
  have : cv.cells.size = s := by rw [← hlen, hxs.length]; simp
  simp only [storeVar, Sem.run_bind, run_sizeT hs, Result.andThen_ok, this, ne_eq, not_true, if_false]
  exact h1

theorem write_ok {h : Heap} {b off : Nat} {xs : List AV} {f : Heap → Res} {v : V} {h' : Heap} (hw : h.write b off xs .no f = .ok v h') :
    ∃ ob ob', h.get b = some ob ∧ ob.write off xs = some ob' ∧ f (h.upd b (some ob')) = .ok v h' := by
  unfold Heap.write at hw
  split at hw
  · rename_i ob hg
    split at hw
    · rename_i ob' hob
      exact ⟨ob, ob', hg, hob, hw⟩
    · cases hw
  · cases hw

theorem ok_store {t : TypeId} {x z : Operand} {y u : Opnd} {s : Nat} (ho : o.op = .store t x z) (hs : sizeT P t = some s) (hx : opnd n x = some y) (hz : opnd n z = some u) :
    ValOk P n o (rStore s y u) := by
  intro c e h v h' hr ρ w a he hh _
  obtain ⟨b, off, hy, hr⟩ := asPtr_ok hr no_ne
  have hxr := opnd_ok hx he
  rw [hy] at hxr
  obtain ⟨p, hp, hpv⟩ := ptr_rel hxr
  split at hr
  · rename_i l hl
    split at hr
    · rename_i hlen
      rw [nat_beq, lenL_eq] at hlen
      obtain ⟨ob, ob', hg, hw, hr⟩ := write_ok hr
      injection hr with h1 h2; subst h1; subst h2
      obtain ⟨w', h3, h4⟩ := storeVar_ok hh hs hp hg hw (cellsOf_rel (opnd_ok hz he) hl) hlen
      refine ⟨.skip, undef, w', ?_, .inr ⟨rfl, rfl⟩, ρ, undef_rel, h4⟩
      simp [execOp, ho, Instr.storeAt, hpv, Instr.sureAddr, h3]
    · cases hr
  · cases hr

theorem ok_nilCheck {x : Operand} {y : Opnd} (ho : o.op = .nilCheck x) (hx : opnd n x = some y) : ValOk P n o (rNilCheck y) := by
  intro c e h v h' hr ρ w a he hh _
  have hxr := opnd_ok hx he
  unfold rNilCheck notNil at hr
  cases hy : evO e y with
  | s s =>
    rw [hy] at hr hxr
    cases s with
    | ptr b off =>
      injection hr with h1 h2; subst h1; subst h2
      obtain ⟨p, hp, hpv⟩ := ptr_rel hxr
      exact ⟨.value (a.eval x), a.eval x, w, by simp [execOp, ho, hpv], .inl rfl, Out.same hh hxr⟩
    | oth q =>
      cases q with
      | func f cap =>
        injection hr with h1 h2; subst h1; subst h2
        obtain ⟨cs, hv, _⟩ := id hxr
        exact ⟨.value (a.eval x), a.eval x, w, by simp [execOp, ho, hv], .inl rfl, Out.same hh hxr⟩
      | _ => cases hr
    | _ => cases hr
  | _ => rw [hy] at hr; cases hr

/-! ### what is made -/
theorem zeroT_ok {t : TypeId} {z : List AV} (h : zeroT P t = some z) {ρ : Ren} : ∃ zv : Value, (∀ w, (zeroValue t).run P w = .ok zv w) ∧ All2 (CRel1 ρ) z zv.cells.toList := by
  unfold zeroT at h
  split at h
  · rename_i v hv
    unfold zeroV at hv
    split at hv
    · rename_i zv hzv
      refine ⟨zv, fun w => ?_, cellsOf_rel (avOf_ok hv) h⟩
      cases hi : P.info? t with
      | none => rw [hi] at hzv; cases hzv
      | some i =>
        rw [hi] at hzv
        have hz : i.zero = some zv := hzv
        simp [zeroValue, typeInfo, hi, hz]
    · cases hv
  · cases h

theorem cellsRel_of {ρ : Ren} {fz : Bool} {l : List AV} {vs : List Value} {t : TypeId} {b n : Nat} (h : All2 (CRel1 ρ) l vs) (hn : n = vs.length) :
    ObjRel ρ (.cells fz l) ⟨b, 0, n⟩ (.cells vs.toArray t) := by
  refine ⟨vs.toArray, t, 0, 0, rfl, by simp [hn], .inl rfl, fun _ => rfl, fun i x hx => ?_⟩
  obtain ⟨v, h1, h2⟩ := h.get hx
  exact ⟨v, by simpa using h1, h2⟩

theorem fresh_next {ρ : Ren} {h : Heap} {m : Mem} (hf : Fresh ρ h.next (Heap.mk (Nat.succ h.next) m).next) : ρ h.next = none := hf h.next (Nat.le_refl _) (Nat.lt_succ_self _)

/-- a new variable -/
theorem newVar_ok {ρ : Ren} {h h' : Heap} {w : World} (hh : HRel ρ h w) {t : TypeId} {l : List AV} {cv : Value} (hl : ∀ ρ', ρ.le ρ' → All2 (CRel1 ρ') l cv.cells.toList) {fz : Bool} {f : Nat → V} {v : V}
    (hn : h.new (.cells fz l) f = .ok v h') (hf : Fresh ρ h.next h'.next) :
    ∃ a w', (newVar t cv).run P w = .ok a w' ∧ v = f h.next ∧ ∃ ρ' p, ρ' h.next = some p ∧ p.sh = 0 ∧ p.size = l.length ∧ a = ⟨p.blk, 0, none⟩ ∧ Step ρ h w ρ' h' w' := by
  obtain ⟨hid, rfl, rfl⟩ := Heap.new_ok hn
  have hf' := fresh_next hf
  refine ⟨_, _, rfl, rfl, _, _, Ren.put_same _ _ _, ?_, ?_, ?_, Step.alloc hh hid hf' trivial (cellsRel_of (hl _ (Ren.le_put hf' _)) rfl)⟩
  · rfl
  · have := (hl ρ (Ren.le_refl ρ)).length
    rw [this]; rfl
  · rfl

theorem ok_alloc {t : TypeId} {z : List AV} (ho : o.op = .alloc t) (hz : zeroT P t = some z) : ValOk P n o (rAlloc z) := by
  intro c e h v h' hr ρ w a he hh hf
  obtain ⟨zv, h1, _⟩ := zeroT_ok hz (ρ := ρ)
  have h2 : ∀ ρ', All2 (CRel1 ρ') z zv.cells.toList := fun ρ' => by
    obtain ⟨zv', h3, h4⟩ := zeroT_ok hz (ρ := ρ')
    have : zv' = zv := by have := (h3 w).symm.trans (h1 w); injection this
    rw [← this]; exact h4
  obtain ⟨ad, w', h3, rfl, ρ', p, hp, hsh, _, rfl, hs⟩ := newVar_ok (P := P) (t := t) hh (fun ρ' _ => h2 ρ') hr hf
  refine ⟨.value (.pointer (some ⟨p.blk, 0, none⟩)), _, w', ?_, .inl rfl, ρ', ⟨p, hp, by rw [hsh]⟩, hs⟩
  simp only [execOp, ho, Instr.alloc, Sem.run_bind, h1, Result.andThen_ok, h3, Sem.run_pure]

theorem ok_box {t : TypeId} {x : Operand} {y : Opnd} (ho : o.op = .box t x) (hx : opnd n x = some y) : ValOk P n o (rBox y) := by
  intro c e h v h' hr ρ w a he hh hf
  unfold rBox at hr
  split at hr
  · rename_i l hl
    have hxr := opnd_ok hx he
    obtain ⟨ad, w', h3, rfl, ρ', p, hp, hsh, _, rfl, hs⟩ := newVar_ok (P := P) (t := t) hh (fun ρ' hle => cellsOf_rel (hxr.le hle) hl) hr hf
    refine ⟨.value (.pointer (some ⟨p.blk, 0, none⟩)), _, w', ?_, .inl rfl, ρ', ⟨p, hp, by rw [hsh]⟩, hs⟩
    simp only [execOp, ho, Instr.box, Sem.run_bind, h3, Result.andThen_ok, Sem.run_pure]
  · cases hr

theorem ok_makeMap {t : TypeId} (ho : o.op = .makeMap t none) : ValOk P n o rMakeMap := by
  intro c e h v h' hr ρ w a he hh hf
  obtain ⟨hid, rfl, rfl⟩ := Heap.new_ok hr
  have hf' := fresh_next hf
  refine ⟨.value (.map (some w.heap.size)), _, w.alloc (.map #[] 0), ?_, .inl rfl, _, ⟨_, Ren.put_same _ _ ⟨w.heap.size, 0, 0⟩, rfl⟩, Step.alloc hh hid hf' trivial ⟨#[], 0, rfl, .nil, MapKept.stamped_empty 0⟩⟩
  simp [execOp, ho, Instr.makeMap]

theorem foldl_set {cs : Array Value} {off : Nat} : ∀ (vs : List Value) (k : Nat) (xs : Array Value),
    ((vs.toArray.zipIdx k).foldl (fun cs (c, j) => cs.setIfInBounds (off + j) c) xs) = (vs.zipIdx k).foldl (fun cs (c, j) => cs.setIfInBounds (off + j) c) xs := by
  intro vs k xs
  simp
end CSim
