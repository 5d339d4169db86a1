/-
  '==' and '!=': cell by cell.
-/
import Derived.Test.YtkkolfaecabloaaGreatSimInt
import Derived.Laws.StructEq
import Derived.ChangeKeysEq
namespace CSim
set_option linter.unusedSimpArgs false
set_option linter.unusedVariables false
open Go

theorem eqCells_append (h : Heap) : ∀ {k1 : List EK} {x1 y1 : List AV} (k2 : List EK) (x2 y2 : List AV), x1.length = k1.length → y1.length = k1.length →
    eqCells h (k1 ++ k2) (x1 ++ x2) (y1 ++ y2) = match eqCells h k1 x1 y1 with
      | some true => eqCells h k2 x2 y2
      | some false => some false
      | none => none
  | [], [], [], _, _, _, _, _ => rfl
  | [], _ :: _, _, _, _, _, hx, _ => by simp at hx
  | [], [], _ :: _, _, _, _, _, hy => by simp at hy
  | _ :: _, [], _, _, _, _, hx, _ => by simp at hx
  | _ :: _, _ :: _, [], _, _, _, _, hy => by simp at hy
  | k :: k1, x :: x1, y :: y1, k2, x2, y2, hx, hy => by
    simp only [List.cons_append, eqCells]
    cases eqCell h k x y with
    | none => rfl
    | some b => cases b with
      | true => exact eqCells_append h k2 x2 y2 (by simpa using hx) (by simpa using hy)
      | false => rfl

theorem eqCells_len (h : Heap) : ∀ {ks : List EK} {xs ys : List AV}, eqCells h ks xs ys = some true → xs.length = ks.length ∧ ys.length = ks.length
  | [], [], [], _ => ⟨rfl, rfl⟩
  | [], _ :: _, _, e => nomatch e
  | [], [], _ :: _, e => nomatch e
  | _ :: _, [], _, e => nomatch e
  | _ :: _, _ :: _, [], e => nomatch e
  | k :: ks, x :: xs, y :: ys, e => by
    simp only [eqCells] at e
    split at e
    · obtain ⟨a, b⟩ := eqCells_len h e; exact ⟨by simp [a], by simp [b]⟩
    · cases e
    · cases e

theorem eqCells_skip (h : Heap) : ∀ (l : List EK) (xs ys : List AV), xs.length = (l.map (fun _ => EK.skip)).length → ys.length = (l.map (fun _ => EK.skip)).length → eqCells h (l.map (fun _ => EK.skip)) xs ys = some true
  | [], [], [], _, _ => rfl
  | [], _ :: _, _, hx, _ => by simp at hx
  | [], [], _ :: _, _, hy => by simp at hy
  | _ :: _, [], _, hx, _ => by simp at hx
  | _ :: _, _ :: _, [], _, hy => by simp at hy
  | k :: l, x :: xs, y :: ys, hx, hy => by
    simp only [List.map_cons, eqCells, eqCell]
    exact eqCells_skip h l xs ys (by simpa using hx) (by simpa using hy)

section
variable {P : Program} {ρ : Ren} {h : Heap} {w : World}

/-- two cells of a type that is no aggregate -/
theorem fk_fOf (k : FloatKind) : fk (fOf k) = k := by cases k <;> rfl
theorem fOf_inj {a b : FloatKind} (h : fOf a = fOf b) : a = b := by cases a <;> cases b <;> first | rfl | (exact absurd h (by decide))
theorem map_toNat_inj {a b : List UInt8} (h : a.map UInt8.toNat = b.map UInt8.toNat) : a = b := by
  induction a generalizing b with
  | nil => cases b with
    | nil => rfl
    | cons y b => simp at h
  | cons x a ih => cases b with
    | nil => simp at h
    | cons y b =>
      simp only [List.map_cons, List.cons.injEq] at h
      rw [UInt8.toNat_inj.1 h.1, ih h.2]
theorem eqList_bytes {a b : ByteArray} {x y : List Nat} (hx : x = a.data.toList.map UInt8.toNat) (hy : y = b.data.toList.map UInt8.toNat) : eqList x y = (a == b) := by
  rw [beq_toListBytes, ByteArray.toList_eq, ByteArray.toList_eq, Bool.eq_iff_iff, eqList_iff, hx, hy]
  constructor
  · intro e; rw [map_toNat_inj e]; simp
  · intro e
    have : a.data.toList = b.data.toList := by simpa using e
    rw [this]

theorem not_stringish {b : Nat} {p : Plc} (hh : HRel ρ h w) (hpl : h.plain b = true) (hp : ρ b = some p) (o : Nat) :
    w.frozen? ⟨p.blk, o, none⟩ = false ∧ (∃ c e fz, w.heap[p.blk]? = some (.cells c e fz)) ∧ ∀ n, w.frozen? ⟨p.blk, n, none⟩ = false := by
  unfold Heap.plain at hpl
  have hw : ∀ ob, h.get b = some ob → ob.isCells = true → ob.whole = true → (∃ c e fz, w.heap[p.blk]? = some (.cells c e fz)) ∧ ∀ n, w.frozen? ⟨p.blk, n, none⟩ = false := by
    intro ob hg hc hwh
    obtain ⟨x, hx, hob⟩ := hh.obj b ob p hg hp
    rw [ObjRel.cells hc] at hob
    obtain ⟨c, e, lo, hi, rfl, _, _, h4, _⟩ := hob
    refine ⟨⟨c, e, (lo, hi), hx⟩, fun n => frozen_of_heap hx n ?_⟩
    have := h4 hwh
    omega
  split at hpl
  · rename_i fz l hg
    obtain ⟨a1, a2⟩ := hw _ hg rfl (by simpa [AObj.whole] using hpl)
    exact ⟨a2 o, a1, a2⟩
  · rename_i c n z t hg
    obtain ⟨a1, a2⟩ := hw _ hg rfl rfl
    exact ⟨a2 o, a1, a2⟩
  · cases hpl

theorem plain_get {b : Nat} (hpl : h.plain b = true) : ∃ ob, h.get b = some ob := by
  unfold Heap.plain at hpl
  split at hpl
  · rename_i hg; exact ⟨_, hg⟩
  · rename_i hg; exact ⟨_, hg⟩
  · cases hpl

theorem sameAddr_ne {b b' : Nat} {p p' : Plc} (hh : HRel ρ h w) (hpl : h.plain b = true) (hpl' : h.plain b' = true) (hp : ρ b = some p) (hp' : ρ b' = some p') (hne : b ≠ b') (o o' : Nat) :
    (sameAddr ⟨p.blk, o, none⟩ ⟨p'.blk, o', none⟩).run P w = .ok false w := by
  obtain ⟨f1, ⟨c, e, fz, hx⟩, g1⟩ := not_stringish hh hpl hp o
  obtain ⟨f2, ⟨c', e', fz', hx'⟩, g2⟩ := not_stringish hh hpl' hp' o'
  have hb : (p.blk == p'.blk) = false := by
    rw [beq_eq_false_iff_ne]
    intro e
    obtain ⟨ob, hg⟩ := plain_get hpl
    obtain ⟨ob', hg'⟩ := plain_get hpl'
    exact hne (hh.inj b b' ob ob' p p' hg hg' hp hp' e)
  have s1 : w.shape? p.blk = some (e, c.size) := by simp [World.shape?, hx]
  have s2 : w.shape? p'.blk = some (e', c'.size) := by simp [World.shape?, hx']
  simp [sameAddr, hb, f1, noView, viewAt, s1, s2, mayBeOne, stringish, g1, g2, f2]

theorem eqNil_ok {a b : Option Bool} {r : Bool} (h : eqNil a b = some r) : ∃ x y, a = some x ∧ b = some y ∧ ((x = true ∧ r = y) ∨ (x = false ∧ y = true ∧ r = false)) := by
  cases a with
  | none => cases h
  | some x => cases b with
    | none => cases h
    | some y =>
      refine ⟨x, y, rfl, rfl, ?_⟩
      cases x with
      | true => injection h with h; exact .inl ⟨rfl, h.symm⟩
      | false => cases y with
        | true => injection h with h; exact .inr ⟨rfl, rfl, h.symm⟩
        | false => cases h

/-- what a type is compared by -/
def ekOf (P : Program) (t : TypeId) : EK → Prop
  | .bool => P.underlying t = some .bool
  | .int => ∃ k, P.underlying t = some (.int k)
  | .float => ∃ k, P.underlying t = some (.float k)
  | .cplx => ∃ k, P.underlying t = some (.complex k)
  | .str => P.underlying t = some .string
  | .ptr => ∃ e s, P.underlying t = some (.pointer e) ∧ sizeT P e = some (s + 1)
  | .slice => ∃ e, P.underlying t = some (.slice e)
  | .map => ∃ a b, P.underlying t = some (.map a b)
  | .func => ∃ a b c, P.underlying t = some (.func a b c)
  | .skip => False

theorem isNil_slice {x : AX} {b : Bool} (h : isNil .slice x = some b) : (b = true ∧ x = .nilslice) ∨ (b = false ∧ ∃ b0 o0 l0 c0 s0 x0, x = .slice b0 o0 l0 c0 s0 x0) := by
  cases x <;> first | (cases h; done) | skip
  · injection h with h; exact .inl ⟨h.symm, rfl⟩
  · injection h with h; exact .inr ⟨h.symm, _, _, _, _, _, _, rfl⟩
theorem isNil_map {x : AX} {b : Bool} (h : isNil .map x = some b) : (b = true ∧ x = .nilmap) ∨ (b = false ∧ ∃ b0, x = .map b0) := by
  cases x <;> first | (cases h; done) | skip
  · injection h with h; exact .inl ⟨h.symm, rfl⟩
  · injection h with h; exact .inr ⟨h.symm, _, rfl⟩
theorem isNil_func {x : AX} {b : Bool} (h : isNil .func x = some b) : (b = true ∧ x = .nilfunc) ∨ (b = false ∧ ∃ f c, x = .func f c) := by
  cases x <;> first | (cases h; done) | skip
  · injection h with h; exact .inr ⟨h.symm, _, _, rfl⟩
  · injection h with h; exact .inl ⟨h.symm, rfl⟩

theorem eqX_ok {t : TypeId} {D : Nat} {k : EK} {x y : AX} {vx vy : Value} {r : Bool} (hk : ekOf P t k) (hb : k ≠ .bool) (hi : k ≠ .int) (hp : k ≠ .ptr)
    (hx : XRel ρ x vx) (hy : XRel ρ y vy) (he : eqX k x y = some r) : (Op.equalIn (D + 1) t vx vy).run P w = .ok r w := by
  cases k with
  | bool => exact absurd rfl hb
  | int => exact absurd rfl hi
  | ptr => exact absurd rfl hp
  | skip => exact hk.elim
  | str =>
    cases x <;> first | (cases he; done) | skip
    cases y <;> first | (cases he; done) | skip
    obtain ⟨a, rfl, ha⟩ := hx
    obtain ⟨b, rfl, hb⟩ := hy
    injection he with he
    rw [run_equalIn_string w D t a b hk, ← he, eqList_bytes ha hb, beq_toListBytes]
  | float =>
    obtain ⟨k0, hk⟩ := hk
    cases x <;> first | (cases he; done) | skip
    cases y <;> first | (cases he; done) | skip
    obtain ⟨k1, rfl, rfl⟩ := hx
    obtain ⟨k2, rfl, rfl⟩ := hy
    simp only [eqX] at he
    split at he
    · rename_i hkk
      rw [nat_beq] at hkk
      have := fOf_inj hkk
      subst this
      injection he with he
      rw [← he, fk_fOf]
      simp [Op.equalIn, run_underlying hk, Op.floatEq]
    · cases he
  | cplx =>
    obtain ⟨k0, hk⟩ := hk
    cases x <;> first | (cases he; done) | skip
    cases y <;> first | (cases he; done) | skip
    obtain ⟨k1, rfl, rfl⟩ := hx
    obtain ⟨k2, rfl, rfl⟩ := hy
    simp only [eqX] at he
    split at he
    · rename_i hkk
      rw [nat_beq] at hkk
      have := fOf_inj hkk
      subst this
      injection he with he
      rw [← he, cEq, fk_fOf]
      simp [Op.equalIn, run_underlying hk, Op.floatEq]
    · cases he
  | slice =>
    obtain ⟨e, hk⟩ := hk
    obtain ⟨a, b, h1, h2, h3⟩ := eqNil_ok he
    rcases isNil_slice h1 with ⟨rfl, rfl⟩ | ⟨rfl, b0, o0, l0, c0, s0, x0, rfl⟩
    · have e1 : vx = .slice none 0 0 := hx
      subst e1
      rcases isNil_slice h2 with ⟨rfl, rfl⟩ | ⟨rfl, b1, o1, l1, c1, s1, x1, rfl⟩
      · have e2 : vy = .slice none 0 0 := hy
        subst e2
        rcases h3 with ⟨_, rfl⟩ | ⟨h, _⟩
        · simp [Op.equalIn, run_underlying hk]
        · cases h
      · obtain ⟨p, co, cap', _, rfl, _⟩ := hy
        rcases h3 with ⟨_, rfl⟩ | ⟨h, _⟩
        · simp [Op.equalIn, run_underlying hk]
        · cases h
    · obtain ⟨p, co, cap', _, rfl, _⟩ := hx
      rcases h3 with ⟨h, _⟩ | ⟨_, rfl, rfl⟩
      · cases h
      · rcases isNil_slice h2 with ⟨_, rfl⟩ | ⟨h, _⟩
        · have e2 : vy = .slice none 0 0 := hy
          subst e2
          simp [Op.equalIn, run_underlying hk]
        · cases h
  | map =>
    obtain ⟨e, e', hk⟩ := hk
    obtain ⟨a, b, h1, h2, h3⟩ := eqNil_ok he
    rcases isNil_map h1 with ⟨rfl, rfl⟩ | ⟨rfl, b0, rfl⟩
    · have e1 : vx = .map none := hx
      subst e1
      rcases isNil_map h2 with ⟨rfl, rfl⟩ | ⟨rfl, b1, rfl⟩
      · have e2 : vy = .map none := hy
        subst e2
        rcases h3 with ⟨_, rfl⟩ | ⟨h, _⟩
        · simp [Op.equalIn, run_underlying hk]
        · cases h
      · obtain ⟨p, _, rfl⟩ := hy
        rcases h3 with ⟨_, rfl⟩ | ⟨h, _⟩
        · simp [Op.equalIn, run_underlying hk]
        · cases h
    · obtain ⟨p, _, rfl⟩ := hx
      rcases h3 with ⟨h, _⟩ | ⟨_, rfl, rfl⟩
      · cases h
      · rcases isNil_map h2 with ⟨_, rfl⟩ | ⟨h, _⟩
        · have e2 : vy = .map none := hy
          subst e2
          simp [Op.equalIn, run_underlying hk]
        · cases h
  | func =>
    obtain ⟨e, e', e'', hk⟩ := hk
    obtain ⟨a, b, h1, h2, h3⟩ := eqNil_ok he
    rcases isNil_func h1 with ⟨rfl, rfl⟩ | ⟨rfl, f0, c0, rfl⟩
    · have e1 : vx = .nilFunc := hx
      subst e1
      rcases isNil_func h2 with ⟨rfl, rfl⟩ | ⟨rfl, f1, c1, rfl⟩
      · have e2 : vy = .nilFunc := hy
        subst e2
        rcases h3 with ⟨_, rfl⟩ | ⟨h, _⟩
        · simp [Op.equalIn, run_underlying hk]
        · cases h
      · obtain ⟨cs, rfl, _⟩ := hy
        rcases h3 with ⟨_, rfl⟩ | ⟨h, _⟩
        · simp [Op.equalIn, run_underlying hk]
        · cases h
    · obtain ⟨cs, rfl, _⟩ := hx
      rcases h3 with ⟨h, _⟩ | ⟨_, rfl, rfl⟩
      · cases h
      · rcases isNil_func h2 with ⟨_, rfl⟩ | ⟨h, _⟩
        · have e2 : vy = .nilFunc := hy
          subst e2
          simp [Op.equalIn, run_underlying hk]
        · cases h

theorem isNilptr_ok {x : AX} (h : isNilptr x = true) : x = .nilptr := by cases x <;> first | rfl | cases h

theorem eqPtr_ok {t e : TypeId} {s D : Nat} {x y : AV} {vx vy : Value} {r : Bool} (hh : HRel ρ h w) (hk : P.underlying t = some (.pointer e)) (hs : sizeT P e = some (s + 1))
    (hx : CRel ρ x vx) (hy : CRel ρ y vy) (he : eqPtr h x y = some r) : (Op.equalIn (D + 1) t vx vy).run P w = .ok r w := by
  have hz := run_sizeT hs
  unfold eqPtr at he
  cases x with
  | ptr b o =>
    obtain ⟨p, hp, rfl⟩ := hx
    cases y with
    | ptr b' o' =>
      obtain ⟨p', hp', rfl⟩ := hy
      simp only at he
      split at he
      · rename_i hb
        rw [nat_beq] at hb
        subst hb
        rw [hp] at hp'; injection hp' with hp'; subst hp'
        injection he with he
        have : (({ block := p.blk, off := p.sh + o, spot := none } : Addr) == { block := p.blk, off := p.sh + o', spot := none }) = Nat.beq o o' := by
          rw [Bool.eq_iff_iff, beq_iff_eq, nat_beq]; simp
        simp [Op.equalIn, run_underlying hk, hz, sameAddr, this, he]
      · rename_i hb
        rw [nat_beq_false] at hb
        split at he
        · rename_i hpl
          simp only [Bool.and_eq_true] at hpl
          injection he with he
          have := sameAddr_ne (P := P) hh hpl.1 hpl.2 hp hp' hb (p.sh + o) (p'.sh + o')
          simp [Op.equalIn, run_underlying hk, hz, this, he]
        · cases he
    | oth y =>
      simp only at he
      split at he
      · rename_i hn
        have := isNilptr_ok hn
        subst this
        have e2 : vy = .pointer none := hy
        subst e2
        injection he with he
        simp [Op.equalIn, run_underlying hk, he]
      · cases he
    | _ => cases he
  | oth x =>
    simp only at he
    split at he
    · rename_i hn
      have := isNilptr_ok hn
      subst this
      have e1 : vx = .pointer none := hx
      subst e1
      cases y with
      | ptr b' o' =>
        obtain ⟨p', hp', rfl⟩ := hy
        injection he with he
        simp [Op.equalIn, run_underlying hk, he]
      | oth y =>
        simp only at he
        split at he
        · rename_i hn
          have := isNilptr_ok hn
          subst this
          have e2 : vy = .pointer none := hy
          subst e2
          injection he with he
          simp [Op.equalIn, run_underlying hk, he]
        · cases he
      | _ => cases he
    · cases he
  | _ => cases he

theorem eqCell_ok {t : TypeId} {D : Nat} {k : EK} {x y : AV} {vx vy : Value} {r : Bool} (hh : HRel ρ h w) (hk : ekOf P t k)
    (hx : CRel ρ x vx) (hy : CRel ρ y vy) (he : eqCell h k x y = some r) : (Op.equalIn (D + 1) t vx vy).run P w = .ok r w := by
  cases k with
  | skip => exact hk.elim
  | bool =>
    cases x <;> first | (cases he; done) | skip
    cases y <;> first | (cases he; done) | skip
    have e1 : vx = .bool _ := hx
    have e2 : vy = .bool _ := hy
    subst e1; subst e2
    injection he with he
    rw [run_equalIn_bool w D t _ _ hk, he]
  | int =>
    obtain ⟨k0, hk⟩ := hk
    cases x <;> first | (cases he; done) | skip
    cases y <;> first | (cases he; done) | skip
    obtain ⟨k1, rfl, rfl⟩ := hx
    obtain ⟨k2, rfl, rfl⟩ := hy
    simp only [eqCell] at he
    split at he
    · rename_i hkk
      rw [nat_beq] at hkk
      have := kOf_inj hkk
      subst this
      injection he with he
      rw [run_equalIn_int w D t k1 k0 _ _ hk, ← he, beqI_eq]
    · cases he
  | ptr =>
    obtain ⟨e, s, h1, h2⟩ := hk
    exact eqPtr_ok hh h1 h2 hx hy he
  | float => cases x <;> first | (cases he; done) | skip
             cases y <;> first | (cases he; done) | skip
             exact eqX_ok hk nofun nofun nofun hx hy he
  | cplx => cases x <;> first | (cases he; done) | skip
            cases y <;> first | (cases he; done) | skip
            exact eqX_ok hk nofun nofun nofun hx hy he
  | str => cases x <;> first | (cases he; done) | skip
           cases y <;> first | (cases he; done) | skip
           exact eqX_ok hk nofun nofun nofun hx hy he
  | slice => cases x <;> first | (cases he; done) | skip
             cases y <;> first | (cases he; done) | skip
             exact eqX_ok hk nofun nofun nofun hx hy he
  | map => cases x <;> first | (cases he; done) | skip
           cases y <;> first | (cases he; done) | skip
           exact eqX_ok hk nofun nofun nofun hx hy he
  | func => cases x <;> first | (cases he; done) | skip
            cases y <;> first | (cases he; done) | skip
            exact eqX_ok hk nofun nofun nofun hx hy he

def valOf (g : Bool) (cs : List Value) : Value := match g with
  | true => .agg cs.toArray
  | false => cs.headD undef

theorem part_ok {t : TypeId} {g : Bool} {s off : Nat} {X : Array Value} {l : List Value} (hg : isAggT P t = some g) (hs : sizeT P t = some s) (hl : ∃ r, X.toList.drop off = l ++ r) (hlen : l.length = s) (h1 : g = false → s = 1) :
    (part t X off).run P w = .ok (valOf g l) w := by
  obtain ⟨r, hr⟩ := hl
  cases g with
  | true =>
    simp only [part, Sem.run_bind, run_isAgg hg, Result.andThen_ok, if_true, run_sizeT hs, Sem.run_pure, valOf]
    congr 2
    rw [← Array.toList_inj]
    simp only [Array.toList_extract, List.extract]
    rw [Nat.add_sub_cancel_left, hr, ← hlen, List.take_left]
  | false =>
    have := h1 rfl
    subst this
    match l, hlen with
    | [v], _ =>
      have hv : X[off]? = some v := by
        have : X.toList[off]? = some v := by
          have e : (X.toList.drop off)[0]? = some v := by rw [hr]; rfl
          simpa using e
        simpa using this
      simp [part, run_isAgg hg, hv, valOf]

theorem eks_scalar {d : Nat} {t : TypeId} {ks : List EK} (hk : eks P d t = some ks) (hg : isAggT P t = some false) : ∃ k, ks = [k] ∧ ekOf P t k := by
  cases d with
  | zero => cases hk
  | succ d =>
    unfold isAggT at hg
    simp only [eks] at hk
    split at hg
    · rename_i td htd
      rw [htd] at hk
      cases td <;> first | (cases hg; done) | (cases hk; done) | skip
      all_goals first
        | (injection hk with hk; subst hk; exact ⟨_, rfl, htd⟩)
        | (injection hk with hk; subst hk; exact ⟨_, rfl, _, htd⟩)
        | (injection hk with hk; subst hk; exact ⟨_, rfl, _, _, htd⟩)
        | (injection hk with hk; subst hk; exact ⟨_, rfl, _, _, _, htd⟩)
        | skip
      · simp only at hk
        split at hk
        · rename_i s hs
          injection hk with hk; subst hk
          exact ⟨.ptr, rfl, _, _, htd, hs⟩
        · cases hk
    · cases hg

theorem eqFields_ok {d D : Nat} (hh : HRel ρ h w)
    (ih : ∀ t ks g, eks P d t = some ks → isAggT P t = some g → ∀ (xs ys : List AV) (cx cy : List Value) r, All2 (CRel1 ρ) xs cx → All2 (CRel1 ρ) ys cy → xs.length = ks.length → ys.length = ks.length →
      eqCells h ks xs ys = some r → (Op.equalIn D t (valOf g cx) (valOf g cy)).run P w = .ok r w) (X Y : Array Value) :
    ∀ (fs : List Field) (off : Nat) (ks : List EK), eksF P (eks P d) off fs = some ks → ∀ (xs ys : List AV) r, All2 (CRel1 ρ) xs (X.toList.drop off) → All2 (CRel1 ρ) ys (Y.toList.drop off) →
      eqCells h ks xs ys = some r → xs.length = ks.length → ys.length = ks.length → (Op.eqFields D X Y fs).run P w = .ok r w
  | [], off, ks, hk, xs, ys, r, hx, hy, he, lx, ly => by
    injection hk with hk; subst hk
    have e1 : xs = [] := by simpa using lx
    have e2 : ys = [] := by simpa using ly
    subst e1; subst e2
    injection he with he
    simp [Op.eqFields, he]
  | f :: fs, off, ks, hk, xs, ys, r, hx, hy, he, lx, ly => by
    simp only [eksF] at hk
    split at hk
    · rename_i a0 g r0 ha hg hr
      split at hk
      · rename_i hb
        simp only [Bool.and_eq_true, nat_beq, beq_iff_eq] at hb
        obtain ⟨hoff, hsz⟩ := hb
        rw [hsz, Option.getD_some] at hr
        have hscal : g = false → a0.length = 1 := fun hg' => by
          subst hg'
          obtain ⟨k, rfl, _⟩ := eks_scalar ha hg
          rfl
        -- both lists, cut
        have cutx : ∀ {zs : List AV} {Z : Array Value}, All2 (CRel1 ρ) zs (Z.toList.drop off) → zs.length = a0.length + r0.length →
            All2 (CRel1 ρ) (zs.take a0.length) ((Z.toList.drop off).take a0.length) ∧ All2 (CRel1 ρ) (zs.drop a0.length) (Z.toList.drop (off + a0.length)) ∧ ((Z.toList.drop off).take a0.length).length = a0.length := by
          intro zs Z hz hl
          refine ⟨hz.take _, by have := hz.drop a0.length; rwa [List.drop_drop] at this, ?_⟩
          have := hz.length
          rw [List.length_take]; omega
        cases hn : (f.name == "_") with
        | true =>
          rw [hn] at hk
          injection hk with hk; subst hk
          have hl : (a0.map (fun _ => EK.skip)).length = a0.length := by simp
          rw [List.length_append, hl] at lx ly
          obtain ⟨x1, x2, x3⟩ := cutx hx lx
          obtain ⟨y1, y2, y3⟩ := cutx hy ly
          have ex : xs = xs.take a0.length ++ xs.drop a0.length := (List.take_append_drop _ _).symm
          have ey : ys = ys.take a0.length ++ ys.drop a0.length := (List.take_append_drop _ _).symm
          have lx' : (xs.take a0.length).length = (a0.map (fun _ => EK.skip)).length := by rw [hl, List.length_take]; omega
          have ly' : (ys.take a0.length).length = (a0.map (fun _ => EK.skip)).length := by rw [hl, List.length_take]; omega
          rw [ex, ey, eqCells_append h _ _ _ lx' ly', eqCells_skip h _ _ _ lx' ly'] at he
          have hname : f.name = "_" := by simpa using hn
          simp only [Op.eqFields, hname, ne_eq, not_true, if_false]
          exact eqFields_ok hh ih X Y fs (off + a0.length) r0 hr _ _ r x2 y2 he (by rw [List.length_drop]; omega) (by rw [List.length_drop]; omega)
        | false =>
          rw [hn] at hk
          injection hk with hk; subst hk
          rw [List.length_append] at lx ly
          obtain ⟨x1, x2, x3⟩ := cutx hx lx
          obtain ⟨y1, y2, y3⟩ := cutx hy ly
          have ex : xs = xs.take a0.length ++ xs.drop a0.length := (List.take_append_drop _ _).symm
          have ey : ys = ys.take a0.length ++ ys.drop a0.length := (List.take_append_drop _ _).symm
          have lx' : (xs.take a0.length).length = a0.length := by rw [List.length_take]; omega
          have ly' : (ys.take a0.length).length = a0.length := by rw [List.length_take]; omega
          rw [ex, ey, eqCells_append h _ _ _ lx' ly'] at he
          have hname : f.name ≠ "_" := by simpa using hn
          have p1 := part_ok (P := P) (w := w) (X := X) (off := f.offset) hg hsz (l := (X.toList.drop off).take a0.length) ⟨(X.toList.drop off).drop a0.length, by rw [hoff, List.take_append_drop]⟩ x3 hscal
          have p2 := part_ok (P := P) (w := w) (X := Y) (off := f.offset) hg hsz (l := (Y.toList.drop off).take a0.length) ⟨(Y.toList.drop off).drop a0.length, by rw [hoff, List.take_append_drop]⟩ y3 hscal
          simp only [Op.eqFields, hname, ne_eq, not_false_eq_true, if_true, Sem.run_bind, p1, p2, Result.andThen_ok]
          cases hq : eqCells h a0 (xs.take a0.length) (ys.take a0.length) with
          | none => rw [hq] at he; cases he
          | some b =>
            rw [hq] at he
            rw [ih f.type a0 g ha hg _ _ _ _ b x1 y1 lx' ly' hq, Result.andThen_ok]
            cases b with
            | false =>
              injection he with he
              simp [← he]
            | true =>
              simp only [Bool.not_true, Bool.false_eq_true, if_false]
              exact eqFields_ok hh ih X Y fs (off + a0.length) r0 hr _ _ r x2 y2 he (by rw [List.length_drop]; omega) (by rw [List.length_drop]; omega)
      · cases hk
    · cases hk

theorem eqItems_ok {D : Nat} (hh : HRel ρ h w) {t : TypeId} {a0 : List EK} {g : Bool} (hg : isAggT P t = some g) (hsz : sizeT P t = some a0.length) (hscal : g = false → a0.length = 1)
    (ih : ∀ (xs ys : List AV) (cx cy : List Value) r, All2 (CRel1 ρ) xs cx → All2 (CRel1 ρ) ys cy → xs.length = a0.length → ys.length = a0.length →
      eqCells h a0 xs ys = some r → (Op.equalIn D t (valOf g cx) (valOf g cy)).run P w = .ok r w) (X Y : Array Value) :
    ∀ (k i : Nat) (xs ys : List AV) r, All2 (CRel1 ρ) xs (X.toList.drop (i * a0.length)) → All2 (CRel1 ρ) ys (Y.toList.drop (i * a0.length)) →
      eqCells h (List.replicate k a0).flatten xs ys = some r → xs.length = (List.replicate k a0).flatten.length → ys.length = (List.replicate k a0).flatten.length →
      (Op.eqItems D t a0.length X Y (List.range' i k)).run P w = .ok r w
  | 0, i, xs, ys, r, hx, hy, he, lx, ly => by
    have e1 : xs = [] := by simpa using lx
    have e2 : ys = [] := by simpa using ly
    subst e1; subst e2
    injection he with he
    simp [Op.eqItems, he]
  | k + 1, i, xs, ys, r, hx, hy, he, lx, ly => by
    rw [List.replicate_succ, List.flatten_cons] at he lx ly
    rw [List.length_append] at lx ly
    have cutx : ∀ {zs : List AV} {Z : Array Value}, All2 (CRel1 ρ) zs (Z.toList.drop (i * a0.length)) → a0.length ≤ zs.length →
        All2 (CRel1 ρ) (zs.take a0.length) ((Z.toList.drop (i * a0.length)).take a0.length) ∧ All2 (CRel1 ρ) (zs.drop a0.length) (Z.toList.drop ((i + 1) * a0.length)) ∧ ((Z.toList.drop (i * a0.length)).take a0.length).length = a0.length := by
      intro zs Z hz hl
      refine ⟨hz.take _, by have := hz.drop a0.length; rwa [List.drop_drop, ← Nat.succ_mul] at this, ?_⟩
      have := hz.length
      rw [List.length_take]; omega
    obtain ⟨x1, x2, x3⟩ := cutx hx (by omega)
    obtain ⟨y1, y2, y3⟩ := cutx hy (by omega)
    have ex : xs = xs.take a0.length ++ xs.drop a0.length := (List.take_append_drop _ _).symm
    have ey : ys = ys.take a0.length ++ ys.drop a0.length := (List.take_append_drop _ _).symm
    have lx' : (xs.take a0.length).length = a0.length := by rw [List.length_take]; omega
    have ly' : (ys.take a0.length).length = a0.length := by rw [List.length_take]; omega
    rw [ex, ey, eqCells_append h _ _ _ lx' ly'] at he
    have p1 := part_ok (P := P) (w := w) (X := X) (off := i * a0.length) hg hsz (l := (X.toList.drop (i * a0.length)).take a0.length) ⟨(X.toList.drop (i * a0.length)).drop a0.length, by rw [List.take_append_drop]⟩ x3 hscal
    have p2 := part_ok (P := P) (w := w) (X := Y) (off := i * a0.length) hg hsz (l := (Y.toList.drop (i * a0.length)).take a0.length) ⟨(Y.toList.drop (i * a0.length)).drop a0.length, by rw [List.take_append_drop]⟩ y3 hscal
    rw [List.range'_succ]
    simp only [Op.eqItems, Sem.run_bind, p1, p2, Result.andThen_ok]
    cases hq : eqCells h a0 (xs.take a0.length) (ys.take a0.length) with
    | none => rw [hq] at he; cases he
    | some b =>
      rw [hq] at he
      rw [ih _ _ _ _ b x1 y1 lx' ly' hq, Result.andThen_ok]
      cases b with
      | false =>
        injection he with he
        simp [← he]
      | true =>
        simp only [Bool.not_true, Bool.false_eq_true, if_false]
        exact eqItems_ok hh hg hsz hscal ih X Y k (i + 1) _ _ r x2 y2 he (by rw [List.length_drop]; omega) (by rw [List.length_drop]; omega)

theorem equalIn_ok (hh : HRel ρ h w) : ∀ (d : Nat) (t : TypeId) (ks : List EK) (g : Bool), eks P d t = some ks → isAggT P t = some g → ∀ D, d ≤ D → ∀ (xs ys : List AV) (cx cy : List Value) r, All2 (CRel1 ρ) xs cx → All2 (CRel1 ρ) ys cy →
    xs.length = ks.length → ys.length = ks.length → eqCells h ks xs ys = some r → (Op.equalIn D t (valOf g cx) (valOf g cy)).run P w = .ok r w := by
  intro d
  induction d with
  | zero => intro t ks g hk; cases hk
  | succ d ih =>
    intro t ks g hk hg D hD xs ys cx cy r hx hy lx ly he
    obtain ⟨D, rfl⟩ : ∃ D', D = D' + 1 := ⟨D - 1, by omega⟩
    cases g with
    | false =>
      obtain ⟨k, rfl, hek⟩ := eks_scalar hk hg
      match xs, ys, hx, hy, lx, ly with
      | [x], [y], .cons hx .nil, .cons hy .nil, _, _ =>
        simp only [eqCells] at he
        cases hq : eqCell h k x y with
        | none => rw [hq] at he; cases he
        | some b =>
          rw [hq] at he
          have : b = r := by cases b <;> (injection he)
          subst this
          exact eqCell_ok hh hek hx.2 hy.2 hq
    | true =>
      have hg' := hg
      unfold isAggT at hg
      split at hg
      · rename_i td htd
        simp only [eks, htd] at hk
        cases td <;> first | (cases hg; done) | skip
        · -- an array
          rename_i m e
          simp only at hk
          split at hk
          · rename_i a0 ge ha hge
            split at hk
            · rename_i hb
              rw [beq_iff_eq] at hb
              injection hk with hk; subst hk
              obtain ⟨i, hi⟩ : ∃ i, P.info? e = some i := by
                unfold sizeT at hb
                cases hi : P.info? e with
                | none => rw [hi] at hb; cases hb
                | some i => exact ⟨i, rfl⟩
              have hc : P.cellsOf e = a0.length := by
                unfold sizeT at hb
                unfold Program.cellsOf
                rw [hb]; rfl
              show (Op.equalIn (D + 1) t (.agg cx.toArray) (.agg cy.toArray)).run P w = _
              rw [run_equalIn_array w D cx.toArray cy.toArray htd hi, hc, List.range_eq_range']
              refine eqItems_ok hh hge hb (fun hf => ?_) (fun xs ys cx cy r h1 h2 h3 h4 h5 => ih e a0 ge ha hge D (by omega) xs ys cx cy r h1 h2 h3 h4 h5) _ _ m 0 xs ys r (by simpa using hx) (by simpa using hy) he lx ly
              subst hf
              obtain ⟨k, rfl, _⟩ := eks_scalar ha hge
              rfl
            · cases hk
          · cases hk
        · -- a struct
          rename_i fs
          simp only at hk
          split at hk
          · cases hk
          · rename_i hst
            have hfo : P.fieldsOf t = fs := by simp [Program.fieldsOf, htd]
            show (Op.equalIn (D + 1) t (.agg cx.toArray) (.agg cy.toArray)).run P w = _
            rw [run_equalIn_struct w D t cx.toArray cy.toArray (by rw [hfo]; exact htd) hst, hfo]
            exact eqFields_ok hh (fun t ks g h1 h2 xs ys cx cy r h3 h4 h5 h6 h7 => ih t ks g h1 h2 D (by omega) xs ys cx cy r h3 h4 h5 h6 h7) _ _ fs.toList 0 ks hk xs ys r (by simpa using hx) (by simpa using hy) he lx ly
      · cases hg

theorem equal_ok (hh : HRel ρ h w) {t : TypeId} {ks : List EK} {g : Bool} (hk : eks P 50 t = some ks) (hg : isAggT P t = some g) {x y : V} {cx cy : Value} {xs ys : List AV} {r : Bool}
    (hx : VRel ρ x cx) (hy : VRel ρ y cy) (lx : cellsOf x = some xs) (ly : cellsOf y = some ys) (he : eqCells h ks xs ys = some r) (hax : g = true ↔ ∃ cs, cx = .agg cs) (hay : g = true ↔ ∃ cs, cy = .agg cs)
    (h1 : xs.length = ks.length) (h2 : ys.length = ks.length) : (Op.equal t cx cy).run P w = .ok r w := by
  have key : ∀ {v : Value} {l : List AV}, All2 (CRel1 ρ) l v.cells.toList → l.length = ks.length → (g = true ↔ ∃ cs, v = .agg cs) → valOf g v.cells.toList = v := by
    intro v l hl hlen hv
    cases g with
    | true =>
      obtain ⟨cs, rfl⟩ := hv.1 rfl
      simp [valOf, Value.cells]
    | false =>
      cases v <;> first | rfl | skip
      rename_i cs
      exact absurd (hv.2 ⟨cs, rfl⟩) nofun
  have r1 := cellsOf_rel hx lx
  have r2 := cellsOf_rel hy ly
  have := equalIn_ok (P := P) hh 50 t ks g hk hg 10000 (by omega) xs ys _ _ r r1 r2 h1 h2 he
  rw [key r1 h1 hax, key r2 h2 hay] at this
  exact this
end
end CSim
