/-
  append and copy.
-/
import Derived.Test.YtkkolfaecabloaaGreatSimOps7
import Derived.Deep.AppendSrc
import Derived.Laws.AppendOwn
namespace CSim
set_option linter.unusedSimpArgs false
set_option linter.unusedVariables false
open Go
variable {P : Program} {n : Nat} {o : Oper}

/-! ### what is appended -/
/-- so many zeros, asked for by a number -/
structure Zer (P : Program) (i : TypeInfo) (z : Value) (tx : TypeId) (x : Value) (k : Nat) (news : List Value) : Prop where
  kind : ∃ q, P.underlying tx = some (.int q)
  val : ∃ q, x = .int q (k : Int)
  news : news = (Builtin.zeroCells z.cells k).toList
  fit : k * i.bytes ≤ 1099511627776
  small : k ≤ 1099511627776
def SrcAny (P : Program) (i : TypeInfo) (z : Value) (tx : TypeId) (x : Value) (k : Nat) (news : List Value) (w : World) : Prop := Go.Src P i.size tx x k news w ∨ Zer P i z tx x k news

theorem zero_cells_nil {z : Value} {i : TypeInfo} (hzs : z.cells.size = i.size) {k : Nat} (h : k * i.size = 0) : Builtin.zeroCells z.cells k = #[] := by
  apply Array.eq_empty_of_size_eq_zero
  rw [zeroCells_size, hzs, h]

theorem one_zero {z : Value} (h1 : ∀ v ∈ z.cells.toList, v.oneCell' = true) (k : Nat) : ∀ u ∈ (Builtin.zeroCells z.cells k).toList, u.oneCell' = true := by
  intro u hu
  unfold Builtin.zeroCells at hu
  simp only [Array.toList_map, List.mem_map] at hu
  obtain ⟨j, hj, rfl⟩ := hu
  have hj' : j < k * z.cells.size := by simpa using hj
  have hz : 0 < z.cells.size := by
    rcases Nat.eq_zero_or_pos z.cells.size with h | h
    · rw [h] at hj'; omega
    · exact h
  rw [getElem!_pos z.cells _ (Nat.mod_lt _ hz)]
  exact h1 _ (by simp)

theorem app_room {w : World} {t tx ty e : TypeId} {i : TypeInfo} {z : Value} (ht : P.underlying t = some (.slice e)) (hi : P.info? e = some i) (hz : i.zero = some z) (hzs : z.cells.size = i.size) (h1 : ∀ v ∈ z.cells.toList, v.oneCell' = true)
    (b off sLen sCap : Nat) (x : Value) (k : Nat) (news : List Value) (hs : SrcAny P i z tx x k news w)
    (hroom : sLen + k ≤ sCap) (hc : ∀ j, j < news.length → (w.cell? ⟨b, off + sLen * i.size + j, none⟩).isSome = true) (hf : ∀ j, j < news.length → w.frozen? ⟨b, off + sLen * i.size + j, none⟩ = false) :
    (Builtin.append_ #[t, tx] ty #[.slice (some ⟨b, off, none⟩) sLen sCap, x]).run P w = .ok (.slice (some ⟨b, off, none⟩) (sLen + k) sCap) (w.setCells b (off + sLen * i.size) news) := by
  rcases hs with hs | hs
  · exact run_append_room_src w t tx ty e i ht hi b off sLen sCap x k news hs hroom hc hf
  · obtain ⟨⟨q, hq⟩, ⟨q2, rfl⟩, rfl, hfit, hsm⟩ := hs
    have hst := run_storeCells_cells (P := P) b (off + sLen * i.size) (Builtin.zeroCells z.cells k).toList 0 w (by simpa using hc) (by simpa using hf) (one_zero h1 k)
    simp only [Nat.add_zero] at hst
    have w1 : IntKind.i64.wrap (k : Int) = k := by rw [IntKind.wrap_i64]; omega
    have n1 : ¬ ((k : Int) < 0) := by omega
    have n2 : ¬ (281474976710656 < (k : Int) * (i.bytes : Int)) := by
      have : ((k * i.bytes : Nat) : Int) ≤ 1099511627776 := by omega
      rw [Int.natCast_mul] at this
      omega
    by_cases h0 : k * i.size = 0
    · have e0 := zero_cells_nil hzs h0
      rw [e0] at hst
      rw [e0]
      have hst' : (storeCells ⟨b, off + sLen * i.size, none⟩ []).run P w = .ok () (w.setCells b (off + sLen * i.size) []) := by simpa using hst
      simp [Builtin.append_, run_underlying ht, run_underlying hq, Go.sizeOf, typeInfo, hi, Go.asInt, Go.asIntOf, w1, n1, n2, hroom, h0, Addr.add_lit, hst']
    · simp [Builtin.append_, run_underlying ht, run_underlying hq, Go.sizeOf, typeInfo, zeroValue, hi, hz, Go.asInt, Go.asIntOf, w1, n1, n2, hroom, h0, Addr.add_lit, hst]

theorem app_none {w : World} {t tx ty e : TypeId} {i : TypeInfo} {z : Value} (ht : P.underlying t = some (.slice e)) (hi : P.info? e = some i) (x : Value) (news : List Value) (hs : SrcAny P i z tx x 0 news w) :
    (Builtin.append_ #[t, tx] ty #[.slice none 0 0, x]).run P w = .ok (.slice none 0 0) w := by
  rcases hs with hs | hs
  · rcases hs.kind with ⟨e', hk⟩ | hk <;> simp [Builtin.append_, run_underlying ht, run_underlying hk, Go.sizeOf, typeInfo, hi, hs.len, hs.cells]
  · obtain ⟨⟨q, hq⟩, ⟨q2, rfl⟩, rfl, hfit, hsm⟩ := hs
    have w1 : IntKind.i64.wrap ((0 : Nat) : Int) = 0 := by decide
    simp [Builtin.append_, run_underlying ht, run_underlying hq, Go.sizeOf, typeInfo, hi, Go.asInt, Go.asIntOf, w1]
    all_goals simp_all

theorem app_grow {w : World} {t tx ty e : TypeId} {i : TypeInfo} {z : Value} (ht : P.underlying t = some (.slice e)) (hi : P.info? e = some i) (hz : i.zero = some z) (hzs : z.cells.size = i.size) (hby : 0 < i.bytes)
    (base : Option Addr) (sLen sCap : Nat) (olds : List Value) (hold : (Builtin.firstCells i.size sLen (.slice base sLen sCap)).run P w.drew = .ok olds.toArray w.drew) (x : Value) (k : Nat) (news : List Value) (hs : SrcAny P i z tx x k news w)
    (hg : sCap < sLen + k) (hfit : (sLen + k) * i.bytes ≤ 1099511627776) :
    (Builtin.append_ #[t, tx] ty #[.slice base sLen sCap, x]).run P w =
      .ok (.slice (some ⟨w.heap.size, 0, none⟩) (sLen + k) (grownCap w (sLen + k) sCap e))
        (w.drew.alloc (.cells ((olds ++ news).toArray ++ Builtin.zeroCells z.cells (grownCap w (sLen + k) sCap e - (sLen + k))) e)) := by
  have hle : sLen + k ≤ (sLen + k) * i.bytes := Nat.le_mul_of_pos_right _ hby
  have hgf := growslice_fits (bytes := i.bytes) hg (by omega)
  rcases hs with hs | hs
  · exact run_append_grow_src w t tx ty e i z ht hi hz base sLen sCap olds hold x k news hs hg (by omega) hgf
  · obtain ⟨⟨q, hq⟩, ⟨q2, rfl⟩, rfl, hfit2, hsm⟩ := hs
    have hn : ¬ (sLen + k ≤ sCap) := by omega
    have h63' : ¬ (9223372036854775807 < ((sLen : Int) + (k : Int))) := by omega
    have h48' : ¬ (281474976710656 < Builtin.nextslicecap (sLen + k) sCap * i.bytes) := by omega
    have w1 : IntKind.i64.wrap (k : Int) = k := by rw [IntKind.wrap_i64]; omega
    have n1 : ¬ ((k : Int) < 0) := by omega
    have n2 : ¬ (281474976710656 < (k : Int) * (i.bytes : Int)) := by
      have : ((k * i.bytes : Nat) : Int) ≤ 1099511627776 := by omega
      rw [Int.natCast_mul] at this
      omega
    by_cases h0 : k * i.size = 0
    · have e0 := zero_cells_nil hzs h0
      rw [e0]
      simp [Builtin.append_, run_underlying ht, run_underlying hq, Go.sizeOf, typeInfo, zeroValue, hi, hz, Go.asInt, Go.asIntOf, w1, n1, n2, hn, h63', h48', Question.forced, hold, h0, newRow, grownCap]
    · simp [Builtin.append_, run_underlying ht, run_underlying hq, Go.sizeOf, typeInfo, zeroValue, hi, hz, Go.asInt, Go.asIntOf, w1, n1, n2, hn, h63', h48', Question.forced, hold, h0, newRow, grownCap]
      congr 2
      apply Array.ext'
      simp [List.append_assoc]

/-! ### what the relation says of it -/
theorem HRel.writable {ρ : Ren} {h : Heap} {w : World} (hr : HRel ρ h w) {b o : Nat} {p : Plc} (hp : ρ b = some p) {ob ob' : AObj} {xs : List AV} (hg : h.get b = some ob) (hw : ob.write o xs = some ob') :
    ∀ j, j < xs.length → (w.cell? ⟨p.blk, p.sh + o + j, none⟩).isSome = true ∧ w.frozen? ⟨p.blk, p.sh + o + j, none⟩ = false := by
  intro j hj
  obtain ⟨s1, s2, s3, s4, s5⟩ := AObj.write_spec (hr.ok b ob p hg hp) hw
  obtain ⟨x, hx, hobj⟩ := hr.obj b ob p hg hp
  have hcells : ob.isCells = true := by cases ob <;> first | rfl | cases hw
  rw [ObjRel.cells hcells] at hobj
  obtain ⟨c, e, lo, hi, rfl, hsz, hfz, hwh, hc⟩ := hobj
  obtain ⟨y, hy⟩ := Option.isSome_iff_exists.1 (s4 j hj)
  obtain ⟨v, a1, _⟩ := hc _ _ hy
  rw [← Nat.add_assoc] at a1
  refine ⟨by rw [cell_of_heap hx, a1]; rfl, frozen_of_heap hx _ ?_⟩
  have := (Array.getElem?_eq_some_iff.1 a1).1
  omega

def srcT (P : Program) (src : Src) (tx : TypeId) : Prop := match src with
  | .slice => ∃ e', P.underlying tx = some (.slice e')
  | .str => P.underlying tx = some .string
  | .zeros => ∃ q, P.underlying tx = some (.int q)

theorem more_ok {ρ : Ren} {h : Heap} {w : World} (hh : HRel ρ h w) {i : TypeInfo} {z : List AV} {zv : Value} (hzr : All2 (CRel1 ρ) z zv.cells.toList) {es by_ : Nat} (hsz : i.size = es) (hby : i.bytes = by_) (hzl : z.length = es) (hpos : 0 < by_) {src : Src} {v : V} {cv : Value} (hv : VRel ρ v cv)
    {tx : TypeId} (htx : srcT P src tx) {k : Nat} {new : List AV} (hm : more es by_ z src v h = some (k, new)) :
    ∃ news, SrcAny P i zv tx cv k news w ∧ All2 (CRel1 ρ) new news ∧ new.length = k * es := by
  cases src with
  | slice =>
    obtain ⟨e', he'⟩ := htx
    obtain ⟨q, hvq, hm2⟩ := asOth_ok hm none_ne
    clear hm
    have hm := hm2
    clear hm2
    subst hvq
    cases q with
    | nilslice =>
      have e1 : cv = .slice none 0 0 := hv
      injection hm with hm; injection hm with h1 h2; subst h1; subst h2
      subst e1
      exact ⟨[], .inl (Src.ofNil w he' 0), .nil, by simp⟩
    | slice b off len cap es' ex =>
      obtain ⟨p, co, cap', hp, rfl, j1, j2, j3, j4, j5⟩ := slice_rel hv
      try simp only at hm
      split at hm
      · rename_i hes
        rw [nat_beq] at hes
        subst hes
        split at hm
        · rename_i l hl
          injection hm with hm; injection hm with h1 h2; subst h1; subst h2
          obtain ⟨vs, g1, g2, g3⟩ := slice_read hh hp j1 j2 j4 j5 (Nat.le_refl _) hl
          refine ⟨vs, .inl (Src.ofSlice w he' ⟨p.blk, co, none⟩ len cap' vs (by rw [g1, hsz]) (fun j u hj => ?_) g2.one), g2, by rw [g2.length, g1]⟩
          rw [addr_add]; exact g3 j u hj
        · cases hm
      · cases hm
    | _ => cases hm
  | str =>
    obtain ⟨q, hvq, hm2⟩ := asOth_ok hm none_ne
    clear hm
    have hm := hm2
    clear hm2
    subst hvq
    cases q with
    | str s =>
      obtain ⟨b, rfl, hb⟩ := hv
      try simp only at hm
      split at hm
      · rename_i hes
        rw [nat_beq] at hes
        subst hes
        injection hm with hm; injection hm with h1 h2; subst h2
        have hlen : s.length = b.size := by rw [hb, List.length_map, Array.length_toList]; rfl
        rw [lenL_eq, hlen] at h1; subst h1
        have := Src.ofString (P := P) w htx b
        rw [← hsz] at this
        refine ⟨byteCells b, .inl this, ?_, by rw [bytesL_eq, List.length_map, hlen, Nat.mul_one]⟩
        rw [bytesL_eq, hb]
        unfold byteCells
        rw [List.map_map]
        generalize b.data.toList = l
        induction l with
        | nil => exact .nil
        | cons u l ih => exact .cons ⟨rfl, .u8, rfl, rfl⟩ ih
      · cases hm
    | _ => cases hm
  | zeros =>
    obtain ⟨k1, m, hvq, hm2⟩ := asInt_ok hm none_ne
    clear hm
    have hm := hm2
    clear hm2
    subst hvq
    cases m with
    | ofNat m =>
      try simp only at hm
      split at hm
      · rename_i hb
        simp only [Bool.and_eq_true, nat_beq, nat_ble, nmul] at hb
        injection hm with hm; injection hm with h1 h2; subst h1; subst h2
        obtain ⟨k0, _, rfl⟩ := hv
        have hb2 := hb.2
        unfold room at hb2
        have : m ≤ m * by_ := Nat.le_mul_of_pos_right _ hpos
        exact ⟨_, .inr ⟨htx, ⟨k0, rfl⟩, rfl, by rw [hby]; omega, by omega⟩, rep_rel hzr m, by rw [rep_length, hzl]⟩
      · cases hm
    | negSucc m => cases hm

theorem HRel.drew {ρ : Ren} {h : Heap} {w : World} (hh : HRel ρ h w) : HRel ρ h w.drew := ⟨hh.ok, hh.low, hh.obj, hh.inj, hh.tight⟩
theorem Step.drew {ρ : Ren} {h : Heap} {w : World} (hh : HRel ρ h w) : Step ρ h w ρ h w.drew :=
  ⟨Ren.le_refl ρ, fun _ _ h => .inl h, Nat.le_refl _, hh.drew, Nat.le_refl _, fun _ _ _ => rfl, fun _ h => .inl h, rfl, rfl, rfl⟩

/-- a new row, behind a draw -/
theorem grow_ok {ρ : Ren} {h h' : Heap} {w : World} (hh : HRel ρ h w) {es k g : Nat} {ob : AObj} {new : List AV} {news rest : List Value} {e : TypeId} {v : V} (m1 : ob.ok) (m2 : ob.isCells = true) (m3 : ∀ i x, ob.cell i = some x → new[i]? = some x) (hl : new.length = k * es) (hpos : 0 < es)
    (hnew : All2 (CRel1 ρ) new news) (hk : k ≤ g) (hrest : rest.length = (g - k) * es) (hr : h.new ob (fun i => .x (.slice i 0 k k es false)) = .ok v h') (hf : Fresh ρ h.next h'.next) :
    Out ρ h w v h' (.slice (some ⟨w.heap.size, 0, none⟩) k g) (w.drew.alloc (.cells (news.toArray ++ rest.toArray) e)) := by
  obtain ⟨rfl, hs⟩ := newCells_ok (t := e) (cs := news.toArray ++ rest.toArray) hh.drew m1 m2 (fun ρ' hle i x hx => by
    obtain ⟨v, g1, g2⟩ := hnew.get (m3 i x hx)
    have hlt : i < news.length := (List.getElem?_eq_some_iff.1 g1).1
    refine ⟨v, ?_, g2.mono hle⟩
    rw [Array.getElem?_append_left (by simpa using hlt)]
    simpa using g1) hr hf
  refine ⟨_, ⟨_, 0, g, Ren.put_same _ _ _, rfl, Nat.le_refl _, hk, nofun, hpos, fun _ => ⟨rfl, ?_⟩⟩, Step.trans (Step.drew hh) hs⟩
  have h1 : news.length = k * es := by rw [← hnew.length, hl]
  show 0 + g * es ≤ (news.toArray ++ rest.toArray).size
  rw [Array.size_append]
  simp only [List.size_toArray, h1, hrest, ← Nat.add_mul]
  have : k + (g - k) = g := by omega
  rw [this]; omega

theorem one_cells {fz : Bool} {l : List AV} (h : Nat.beq (lenL l) 1 = false) : (AObj.cells fz l).one = false := by
  unfold AObj.one
  split
  · rename_i a b e
    injection e with _ e
    subst e
    cases h
  · rfl
theorem one_mkObj {fz : Bool} {es n : Nat} {z l : List AV} (h : Nat.beq (lenL l) 1 = false) : (mkObj fz es n z l).one = false := by
  unfold mkObj
  split
  · rfl
  · exact one_cells h
/-- a row that is used on: the new block lies where the old one lay -/
theorem Step.reuse {ρ : Ren} {h : Heap} {w w' : World} (hr : HRel ρ h w) {b : Nat} {ob o : AObj} {p q : Plc} {x' : Obj} (hg : h.get b = some ob) (hp : ρ b = some p) (hid : h.next < most) (hf : ρ h.next = none) (hok : o.ok) (h1o : o.one = false)
    (hq : q.blk = p.blk) (hsz : w'.heap.size = w.heap.size) (hx : w'.heap[p.blk]? = some x') (hne : ∀ k, k ≠ p.blk → w'.heap[k]? = w.heap[k]?) (hrel : ObjRel (ρ.put h.next q) o q x') (hos : w'.os = w.os) (htp : w'.tape = w.tape) (hout : w'.output = w.output) :
    Step ρ h w (ρ.put h.next q) ⟨Nat.succ h.next, (h.upd b none).m.set h.next (some o)⟩ w' := by
  have hb := Heap.get_lt hg
  have hle := Ren.le_put hf q
  have hget : ∀ j, (⟨Nat.succ h.next, (h.upd b none).m.set h.next (some o)⟩ : Heap).get j = if h.next = j then some o else if b = j then none else h.get j := fun j => by
    have h1 := Heap.get_upd (h := h.upd b none) hid (some o) j
    rw [Heap.get_upd hb] at h1
    exact h1
  have hold : ∀ a r, (ρ.put h.next q) a = some r → a ≠ h.next → ρ a = some r := fun a r hr' ha => by simpa [Ren.put, ha] using hr'
  have hplt : p.blk < w.heap.size := hr.low b p hp
  refine ⟨hle, ?_, by simp, ⟨?_, ?_, ?_, ?_, fun a o1 r h1 hr' h2 => by
    rw [hget] at h1
    split at h1
    · injection h1 with h1; subst h1; rw [h1o] at h2; cases h2
    · rename_i e
      split at h1
      · cases h1
      · exact hr.tight a o1 r h1 (hold a r hr' (fun e' => e e'.symm)) h2⟩, by omega, ?_, ?_, hos, htp, hout⟩
  · intro a r hr'
    by_cases e : a = h.next
    · subst e; exact .inr ⟨hf, Nat.le_refl _, Nat.lt_succ_self _⟩
    · exact .inl (hold a r hr' e)
  · intro a o1 r h1 hr'
    rw [hget] at h1
    split at h1
    · injection h1 with h1; subst h1; exact hok
    · rename_i e
      split at h1
      · cases h1
      · exact hr.ok a o1 r h1 (hold a r hr' (fun e' => e e'.symm))
  · intro a r hr'
    rw [hsz]
    by_cases e : a = h.next
    · subst e; rw [Ren.put_same] at hr'; injection hr' with hr'; subst hr'; rw [hq]; exact hplt
    · exact hr.low a r (hold a r hr' e)
  · intro a o1 r h1 hr'
    rw [hget] at h1
    split at h1
    · rename_i e
      subst e
      injection h1 with h1; subst h1
      rw [Ren.put_same] at hr'; injection hr' with hr'; subst hr'
      exact ⟨x', by rw [hq]; exact hx, hrel⟩
    · rename_i e
      split at h1
      · cases h1
      · rename_i e2
        have hr2 := hold a r hr' (Ne.symm e)
        obtain ⟨y, hy, hyr⟩ := hr.obj a o1 r h1 hr2
        refine ⟨y, ?_, hyr.le hle⟩
        rw [hne r.blk (fun e' => e2 (hr.inj b a ob o1 p r hg h1 hp hr2 e'.symm))]
        exact hy
  · intro a a' o1 o2 r r' h1 h2 hr1 hr2 he
    rw [hget] at h1 h2
    by_cases e1 : h.next = a
    · by_cases e2 : h.next = a'
      · rw [← e1, ← e2]
      · exfalso
        rw [if_neg e2] at h2
        split at h2
        · cases h2
        · rename_i e3
          have q2 := hold a' r' hr2 (Ne.symm e2)
          subst e1
          rw [Ren.put_same] at hr1; injection hr1 with hr1; subst hr1
          exact e3 (hr.inj b a' ob o2 p r' hg h2 hp q2 (hq.symm.trans he))
    · rw [if_neg e1] at h1
      split at h1
      · cases h1
      · rename_i e4
        have q1 := hold a r hr1 (Ne.symm e1)
        by_cases e2 : h.next = a'
        · exfalso
          subst e2
          rw [Ren.put_same] at hr2; injection hr2 with hr2; subst hr2
          exact e4 (hr.inj b a ob o1 p r hg h1 hp q1 (hq.symm.trans he.symm))
        · rw [if_neg e2] at h2
          split at h2
          · cases h2
          · exact hr.inj a a' o1 o2 r r' h1 h2 q1 (hold a' r' hr2 (Ne.symm e2)) he
  · intro c hc hno
    exact hne c fun e => hno ⟨b, ob, p, hg, hp, e.symm⟩
  · rintro c ⟨a, o1, r, h1, hr1, he⟩
    rw [hget] at h1
    by_cases e1 : h.next = a
    · subst e1
      rw [Ren.put_same] at hr1; injection hr1 with hr1; subst hr1
      exact .inl ⟨b, ob, p, hg, hp, hq.symm.trans he⟩
    · rw [if_neg e1] at h1
      split at h1
      · cases h1
      · exact .inl ⟨a, o1, r, h1, hold a r hr1 (Ne.symm e1), he⟩

/-- the old row is used on -/
theorem reuse_ok {ρ : Ren} {h : Heap} {w : World} (hh : HRel ρ h w) {b off len co cap' es k : Nat} {p : Plc} {ob o' : AObj} {old new : List AV} {olds news : List Value} (hg : h.get b = some ob) (hp : ρ b = some p) (hpos : 0 < es)
    (hc : ob.isCells = true) (hj : co = p.sh + off ∧ co + cap' * es ≤ p.size) (hol : olds.length = len * es) (hold : All2 (CRel1 ρ) old olds) (holdc : ∀ (j : Nat) v, olds[j]? = some v → w.cell? ⟨p.blk, co + j, none⟩ = some v)
    (hnl : news.length = k * es) (hnew : All2 (CRel1 ρ) new news) (hroom : len + k ≤ cap') (hid : h.next < most) (hf : ρ h.next = none)
    (hok : o'.ok) (h1o : o'.one = false) (hoc : o'.isCells = true) (how : o'.whole = true → ob.whole = true) (hcell : ∀ i x, o'.cell i = some x → (old ++ new)[i]? = some x) :
    (∀ j, j < news.length → (w.cell? ⟨p.blk, co + len * es + j, none⟩).isSome = true ∧ w.frozen? ⟨p.blk, co + len * es + j, none⟩ = false) ∧
    Step ρ h w (ρ.put h.next ⟨p.blk, co, p.size⟩) ⟨Nat.succ h.next, (h.upd b none).m.set h.next (some o')⟩ (w.setCells p.blk (co + len * es) news) := by
  obtain ⟨x, hx, hobj⟩ := hh.obj b ob p hg hp
  rw [ObjRel.cells hc] at hobj
  obtain ⟨c, e, lo, hi, rfl, hsz, hfz, hwh, hcc⟩ := hobj
  have hmul : (len + k) * es ≤ cap' * es := Nat.mul_le_mul_right _ hroom
  rw [Nat.add_mul] at hmul
  refine ⟨fun j hj' => ?_, ?_⟩
  · have hlt : co + len * es + j < c.size := by omega
    refine ⟨by rw [cell_of_heap hx, Array.getElem?_eq_getElem hlt]; rfl, frozen_of_heap hx _ (by omega)⟩
  · obtain ⟨c', k1, k2, k3⟩ := heap_setCells p.blk news (co + len * es) w c e (lo, hi) hx
    obtain ⟨o1, o2, o3⟩ := os_setCells p.blk news (co + len * es) w
    refine Step.reuse hh hg hp hid hf hok h1o rfl (size_setCells _ _ _ _) k1 (fun k hk => heap_setCells_ne _ _ _ _ _ hk) ?_ o1 o2 o3
    rw [ObjRel.cells hoc]
    refine ⟨c', e, lo, hi, rfl, by rw [k2, hsz], by rw [k2]; exact hfz, fun hw => hwh (how hw), fun i y hy => ?_⟩
    have hle := Ren.le_put hf ⟨p.blk, co, p.size⟩
    obtain ⟨v, g1, g2⟩ := (hold.append hnew).get (hcell i y hy)
    refine ⟨v, ?_, g2.mono hle⟩
    show c'[co + i]? = some v
    rw [k3]
    by_cases hi : i < olds.length
    · rw [List.getElem?_append_left hi] at g1
      rw [if_neg (by omega)]
      have := holdc i v g1
      rw [cell_of_heap hx] at this
      exact this
    · rw [List.getElem?_append_right (by omega)] at g1
      have hlt := (List.getElem?_eq_some_iff.1 g1).1
      rw [if_pos ⟨by omega, by omega, by omega⟩]
      rw [show co + i - (co + len * es) = i - olds.length by omega]
      exact g1

theorem ok_append {ats : Array TypeId} {s0 x0 : Operand} {s x : Opnd} {t tx et : TypeId} {z : List AV} {es by_ : Nat} {src : Src} (ho : o.op = .call ⟨.builtin .append, #[s0, x0], ats⟩) (hat : ats[0]? = some t) (hax : ats[1]? = some tx)
    (ht : P.underlying t = some (.slice et)) (hz : zeroT P et = some z) (hs : sizeT P et = some es) (hb : bytesT P et = some by_) (hpos : 0 < es) (hzl : z.length = es) (hby : 0 < by_)
    (htx : srcT P src tx)
    (hso : opnd n s0 = some s) (hxo : opnd n x0 = some x) : ValOk P n o (rAppend es by_ z src s x) := by
  intro c e h v h' hr ρ w a he hh hf
  unfold rAppend at hr
  split at hr
  · cases hr
  · rename_i k new hm
    obtain ⟨i, zv, hi, hzi, hzr⟩ := zeroT_info hz
    have hsz := sizeT_info hi hs
    have hbz := bytesT_info hi hb
    have hzs : zv.cells.size = i.size := by have := (hzr ρ).length; rw [hzl] at this; rw [hsz]; simpa using this.symm
    have hz1 : ∀ v ∈ zv.cells.toList, v.oneCell' = true := (hzr ρ).one
    obtain ⟨news, hsrc, hnew, hnl⟩ := more_ok hh (hzr ρ) hsz hbz hzl hby (opnd_ok hxo he) htx hm
    have hnsl : news.length = k * es := by rw [← hnew.length, hnl]
    have hexec : ∀ {cv w'}, (Builtin.append_ #[t, tx] o.type #[a.eval s0, a.eval x0]).run P w = .ok cv w' → (execOp a.eval o).run P w = .ok (.value cv) w' := by
      intro cv w' hrun
      have : (Builtin.append_ ats o.type #[a.eval s0, a.eval x0]) = (Builtin.append_ #[t, tx] o.type #[a.eval s0, a.eval x0]) := by
        unfold Builtin.append_
        simp only [hat, hax]
        rfl
      simp only [execOp, ho, resolve, Sem.run_bind, Sem.run_pure, Result.andThen_ok, invoke, builtin, List.map_toArray, List.map_cons, List.map_nil, this, hrun]
    obtain ⟨q, hu, hr2⟩ := asOth_ok hr no_ne
    clear hr
    have hr := hr2
    clear hr2
    have hsr := opnd_ok hso he
    rw [hu] at hsr
    cases q with
    | nilslice =>
      have e1 : a.eval s0 = .slice none 0 0 := hsr
      rw [e1] at hexec
      simp only at hr
      split at hr
      · rename_i hk
        rw [nat_beq] at hk
        subst hk
        injection hr with h1 h2; subst h1; subst h2
        exact ⟨_, _, w, hexec (app_none ht hi _ news hsrc), .inl rfl, Out.same hh rfl⟩
      · rename_i hk
        rw [nat_beq_false] at hk
        split at hr
        · rename_i hroom
          rw [nat_ble, nmul] at hroom
          unfold room at hroom
          simp only [fNat_eq] at hr
          have hg := app_grow ht hi hzi hzs (by rw [hbz]; exact hby) none 0 0 [] (run_firstCells_none _ _ _ _ _) (a.eval x0) k news hsrc (ty := o.type) (by omega) (by rw [Nat.zero_add, hbz]; exact hroom)
          rw [Nat.zero_add] at hg
          have hge := grownCap_ge w k 0 et
          refine ⟨_, _, _, hexec hg, .inl rfl, ?_⟩
          obtain ⟨m1, m2, m3⟩ := mkObj_spec (fz := false) hzl hnl
          have := grow_ok (g := grownCap w k 0 et) (rest := (Builtin.zeroCells zv.cells (grownCap w k 0 et - k)).toList) (e := et) hh m1 m2 m3 hnl hpos hnew hge (by rw [Array.length_toList, zeroCells_size, hzs, hsz]) hr hf
          simpa using this
        · cases hr
    | slice b off len cap es' ex =>
      obtain ⟨p, co, cap', hp, e1, j1, j2, j3, j4, j5⟩ := slice_rel hsr
      rw [e1] at hexec
      simp only at hr
      split at hr
      · cases hr
      · rename_i hes
        rw [nat_beq] at hes
        subst hes
        unfold appendTo at hr
        split at hr
        · rename_i hle
          rw [nat_ble, nadd] at hle
          split at hr
          · rename_i hk
            rw [nat_beq] at hk
            subst hk
            injection hr with h1 h2; subst h1; subst h2
            have hn0 : news = [] := by
              apply List.eq_nil_of_length_eq_zero; rw [hnsl, Nat.zero_mul]
            subst hn0
            have hg := app_room ht hi hzi hzs hz1 p.blk co len cap' (a.eval x0) 0 [] hsrc (ty := o.type) (by omega) (by simp) (by simp)
            exact ⟨_, _, _, hexec hg, .inl rfl, Out.same hh ⟨p, co, cap', hp, rfl, j1, j2, j3, j4, j5⟩⟩
          · rename_i hk
            rw [nat_beq_false] at hk
            obtain ⟨ob, ob', hg', hw, hr⟩ := write_ok hr
            simp only [fSlice_eq, nadd] at hr
            injection hr with h1 h2; subst h1; subst h2
            obtain ⟨rfl, q2⟩ := j5 (by omega)
            have hwr := hh.writable hp hg' hw
            obtain ⟨_, g2⟩ := hh.write (P := P) hp hg' hw hnew
            simp only [nadd, nmul, ← Nat.add_assoc] at hwr g2
            have hg := app_room ht hi hzi hzs hz1 p.blk (p.sh + off) len cap' (a.eval x0) k news hsrc (ty := o.type) (by omega)
              (fun j hj => by rw [hsz]; exact (hwr j (by rw [hnew.length]; exact hj)).1) (fun j hj => by rw [hsz]; exact (hwr j (by rw [hnew.length]; exact hj)).2)
            rw [hsz] at hg
            exact ⟨_, _, _, hexec hg, .inl rfl, ρ, ⟨p, _, cap', hp, rfl, hle, j2, j3, j4, fun _ => ⟨rfl, q2⟩⟩, g2⟩
        · rename_i hle
          rw [nat_ble_false, nadd] at hle
          split at hr
          · cases hr
          · rename_i hroom
            rw [nat_ble, nmul, nadd] at hroom
            unfold room at hroom
            split at hr
            · cases hr
            · rename_i old hold
              simp only [fNat_eq, nadd] at hr
              obtain ⟨olds, o1, o2, o3⟩ := slice_read hh hp j1 j2 j4 j5 (Nat.le_refl _) hold
              have happ : All2 (CRel1 ρ) (app old new) (olds ++ news) := by rw [app_eq]; exact o2.append hnew
              have hal : (app old new).length = (len + k) * es := by rw [app_eq, List.length_append, o2.length, o1, hnl, Nat.add_mul]
              -- the model's row grows
              have hgrow : cap' < len + k → ∀ {h1 : Heap} {ob : AObj}, ob.ok → ob.isCells = true → (∀ i x, ob.cell i = some x → (app old new)[i]? = some x) → HRel ρ h1 w → Fresh ρ h1.next h'.next → h1.new ob (fun i => .x (.slice i 0 (len + k) (len + k) es false)) = .ok v h' → ∃ cv w', (Builtin.append_ #[t, tx] o.type #[.slice (some ⟨p.blk, co, none⟩) len cap', a.eval x0]).run P w = .ok cv w' ∧ Out ρ h1 w v h' cv w' := by
                intro hlt h1 ob m1 m2 m3 hh1 hf1 hr1
                have hg := app_grow ht hi hzi hzs (by rw [hbz]; exact hby) (some ⟨p.blk, co, none⟩) len cap' olds (run_firstCells_some w.drew _ _ _ _ _ _ (by rw [o1, hsz]) (fun j u hj => by rw [addr_add]; exact o3 j u hj)) (a.eval x0) k news hsrc (ty := o.type) hlt (by rw [hbz]; exact hroom)
                have hge := grownCap_ge w (len + k) cap' et
                refine ⟨_, _, hg, ?_⟩
                have := grow_ok (g := grownCap w (len + k) cap' et) (rest := (Builtin.zeroCells zv.cells (grownCap w (len + k) cap' et - (len + k))).toList) (e := et) hh1 m1 m2 m3 hal hpos happ hge (by rw [Array.length_toList, zeroCells_size, hzs, hsz]) hr1 hf1
                simpa using this
              obtain ⟨m1, m2, m3⟩ := mkObj_spec (fz := false) hzl hal
              split at hr
              · have : cap' = cap := j3 rfl
                obtain ⟨cv, w', g1, g2⟩ := hgrow (by omega) m1 m2 m3 hh hf hr
                exact ⟨_, _, _, hexec g1, .inl rfl, g2⟩
              · unfold growIn at hr
                split at hr
                · cases hr
                rename_i hne1
                split at hr
                · rename_i fz l hgb
                  have hbm := Heap.get_lt hgb
                  by_cases hin : len + k ≤ cap'
                  · obtain ⟨hid, rfl, rfl⟩ := Heap.new_ok hr
                    have hf' : ρ h.next = none := fresh_next hf
                    have hcap : 0 < cap' := by omega
                    obtain ⟨k1, k2⟩ := reuse_ok (k := k) hh hgb hp hpos rfl (j5 hcap) o1 o2 o3 hnsl hnew hin hid hf' (o' := .cells fz (app old new)) trivial (one_cells hne1) rfl id (fun i x hx => by rw [← app_eq]; exact hx)
                    have hg := app_room ht hi hzi hzs hz1 p.blk co len cap' (a.eval x0) k news hsrc (ty := o.type) hin (fun j hj => by rw [hsz]; exact (k1 j hj).1) (fun j hj => by rw [hsz]; exact (k1 j hj).2)
                    rw [hsz] at hg
                    exact ⟨_, _, _, hexec hg, .inl rfl, ρ.put h.next ⟨p.blk, co, p.size⟩, ⟨⟨p.blk, co, p.size⟩, co, cap', Ren.put_same _ _ _, rfl, Nat.le_refl _, hin, nofun, hpos, fun _ => ⟨rfl, (j5 hcap).2⟩⟩, k2⟩
                  · obtain ⟨cv, w', g1, ρ', g2, g3⟩ := hgrow (by omega) (ob := .cells fz (app old new)) trivial rfl (fun i x hx => hx) (hh.kill hbm) hf hr
                    exact ⟨_, _, _, hexec g1, .inl rfl, ρ', g2, Step.trans (Step.kill hh hbm) g3⟩
                · rename_i c1 n1 z1 t1 hgb
                  have hbm := Heap.get_lt hgb
                  by_cases hin : len + k ≤ cap'
                  · obtain ⟨hid, rfl, rfl⟩ := Heap.new_ok hr
                    have hf' : ρ h.next = none := fresh_next hf
                    have hcap : 0 < cap' := by omega
                    obtain ⟨k1, k2⟩ := reuse_ok (k := k) hh hgb hp hpos rfl (j5 hcap) o1 o2 o3 hnsl hnew hin hid hf' (o' := mkObj false es (len + k) z (app old new)) m1 (one_mkObj hne1) m2 (fun _ => rfl) (fun i x hx => by rw [← app_eq]; exact m3 i x hx)
                    have hg := app_room ht hi hzi hzs hz1 p.blk co len cap' (a.eval x0) k news hsrc (ty := o.type) hin (fun j hj => by rw [hsz]; exact (k1 j hj).1) (fun j hj => by rw [hsz]; exact (k1 j hj).2)
                    rw [hsz] at hg
                    exact ⟨_, _, _, hexec hg, .inl rfl, ρ.put h.next ⟨p.blk, co, p.size⟩, ⟨⟨p.blk, co, p.size⟩, co, cap', Ren.put_same _ _ _, rfl, Nat.le_refl _, hin, nofun, hpos, fun _ => ⟨rfl, (j5 hcap).2⟩⟩, k2⟩
                  · obtain ⟨cv, w', g1, ρ', g2, g3⟩ := hgrow (by omega) m1 m2 m3 (hh.kill hbm) hf hr
                    exact ⟨_, _, _, hexec g1, .inl rfl, ρ', g2, Step.trans (Step.kill hh hbm) g3⟩
                · cases hr
    | _ => cases hr

/-! ### copying -/
theorem copyLen_ok {ρ : Ren} {es m : Nat} {x : AX} {cv : Value} (hx : XRel ρ x cv) (h : copyLen es x = some m) (w : World) : (Builtin.lenOf cv).run P w = .ok m w := by
  cases x with
  | nilslice =>
    have e1 : cv = .slice none 0 0 := hx
    injection h with h; subst h; subst e1; rfl
  | slice b o len cap es' ex =>
    obtain ⟨p, co, cap', _, rfl, _⟩ := hx
    simp only [copyLen] at h
    split at h
    · injection h with h; subst h; rfl
    · cases h
  | str s =>
    obtain ⟨b, rfl, hb⟩ := hx
    simp only [copyLen] at h
    split at h
    · injection h with h; subst h
      rw [lenL_eq, hb, List.length_map, Array.length_toList]; rfl
    · cases h
  | _ => cases h

theorem copySrc_ok {ρ : Ren} {h : Heap} {w : World} (hh : HRel ρ h w) {es m k : Nat} {x : AX} {cv : Value} (hpos : 0 < es) (hx : XRel ρ x cv) (hm : copyLen es x = some m) (hk : k ≤ m) (h0 : 0 < k) {l : List AV} (hl : copySrc es x h k = some l) :
    ∃ vs : List Value, (Builtin.firstCells es k cv).run P w = .ok vs.toArray w ∧ All2 (CRel1 ρ) l vs := by
  cases x with
  | slice b off len cap es' ex =>
    simp only [copyLen] at hm
    split at hm
    · rename_i hes
      rw [nat_beq] at hes
      subst hes
      injection hm with hm; subst hm
      obtain ⟨p, co, cap', hp, rfl, j1, j2, j3, j4, j5⟩ := hx
      obtain ⟨vs, g1, g2, g3⟩ := slice_read hh hp j1 j2 j4 j5 hk hl
      exact ⟨vs, run_firstCells_some w _ _ _ _ _ vs g1 (fun j u hj => by rw [addr_add]; exact g3 j u hj), g2⟩
    · cases hm
  | str s =>
    obtain ⟨b, rfl, hb⟩ := hx
    simp only [copyLen] at hm
    split at hm
    · rename_i hes
      injection hm with hm; subst hm
      simp only [copySrc, takeN_eq, bytesL_eq] at hl
      split at hl
      · injection hl with hl; subst hl
        refine ⟨((b.extract 0 k).data.map fun b => Value.int .u8 b.toNat).toList, by
          simp only [Builtin.firstCells, Sem.run_pure, Array.toArray_toList], ?_⟩
        have e1 : (b.extract 0 k).data.toList = b.data.toList.take k := by simp [ByteArray.data_extract, List.extract]
        rw [Array.toList_map, e1, hb, List.map_map, ← List.map_take]
        generalize b.data.toList.take k = l
        induction l with
        | nil => exact .nil
        | cons u l ih => exact .cons ⟨rfl, .u8, rfl, rfl⟩ ih
      · cases hl
    · cases hm
  | _ => cases hl

theorem copyZero_ok {ρ : Ren} {es m : Nat} {x : AX} {cv : Value} {w : World} (hx : XRel ρ x cv) (hm : copyLen es x = some m) : (Builtin.firstCells es 0 cv).run P w = .ok #[] w := by
  cases x with
  | nilslice =>
    have e1 : cv = .slice none 0 0 := hx
    subst e1; rfl
  | slice b o len cap es' ex =>
    obtain ⟨p, co, cap', _, rfl, _⟩ := hx
    exact run_firstCells_some w es 0 _ _ _ [] (by simp) (fun j u hj => by cases hj)
  | str s =>
    obtain ⟨b, rfl, hb⟩ := hx
    simp [Builtin.firstCells]
  | _ => cases hm

theorem ok_copy {ats : Array TypeId} {d0 s0 : Operand} {d s : Opnd} {t et : TypeId} {es : Nat} (ho : o.op = .call ⟨.builtin .copy, #[d0, s0], ats⟩) (hat : ats[0]? = some t)
    (ht : P.underlying t = some (.slice et)) (hs : sizeT P et = some es) (hpos : 0 < es) (hdo : opnd n d0 = some d) (hso : opnd n s0 = some s) : ValOk P n o (rCopy es d s) := by
  intro c e h v h' hr ρ w a he hh hf
  obtain ⟨q, hu, hr2⟩ := asOth_ok hr no_ne
  clear hr
  have hr := hr2
  clear hr2
  have hsr := opnd_ok hso he
  rw [hu] at hsr
  split at hr
  · cases hr
  · rename_i m hm
    obtain ⟨q2, hu2, hr2⟩ := asOth_ok hr no_ne
    clear hr
    have hr := hr2
    clear hr2
    have hdr := opnd_ok hdo he
    rw [hu2] at hdr
    have hlen := copyLen_ok (P := P) hsr hm w
    cases q2 with
    | nilslice =>
      have e1 : a.eval d0 = .slice none 0 0 := hdr
      injection hr with h1 h2; subst h1; subst h2
      have hz := copyZero_ok (P := P) (w := w) hsr hm
      refine ⟨.value (goInt 0), _, w, ?_, .inl rfl, Out.same hh ⟨.i64, rfl, rfl⟩⟩
      have hmin : Nat.min m 0 = 0 := Nat.min_zero m
      simp [execOp, ho, resolve, invoke, builtin, Builtin.copy_, hat, run_underlying ht, e1, hlen, run_sizeT hs, hz, hmin]
    | slice b off len cap es' ex =>
      obtain ⟨p, co, cap', hp, e1, j1, j2, j3, j4, j5⟩ := slice_rel hdr
      simp only at hr
      split at hr
      · cases hr
      · rename_i hes
        rw [nat_beq] at hes
        subst hes
        simp only [fNat_eq] at hr
        split at hr
        · rename_i h0
          rw [nat_beq] at h0
          injection hr with h1 h2; subst h1; subst h2
          have hz := copyZero_ok (P := P) (w := w) hsr hm
          refine ⟨.value (goInt 0), _, w, ?_, .inl rfl, Out.same hh ⟨.i64, rfl, rfl⟩⟩
          have hst : (storeCells ⟨p.blk, co, none⟩ []).run P w = .ok () w := rfl
          simp [execOp, ho, resolve, invoke, builtin, Builtin.copy_, hat, run_underlying ht, e1, hlen, run_sizeT hs, hz, h0, hst]
        · rename_i h0
          rw [nat_beq_false] at h0
          split at hr
          · rename_i l hl
            obtain ⟨ob, ob', hg, hw, hr⟩ := write_ok hr
            injection hr with h1 h2; subst h1; subst h2
            have hk : Nat.min m len ≤ m := Nat.min_le_left _ _
            have hk2 : Nat.min m len ≤ len := Nat.min_le_right _ _
            obtain ⟨vs, g1, g2⟩ := copySrc_ok (P := P) hh hpos hsr hm hk (by omega) hl
            obtain ⟨rfl, _⟩ := j5 (by omega)
            obtain ⟨g3, g4⟩ := hh.write (P := P) hp hg hw g2
            refine ⟨.value (goInt (Nat.min m len)), _, _, ?_, .inl rfl, ρ, ⟨.i64, rfl, rfl⟩, g4⟩
            simp [execOp, ho, resolve, invoke, builtin, Builtin.copy_, hat, run_underlying ht, e1, hlen, run_sizeT hs, g1, g3]
          · cases hr
    | _ => cases hr
end CSim
