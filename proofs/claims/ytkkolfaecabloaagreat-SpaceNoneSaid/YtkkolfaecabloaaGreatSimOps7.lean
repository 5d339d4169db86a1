/-
  Slices: made of parts, made of zeros, appended to, copied, cleared.
-/
import Derived.Test.YtkkolfaecabloaaGreatSimOps6
import Derived.Laws.Append
import Derived.Laws.MakeOwn
namespace CSim
set_option linter.unusedSimpArgs false
set_option linter.unusedVariables false
open Go
variable {P : Program} {n : Nat} {o : Oper}

theorem zeroT_info {t : TypeId} {z : List AV} (h : zeroT P t = some z) : ∃ (i : TypeInfo) (zv : Value), P.info? t = some i ∧ i.zero = some zv ∧ ∀ ρ, All2 (CRel1 ρ) z zv.cells.toList := by
  unfold zeroT at h
  split at h
  · rename_i v hv
    unfold zeroV at hv
    split at hv
    · rename_i zv hzv
      cases hi : P.info? t with
      | none => rw [hi] at hzv; cases hzv
      | some i =>
        rw [hi] at hzv
        exact ⟨i, zv, rfl, hzv, fun ρ => cellsOf_rel (avOf_ok hv) h⟩
    · cases hv
  · cases h
theorem sizeT_info {t : TypeId} {s : Nat} {i : TypeInfo} (hi : P.info? t = some i) (h : sizeT P t = some s) : i.size = s := by
  unfold sizeT at h
  rw [hi] at h
  exact Option.some.inj h
theorem bytesT_info {t : TypeId} {s : Nat} {i : TypeInfo} (hi : P.info? t = some i) (h : bytesT P t = some s) : i.bytes = s := by
  unfold bytesT at h
  rw [hi] at h
  exact Option.some.inj h

/-! ### rows of zeros, lists cut into rows -/
theorem rep_get (z : List AV) (hz : 0 < z.length) : ∀ (m i : Nat), i < m * z.length → (rep z m)[i]? = z[i % z.length]?
  | 0, i, h => by simp at h
  | m + 1, i, h => by
    rw [rep, app_eq]
    by_cases hi : i < z.length
    · rw [List.getElem?_append_left hi, Nat.mod_eq_of_lt hi]
    · have hge : z.length ≤ i := Nat.le_of_not_lt hi
      rw [List.getElem?_append_right hge, rep_get z hz m (i - z.length) (by rw [Nat.succ_mul] at h; omega)]
      congr 1
      exact (Nat.mod_eq_sub_mod hge).symm

theorem zeroCells_get (z : Array Value) (hz : 0 < z.size) (m i : Nat) (hi : i < m * z.size) : (Builtin.zeroCells z m)[i]? = z[i % z.size]? := by
  have hm : i % z.size < z.size := Nat.mod_lt _ hz
  unfold Builtin.zeroCells
  rw [Array.getElem?_map, Array.getElem?_range, if_pos hi, Option.map_some, getElem!_pos z _ hm, Array.getElem?_eq_getElem hm]
theorem zeroCells_size (z : Array Value) (m : Nat) : (Builtin.zeroCells z m).size = m * z.size := by simp [Builtin.zeroCells]

theorem rep_rel {ρ : Ren} {z : List AV} {zc : Array Value} (h : All2 (CRel1 ρ) z zc.toList) (m : Nat) : All2 (CRel1 ρ) (rep z m) (Builtin.zeroCells zc m).toList := by
  have hlen : z.length = zc.size := by rw [h.length]; simp
  refine All2.of_get (by rw [rep_length, hlen, ← zeroCells_size]; exact Array.length_toList.symm) fun i x hx => ?_
  have hi : i < m * z.length := by
    have := (List.getElem?_eq_some_iff.1 hx).1
    rwa [rep_length] at this
  have hz : 0 < z.length := by
    rcases Nat.eq_zero_or_pos z.length with h0 | h0
    · rw [h0] at hi; omega
    · exact h0
  rw [rep_get z hz m i hi] at hx
  obtain ⟨v, h1, h2⟩ := h.get hx
  refine ⟨v, ?_, h2⟩
  rw [Array.getElem?_toList, zeroCells_get zc (by omega) m i (by rw [← hlen]; exact hi), ← hlen]
  rw [Array.getElem?_toList] at h1
  exact h1

theorem chunks_get (c : Nat) : ∀ (k : Nat) (l : List AV) (q : Nat) (t : Rows), l.length = k * c → q + k ≤ 4096 → ∀ r, r < 4096 → (chunks c k l q t).get r = if q ≤ r ∧ r < q + k then some ((l.drop ((r - q) * c)).take c) else t.get r
  | 0, l, q, t, _, _, r, _ => by rw [if_neg (by omega)]; rfl
  | k + 1, l, q, t, hl, hq, r, hr => by
    have hle : c ≤ l.length := by rw [hl, Nat.succ_mul]; omega
    simp only [chunks, takeN_eq, if_pos hle, dropN_eq]
    rw [chunks_get c k (l.drop c) (q + 1) _ (by rw [List.length_drop, hl, Nat.succ_mul]; omega) (by omega) r hr]
    by_cases h1 : q + 1 ≤ r ∧ r < q + 1 + k
    · rw [if_pos h1, if_pos (by omega), List.drop_drop]
      have : c + (r - (q + 1)) * c = (r - q) * c := by
        have e : r - q = (r - (q + 1)) + 1 := by omega
        rw [e, Nat.succ_mul]; omega
      rw [this]
    · rw [if_neg h1, Rows.get_set (by omega) hr]
      by_cases h2 : q = r
      · subst h2
        rw [if_pos rfl, if_pos (by omega)]; simp
      · rw [if_neg h2, if_neg (by omega)]

theorem mkObj_spec {fz : Bool} {es m : Nat} {z l : List AV} (hz : z.length = es) (hl : l.length = m * es) :
    (mkObj fz es m z l).ok ∧ (mkObj fz es m z l).isCells = true ∧ ∀ i x, (mkObj fz es m z l).cell i = some x → l[i]? = some x := by
  unfold mkObj
  split
  · rename_i hb
    simp only [Bool.and_eq_true, nat_blt] at hb
    obtain ⟨h1, h2⟩ := hb
    unfold mostRows at h2
    have hc : 0 < es := by omega
    refine ⟨⟨hc, h2, hz, fun q r hq hr => ?_⟩, rfl, fun i x hx => ?_⟩
    · rw [chunks_get es m l 0 _ hl (by omega) q (by omega), if_pos (by omega)] at hr
      injection hr with hr; subst hr
      have : q * es + es ≤ m * es := by rw [← Nat.succ_mul]; exact Nat.mul_le_mul_right _ hq
      simp only [List.length_take, List.length_drop, Nat.sub_zero]
      omega
    · simp only [AObj.cell] at hx
      split at hx
      · rename_i hb
        rw [chunks_get es m l 0 _ hl (by omega) _ (Nat.lt_trans hb.2 h2), if_pos ⟨Nat.zero_le _, by rw [Nat.zero_add]; exact hb.2⟩, Option.getD_some, List.getElem?_take, if_pos (Nat.mod_lt _ hc), List.getElem?_drop] at hx
        have : (i / es - 0) * es + i % es = i := by rw [Nat.sub_zero, Nat.mul_comm]; exact Nat.div_add_mod i es
        rw [this] at hx
        exact hx
      · cases hx
  · exact ⟨trivial, rfl, fun i x hx => hx⟩

theorem zeroObj_spec {es m : Nat} {z : List AV} (hz : z.length = es) : (zeroObj es m z).ok ∧ (zeroObj es m z).isCells = true ∧ ∀ i x, (zeroObj es m z).cell i = some x → (rep z m)[i]? = some x := by
  unfold zeroObj
  split
  · rename_i hb
    simp only [Bool.and_eq_true, nat_blt] at hb
    obtain ⟨h1, h2⟩ := hb
    have hc : 0 < es := by omega
    refine ⟨⟨hc, h2, hz, fun q r hq hr => by rw [Rows.get_empty] at hr; cases hr⟩, rfl, fun i x hx => ?_⟩
    simp only [AObj.cell] at hx
    split at hx
    · rename_i hb
      rw [Rows.get_empty] at hx
      have hi : i < m * z.length := by
        rw [hz]
        have := Nat.div_add_mod i es
        have h3 : i % es < es := Nat.mod_lt _ hc
        have h4 : es * (i / es) + es ≤ es * m := by
          have := Nat.mul_le_mul_left es hb.2
          rwa [Nat.succ_eq_add_one, Nat.mul_add, Nat.mul_one] at this
        rw [Nat.mul_comm]; omega
      rw [rep_get z (by omega) m i hi, hz]
      exact hx
    · cases hx
  · exact ⟨trivial, rfl, fun i x hx => hx⟩

/-- a new block of cells -/
theorem newCells_ok {ρ : Ren} {h h' : Heap} {w : World} (hh : HRel ρ h w) {ob : AObj} (hok : ob.ok) (hc : ob.isCells = true) {cs : Array Value} {t : TypeId}
    (hcell : ∀ ρ', ρ.le ρ' → ∀ i x, ob.cell i = some x → ∃ v, cs[i]? = some v ∧ CRel1 ρ' x v) {f : Nat → V} {v : V}
    (hn : h.new ob f = .ok v h') (hf : Fresh ρ h.next h'.next) :
    v = f h.next ∧ Step ρ h w (ρ.put h.next ⟨w.heap.size, 0, cs.size⟩) h' (w.alloc (.cells cs t)) := by
  obtain ⟨hid, rfl, rfl⟩ := Heap.new_ok hn
  have hf' := fresh_next hf
  refine ⟨rfl, Step.alloc hh hid hf' hok ?_⟩
  rw [ObjRel.cells hc]
  refine ⟨cs, t, 0, 0, rfl, rfl, .inl rfl, fun _ => rfl, fun i x hx => ?_⟩
  obtain ⟨v, h1, h2⟩ := hcell _ (Ren.le_put hf' _) i x hx
  exact ⟨v, by simpa using h1, h2⟩

theorem range_zero (z : Array Value) (m k : Nat) (h : k = m * z.size) : (Array.range k).map (z[· % z.size]!) = Builtin.zeroCells z m := by subst h; rfl

theorem ok_buildSlice {t et : TypeId} {fz : Bool} {m s : Nat} {ps : Array (Nat × Operand)} {z : List AV} {qs : List (Nat × Nat × Opnd)} (ho : o.op = .buildSlice t m ps) (ht : P.underlying t = some (.slice et)) (hz : zeroT P et = some z)
    (hs : sizeT P et = some s) (hpos : 0 < s) (hzl : z.length = s) (hmax : m * s ≤ 4096) (hq : partsOf n ps.toList (fun i => some (i * s, s)) = some qs) : ValOk P n o (rBuildSlice fz s m z (rep z m) qs) := by
  intro c e h v h' hr ρ w a he hh hf
  unfold rBuildSlice at hr
  split at hr
  · rename_i l hl
    obtain ⟨zv, h3, h4⟩ := zeroT_ok hz (ρ := ρ)
    have hzs : zv.cells.size = s := by have := h4.length; rw [hzl] at this; simpa using this.symm
    obtain ⟨cs', h5, h6⟩ := fillA_ok he hq hl (rep_rel h4 m)
    have hll : l.length = m * s := by
      have : ∀ {qs : List (Nat × Nat × Opnd)} {l l' : List AV}, fillA (evO e) qs l = some l' → l'.length = l.length := by
        intro qs
        induction qs with
        | nil => intro l l' h; injection h with h; subst h; rfl
        | cons q qs ih =>
          intro l l' h
          obtain ⟨off, size, x⟩ := q
          simp only [fillA] at h
          split at h
          · split at h
            · split at h
              · rename_i l2 hl2
                rw [ih h, (splice_get hl2).1]
              · cases h
            · cases h
          · cases h
      rw [this hl, rep_length, hzl]
    obtain ⟨m1, m2, m3⟩ := mkObj_spec (fz := fz) hzl hll
    have hle : ∀ ρ', ρ.le ρ' → All2 (CRel1 ρ') l cs'.toList := fun ρ' hle => h6.mono fun _ _ h => h.mono hle
    obtain ⟨rfl, hstep⟩ := newCells_ok (t := et) hh m1 m2 (fun ρ' hle' i x hx => by
      obtain ⟨v, g1, g2⟩ := (hle ρ' hle').get (m3 i x hx)
      exact ⟨v, by simpa using g1, g2⟩) hr hf
    have hcs : cs'.size = m * s := by rw [← hll, h6.length]; simp
    refine ⟨.value (.slice (some ⟨w.heap.size, 0, none⟩) m m), _, _, ?_, .inl rfl, _, ⟨_, 0, m, Ren.put_same _ _ _, rfl, Nat.le_refl _, Nat.le_refl _, fun _ => rfl, hpos, fun _ => ⟨rfl, ?_⟩⟩, hstep⟩
    · have e1 : (ps.map fun x => (x.1, a.eval x.2)).toList = ps.toList.map fun x => (x.1, a.eval x.2) := map_parts ps a
      have hnl : ¬ (m * s > 2 ^ 24) := by omega
      by_cases h0 : m * s = 0
      · have hm0 : m = 0 := by
          rcases Nat.mul_eq_zero.1 h0 with h | h <;> omega
        subst hm0
        simp only [execOp, ho, Instr.buildSlice, Sem.run_bind, run_underlying ht, Result.andThen_ok, run_sizeT hs, Nat.zero_mul, if_true, Sem.run_pure]
        rw [if_neg (show ¬ (0 > 2 ^ 24) by decide)]
        have : Builtin.zeroCells zv.cells 0 = (Array.range 0).map ((#[] : Array Value)[· % (#[] : Array Value).size]!) := by simp [Builtin.zeroCells]
        rw [this] at h5
        simp only [Sem.run_bind, Sem.run_pure, Result.andThen_ok]
        rw [e1, h5]
        rfl
      · simp only [execOp, ho, Instr.buildSlice, Sem.run_bind, run_underlying ht, Result.andThen_ok, run_sizeT hs, hnl, h0, if_false, h3, Sem.run_pure]
        rw [range_zero _ m _ (by rw [hzs]), e1, h5]
        rfl
    · simp only [Nat.zero_add]; omega
  · cases hr

theorem natOf_rel {v : V} {k : Nat} {ρ : Ren} {cv : Value} (h : natOf v = some k) (hv : VRel ρ v cv) : ∃ q, cv = .int q (k : Int) := by
  obtain ⟨k1, m, rfl, h⟩ := asInt_ok h none_ne
  cases m with
  | ofNat m =>
    injection h with h; subst h
    obtain ⟨q, _, rfl⟩ := hv
    exact ⟨q, rfl⟩
  | negSucc m => cases h

theorem ok_makeSlice {t et : TypeId} {s by_ : Nat} {l0 c0 : Operand} {l cO : Opnd} {z : List AV} (ho : o.op = .makeSlice t l0 c0) (ht : P.underlying t = some (.slice et)) (hz : zeroT P et = some z)
    (hs : sizeT P et = some s) (hb : bytesT P et = some by_) (hpos : 0 < s) (hzl : z.length = s) (hby : 0 < by_) (hl : opnd n l0 = some l) (hc : opnd n c0 = some cO) : ValOk P n o (rMakeSlice s by_ z l cO) := by
  intro c e h v h' hr ρ w a he hh hf
  unfold rMakeSlice at hr
  split at hr
  · rename_i l1 hl1
    split at hr
    · rename_i c1 hc1
      split at hr
      · rename_i hcond
        simp only [Bool.and_eq_true, nat_ble, nmul] at hcond
        obtain ⟨hlc, hroom⟩ := hcond
        unfold room at hroom
        simp only [fNat_eq] at hr
        obtain ⟨q1, e1⟩ := natOf_rel hl1 (opnd_ok hl he)
        obtain ⟨q2, e2⟩ := natOf_rel hc1 (opnd_ok hc he)
        obtain ⟨i, zv, hi, h3, h4⟩ := zeroT_info hz
        have hsz := sizeT_info hi hs
        have hbz := bytesT_info hi hb
        have hzs : zv.cells.size = s := by have := (h4 ρ).length; rw [hzl] at this; simpa using this.symm
        obtain ⟨m1, m2, m3⟩ := zeroObj_spec (m := c1) hzl
        have hrel := rep_rel (h4 ρ) c1
        obtain ⟨rfl, hstep⟩ := newCells_ok (t := et) (cs := Builtin.zeroCells zv.cells c1) hh m1 m2 (fun ρ' hle' i x hx => by
          obtain ⟨v, g1, g2⟩ := hrel.get (m3 i x hx)
          exact ⟨v, by simpa using g1, g2.mono hle'⟩) hr hf
        have hcb : c1 ≤ by_ * c1 := Nat.le_mul_of_pos_left _ hby
        have hrun := run_make (P := P) w t et i zv ht hi h3 q1 q2 (l1 : Int) (c1 : Int) (by omega) (by omega) (by
          rw [hbz]
          have : ((by_ * c1 : Nat) : Int) ≤ 281474976710656 := by omega
          rwa [Int.natCast_mul] at this) (by omega)
        have hmade : madeCells zv.cells ((c1 : Int).toNat * i.size) = Builtin.zeroCells zv.cells c1 := by
          rw [Int.toNat_natCast, hsz, ← hzs]; rfl
        rw [hmade] at hrun
        refine ⟨.value (.slice (some ⟨w.heap.size, 0, none⟩) l1 c1), _, _, ?_, .inl rfl, _, ⟨_, 0, c1, Ren.put_same _ _ _, rfl, hlc, Nat.le_refl _, fun _ => rfl, hpos, fun _ => ⟨rfl, ?_⟩⟩, hstep⟩
        · simp only [execOp, ho, Sem.run_bind, e1, e2]
          rw [hrun]
          rfl
        · show 0 + c1 * s ≤ (Builtin.zeroCells zv.cells c1).size
          rw [zeroCells_size, hzs]; omega
      · cases hr
    · cases hr
  · cases hr

theorem ok_clearSl {x0 : Operand} {x : Opnd} {t et : TypeId} {z : List AV} {ats : Array TypeId} (ho : o.op = .call ⟨.builtin .clear, #[x0], ats⟩) (hat : ats[0]? = some t) (ht : P.underlying t = some (.slice et)) (hz : zeroT P et = some z)
    (hx : opnd n x0 = some x) : ValOk P n o (rClearSl z x) := by
  intro c e h v h' hr ρ w a he hh _
  obtain ⟨q, hu, hr⟩ := asOth_ok hr no_ne
  have hxr := opnd_ok hx he
  rw [hu] at hxr
  cases q with
  | nilslice =>
    have e1 : a.eval x0 = .slice none 0 0 := hxr
    injection hr with h1 h2; subst h1; subst h2
    exact ⟨.value (.tuple #[]), _, w, by simp [execOp, ho, resolve, invoke, builtin, Builtin.clear_, hat, run_underlying ht, e1], .inl rfl, Out.same hh ⟨#[], rfl, rfl⟩⟩
  | slice b off len cap es ex =>
    obtain ⟨p, co, cap', hp, e1, j1, j2, j3, j4, j5⟩ := slice_rel hxr
    simp only at hr
    split at hr
    · rename_i h0
      rw [nat_beq] at h0
      subst h0
      injection hr with h1 h2; subst h1; subst h2
      exact ⟨.value (.tuple #[]), _, w, by simp [execOp, ho, resolve, invoke, builtin, Builtin.clear_, hat, run_underlying ht, e1], .inl rfl, Out.same hh ⟨#[], rfl, rfl⟩⟩
    · rename_i h0
      rw [nat_beq_false] at h0
      split at hr
      · rename_i hes
        rw [nat_beq, lenL_eq] at hes
        obtain ⟨ob, ob', hg, hw, hr⟩ := write_ok hr
        injection hr with h1 h2; subst h1; subst h2
        obtain ⟨zv, h3, h4⟩ := zeroT_ok hz (ρ := ρ)
        obtain ⟨g1, g2⟩ := hh.write (P := P) hp hg hw (rep_rel h4 len)
        obtain ⟨rfl, _⟩ := j5 (by omega)
        refine ⟨.value (.tuple #[]), _, _, ?_, .inl rfl, ρ, ⟨#[], rfl, rfl⟩, g2⟩
        obtain ⟨len, rfl⟩ : ∃ k, len = k + 1 := ⟨len - 1, by omega⟩
        simp only [execOp, ho, resolve, Sem.run_bind, Sem.run_pure, Result.andThen_ok, invoke, builtin, List.map_toArray, List.map_cons, List.map_nil, e1, Builtin.clear_, hat, run_underlying ht, List.getElem?_toArray, List.getElem?_cons_zero, h3, g1]
      · cases hr
  | _ => cases hr
end CSim
