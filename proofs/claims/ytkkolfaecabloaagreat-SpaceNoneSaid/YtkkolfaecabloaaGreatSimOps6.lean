/-
  Maps; what is made of parts.
-/
import Derived.Test.YtkkolfaecabloaaGreatSimOps5
namespace CSim
set_option linter.unusedSimpArgs false
set_option linter.unusedVariables false
open Go
variable {P : Program} {n : Nat} {o : Oper}

/-! ### keys -/
/-- the type of the keys -/
def keyD (ints : Bool) (d : TypeDesc) : Prop := match ints with
  | true => ∃ k, d = .int k
  | false => d = .string

theorem zeroV_ok {t : TypeId} {z : V} (h : zeroV P t = some z) : ∃ zv : Value, (∀ w, (zeroValue t).run P w = .ok zv w) ∧ ∀ ρ, VRel ρ z zv := by
  unfold zeroV at h
  split at h
  · rename_i zv hzv
    refine ⟨zv, fun w => ?_, fun ρ => avOf_ok h⟩
    cases hi : P.info? t with
    | none => rw [hi] at hzv; cases hzv
    | some i =>
      rw [hi] at hzv
      have hz : i.zero = some zv := hzv
      simp [zeroValue, typeInfo, hi, hz]
  · cases h

/-- a key, and what it is in the model -/
inductive KeyRel : Bool → AV → Value → Prop
  | int (k : IntKind) (n : Int) : KeyRel true (.int (kOf k) n) (.int k n)
  | str (s : List Nat) (b : ByteArray) (h : s = b.data.toList.map UInt8.toNat) : KeyRel false (.oth (.str s)) (.string b)

theorem keyOf_ok {ints : Bool} {v : V} {k : AV} {ρ : Ren} {cv : Value} (h : keyOf ints v = some k) (hv : VRel ρ v cv) : KeyRel ints k cv ∧ CRel ρ k cv := by
  cases v with
  | s a =>
    cases a with
    | int q m =>
      cases ints with
      | true =>
        injection h with h; subst h
        obtain ⟨k0, rfl, rfl⟩ := id hv
        exact ⟨.int k0 m, hv⟩
      | false => cases h
    | oth x =>
      cases x with
      | str s =>
        cases ints with
        | true => cases h
        | false =>
          injection h with h; subst h
          obtain ⟨b, rfl, hb⟩ := id hv
          exact ⟨.str s b hb, hv⟩
      | _ => cases h
    | _ => cases h
  | _ => cases h

theorem isKey_of {ints : Bool} {k : AV} {cv : Value} (h : KeyRel ints k cv) : ∃ d, MapKept.IsKey d cv := by
  cases h with
  | int k n => exact ⟨.int k, rfl⟩
  | str s b h => exact ⟨.string, trivial⟩

theorem run_checkKey_ok {ints : Bool} {k : AV} {cv : Value} (h : KeyRel ints k cv) {d : TypeDesc} (hd : keyD ints d) {kt : TypeId} (hk : P.underlying kt = some d) (em : Bool) (m : Nat) (w : World) :
    (Instr.checkKey em (m + 1) kt cv).run P w = .ok () w := by
  unfold Instr.checkKey
  simp only [Sem.run_bind, run_underlying hk, Result.andThen_ok]
  cases h with
  | int k n => obtain ⟨q, rfl⟩ := hd; rfl
  | str s b h => have : d = .string := hd; subst this; rfl

theorem bytes_ext' {a b : ByteArray} (h : a.data.toList = b.data.toList) : a = b := by
  cases a; cases b
  simp only at h
  congr 1
  exact Array.ext' h

theorem sameNow_ok {ints : Bool} {k k' : AV} {cv cv' : Value} {ρ : Ren} (h : KeyRel ints k cv) (h' : CRel ρ k' cv') {d : TypeDesc} (hd : keyD ints d) {r : Bool} (hr : eqVal k k' = some r) :
    Instr.sameNow d cv cv' = some r ∧ (r = true → cv' = cv) ∧ (r = false → cv' ≠ cv) := by
  cases h with
  | int q m =>
    obtain ⟨q0, rfl⟩ := hd
    cases k' with
    | int q' m' =>
      obtain ⟨q1, rfl, rfl⟩ := h'
      simp only [eqVal] at hr
      split at hr
      · rename_i hk
        have := beq_k hk; subst this
        rw [beqI_eq] at hr
        injection hr with hr; subst hr
        refine ⟨?_, fun h => ?_, fun h e => ?_⟩
        · simp only [Instr.sameNow, if_true]
          try congr 1
        · have : m = m' := by simpa using h
          rw [this]
        · injection e with _ e
          simp [e] at h
      · cases hr
    | _ => cases hr
  | str s b hb =>
    have : d = .string := hd
    subst this
    cases k' with
    | oth y =>
      cases y with
      | str s' =>
        obtain ⟨b', rfl, hb'⟩ := h'
        simp only [eqVal] at hr
        injection hr with hr
        have he := eqList_bytes hb hb'
        rw [he] at hr
        subst hr
        exact ⟨rfl, fun h => by rw [← he, eqList_iff, hb, hb'] at h; rw [bytes_ext' (map_toNat_inj h)], fun h e => by
          injection e with e
          subst e
          rw [← he] at h
          have : eqList s s' = true := by rw [eqList_iff, hb, hb']
          rw [this] at h; cases h⟩
      | _ => cases hr
    | _ => cases hr

theorem findA_ok {ints : Bool} {k : AV} {cv : Value} {ρ : Ren} (hk : KeyRel ints k cv) {d : TypeDesc} (hd : keyD ints d) {es : List (AV × V)} {l : List MapEntry}
    (h : All2 (fun (x : AV × V) (e : MapEntry) => CRel ρ x.1 e.key ∧ VRel ρ x.2 e.val) es l) : ∀ (i : Nat) {r : Option V}, findA k es = some r →
    match r with
    | none => Instr.findNow d cv l i = some none
    | some v => ∃ j u, Instr.findNow d cv l i = some (some (j, u)) ∧ VRel ρ v u := by
  induction h with
  | nil => intro i r hr; injection hr with hr; subst hr; rfl
  | cons hab htl ih =>
    rename_i x e l m
    intro i r hr
    obtain ⟨k', v'⟩ := x
    simp only [findA] at hr
    split at hr
    · rename_i heq
      injection hr with hr; subst hr
      obtain ⟨h1, _⟩ := sameNow_ok hk hab.1 hd heq
      exact ⟨i, e.val, by simp [Instr.findNow, h1], hab.2⟩
    · rename_i heq
      obtain ⟨h1, _⟩ := sameNow_ok hk hab.1 hd heq
      have := ih (i + 1) hr
      have e1 : Instr.findNow d cv (e :: m) i = Instr.findNow d cv m (i + 1) := by simp [Instr.findNow, h1]
      rw [e1]
      exact this
    · cases hr

theorem putA_ok {ints : Bool} {k : AV} {v : V} {cv vv : Value} {ρ : Ren} (hk : KeyRel ints k cv) (hck : CRel ρ k cv) (hv : VRel ρ v vv) {d : TypeDesc} (hd : keyD ints d) {es : List (AV × V)} {l : List MapEntry}
    (h : All2 (fun (x : AV × V) (e : MapEntry) => CRel ρ x.1 e.key ∧ VRel ρ x.2 e.val) es l) : ∀ (i : Nat) {r : List (AV × V)}, putA k v es = some r →
    (Instr.findNow d cv l i = some none ∧ (∀ e ∈ l, e.key ≠ cv) ∧ ∀ e : MapEntry, e.key = cv → e.val = vv → All2 (fun (x : AV × V) (e : MapEntry) => CRel ρ x.1 e.key ∧ VRel ρ x.2 e.val) r (l ++ [e])) ∨
    ∃ j e, Instr.findNow d cv l i = some (some (i + j, e.val)) ∧ l[j]? = some e ∧ e.key = cv ∧ ∀ e' : MapEntry, e'.key = cv → e'.val = vv → All2 (fun (x : AV × V) (e : MapEntry) => CRel ρ x.1 e.key ∧ VRel ρ x.2 e.val) r (l.set j e') := by
  induction h with
  | nil => intro i r hr; injection hr with hr; subst hr; exact .inl ⟨rfl, (fun _ h => nomatch h), fun e h1 h2 => .cons ⟨by rw [h1]; exact hck, by rw [h2]; exact hv⟩ .nil⟩
  | cons hab htl ih =>
    rename_i x e l m
    intro i r hr
    obtain ⟨k', v'⟩ := x
    simp only [putA] at hr
    split at hr
    · rename_i heq
      injection hr with hr; subst hr
      obtain ⟨h1, h2, _⟩ := sameNow_ok hk hab.1 hd heq
      exact .inr ⟨0, e, by simp [Instr.findNow, h1], rfl, h2 rfl, fun e' g1 g2 => .cons ⟨by rw [g1]; exact hck, by rw [g2]; exact hv⟩ htl⟩
    · rename_i heq
      obtain ⟨h1, _, hne⟩ := sameNow_ok hk hab.1 hd heq
      have e1 : Instr.findNow d cv (e :: m) i = Instr.findNow d cv m (i + 1) := by simp [Instr.findNow, h1]
      split at hr
      · rename_i r' hr'
        injection hr with hr; subst hr
        rcases ih (i + 1) hr' with ⟨h2, h2', h3⟩ | ⟨j, e', h2, h3, h4, h5⟩
        · exact .inl ⟨by rw [e1]; exact h2, (fun x hx => by
            cases hx with
            | head => exact hne rfl
            | tail _ hm => exact h2' x hm), fun e g1 g2 => .cons hab (h3 e g1 g2)⟩
        · exact .inr ⟨j + 1, e', by rw [e1, h2]; congr 3; omega, by simpa using h3, h4, fun e'' g1 g2 => .cons hab (h5 e'' g1 g2)⟩
      · cases hr
    · cases hr

theorem ok_lookup {t kt e' : TypeId} {d : TypeDesc} {ints : Bool} {z : V} {okB : Bool} {m0 k0 : Operand} {m k : Opnd} (ho : o.op = .lookup t m0 k0 okB) (ht : P.underlying t = some (.map kt e')) (hkt : P.underlying kt = some d) (hd : keyD ints d)
    (hz : zeroV P e' = some z) (hm : opnd n m0 = some m) (hk : opnd n k0 = some k) : ValOk P n o (rLookup ints z okB m k) := by
  intro c e h v h' hr ρ w a he hh _
  unfold rLookup at hr
  split at hr
  · cases hr
  · rename_i ka hka
    obtain ⟨hkr, hkc⟩ := keyOf_ok hka (opnd_ok hk he)
    obtain ⟨q, hu, hr⟩ := asOth_ok hr no_ne
    have hxr := opnd_ok hm he
    rw [hu] at hxr
    obtain ⟨zv, hz1, hz2⟩ := zeroV_ok hz
    have fin : ∀ (r : Option V) (l : List MapEntry), found okB z (some r) h = .ok v h' → (match r with
        | none => Instr.findNow d (a.eval k0) l 0 = some none
        | some v => ∃ j u, Instr.findNow d (a.eval k0) l 0 = some (some (j, u)) ∧ VRel ρ v u) →
        ∃ fr : Option (Nat × Value), (Instr.findKey kt (a.eval k0) l).run P w = .ok fr w ∧ Out ρ h w v h' (match fr with
          | some (_, u) => if okB then .tuple #[u, .bool true] else u
          | none => if okB then .tuple #[zv, .bool false] else zv) w := by
      intro r l hf hfn
      cases r with
      | none =>
        refine ⟨none, MapKept.run_findKey (w := w) hkt hfn, ?_⟩
        cases okB with
        | true =>
          injection hf with h3 h4; subst h3; subst h4
          exact Out.same hh ⟨_, rfl, _, _, rfl, hz2 ρ, _, _, rfl, rfl, rfl⟩
        | false =>
          injection hf with h3 h4; subst h3; subst h4
          exact Out.same hh (hz2 ρ)
      | some r =>
        obtain ⟨j, u, h0, h2⟩ := hfn
        refine ⟨some (j, u), MapKept.run_findKey (w := w) hkt h0, ?_⟩
        cases okB with
        | true =>
          injection hf with h3 h4; subst h3; subst h4
          exact Out.same hh ⟨_, rfl, _, _, rfl, h2, _, _, rfl, rfl, rfl⟩
        | false =>
          injection hf with h3 h4; subst h3; subst h4
          exact Out.same hh h2
    have hck := fun em => run_checkKey_ok (P := P) hkr hd hkt em 9999 w
    cases q with
    | nilmap =>
      have e1 : a.eval m0 = .map none := hxr
      obtain ⟨fr, h1, h2⟩ := fin none [] hr rfl
      refine ⟨.value _, _, w, ?_, .inl rfl, h2⟩
      simp only [execOp, ho, Sem.run_bind, Instr.lookup, run_underlying ht, Result.andThen_ok, e1, Sem.run_pure, hck, h1]
      cases fr <;> cases okB <;> simp [hz1]
    | map b =>
      obtain ⟨p, hp, e1⟩ := id hxr
      simp only at hr
      split at hr
      · rename_i es hg
        obtain ⟨l, clock, hx', h2, hst⟩ := map_rel hh hp hg
        cases hf : findA ka es with
        | none => rw [hf] at hr; cases hr
        | some r =>
          rw [hf] at hr
          have hfn := findA_ok hkr hd h2 0 hf
          obtain ⟨fr, h1, h2⟩ := fin r l.toList hr hfn
          refine ⟨.value _, _, w, ?_, .inl rfl, h2⟩
          simp only [execOp, ho, Sem.run_bind, Instr.lookup, run_underlying ht, Result.andThen_ok, e1, Sem.run_pure, hck, MapKept.run_getObj_map hx', h1]
          cases fr <;> cases okB <;> simp [hz1]
      · cases hr
    | _ => cases hr

/-- a map is another one -/
theorem Step.map {ρ : Ren} {h : Heap} {w : World} (hh : HRel ρ h w) {b : Nat} {p : Plc} (hp : ρ b = some p) {es es' : List (AV × V)} (hg : h.get b = some (.map es)) {l : Array MapEntry} {clock : Nat} {x : Obj}
    (hx : w.heap[p.blk]? = some x) (hl : All2 (fun (x : AV × V) (e : MapEntry) => CRel ρ x.1 e.key ∧ VRel ρ x.2 e.val) es' l.toList) (hst : MapKept.Stamped l clock) :
    Step ρ h w ρ (h.upd b (some (.map es'))) { w with heap := w.heap.setIfInBounds p.blk (.map l clock) } := by
  have hlt : p.blk < w.heap.size := (Array.getElem?_eq_some_iff.1 hx).1
  refine Step.place hh hg hp trivial nofun (by simp) (x' := .map l clock) (by simp [hlt]) (fun k hk => by simp [Ne.symm hk]) ⟨l, clock, rfl, hl, hst⟩ rfl rfl rfl

theorem ok_mapUpdate {t kt e' : TypeId} {d : TypeDesc} {ints : Bool} {m0 k0 x0 : Operand} {m k x : Opnd} (ho : o.op = .mapUpdate t m0 k0 x0) (ht : P.underlying t = some (.map kt e')) (hkt : P.underlying kt = some d) (hd : keyD ints d)
    (hm : opnd n m0 = some m) (hk : opnd n k0 = some k) (hx : opnd n x0 = some x) : ValOk P n o (rMapUpdate ints m k x) := by
  intro c e h v h' hr ρ w a he hh _
  unfold rMapUpdate at hr
  split at hr
  · cases hr
  · rename_i ka hka
    obtain ⟨hkr, hkc⟩ := keyOf_ok hka (opnd_ok hk he)
    obtain ⟨q, hu, hr⟩ := asOth_ok hr no_ne
    have hxr := opnd_ok hm he
    rw [hu] at hxr
    have hck := fun em => run_checkKey_ok (P := P) hkr hd hkt em 9999 w
    obtain ⟨dk, hdk⟩ := isKey_of hkr
    cases q with
    | map b =>
      obtain ⟨p, hp, e1⟩ := id hxr
      simp only at hr
      split at hr
      · rename_i es hg
        obtain ⟨l, clock, hx', h2, hst⟩ := map_rel hh hp hg
        split at hr
        · rename_i es' hput
          injection hr with h3 h4; subst h3; subst h4
          rcases putA_ok hkr hkc (opnd_ok hx he) hd h2 0 hput with ⟨g1, g1', g2⟩ | ⟨j, en, g1, g2, g3, g4⟩
          · refine ⟨.skip, undef, { w with heap := w.heap.setIfInBounds p.blk (.map (l.push { key := a.eval k0, val := a.eval x0, born := clock }) (clock + 1)) }, ?_, .inr ⟨rfl, rfl⟩, ρ, undef_rel, ?_⟩
            · simp only [execOp, ho, Instr.mapUpdate, Sem.run_bind, run_underlying ht, Result.andThen_ok, e1, MapKept.run_getObj_map hx', hck, MapKept.run_findKey hkt g1, MapKept.run_setObj_map _ hx', Sem.run_pure]
            · exact Step.map hh hp hg hx' (by simpa using g2 { key := a.eval k0, val := a.eval x0, born := clock } rfl rfl) (MapKept.stamped_push hst g1')
          · have hj : l[j]? = some en := by simpa using g2
            refine ⟨.skip, undef, { w with heap := w.heap.setIfInBounds p.blk (.map (l.modify j fun e => { e with key := a.eval k0, val := a.eval x0 }) clock) }, ?_, .inr ⟨rfl, rfl⟩, ρ, undef_rel, ?_⟩
            · rw [Nat.zero_add] at g1
              simp only [execOp, ho, Instr.mapUpdate, Sem.run_bind, run_underlying ht, Result.andThen_ok, e1, MapKept.run_getObj_map hx', hck, MapKept.run_findKey hkt g1, MapKept.run_setObj_map _ hx', Sem.run_pure, hj, Option.map_some, Option.getD_some, g3, MapKept.run_keyThatStays hdk]
            · refine Step.map hh hp hg hx' ?_ (MapKept.stamped_modify hst j _ (fun _ _ => rfl) (fun e _ hj' => by
                rw [hj] at hj'; injection hj' with hj'; subst hj'; exact g3.symm))
              have := g4 { en with key := a.eval k0, val := a.eval x0 } rfl rfl
              have e2 : (l.modify j fun e => { e with key := a.eval k0, val := a.eval x0 }).toList = l.toList.set j { en with key := a.eval k0, val := a.eval x0 } := by
                rw [Array.toList_modify]
                apply List.ext_getElem?
                intro i
                rw [List.getElem?_modify, List.getElem?_set]
                by_cases hij : j = i
                · subst hij
                  have hlt : j < l.toList.length := (List.getElem?_eq_some_iff.1 g2).1
                  rw [g2, if_pos rfl, if_pos hlt]
                  show some (if j = j then _ else _) = _
                  rw [if_pos rfl]
                · simp [hij]
              rw [e2]; exact this
        · cases hr
      · cases hr
    | _ => cases hr

theorem ok_clearMap {x0 : Operand} {x : Opnd} {t : TypeId} {dt : TypeDesc} {ats : Array TypeId} (ho : o.op = .call ⟨.builtin .clear, #[x0], ats⟩) (hat : ats[0]? = some t) (ht : P.underlying t = some dt) (hx : opnd n x0 = some x) : ValOk P n o (rClearMap x) := by
  intro c e h v h' hr ρ w a he hh _
  obtain ⟨q, hu, hr⟩ := asOth_ok hr no_ne
  have hxr := opnd_ok hx he
  rw [hu] at hxr
  cases q with
  | nilmap =>
    have e1 : a.eval x0 = .map none := hxr
    injection hr with h1 h2; subst h1; subst h2
    exact ⟨.value (.tuple #[]), _, w, by simp [execOp, ho, resolve, invoke, builtin, Builtin.clear_, hat, run_underlying ht, e1], .inl rfl, Out.same hh ⟨#[], rfl, rfl⟩⟩
  | map b =>
    obtain ⟨p, hp, e1⟩ := id hxr
    simp only at hr
    split at hr
    · rename_i es hg
      obtain ⟨l, clock, hx', h2, hst⟩ := map_rel hh hp hg
      injection hr with h3 h4; subst h3; subst h4
      refine ⟨.value (.tuple #[]), _, { w with heap := w.heap.setIfInBounds p.blk (.map #[] clock) }, ?_, .inl rfl, ρ, ⟨#[], rfl, rfl⟩, Step.map hh hp hg hx' .nil (MapKept.stamped_empty _)⟩
      simp [execOp, ho, resolve, invoke, builtin, Builtin.clear_, hat, run_underlying ht, e1, MapKept.run_getObj_map hx', MapKept.run_setObj_map _ hx']
    · cases hr
  | _ => cases hr

/-! ### what is made of parts -/
theorem foldl_get {off : Nat} : ∀ (vs : List Value) (k : Nat) (xs : Array Value), ((vs.zipIdx k).foldl (fun cs (x : Value × Nat) => cs.setIfInBounds (off + x.2) x.1) xs).size = xs.size ∧
    ∀ i, ((vs.zipIdx k).foldl (fun cs (x : Value × Nat) => cs.setIfInBounds (off + x.2) x.1) xs)[i]? = if off + k ≤ i ∧ i < off + k + vs.length ∧ i < xs.size then vs[i - (off + k)]? else xs[i]?
  | [], k, xs => ⟨rfl, fun i => by rw [if_neg (by simp; omega)]; rfl⟩
  | v :: vs, k, xs => by
    obtain ⟨h1, h2⟩ := foldl_get vs (k + 1) (xs.setIfInBounds (off + k) v)
    rw [List.zipIdx_cons, List.foldl_cons]
    refine ⟨by rw [h1]; simp, fun i => ?_⟩
    rw [h2]
    simp only [Array.size_setIfInBounds, List.length_cons]
    by_cases hi : off + (k + 1) ≤ i ∧ i < off + (k + 1) + vs.length ∧ i < xs.size
    · rw [if_pos hi, if_pos (by omega)]
      have : i - (off + k) = (i - (off + (k + 1))) + 1 := by omega
      rw [this]; rfl
    · rw [if_neg hi, Array.getElem?_setIfInBounds]
      by_cases e : off + k = i
      · subst e
        by_cases hs : off + k < xs.size
        · rw [if_pos rfl, if_pos hs, if_pos (by omega)]; simp
        · rw [if_pos rfl, if_neg hs, if_neg (by omega), Array.getElem?_eq_none (by omega)]
      · rw [if_neg e, if_neg (by omega)]

theorem fillA_ok {ρ : Ren} {e : E} {a : Act} (he : ERel ρ n e a.tmps) {place : Nat → Option (Nat × Nat)} : ∀ {ps : List (Nat × Operand)} {qs : List (Nat × Nat × Opnd)} {l l' : List AV} {cs : Array Value}, partsOf n ps place = some qs →
    fillA (evO e) qs l = some l' → All2 (CRel1 ρ) l cs.toList → ∃ cs' : Array Value, Instr.fill place cs (ps.map fun x => (x.1, a.eval x.2)) = some cs' ∧ All2 (CRel1 ρ) l' cs'.toList
  | [], qs, l, l', cs, hq, hl, hr => by
    injection hq with hq; subst hq
    injection hl with hl; subst hl
    exact ⟨cs, rfl, hr⟩
  | (i, x) :: ps, qs, l, l', cs, hq, hl, hr => by
    simp only [partsOf] at hq
    split at hq
    · rename_i off size y r h1 h2 h3
      injection hq with hq; subst hq
      simp only [fillA] at hl
      split at hl
      · rename_i xs hxs
        split at hl
        · rename_i hsz
          rw [nat_beq, lenL_eq] at hsz
          split at hl
          · rename_i l2 hl2
            have hv := cellsOf_rel (opnd_ok h2 he) hxs
            obtain ⟨s1, s2, s3⟩ := splice_get hl2
            have hvs : (a.eval x).cells.size = size := by rw [← hsz, hv.length]; simp
            have hcs : cs.size = l.length := by rw [hr.length]; simp
            obtain ⟨f1, f2⟩ := foldl_get (off := off) (a.eval x).cells.toList 0 cs
            have hr2 : All2 (CRel1 ρ) l2 (((a.eval x).cells.toList.zipIdx 0).foldl (fun cs (x : Value × Nat) => cs.setIfInBounds (off + x.2) x.1) cs).toList := by
              refine All2.of_get (by rw [s1, ← hcs, ← f1]; exact Array.length_toList.symm) fun j y hy => ?_
              rw [Array.getElem?_toList, f2]
              rw [s3] at hy
              have hlen : (a.eval x).cells.toList.length = xs.length := hv.length.symm
              simp only [Nat.add_zero, hlen]
              split at hy
              · rename_i hb
                rw [if_pos ⟨hb.1, hb.2, by omega⟩]
                obtain ⟨v, g1, g2⟩ := hv.get hy
                exact ⟨v, g1, g2⟩
              · rename_i hb
                rw [if_neg (by omega)]
                obtain ⟨v, g1, g2⟩ := hr.get hy
                exact ⟨v, by simpa using g1, g2⟩
            obtain ⟨cs', g1, g2⟩ := fillA_ok he h3 hl hr2
            refine ⟨cs', ?_, g2⟩
            rw [List.map_cons]
            simp only [Instr.fill, h1]
            rw [if_neg (by simp; omega)]
            have : ((a.eval x).cells.zipIdx.foldl (fun cs (x : Value × Nat) => cs.setIfInBounds (off + x.2) x.1) cs) = (((a.eval x).cells.toList.zipIdx 0).foldl (fun cs (x : Value × Nat) => cs.setIfInBounds (off + x.2) x.1) cs) := by
              rw [← Array.foldl_toList, Array.toList_zipIdx]
            rw [← this] at g1
            exact g1
          · cases hl
        · cases hl
      · cases hl
    · cases hq

theorem placesT_run : ∀ {fs : List Field} {pl : List (Nat × Nat)} (w : World), placesT P fs = some pl → (fs.mapM fun f => do pure (f.offset, ← sizeOf f.type) : Sem (List (Nat × Nat))).run P w = .ok pl w
  | [], pl, w, h => by injection h with h; subst h; simp
  | f :: fs, pl, w, h => by
    simp only [placesT] at h
    split at h
    · rename_i s r h1 h2
      injection h with h; subst h
      simp only [List.mapM_cons, Sem.run_bind, run_sizeT h1, Result.andThen_ok, Sem.run_pure, placesT_run w h2]
    · cases h

theorem map_parts (ps : Array (Nat × Operand)) (a : Act) : (ps.map fun x => (x.1, a.eval x.2)).toList = ps.toList.map fun x => (x.1, a.eval x.2) := by simp

theorem ok_buildStruct {t : TypeId} {fs : Array Field} {ps : Array (Nat × Operand)} {z : List AV} {pl : List (Nat × Nat)} {qs : List (Nat × Nat × Opnd)} (ho : o.op = .build t ps) (ht : P.underlying t = some (.struct fs)) (hz : zeroT P t = some z)
    (hpl : placesT P fs.toList = some pl) (hq : partsOf n ps.toList (fun i => pl[i]?) = some qs) : ValOk P n o (rBuild z qs) := by
  intro c e h v h' hr ρ w a he hh _
  unfold rBuild at hr
  split at hr
  · rename_i l hl
    injection hr with h1 h2; subst h1; subst h2
    obtain ⟨zv, h3, h4⟩ := zeroT_ok hz (ρ := ρ)
    obtain ⟨cs', h5, h6⟩ := fillA_ok he hq hl h4
    refine ⟨.value (.agg cs'), _, w, ?_, .inl rfl, Out.same hh ⟨cs', rfl, h6⟩⟩
    have hm : (fs.mapM fun f => do pure (f.offset, ← sizeOf f.type) : Sem (Array (Nat × Nat))).run P w = .ok pl.toArray w := by
      rw [Array.mapM_eq_mapM_toList]
      simp only [Sem.run_map, placesT_run w hpl]
      rfl
    have e1 : (ps.map fun x => (x.1, a.eval x.2)).toList = ps.toList.map fun x => (x.1, a.eval x.2) := map_parts ps a
    simp only [execOp, ho, Instr.build, Sem.run_bind, h3, Result.andThen_ok, run_underlying ht]
    rw [hm]
    have e2 : (fun (i : Nat) => pl.toArray[i]?) = fun (i : Nat) => pl[i]? := by funext i; simp
    simp only [Result.andThen_ok, e2]
    rw [e1, h5]
    rfl
  · cases hr

theorem ok_buildArray {t et : TypeId} {k s : Nat} {ps : Array (Nat × Operand)} {z : List AV} {qs : List (Nat × Nat × Opnd)} (ho : o.op = .build t ps) (ht : P.underlying t = some (.array k et)) (hz : zeroT P t = some z)
    (hs : sizeT P et = some s) (hq : partsOf n ps.toList (fun i => some (i * s, s)) = some qs) : ValOk P n o (rBuild z qs) := by
  intro c e h v h' hr ρ w a he hh _
  unfold rBuild at hr
  split at hr
  · rename_i l hl
    injection hr with h1 h2; subst h1; subst h2
    obtain ⟨zv, h3, h4⟩ := zeroT_ok hz (ρ := ρ)
    obtain ⟨cs', h5, h6⟩ := fillA_ok he hq hl h4
    refine ⟨.value (.agg cs'), _, w, ?_, .inl rfl, Out.same hh ⟨cs', rfl, h6⟩⟩
    have e1 : (ps.map fun x => (x.1, a.eval x.2)).toList = ps.toList.map fun x => (x.1, a.eval x.2) := map_parts ps a
    simp only [execOp, ho, Instr.build, Sem.run_bind, h3, Result.andThen_ok, run_underlying ht, run_sizeT hs]
    rw [e1, h5]
    rfl
  · cases hr
end CSim
