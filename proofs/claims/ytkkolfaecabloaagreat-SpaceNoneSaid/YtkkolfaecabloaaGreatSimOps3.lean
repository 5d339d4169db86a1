/-
  Conversions; addresses; parts of texts and slices; fields; elements.
-/
import Derived.Test.YtkkolfaecabloaaGreatSimOps2
import Derived.Laws.BytesString
namespace CSim
set_option linter.unusedSimpArgs false
set_option linter.unusedVariables false
open Go
variable {P : Program} {n : Nat} {o : Oper}

theorem ok_i2i {s d : TypeId} {k k' : IntKind} {x0 : Operand} {x : Opnd} (ho : o.op = .convert s d x0) (hs : P.underlying s = some (.int k')) (hd : P.underlying d = some (.int k)) (hx : opnd n x0 = some x) : ValOk P n o (rI2i (kOf k) x) := by
  intro c e h v h' hr ρ w a he hh _
  obtain ⟨k1, m, hu, hr⟩ := asInt_ok hr no_ne
  have hxr := opnd_ok hx he
  rw [hu] at hxr
  obtain ⟨k0, rfl, e1⟩ := hxr
  simp only [mkInt_eq, wrapA_eq] at hr
  obtain ⟨r, h1, rfl, rfl⟩ := rv_ok hr
  injection h1 with h1; subst h1
  exact ⟨.value (.int k (k.wrap m)), _, w, by simp [execOp, ho, e1, convert, run_underlying hs, run_underlying hd, Conv.intToInt], .inl rfl, Out.same hh ⟨k, rfl, rfl⟩⟩
theorem ok_i2f {s d : TypeId} {k : FloatKind} {k' : IntKind} {x0 : Operand} {x : Opnd} (ho : o.op = .convert s d x0) (hs : P.underlying s = some (.int k')) (hd : P.underlying d = some (.float k)) (hx : opnd n x0 = some x) : ValOk P n o (rI2f (fOf k) x) := by
  intro c e h v h' hr ρ w a he hh _
  obtain ⟨k1, m, hu, hr⟩ := asInt_ok hr no_ne
  have hxr := opnd_ok hx he
  rw [hu] at hxr
  obtain ⟨k0, rfl, e1⟩ := hxr
  simp only [fNat_eq, fk_fOf] at hr
  injection hr with h1 h2; subst h1; subst h2
  exact ⟨.value (.float k (k.nearest m)), _, w, by simp [execOp, ho, e1, convert, run_underlying hs, run_underlying hd, Conv.intToFloat], .inl rfl, Out.same hh ⟨k, rfl, rfl⟩⟩
theorem ok_f2i {s d : TypeId} {k : IntKind} {k' : FloatKind} {x0 : Operand} {x : Opnd} (ho : o.op = .convert s d x0) (hs : P.underlying s = some (.float k')) (hd : P.underlying d = some (.int k)) (hx : opnd n x0 = some x) : ValOk P n o (rF2i (kOf k) k.min k.max x) := by
  intro c e h v h' hr ρ w a he hh _
  obtain ⟨u, hu, hr⟩ := asOth_ok hr no_ne
  have hxr := opnd_ok hx he
  rw [hu] at hxr
  cases u with
  | float q b =>
    obtain ⟨k0, rfl, e1⟩ := id hxr
    simp only [fk_fOf] at hr
    split at hr
    · rename_i m hm
      split at hr
      · rename_i hb
        simp only [bleI_eq, Bool.and_eq_true, decide_eq_true_eq] at hb
        simp only [mkInt_eq] at hr
        obtain ⟨r, h1, rfl, rfl⟩ := rv_ok hr
        injection h1 with h1; subst h1
        exact ⟨.value (.int k m), _, w, by simp [execOp, ho, e1, convert, run_underlying hs, run_underlying hd, Conv.floatToInt, hm, hb], .inl rfl, Out.same hh ⟨k, rfl, rfl⟩⟩
      · cases hr
    · cases hr
  | _ => cases hr
theorem ok_same {s d : TypeId} {x0 : Operand} {x : Opnd} (ho : o.op = .convert s d x0) (hs : P.underlying s = some .string) (hd : P.underlying d = some .string) (hx : opnd n x0 = some x) : ValOk P n o (rSame x) := by
  intro c e h v h' hr ρ w a he hh _
  obtain ⟨u, hu, hr⟩ := asOth_ok hr no_ne
  have hxr := opnd_ok hx he
  rw [hu] at hxr
  cases u with
  | str l =>
    injection hr with h1 h2; subst h1; subst h2
    obtain ⟨b, e1, hb⟩ := id hxr
    exact ⟨.value (.string b), _, w, by simp [execOp, ho, e1, convert, run_underlying hs, run_underlying hd], .inl rfl, Out.same hh ⟨b, rfl, hb⟩⟩
  | _ => cases hr

/-- a world in which some marks on a block are others -/
theorem heap_freeze {w : World} {b m : Nat} {c : Array Value} {e : TypeId} {lo hi : Nat} (h : w.heap[b]? = some (.cells c e (lo, hi))) :
    (w.freeze { block := b, off := m } 1).heap[b]? = some (.cells c e (if lo == hi then (m, m + 1) else (min lo m, max hi (m + 1)))) ∧ (∀ k, k ≠ b → (w.freeze { block := b, off := m } 1).heap[k]? = w.heap[k]?) ∧
    (w.freeze { block := b, off := m } 1).heap.size = w.heap.size ∧ (w.freeze { block := b, off := m } 1).os = w.os ∧ (w.freeze { block := b, off := m } 1).tape = w.tape ∧ (w.freeze { block := b, off := m } 1).output = w.output := by
  refine ⟨?_, fun k hk => ?_, ?_, rfl, rfl, rfl⟩
  · simp [World.freeze, Array.getElem?_modify, h]
  · simp [World.freeze, Array.getElem?_modify, Ne.symm hk]
  · simp [World.freeze]

theorem run_markStringish {w : World} {a : Addr} {c : Array Value} {e : TypeId} {fz : Nat × Nat} (h : w.heap[a.block]? = some (.cells c e fz)) :
    (markStringish a).run P w = .ok () (w.freeze { block := a.block, off := c.size } 1) := by
  have : w.shape? a.block = some (e, c.size) := by simp [World.shape?, h]
  simp [markStringish, this]

theorem ok_s2b {s d e' : TypeId} {x0 : Operand} {x : Opnd} (ho : o.op = .convert s d x0) (hs : P.underlying s = some .string) (hd : P.underlying d = some (.slice e')) (he' : P.underlying e' = some (.int .u8)) (hx : opnd n x0 = some x) : ValOk P n o (rS2b x) := by
  intro c e h v h' hr ρ w a he hh hf
  obtain ⟨u, hu, hr⟩ := asOth_ok hr no_ne
  have hxr := opnd_ok hx he
  rw [hu] at hxr
  cases u with
  | str l =>
    obtain ⟨b, e1, hb⟩ := id hxr
    simp only [fNat_eq, lenL_eq] at hr
    obtain ⟨hid, rfl, rfl⟩ := Heap.new_ok hr
    have hf' := fresh_next hf
    have hlen : l.length = b.size := by rw [hb, List.length_map, Array.length_toList]; rfl
    -- how many places there are
    obtain ⟨cap, hcap, hge⟩ : ∃ cap, Question.cut (.appendCap b.size 0 e') (w.tape w.drawn (.appendCap b.size 0 e')) = cap ∧ b.size ≤ cap := ⟨_, rfl, by simp [Question.cut]⟩
    let cs : Array Value := (b.data.map fun b => Value.int .u8 b.toNat) ++ Array.replicate (cap - b.size) (.int .u8 0)
    have hcs : cs.size = cap := by
      simp only [cs, Array.size_append, Array.size_map, Array.size_replicate]
      have : b.data.size = b.size := rfl
      omega
    let w1 : World := { { w with drawn := w.drawn + 1 } with heap := w.heap.push (.cells cs e') }
    have hx1 : w1.heap[w.heap.size]? = some (.cells cs e' (0, 0)) := by simp [w1]
    obtain ⟨g1, g2, g3, g4, g5, g6⟩ := heap_freeze (m := cs.size) hx1
    have hrun : (Conv.stringToBytes e' b).run P w = .ok (.slice (some ⟨w.heap.size, 0, none⟩) b.size cap) (w1.freeze { block := w.heap.size, off := cs.size } 1) := by
      have hm := run_markStringish (P := P) (w := w1) (a := ⟨w.heap.size, 0, none⟩) hx1
      simp only [Conv.stringToBytes, Sem.run_bind, run_choose, Question.forced, Bool.false_eq_true, if_false, Result.andThen_ok, hcap, newRow, Sem.run_pure, run_newObj]
      show ((markStringish _).run P w1).andThen _ = _
      rw [hm]
      rfl
    refine ⟨.value (.slice (some ⟨w.heap.size, 0, none⟩) b.size cap), _, w1.freeze { block := w.heap.size, off := cs.size } 1, ?_, .inl rfl, ρ.put h.next ⟨w.heap.size, 0, cap⟩, ?_, ?_⟩
    · simp only [execOp, ho, e1, convert, Sem.run_bind, run_underlying hs, run_underlying hd, run_underlying he', Result.andThen_ok, hrun, Sem.run_pure]
    · refine ⟨⟨w.heap.size, 0, cap⟩, 0, cap, Ren.put_same _ _ _, ?_, Nat.le_refl _, by omega, nofun, by omega, fun _ => ⟨by simp, by simp⟩⟩
      rw [hlen]
    · refine Step.make hh hid hf' trivial (fun _ => rfl) (by rw [g3]; simp [w1]) g1 (fun k hk hne => ?_) ?_ (Nat.le_refl _) ?_ g4 g5 g6
      · rw [g2 k hne]
        simp [w1, Array.getElem?_push, Nat.ne_of_lt hk]
      · rintro ⟨b', o1, q, h1, hq, hqe⟩
        have := hh.low b' q hq
        simp only at hqe
        omega
      · refine ⟨cs, e', cs.size, cs.size + 1, rfl, hcs, .inr (Nat.le_refl _), nofun, fun i y hy => ?_⟩
        simp only [AObj.cell, bytesL_eq] at hy
        have hi : i < l.length := by
          have := (List.getElem?_eq_some_iff.1 hy).1
          simpa using this
        have hib : i < b.data.size := by rw [hlen] at hi; exact hi
        refine ⟨.int .u8 ((b.data[i]'hib).toNat : Nat), ?_, rfl, ?_⟩
        · simp only [Nat.zero_add, cs]
          rw [Array.getElem?_append_left (by simpa using hib), Array.getElem?_map, Array.getElem?_eq_getElem hib]
          rfl
        · have : y = .int kByte (Int.ofNat ((b.data[i]'hib).toNat)) := by
            have e2 : l[i]? = some ((b.data[i]'hib).toNat) := by
              rw [hb, List.getElem?_map, Array.getElem?_toList, Array.getElem?_eq_getElem hib]; rfl
            rw [List.getElem?_map, e2] at hy
            injection hy with hy; exact hy.symm
          subst this
          exact ⟨.u8, rfl, rfl⟩
  | _ => cases hr

theorem byteOf_ok {x : AV} {b : Nat} (h : byteOf x = some b) : x = .int kByte (Int.ofNat b) ∧ b < 256 := by
  unfold byteOf at h
  split at h
  · split at h
    · rename_i hk
      rw [nat_beq] at hk
      split at h
      · split at h
        · rename_i hb
          rw [nat_blt] at hb
          injection h with h; subst h; exact ⟨by rw [hk], hb⟩
        · cases h
      · cases h
    · cases h
  · cases h
theorem unbytes_ok : ∀ {l : List AV} {m : List Nat}, unbytes l = some m → l = m.map (fun b => .int kByte (Int.ofNat b)) ∧ ∀ b ∈ m, b < 256
  | [], m, h => by injection h with h; subst h; exact ⟨rfl, fun _ h => nomatch h⟩
  | x :: l, m, h => by
    simp only [unbytes] at h
    split at h
    · rename_i b hb
      split at h
      · rename_i r hr
        injection h with h; subst h
        obtain ⟨h1, h2⟩ := unbytes_ok hr
        obtain ⟨h3, h4⟩ := byteOf_ok hb
        refine ⟨by rw [h1, h3]; rfl, fun q hq => ?_⟩
        cases hq with
        | head => exact h4
        | tail _ hm => exact h2 q hm
      · cases h
    · cases h

theorem foldl_push (ns : List Int) (s : ByteArray) : (ns.foldl (fun r n => r.push (UInt8.ofNat n.toNat)) s).data.toList = s.data.toList ++ ns.map (fun n => UInt8.ofNat n.toNat) := by
  induction ns generalizing s with
  | nil => simp
  | cons n ns ih =>
    rw [List.foldl_cons, ih]
    simp [ByteArray.push]


theorem slice_rel {ρ : Ren} {b off len cap es : Nat} {ex : Bool} {v : Value} (h : VRel ρ (.s (.oth (.slice b off len cap es ex))) v) :
    ∃ p co cap', ρ b = some p ∧ v = .slice (some ⟨p.blk, co, none⟩) len cap' ∧ len ≤ cap ∧ cap ≤ cap' ∧ (ex = true → cap' = cap) ∧ 0 < es ∧ (0 < cap' → co = p.sh + off ∧ co + cap' * es ≤ p.size) := h

/-- the cells that a slice has -/
theorem slice_read {ρ : Ren} {h : Heap} {w : World} (hh : HRel ρ h w) {b off len cap es cap' co : Nat} {p : Plc} (hp : ρ b = some p) (h1 : len ≤ cap) (h2 : cap ≤ cap') (h0 : 0 < es)
    (h4 : 0 < cap' → co = p.sh + off ∧ co + cap' * es ≤ p.size) {k : Nat} (hk : k ≤ len) {l : List AV} (hl : h.read b off (k * es) = some l) :
    ∃ vs : List Value, vs.length = k * es ∧ All2 (CRel1 ρ) l vs ∧ ∀ (j : Nat) v, vs[j]? = some v → w.cell? ⟨p.blk, co + j, none⟩ = some v := by
  obtain ⟨vs, a1, a2, a3, _⟩ := hh.read hp hl
  refine ⟨vs, a1, a2, fun j v hj => ?_⟩
  rcases Nat.eq_zero_or_pos k with hk0 | hk0
  · subst hk0
    have : vs = [] := by simpa using a1
    subst this; cases hj
  · obtain ⟨e1, _⟩ := h4 (by omega)
    rw [e1]; exact a3 j v hj

theorem ok_b2s {s d e' : TypeId} {x0 : Operand} {x : Opnd} (ho : o.op = .convert s d x0) (hs : P.underlying s = some (.slice e')) (hd : P.underlying d = some .string) (he' : P.underlying e' = some (.int .u8)) (hx : opnd n x0 = some x) : ValOk P n o (rB2s x) := by
  intro c e h v h' hr ρ w a he hh hf
  obtain ⟨u, hu, hr⟩ := asOth_ok hr no_ne
  have hxr := opnd_ok hx he
  rw [hu] at hxr
  cases u with
  | nilslice =>
    injection hr with h1 h2; subst h1; subst h2
    have e1 : a.eval x0 = .slice none 0 0 := hxr
    exact ⟨.value (.string .empty), _, w, by simp [execOp, ho, e1, convert, run_underlying hs, run_underlying hd, run_underlying he', Conv.bytesToString], .inl rfl, Out.same hh ⟨.empty, rfl, rfl⟩⟩
  | slice b off len cap es ex =>
    obtain ⟨p, co, cap', hp, e1, k1, k2, _, k4, k5⟩ := slice_rel hxr
    simp only at hr
    split at hr
    · rename_i hes
      rw [nat_beq] at hes
      subst hes
      split at hr
      · rename_i l hl
        split at hr
        · rename_i m hm
          injection hr with h1 h2; subst h1; subst h2
          obtain ⟨vs, a1, a2, a3⟩ := slice_read hh hp k1 k2 k4 k5 (Nat.le_refl len) (l := l) (by rw [Nat.mul_one]; exact hl)
          rw [Nat.mul_one] at a1
          obtain ⟨hl', hlt⟩ := unbytes_ok hm
          -- the values are bytes
          have hvs : vs = (m.map Int.ofNat).map (Value.int .u8) := by
            apply List.ext_getElem?
            intro i
            by_cases hi : i < m.length
            · have : l[i]? = some (.int kByte (Int.ofNat m[i])) := by rw [hl', List.getElem?_map, List.getElem?_eq_getElem hi]; rfl
              obtain ⟨y, hy, _, hyr⟩ := a2.get this
              obtain ⟨k, hk, rfl⟩ := hyr
              have : k = .u8 := by cases k <;> first | rfl | exact absurd hk (by decide)
              subst this
              rw [hy, List.getElem?_map, List.getElem?_map, List.getElem?_eq_getElem hi]; rfl
            · have h1 := a2.length
              rw [hl', List.length_map] at h1
              rw [List.getElem?_eq_none (by omega), List.getElem?_eq_none (by simp; omega)]
          have hload := run_loadCells_rel (P := P) a3
          rw [a1, hvs] at hload
          have hrun := run_bytesToString w ⟨p.blk, co, none⟩ len cap' (m.map Int.ofNat) hload
          refine ⟨.value (.string ((m.map Int.ofNat).foldl (fun r n => r.push (UInt8.ofNat n.toNat)) ByteArray.empty)), _, w, ?_, .inl rfl, Out.same hh ⟨_, rfl, ?_⟩⟩
          · simp only [execOp, ho, e1, Sem.run_bind, run_convert_bytes_string w s d e' _ _ _ hs he' hd, hrun, Result.andThen_ok, Sem.run_pure]
          · rw [foldl_push, List.map_append, List.map_map, List.map_map]
            show m = [] ++ _
            rw [List.nil_append]
            conv => lhs; rw [← List.map_id m]
            refine List.map_congr_left fun q hq => ?_
            have := hlt q hq
            show q = (UInt8.ofNat q).toNat
            simp; omega
        · cases hr
      · cases hr
    · cases hr
  | _ => cases hr

/-- a block's marks are others, and nothing else -/
theorem Step.marks {ρ : Ren} {h : Heap} {w w' : World} (hr : HRel ρ h w) {b : Nat} {o : AObj} {p : Plc} {x' : Obj} (hg : h.get b = some o) (hp : ρ b = some p)
    (hsz : w'.heap.size = w.heap.size) (hx : w'.heap[p.blk]? = some x') (hne : ∀ k, k ≠ p.blk → w'.heap[k]? = w.heap[k]?) (hrel : ObjRel ρ o p x') (hos : w'.os = w.os) (htp : w'.tape = w.tape) (hout : w'.output = w.output) :
    Step ρ h w ρ h w' := by
  refine ⟨Ren.le_refl ρ, fun _ _ hp => .inl hp, Nat.le_refl _, ⟨hr.ok, ?_, ?_, hr.inj, hr.tight⟩, by omega, ?_, fun _ h => .inl h, hos, htp, hout⟩
  · intro b' q hq; rw [hsz]; exact hr.low b' q hq
  · intro b' o1 q h1 hq
    by_cases e : b = b'
    · subst e
      rw [hg] at h1; injection h1 with h1; subst h1
      rw [hp] at hq; injection hq with hq; subst hq
      exact ⟨x', hx, hrel⟩
    · obtain ⟨y, hy, hyr⟩ := hr.obj b' o1 q h1 hq
      refine ⟨y, ?_, hyr⟩
      rw [hne q.blk (fun e' => e (hr.inj b b' o o1 p q hg h1 hp hq e'.symm))]
      exact hy
  · intro c _ hno
    exact hne c fun e => hno ⟨b, o, p, hg, hp, e.symm⟩

theorem ok_shared {s d es e' : TypeId} {x0 : Operand} {x : Opnd} (ho : o.op = .convert s d x0) (hsd : s = d) (hs : P.underlying s = some (.slice es)) (hd : P.underlying d = some (.slice e')) (he' : P.underlying e' = some (.int .u8)) (hx : opnd n x0 = some x) : ValOk P n o (rShared x) := by
  intro c e h v h' hr ρ w a he hh hf
  obtain ⟨u, hu, hr⟩ := asOth_ok hr no_ne
  have hxr := opnd_ok hx he
  rw [hu] at hxr
  cases u with
  | slice b off len cap es' ex =>
    obtain ⟨p, co, cap', hp, e1, k⟩ := slice_rel hxr
    simp only at hr
    split at hr
    · rename_i fz l hg
      split at hr
      · injection hr with h1 h2; subst h1; subst h2
        obtain ⟨y, hy, c0, e0, lo, hi, rfl, j1, j2, j3, j4⟩ := hh.obj b _ p hg hp
        obtain ⟨g1, g2, g3, g4, g5, g6⟩ := heap_freeze (m := c0.size) hy
        refine ⟨.value (a.eval x0), _, w.freeze { block := p.blk, off := c0.size } 1, ?_, .inl rfl, ρ, hxr, ?_⟩
        · have hm := run_markStringish (P := P) (w := w) (a := ⟨p.blk, co, none⟩) hy
          have hu1 := run_underlying (P := P) (w := w) hs
          have hu2 := run_underlying (P := P) (w := w) hd
          simp only [execOp, ho, e1, convert, Sem.run_bind, hu1, hu2, run_underlying he', Result.andThen_ok, hsd, beq_self_eq_true, hm, Sem.run_pure]
        · refine Step.marks hh hg hp g3 g1 g2 ?_ g4 g5 g6
          by_cases hlh : lo = hi
          · exact ⟨c0, e0, c0.size, c0.size + 1, by simp [hlh], j1, .inr (Nat.le_refl _), nofun, j4⟩
          · have : (lo == hi) = false := by simpa using hlh
            refine ⟨c0, e0, min lo c0.size, max hi (c0.size + 1), by simp [this], j1, .inr (by omega), nofun, j4⟩
      · cases hr
    · cases hr
  | _ => cases hr

theorem ok_s2ap {t e' : TypeId} {m s : Nat} {x0 : Operand} {x : Opnd} (ho : o.op = .sliceToArrayPointer t x0) (ht : P.underlying t = some (.array m e')) (hx : opnd n x0 = some x) : ValOk P n o (rS2ap m s x) := by
  intro c e h v h' hr ρ w a he hh hf
  obtain ⟨u, hu, hr⟩ := asOth_ok hr no_ne
  have hxr := opnd_ok hx he
  rw [hu] at hxr
  cases u with
  | slice b off len cap es' ex =>
    obtain ⟨p, co, cap', hp, e1, k1, k2, _, _, k5⟩ := slice_rel hxr
    simp only at hr
    split at hr
    · rename_i hb
      simp only [Bool.and_eq_true, nat_ble, nat_blt, nat_beq] at hb
      injection hr with h1 h2; subst h1; subst h2
      obtain ⟨j1, _⟩ := k5 (by omega)
      have : ¬ (len < m) := by omega
      refine ⟨.value (.pointer (some ⟨p.blk, co, none⟩)), _, w, ?_, .inl rfl, Out.same hh ⟨p, hp, by rw [j1]⟩⟩
      simp [execOp, ho, e1, Instr.arrayAt, run_underlying ht, this]
    · cases hr
  | _ => cases hr

theorem capsOf_ok {ρ : Ren} {e : E} {a : Act} (he : ERel ρ n e a.tmps) : ∀ {l : List Operand} {m : List Opnd} {q : List (Nat × Nat)}, opnds n l = some m → capsOf (evO e) m = some q →
    All2 (fun (x : Nat × Nat) y => ∃ p, ρ x.1 = some p ∧ y = Value.pointer (some ⟨p.blk, p.sh + x.2, none⟩)) q (l.map a.eval)
  | [], m, q, h, hq => by injection h with h; subst h; injection hq with hq; subst hq; exact .nil
  | x :: l, m, q, h, hq => by
    simp only [opnds] at h
    split at h
    · rename_i y r h1 h2
      injection h with h; subst h
      obtain ⟨b, off, hy, hq⟩ := asPtr_ok hq none_ne
      split at hq
      · rename_i r' hr'
        injection hq with hq; subst hq
        have := opnd_ok h1 he
        rw [hy] at this
        exact .cons this (capsOf_ok he h2 hr')
      · cases hq
    · cases h

theorem ok_makeFunc {f : FuncId} {first captured : Array Operand} {m : List Opnd} (ho : o.op = .makeFunc (.func f) first captured) (h1 : first.toList = []) (h2 : opnds n captured.toList = some m) : ValOk P n o (rMakeFunc f m) := by
  intro c e h v h' hr ρ w a he hh hf
  simp only [rMakeFunc] at hr
  split at hr
  · rename_i q hq
    injection hr with h3 h4; subst h3; subst h4
    have hfirst : first = #[] := by simpa using h1
    refine ⟨.value (.func (.func f) #[] (captured.map a.eval)), _, w, ?_, .inl rfl, Out.same hh ⟨captured.map a.eval, rfl, ?_⟩⟩
    · simp [execOp, ho, Instr.makeFunc, hfirst]
    · have := capsOf_ok he h2 hq
      simpa using this
  · cases hr

/-! ### addresses -/
theorem addr_add (b o k : Nat) : (⟨b, o, none⟩ : Addr).add k = ⟨b, o + k, none⟩ := by unfold Addr.add; split <;> simp_all

theorem ok_fieldAddr {s : TypeId} {fs : Array Field} {f : Field} {i z : Nat} {x0 : Operand} {x : Opnd} (ho : o.op = .fieldAddr s x0 i) (hs : P.underlying s = some (.struct fs)) (hf : fs[i]? = some f) (hz : sizeT P f.type = some (z + 1))
    (hx : opnd n x0 = some x) : ValOk P n o (rFieldAddr f.offset x) := by
  intro c e h v h' hr ρ w a he hh _
  obtain ⟨b, off, hu, hr⟩ := asPtr_ok hr no_ne
  have hxr := opnd_ok hx he
  rw [hu] at hxr
  obtain ⟨p, hp, e1⟩ := ptr_rel hxr
  simp only [fNat_eq] at hr
  injection hr with h1 h2; subst h1; subst h2
  refine ⟨.value (.pointer (some ⟨p.blk, p.sh + off + f.offset, none⟩)), _, w, ?_, .inl rfl, Out.same hh ⟨p, hp, by rw [nadd, Nat.add_assoc]⟩⟩
  simp [execOp, ho, e1, Instr.fieldAt, run_underlying hs, hf, Instr.sureAddr, fieldPlace, run_sizeT hz, addr_add]

theorem natOf_ok {v : V} {i : Nat} (h : natOf v = some i) : ∃ k, v = .s (.int k (Int.ofNat i)) := by
  obtain ⟨k, m, h1, h2⟩ := asInt_ok h none_ne
  cases m with
  | ofNat q => injection h2 with h2; subst h2; exact ⟨k, h1⟩
  | negSucc q => cases h2
theorem below_ok {v : V} {i m : Nat} (h : below v m = some i) : ∃ k, v = .s (.int k (Int.ofNat i)) ∧ i < m := by
  unfold below at h
  split at h
  · rename_i q hq
    split at h
    · rename_i hb
      rw [nat_blt] at hb
      injection h with h; subst h
      obtain ⟨k, hk⟩ := natOf_ok hq
      exact ⟨k, hk, hb⟩
    · cases h
  · cases h
theorem upto_ok {v : V} {i m : Nat} (h : upto v m = some i) : ∃ k, v = .s (.int k (Int.ofNat i)) ∧ i ≤ m := by
  unfold upto at h
  split at h
  · rename_i q hq
    split at h
    · rename_i hb
      rw [nat_ble] at hb
      injection h with h; subst h
      obtain ⟨k, hk⟩ := natOf_ok hq
      exact ⟨k, hk, hb⟩
    · cases h
  · cases h

theorem ok_addrArr {t e' : TypeId} {m s : Nat} {x0 i0 : Operand} {x i : Opnd} (ho : o.op = .indexAddr t x0 i0) (ht : P.underlying t = some (.array m e')) (hs : sizeT P e' = some s) (hx : opnd n x0 = some x) (hi : opnd n i0 = some i) : ValOk P n o (rAddrArr m s x i) := by
  intro c e h v h' hr ρ w a he hh _
  obtain ⟨b, off, hu, hr⟩ := asPtr_ok hr no_ne
  have hxr := opnd_ok hx he
  rw [hu] at hxr
  obtain ⟨p, hp, e1⟩ := ptr_rel hxr
  split at hr
  · rename_i j hj
    obtain ⟨k, hk, hlt⟩ := below_ok hj
    have hir := opnd_ok hi he
    rw [hk] at hir
    obtain ⟨k0, rfl, e2⟩ := hir
    simp only [fNat_eq] at hr
    injection hr with h1 h2; subst h1; subst h2
    refine ⟨.value (.pointer (some ⟨p.blk, p.sh + off + j * s, none⟩)), _, w, ?_, .inl rfl, Out.same hh ⟨p, hp, by rw [nadd, nmul, Nat.add_assoc]⟩⟩
    have hb : (0 : Int) ≤ Int.ofNat j ∧ Int.ofNat j < (m : Int) := by show (0 : Int) ≤ (j : Int) ∧ (j : Int) < m; omega
    simp only [execOp, ho, e1, e2, Instr.indexAt, asIntOf, Sem.run_bind, Sem.run_pure, Result.andThen_ok, run_underlying ht, Instr.sureAddr]
    simp only [hb, and_self, if_true, Sem.run_bind, run_sizeT hs, Result.andThen_ok, Sem.run_pure]
    show Result.ok (Next.value (.pointer (some ((⟨p.blk, p.sh + off, none⟩ : Addr).add (j * s))))) w = _
    rw [addr_add]
  · cases hr

theorem ok_addrSl {t e' : TypeId} {s : Nat} {x0 i0 : Operand} {x i : Opnd} (ho : o.op = .indexAddr t x0 i0) (ht : P.underlying t = some (.slice e')) (hs : sizeT P e' = some s) (hx : opnd n x0 = some x) (hi : opnd n i0 = some i) : ValOk P n o (rAddrSl s x i) := by
  intro c e h v h' hr ρ w a he hh _
  obtain ⟨u, hu, hr⟩ := asOth_ok hr no_ne
  have hxr := opnd_ok hx he
  rw [hu] at hxr
  cases u with
  | slice b off len cap es' ex =>
    obtain ⟨p, co, cap', hp, e1, k1, k2, _, k4, k5⟩ := slice_rel hxr
    simp only at hr
    split at hr
    · rename_i hes
      rw [nat_beq] at hes
      subst hes
      split at hr
      · rename_i j hj
        obtain ⟨k, hk, hlt⟩ := below_ok hj
        have hir := opnd_ok hi he
        rw [hk] at hir
        obtain ⟨k0, rfl, e2⟩ := hir
        obtain ⟨j1, _⟩ := k5 (by omega)
        simp only [fNat_eq] at hr
        injection hr with h1 h2; subst h1; subst h2
        refine ⟨.value (.pointer (some ⟨p.blk, co + j * s, none⟩)), _, w, ?_, .inl rfl, Out.same hh ⟨p, hp, by rw [nadd, nmul, j1, Nat.add_assoc]⟩⟩
        have hb : (0 : Int) ≤ Int.ofNat j ∧ Int.ofNat j < (len : Int) := by show (0 : Int) ≤ (j : Int) ∧ (j : Int) < len; omega
        simp only [execOp, ho, e1, e2, Instr.indexAt, asIntOf, Sem.run_bind, Sem.run_pure, Result.andThen_ok, run_underlying ht, Instr.sureAddr]
        simp only [hb, and_self, if_true, Sem.run_bind, run_sizeT hs, Result.andThen_ok, Sem.run_pure]
        show Result.ok (Next.value (.pointer (some ((⟨p.blk, co, none⟩ : Addr).add (j * s))))) w = _
        rw [addr_add]
      · cases hr
    · cases hr
  | _ => cases hr

/-! ### parts of values -/
theorem agg_part {ρ : Ren} {w : World} {l r : List AV} {cs : Array Value} {t : TypeId} {g : Bool} {s off : Nat} (hcs : All2 (CRel1 ρ) l cs.toList) (hg : isAggT P t = some g) (hs : sizeT P t = some s)
    (hr : takeN (if g then s else 1) (dropN off l) = some r) (hone : g = false → s = 1) {h : Heap} {v : V} {h' : Heap} (hv : loaded g r .no (fun v => .ok v h) = Res.ok v h') :
    ∃ cv, (part t cs off).run P w = .ok cv w ∧ VRel ρ v cv ∧ h' = h := by
  have hs' : (if g then s else 1) = s := by cases g with
    | true => rfl
    | false => exact (hone rfl).symm
  rw [hs', takeN_eq, dropN_eq] at hr
  split at hr
  · rename_i hle
    injection hr with hr; subst hr
    have hpart := part_ok (P := P) (w := w) (X := cs) (off := off) hg hs (l := (cs.toList.drop off).take s) ⟨(cs.toList.drop off).drop s, by rw [List.take_append_drop]⟩
      (by have := (hcs.drop off).length; rw [List.length_take]; omega) hone
    have hrel := (hcs.drop off).take s
    obtain ⟨rfl, hv2⟩ := loaded_ok hv
    clear hv
    rcases hv2 with ⟨rfl, rfl⟩ | ⟨rfl, x, hx, rfl⟩
    · exact ⟨_, hpart, ⟨_, rfl, by simpa [valOf] using hrel⟩, rfl⟩
    · refine ⟨_, hpart, ?_, rfl⟩
      rw [hx] at hrel
      cases hq : (cs.toList.drop off).take s with
      | nil => rw [hq] at hrel; cases hrel
      | cons v0 m =>
        rw [hq] at hrel
        cases hrel with
        | cons hab t => exact hab.2
  · cases hr

theorem ok_field {s : TypeId} {fs : Array Field} {f : Field} {i z k : Nat} {g : Bool} {x0 : Operand} {x : Opnd} (ho : o.op = .field s x0 i) (hs : P.underlying s = some (.struct fs)) (hf : fs[i]? = some f) (hz : sizeT P f.type = some z)
    (hg : isAggT P f.type = some g) (hk : k = if g then z else 1) (hone : g = false → z = 1) (hx : opnd n x0 = some x) : ValOk P n o (rField g f.offset k x) := by
  intro c e h v h' hr ρ w a he hh _
  simp only [rField] at hr
  have hxr := opnd_ok hx he
  split at hr
  · rename_i l hl
    rw [hl] at hxr
    obtain ⟨cs, e1, hcs⟩ := hxr
    split at hr
    · rename_i r hr0
      subst hk
      obtain ⟨cv, h1, h2, rfl⟩ := agg_part (P := P) (w := w) hcs hg hz hr0 hone hr
      refine ⟨.value cv, cv, w, ?_, .inl rfl, Out.same hh h2⟩
      simp only [execOp, ho, e1, Instr.field, Sem.run_bind, run_underlying hs, Result.andThen_ok, hf, asAgg, Sem.run_pure, h1]
    · cases hr
  · cases hr

theorem ok_idxArr {t e' : TypeId} {m s : Nat} {g : Bool} {x0 i0 : Operand} {x i : Opnd} (ho : o.op = .index t x0 i0) (ht : P.underlying t = some (.array m e')) (hs : sizeT P e' = some s) (hg : isAggT P e' = some g) (hone : g = false → s = 1) (hx : opnd n x0 = some x) (hi : opnd n i0 = some i) :
    ValOk P n o (rIdxArr m s g x i) := by
  intro c e h v h' hr ρ w a he hh _
  simp only [rIdxArr] at hr
  have hxr := opnd_ok hx he
  split at hr
  · rename_i l hl
    rw [hl] at hxr
    obtain ⟨cs, e1, hcs⟩ := hxr
    split at hr
    · rename_i j hj
      obtain ⟨k, hk, hlt⟩ := below_ok hj
      have hir := opnd_ok hi he
      rw [hk] at hir
      obtain ⟨k0, rfl, e2⟩ := hir
      split at hr
      · rename_i r hr0
        have hs' : (if g then s else 1) = s := by cases g with
          | true => rfl
          | false => exact (hone rfl).symm
        obtain ⟨cv, h1, h2, rfl⟩ := agg_part (P := P) (w := w) hcs hg hs (by rw [hs']; exact hr0) hone hr
        refine ⟨.value cv, cv, w, ?_, .inl rfl, Out.same hh h2⟩
        have hb : (0 : Int) ≤ Int.ofNat j ∧ Int.ofNat j < (m : Int) := by show (0 : Int) ≤ (j : Int) ∧ (j : Int) < m; omega
        simp only [execOp, ho, e1, e2, Instr.index, asIntOf, Sem.run_bind, Sem.run_pure, Result.andThen_ok, run_underlying ht]
        simp only [hb, and_self, if_true, Sem.run_bind, run_sizeT hs, Result.andThen_ok]
        have : (Int.ofNat j).toNat * s = Nat.mul j s := rfl
        rw [this, h1]; rfl
      · cases hr
    · cases hr
  · cases hr

theorem ok_idxStr {t : TypeId} {x0 i0 : Operand} {x i : Opnd} (ho : o.op = .index t x0 i0) (ht : P.underlying t = some .string) (hx : opnd n x0 = some x) (hi : opnd n i0 = some i) : ValOk P n o (rIdxStr x i) := by
  intro c e h v h' hr ρ w a he hh _
  obtain ⟨u, hu, hr⟩ := asOth_ok hr no_ne
  have hxr := opnd_ok hx he
  rw [hu] at hxr
  cases u with
  | str l =>
    obtain ⟨b, e1, hb⟩ := id hxr
    simp only at hr
    split at hr
    · rename_i j hj
      obtain ⟨k, hk⟩ := natOf_ok hj
      have hir := opnd_ok hi he
      rw [hk] at hir
      obtain ⟨k0, rfl, e2⟩ := hir
      split at hr
      · rename_i q r hq
        injection hr with h1 h2; subst h1; subst h2
        rw [dropN_eq] at hq
        have hlj : l[j]? = some q := by
          have : (l.drop j)[0]? = some q := by rw [hq]; rfl
          simpa using this
        rw [hb, List.getElem?_map] at hlj
        cases hbj : b.data.toList[j]? with
        | none => rw [hbj] at hlj; cases hlj
        | some u =>
          rw [hbj] at hlj
          injection hlj with hlj
          have hlt : j < b.size := by
            have := (List.getElem?_eq_some_iff.1 hbj).1
            rw [Array.length_toList] at this; exact this
          have hget : b[j]? = some u := by
            have h3 : b.data[j]? = some u := by simpa using hbj
            have h4 := (Array.getElem?_eq_some_iff.1 h3)
            obtain ⟨h5, h6⟩ := h4
            rw [getElem?_pos b j hlt]
            exact congrArg some h6
          refine ⟨.value (.int .u8 u.toNat), _, w, ?_, .inl rfl, Out.same hh ⟨.u8, rfl, by rw [← hlj]; rfl⟩⟩
          have hb : (0 : Int) ≤ Int.ofNat j := by show (0 : Int) ≤ (j : Int); omega
          have ht' : (Int.ofNat j).toNat = j := rfl
          simp only [execOp, ho, e1, e2, Instr.index, asIntOf, Sem.run_bind, Sem.run_pure, Result.andThen_ok, run_underlying ht, hb, if_true, ht', hget]
      · cases hr
    · cases hr
  | _ => cases hr

theorem VsRel.get {ρ : Ren} : ∀ {l : List V} {m : List Value} {i : Nat} {x : V}, VsRel ρ l m → l[i]? = some x → ∃ y, m[i]? = some y ∧ VRel ρ x y
  | [], _, i, x, _, h => by simp at h
  | a :: l, m, i, x, ⟨y, ys, e, r, rs⟩, h => by
    subst e
    cases i with
    | zero => simp at h; subst h; exact ⟨y, rfl, r⟩
    | succ i => simp at h; simpa using VsRel.get rs h
theorem ok_extract {x0 : Operand} {x : Opnd} {i : Nat} (ho : o.op = .extract x0 i) (hx : opnd n x0 = some x) : ValOk P n o (rExtract x i) := by
  intro c e h v h' hr ρ w a he hh _
  simp only [rExtract] at hr
  have hxr := opnd_ok hx he
  split at hr
  · rename_i l hl
    rw [hl] at hxr
    obtain ⟨vs, e1, hvs⟩ := hxr
    split at hr
    · rename_i q r hq
      injection hr with h1 h2; subst h1; subst h2
      rw [dropN_eq] at hq
      have hli : l[i]? = some q := by
        have : (l.drop i)[0]? = some q := by rw [hq]; rfl
        simpa using this
      obtain ⟨y, hy, hyr⟩ := hvs.get hli
      have hy' : vs[i]? = some y := by simpa using hy
      exact ⟨.value y, y, w, by simp [execOp, ho, e1, Instr.extract, hy'], .inl rfl, Out.same hh hyr⟩
    · cases hr
  · cases hr
end CSim
