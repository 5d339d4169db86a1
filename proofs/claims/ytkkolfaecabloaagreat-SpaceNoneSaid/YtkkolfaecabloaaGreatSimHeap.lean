/-
  Memory: what reading, writing and making blocks in the abstract memory says of the model's.
-/
import Derived.Test.YtkkolfaecabloaaGreatSimRel
import Derived.Laws.IdiomCopy
import Derived.Laws.Cells
namespace CSim
set_option linter.unusedSimpArgs false
set_option linter.unusedVariables false
open Go

/-! ### reading an object -/
theorem rowsFrom_get (z : List AV) (t : Rows) (c : Nat) (hc : 0 < c) : ∀ (k q : Nat), (∀ r, q ≤ r → r < q + k → ((t.get r).getD z).length = c) →
    (rowsFrom z t k q).length = k * c ∧ ∀ i, i < k * c → (rowsFrom z t k q)[i]? = ((t.get (q + i / c)).getD z)[i % c]?
  | 0, q, _ => ⟨by simp [rowsFrom], fun i hi => by simp at hi⟩
  | k + 1, q, h => by
    obtain ⟨h1, h2⟩ := rowsFrom_get z t c hc k (q + 1) (fun r h1 h2 => h r (by omega) (by omega))
    have h0 := h q (by omega) (by omega)
    rw [rowsFrom, app_eq]
    refine ⟨by rw [List.length_append, h0, nsucc, h1, Nat.succ_mul]; omega, fun i hi => ?_⟩
    by_cases hlt : i < c
    · rw [List.getElem?_append_left (by rw [h0]; exact hlt), Nat.div_eq_of_lt hlt, Nat.mod_eq_of_lt hlt, Nat.add_zero]
    · have hge : c ≤ i := Nat.le_of_not_lt hlt
      rw [List.getElem?_append_right (by rw [h0]; exact hge), h0, nsucc, h2 (i - c) (by rw [Nat.succ_mul] at hi; omega)]
      have e1 : i = (i - c) + c := by omega
      have e2 : i / c = (i - c) / c + 1 := by
        have := Nat.add_div_right (i - c) hc
        rw [← e1] at this; exact this
      have e3 : i % c = (i - c) % c := by
        have := Nat.add_mod_right (i - c) c
        rw [← e1] at this; exact this
      rw [e2, e3]
      have e4 : q + 1 + (i - c) / c = q + ((i - c) / c + 1) := by omega
      rw [e4]

theorem rows_len {c n : Nat} {z : List AV} {t : Rows} (h : (AObj.rows c n z t).ok) {q : Nat} (hlt : q < n) : ((t.get q).getD z).length = c := by
  cases hq : t.get q with
  | none => simpa using h.2.2.1
  | some l => simpa using h.2.2.2 q l hlt hq

theorem nat_beq {a b : Nat} : Nat.beq a b = true ↔ a = b := by simp
theorem nat_beq_false {a b : Nat} : Nat.beq a b = false ↔ a ≠ b := by
  cases h : Nat.beq a b with
  | true => simp at h; simp [h]
  | false => simp; intro e; subst e; simp at h
theorem nat_ble {a b : Nat} : Nat.ble a b = true ↔ a ≤ b := by simp
theorem nat_ble_false {a b : Nat} : Nat.ble a b = false ↔ b < a := by
  cases h : Nat.ble a b with
  | true => simp at h; simp; exact h
  | false => simp; exact Nat.lt_of_not_le fun h' => by rw [nat_ble.2 h'] at h; cases h
theorem nat_blt {a b : Nat} : Nat.blt a b = true ↔ a < b := by simp [Nat.blt_eq]
theorem nat_blt_false {a b : Nat} : Nat.blt a b = false ↔ b ≤ a := by
  cases h : Nat.blt a b with
  | true => rw [nat_blt] at h; simp; exact h
  | false => simp; exact Nat.le_of_not_lt fun h' => by rw [nat_blt.2 h'] at h; cases h

theorem AObj.read_spec {o : AObj} (hok : o.ok) {off n : Nat} {l : List AV} (h : o.read off n = some l) :
    l.length = n ∧ ∀ i x, l[i]? = some x → o.cell (off + i) = some x := by
  cases o with
  | cells fz m =>
    simp only [AObj.read, takeN_eq, dropN_eq] at h
    split at h
    · rename_i hle
      injection h with h; subst h
      refine ⟨by rw [List.length_take]; omega, fun i x hx => ?_⟩
      rw [List.getElem?_take] at hx
      split at hx
      · simpa [AObj.cell] using hx
      · cases hx
    · cases h
  | rows c rn z t =>
    have hl := @rows_len c rn z t hok
    obtain ⟨hc, hn, _⟩ := hok
    simp only [AObj.read, rowsRead, ndiv, nmod, nadd] at h
    split at h
    · cases h
    · split at h
      · rename_i hle
        rw [nat_ble] at hle
        split at h
        · rename_i hlt
          rw [nat_blt] at hlt
          rw [takeN_eq, dropN_eq] at h
          split at h
          · rename_i hle2
            injection h with h; subst h
            refine ⟨by rw [List.length_take]; omega, fun i x hx => ?_⟩
            rw [List.getElem?_take] at hx
            split at hx
            · rename_i hi
              rw [List.getElem?_drop] at hx
              have hm : off % c + i < c := by omega
              have e1 : (off + i) / c = off / c := by
                have : off + i = c * (off / c) + (off % c + i) := by have := Nat.div_add_mod off c; omega
                rw [this, Nat.mul_add_div hc, Nat.div_eq_of_lt hm, Nat.add_zero]
              have e2 : (off + i) % c = off % c + i := by
                have : off + i = c * (off / c) + (off % c + i) := by have := Nat.div_add_mod off c; omega
                rw [this, Nat.mul_add_mod, Nat.mod_eq_of_lt hm]
              simp only [AObj.cell, e1, e2]
              rw [if_pos ⟨hc, hlt⟩]
              exact hx
            · cases hx
          · cases h
        · cases h
      · split at h
        · rename_i hb
          simp only [Bool.and_eq_true, nat_beq, nat_ble] at hb
          obtain ⟨⟨h1, h2⟩, h3⟩ := hb
          injection h with h; subst h
          obtain ⟨k1, k2⟩ := rowsFrom_get z t c hc (n / c) (off / c) (fun r _ _ => hl (by omega))
          have en : n / c * c = n := by have := Nat.div_add_mod n c; rw [Nat.mul_comm]; omega
          rw [en] at k1 k2
          refine ⟨k1, fun i x hx => ?_⟩
          have hi : i < n := by
            rcases Nat.lt_or_ge i n with h | h
            · exact h
            · rw [List.getElem?_eq_none (by omega)] at hx; cases hx
          rw [k2 i hi] at hx
          have eo : off = c * (off / c) := by have := Nat.div_add_mod off c; omega
          have e1 : (off + i) / c = off / c + i / c := by
            conv => lhs; rw [eo]
            rw [Nat.mul_add_div hc]
          have e2 : (off + i) % c = i % c := by
            conv => lhs; rw [eo]
            rw [Nat.mul_add_mod]
          have h4 : i / c < n / c := Nat.div_lt_of_lt_mul (by rw [Nat.mul_comm, en]; exact hi)
          simp only [AObj.cell, e1, e2]
          rw [if_pos ⟨hc, by omega⟩]
          exact hx
        · cases h
  | map es => cases h
  | loop => cases h

theorem splice_get {α : Type} {n : Nat} {l xs r : List α} (h : splice n l xs = some r) : r.length = l.length ∧ n + xs.length ≤ l.length ∧
    ∀ i, r[i]? = if n ≤ i ∧ i < n + xs.length then xs[i - n]? else l[i]? := by
  rw [splice_eq] at h
  split at h
  · rename_i hle
    injection h with h; subst h
    refine ⟨by simp; omega, hle, fun i => ?_⟩
    by_cases h1 : i < n
    · rw [if_neg (by omega), List.append_assoc, List.getElem?_append_left (by simp; omega), List.getElem?_take, if_pos h1]
    · by_cases h2 : i < n + xs.length
      · rw [if_pos ⟨by omega, h2⟩, List.getElem?_append_left (by simp; omega), List.getElem?_append_right (by simp; omega)]
        congr 1; simp; omega
      · rw [if_neg (by omega), List.getElem?_append_right (by simp; omega), List.getElem?_drop]
        congr 1; simp; omega
  · cases h

theorem AObj.write_spec {o o' : AObj} (hok : o.ok) {off : Nat} {xs : List AV} (h : o.write off xs = some o') :
    o'.ok ∧ o'.whole = o.whole ∧ o'.isCells = true ∧ (∀ i, i < xs.length → (o.cell (off + i)).isSome) ∧
    ∀ i x, o'.cell i = some x → (off ≤ i ∧ i < off + xs.length ∧ xs[i - off]? = some x) ∨ (¬ (off ≤ i ∧ i < off + xs.length) ∧ o.cell i = some x) := by
  cases o with
  | cells fz l =>
    simp only [AObj.write] at h
    split at h
    · rename_i r hr
      injection h with h; subst h
      obtain ⟨h1, h2, h3⟩ := splice_get hr
      refine ⟨trivial, rfl, rfl, fun i hi => ?_, fun i x hx => ?_⟩
      · simp [AObj.cell, List.getElem?_eq_getElem (show off + i < l.length by omega)]
      · simp only [AObj.cell, h3] at hx ⊢
        split at hx
        · rename_i hb; exact .inl ⟨hb.1, hb.2, hx⟩
        · rename_i hb; exact .inr ⟨hb, hx⟩
    · cases h
  | rows c rn z t =>
    have hok' := hok
    obtain ⟨hc, hn, hz, ht⟩ := hok
    have hl := @rows_len c rn z t hok'
    unfold mostRows at hn
    simp only [AObj.write, rowsWrite, ndiv, nmod] at h
    split at h
    · cases h
    · split at h
      · rename_i hlt
        rw [nat_blt] at hlt
        split at h
        · rename_i row hr
          injection h with h; subst h
          obtain ⟨h1, h2, h3⟩ := splice_get hr
          rw [hl hlt] at h1 h2
          refine ⟨⟨hc, hn, hz, fun q l hqn hq => ?_⟩, rfl, rfl, fun i hi => ?_, fun i x hx => ?_⟩
          · rw [Rows.get_set (by omega) (by omega)] at hq
            split at hq
            · injection hq with hq; subst hq; exact h1
            · exact ht q l hqn hq
          · have hm : off % c + i < c := by omega
            have e : off + i = c * (off / c) + (off % c + i) := by have := Nat.div_add_mod off c; omega
            have e1 : (off + i) / c = off / c := by rw [e, Nat.mul_add_div hc, Nat.div_eq_of_lt hm, Nat.add_zero]
            have e2 : (off + i) % c = off % c + i := by rw [e, Nat.mul_add_mod, Nat.mod_eq_of_lt hm]
            simp only [AObj.cell, e1, e2]
            rw [if_pos ⟨hc, hlt⟩, List.getElem?_eq_getElem (by rw [hl hlt]; exact hm)]
            rfl
          · simp only [AObj.cell] at hx
            split at hx
            · rename_i hb
              rw [Rows.get_set (by omega) (by omega)] at hx
              by_cases hq : off / c = i / c
              · rw [if_pos hq, Option.getD_some, h3] at hx
                have ei : i = c * (i / c) + i % c := (Nat.div_add_mod i c).symm
                have eo : off = c * (i / c) + off % c := by have := Nat.div_add_mod off c; rw [hq] at this; omega
                split at hx
                · rename_i hb2
                  refine .inl ⟨by omega, by omega, ?_⟩
                  rw [show i - off = i % c - off % c by omega]
                  exact hx
                · rename_i hb2
                  refine .inr ⟨by omega, ?_⟩
                  simp only [AObj.cell]
                  rw [if_pos hb, ← hq]
                  exact hx
              · rw [if_neg hq] at hx
                refine .inr ⟨fun hb2 => hq ?_, ?_⟩
                · have h6 := Nat.div_add_mod off c
                  have h5 : i = c * (off / c) + (off % c + (i - off)) := by rw [← Nat.add_assoc, h6]; omega
                  have h7 : off % c + (i - off) < c := by omega
                  rw [h5, Nat.mul_add_div hc, Nat.div_eq_of_lt h7, Nat.add_zero]
                · simp only [AObj.cell]
                  rw [if_pos hb]
                  exact hx
            · cases hx
        · cases h
      · cases h
  | map es => cases h
  | loop => cases h
theorem read_isCells {o : AObj} {off n : Nat} {l : List AV} (h : o.read off n = some l) : o.isCells = true := by cases o <;> first | rfl | cases h

theorem VRel.le {ρ ρ' : Ren} (h : ρ.le ρ') {x : V} {v : Value} (hx : VRel ρ x v) : VRel ρ' x v := VRel.mono h x hx
theorem ERel.le {ρ ρ' : Ren} (h : ρ.le ρ') {n : Nat} {e : E} {t : Array Value} (he : ERel ρ n e t) : ERel ρ' n e t := ⟨he.1, he.2.1, fun i hi => (he.2.2 i hi).le h⟩
theorem ObjRel.le {ρ ρ' : Ren} (h : ρ.le ρ') {o : AObj} {p : Plc} {x : Obj} (hx : ObjRel ρ o p x) : ObjRel ρ' o p x := by
  cases o with
  | map es =>
    obtain ⟨e, c, h1, h2, h3⟩ := hx
    exact ⟨e, c, h1, h2.mono fun a b ⟨r, s⟩ => ⟨r.mono h, s.le h⟩, h3⟩
  | loop st pend e ps asg body n =>
    obtain ⟨r, h1, h2, h3, h4, h5⟩ := hx
    exact ⟨r, h1, h2, h3, h4.le h, h5⟩
  | cells fz l =>
    obtain ⟨c, e, lo, hi, h1, h2, h3, h4, h5⟩ := hx
    exact ⟨c, e, lo, hi, h1, h2, h3, h4, fun i x hx => let ⟨v, a, d⟩ := h5 i x hx; ⟨v, a, d.mono h⟩⟩
  | rows c n z t =>
    obtain ⟨c, e, lo, hi, h1, h2, h3, h4, h5⟩ := hx
    exact ⟨c, e, lo, hi, h1, h2, h3, h4, fun i x hx => let ⟨v, a, d⟩ := h5 i x hx; ⟨v, a, d.mono h⟩⟩

/-! ### the world's blocks -/
theorem heap_setCells (b : Nat) : ∀ (vs : List Value) (o : Nat) (w : World) (c : Array Value) (e : TypeId) (fz : Nat × Nat), w.heap[b]? = some (.cells c e fz) →
    ∃ c' : Array Value, (w.setCells b o vs).heap[b]? = some (.cells c' e fz) ∧ c'.size = c.size ∧ ∀ i, c'[i]? = if o ≤ i ∧ i < o + vs.length ∧ i < c.size then vs[i - o]? else c[i]?
  | [], o, w, c, e, fz, h => ⟨c, h, rfl, fun i => by rw [if_neg (by simp; omega)]⟩
  | v :: vs, o, w, c, e, fz, h => by
    have h1 : (w.setCell ⟨b, o, none⟩ v).heap[b]? = some (.cells (c.setIfInBounds o v) e fz) := by
      simp [World.setCell, Array.getElem?_modify, h]
    obtain ⟨c', h2, h3, h4⟩ := heap_setCells b vs (o + 1) _ _ e fz h1
    refine ⟨c', h2, by simpa using h3, fun i => ?_⟩
    rw [h4 i]
    simp only [Array.size_setIfInBounds, List.length_cons]
    by_cases hi : o + 1 ≤ i ∧ i < o + 1 + vs.length ∧ i < c.size
    · rw [if_pos hi, if_pos (by omega)]
      have : i - o = (i - (o + 1)) + 1 := by omega
      rw [this]; rfl
    · rw [if_neg hi, Array.getElem?_setIfInBounds]
      by_cases ho : o = i
      · subst ho
        by_cases hs : o < c.size
        · rw [if_pos rfl, if_pos hs, if_pos (by omega)]; simp
        · rw [if_pos rfl, if_neg hs, if_neg (by omega), Array.getElem?_eq_none (by omega)]
      · rw [if_neg ho, if_neg (by omega)]
theorem heap_setCells_ne (b : Nat) : ∀ (vs : List Value) (o : Nat) (w : World) (k : Nat), k ≠ b → (w.setCells b o vs).heap[k]? = w.heap[k]?
  | [], _, _, _, _ => rfl
  | v :: vs, o, w, k, h => by
    show ((w.setCell ⟨b, o, none⟩ v).setCells b (o + 1) vs).heap[k]? = _
    rw [heap_setCells_ne b vs (o + 1) _ k h]
    simp [World.setCell, Array.getElem?_modify, Ne.symm h]
theorem size_setCells (b : Nat) : ∀ (vs : List Value) (o : Nat) (w : World), (w.setCells b o vs).heap.size = w.heap.size
  | [], _, _ => rfl
  | v :: vs, o, w => by
    show ((w.setCell ⟨b, o, none⟩ v).setCells b (o + 1) vs).heap.size = _
    rw [size_setCells b vs]; simp [World.setCell]
theorem os_setCells (b : Nat) : ∀ (vs : List Value) (o : Nat) (w : World), (w.setCells b o vs).os = w.os ∧ (w.setCells b o vs).tape = w.tape ∧ (w.setCells b o vs).output = w.output
  | [], _, _ => ⟨rfl, rfl, rfl⟩
  | v :: vs, o, w => os_setCells b vs (o + 1) (w.setCell ⟨b, o, none⟩ v)

theorem cell_of_heap {w : World} {b : Nat} {c : Array Value} {e : TypeId} {fz : Nat × Nat} (h : w.heap[b]? = some (.cells c e fz)) (o : Nat) : w.cell? ⟨b, o, none⟩ = c[o]? := by
  simp [World.cell?, h]
theorem frozen_of_heap {w : World} {b : Nat} {c : Array Value} {e : TypeId} {lo hi : Nat} (h : w.heap[b]? = some (.cells c e (lo, hi))) (o : Nat) (hn : ¬ (lo ≤ o ∧ o < hi)) :
    w.frozen? ⟨b, o, none⟩ = false := by
  simp only [World.frozen?, h]
  simp; omega

/-! ### reading -/
theorem HRel.read {ρ : Ren} {h : Heap} {w : World} (hr : HRel ρ h w) {b o n : Nat} {p : Plc} (hp : ρ b = some p) {l : List AV} (hl : h.read b o n = some l) :
    ∃ vs : List Value, vs.length = n ∧ All2 (CRel1 ρ) l vs ∧ (∀ (j : Nat) v, vs[j]? = some v → w.cell? ⟨p.blk, p.sh + o + j, none⟩ = some v) ∧ (∃ c e fz, w.heap[p.blk]? = some (.cells c e fz) ∧ c.size = p.size ∧ (0 < n → p.sh + o + n ≤ p.size)) := by
  unfold Heap.read at hl
  cases hg : h.get b with
  | none => rw [hg] at hl; cases hl
  | some ob =>
    rw [hg] at hl
    obtain ⟨x, hx, hobj⟩ := hr.obj b ob p hg hp
    rw [ObjRel.cells (read_isCells hl)] at hobj
    obtain ⟨c, e, lo, hi, rfl, hsz, _, _, hc⟩ := hobj
    obtain ⟨h1, h2⟩ := AObj.read_spec (hr.ok b ob p hg hp) hl
    have key : ∀ (i : Nat) x, l[i]? = some x → ∃ v, c[p.sh + o + i]? = some v ∧ CRel1 ρ x v := fun i x hx => by
      obtain ⟨v, a1, a2⟩ := hc _ _ (h2 i x hx)
      exact ⟨v, by rw [Nat.add_assoc]; exact a1, a2⟩
    have hlen : n ≤ 0 ∨ p.sh + o + n ≤ c.size := by
      rcases Nat.eq_zero_or_pos n with h0 | h0
      · exact .inl (by omega)
      · have hlt : n - 1 < l.length := by omega
        obtain ⟨v, a1, _⟩ := key (n - 1) l[n - 1] (List.getElem?_eq_getElem hlt)
        have := (Array.getElem?_eq_some_iff.1 a1).1
        exact .inr (by omega)
    refine ⟨(c.toList.drop (p.sh + o)).take n, ?_, ?_, ?_, ⟨c, e, (lo, hi), hx, hsz, fun h0 => ?_⟩⟩
    · rcases hlen with h0 | h0
      · have : n = 0 := by omega
        subst this; simp
      · simp; omega
    · refine All2.of_get ?_ fun i x hx => ?_
      · rw [h1]
        rcases hlen with h0 | h0
        · have : n = 0 := by omega
          subst this; simp
        · simp; omega
      · have hi : i < n := by
          have := (List.getElem?_eq_some_iff.1 hx).1
          omega
        obtain ⟨v, a1, a3⟩ := key i x hx
        refine ⟨v, ?_, a3⟩
        rw [List.getElem?_take, if_pos hi, List.getElem?_drop]
        simpa using a1
    · intro j v hj
      rw [List.getElem?_take] at hj
      split at hj
      · rw [List.getElem?_drop] at hj
        rw [cell_of_heap hx]
        simpa using hj
      · cases hj
    · rcases hlen with h1 | h1 <;> omega

theorem Heap.upd_next (h : Heap) (b : Nat) (o : H0) : (h.upd b o).next = h.next := rfl

/-! ### forgetting a block -/
theorem HRel.kill {ρ : Ren} {h : Heap} {w : World} (hr : HRel ρ h w) {b : Nat} (hb : b < most) : HRel ρ (h.upd b none) w where
  ok b' o p hg hp := by
    rw [Heap.get_upd hb] at hg
    split at hg
    · cases hg
    · exact hr.ok b' o p hg hp
  low := hr.low
  tight b' o p hg hp h1 := by
    rw [Heap.get_upd hb] at hg
    split at hg
    · cases hg
    · exact hr.tight b' o p hg hp h1
  obj b' o p hg hp := by
    rw [Heap.get_upd hb] at hg
    split at hg
    · cases hg
    · exact hr.obj b' o p hg hp
  inj a a' o o' p p' hg hg' hp hp' he := by
    rw [Heap.get_upd hb] at hg hg'
    split at hg
    · cases hg
    · split at hg'
      · cases hg'
      · exact hr.inj a a' o o' p p' hg hg' hp hp' he
theorem Step.kill {ρ : Ren} {h : Heap} {w : World} (hr : HRel ρ h w) {b : Nat} (hb : b < most) : Step ρ h w ρ (h.upd b none) w where
  le := Ren.le_refl ρ
  new _ _ hp := .inl hp
  next := Nat.le_refl _
  rel := hr.kill hb
  size := Nat.le_refl _
  same _ _ _ := rfl
  owns c := fun ⟨b', o, p, hg, hp, he⟩ => by
    rw [Heap.get_upd hb] at hg
    split at hg
    · cases hg
    · exact .inl ⟨b', o, p, hg, hp, he⟩
  os := rfl
  tape := rfl
  output := rfl

/-! ### one block is another one, in place -/
theorem Step.place {ρ : Ren} {h : Heap} {w w' : World} (hr : HRel ρ h w) {b : Nat} {o o' : AObj} {p : Plc} {x' : Obj} (hg : h.get b = some o) (hp : ρ b = some p) (hok : o'.ok) (h1o : o'.one = true → o.one = true)
    (hsz : w'.heap.size = w.heap.size) (hx : w'.heap[p.blk]? = some x') (hne : ∀ k, k ≠ p.blk → w'.heap[k]? = w.heap[k]?) (hrel : ObjRel ρ o' p x') (hos : w'.os = w.os) (htp : w'.tape = w.tape) (hout : w'.output = w.output) :
    Step ρ h w ρ (h.upd b (some o')) w' := by
  have hb := Heap.get_lt hg
  refine ⟨Ren.le_refl ρ, fun _ _ hp => .inl hp, Nat.le_refl _, ⟨?_, ?_, ?_, ?_, fun b' o1 q h1 hq h2 => by
    rw [Heap.get_upd hb] at h1
    split at h1
    · rename_i e
      subst e
      injection h1 with h1; subst h1
      exact hr.tight b o q hg hq (h1o h2)
    · exact hr.tight b' o1 q h1 hq h2⟩, by omega, ?_, ?_, hos, htp, hout⟩
  · intro b' o1 q h1 hq
    rw [Heap.get_upd hb] at h1
    split at h1
    · injection h1 with h1; subst h1; exact hok
    · exact hr.ok b' o1 q h1 hq
  · intro b' q hq; rw [hsz]; exact hr.low b' q hq
  · intro b' o1 q h1 hq
    rw [Heap.get_upd hb] at h1
    split at h1
    · rename_i e
      subst e
      injection h1 with h1; subst h1
      rw [hp] at hq; injection hq with hq; subst hq
      exact ⟨x', hx, hrel⟩
    · rename_i e
      obtain ⟨y, hy, hyr⟩ := hr.obj b' o1 q h1 hq
      refine ⟨y, ?_, hyr⟩
      rw [hne q.blk (fun e' => e (hr.inj b b' o o1 p q hg h1 hp hq e'.symm))]
      exact hy
  · intro a a' o1 o2 q q' h1 h2 hq hq' he
    rw [Heap.get_upd hb] at h1 h2
    have f1 : ∃ o, h.get a = some o := by
      split at h1
      · rename_i e; subst e; exact ⟨o, hg⟩
      · exact ⟨o1, h1⟩
    have f2 : ∃ o, h.get a' = some o := by
      split at h2
      · rename_i e; subst e; exact ⟨o, hg⟩
      · exact ⟨o2, h2⟩
    obtain ⟨u1, g1⟩ := f1
    obtain ⟨u2, g2⟩ := f2
    exact hr.inj a a' u1 u2 q q' g1 g2 hq hq' he
  · intro c _ hno
    refine hne c fun e => hno ⟨b, o, p, hg, hp, e.symm⟩
  · rintro c ⟨b', o1, q, h1, hq, he⟩
    rw [Heap.get_upd hb] at h1
    split at h1
    · rename_i e; subst e; exact .inl ⟨b, o, q, hg, hq, he⟩
    · exact .inl ⟨b', o1, q, h1, hq, he⟩

theorem All2.one {ρ : Ren} {xs : List AV} {vs : List Value} (h : All2 (CRel1 ρ) xs vs) : ∀ v ∈ vs, v.oneCell' = true := by
  induction h with
  | nil => intro v hv; cases hv
  | cons hab _ ih =>
    intro v hv
    cases hv with
    | head => exact hab.1
    | tail _ hm => exact ih v hm

/-! ### writing -/
theorem write_one {o o' : AObj} {off : Nat} {xs : List AV} (h : o.write off xs = some o') : o'.one = true → o.one = true := by
  intro h1
  cases o with
  | cells fz l =>
    simp only [AObj.write] at h
    split at h
    · rename_i l' hl
      injection h with h; subst h
      have hlen : l'.length = l.length := by
        rw [splice_eq] at hl
        split at hl
        · rename_i hle
          injection hl with hl
          rw [← hl]
          simp
          omega
        · cases hl
      unfold AObj.one at h1
      split at h1
      · rename_i a b e
        injection e with _ e
        rw [e] at hlen
        match l, hlen with
        | [x], _ => rfl
      · cases h1
    · cases h
  | rows c n z t =>
    simp only [AObj.write, rowsWrite] at h
    split at h
    · cases h
    · split at h
      · split at h
        · injection h with h; subst h; cases h1
        · cases h
      · cases h
  | map es => cases h
  | loop => cases h
theorem HRel.write {P : Program} {ρ : Ren} {h : Heap} {w : World} (hr : HRel ρ h w) {b o : Nat} {p : Plc} (hp : ρ b = some p) {ob ob' : AObj} {xs : List AV} {vs : List Value}
    (hg : h.get b = some ob) (hw : ob.write o xs = some ob') (hxs : All2 (CRel1 ρ) xs vs) :
    (storeCells ⟨p.blk, p.sh + o, none⟩ vs).run P w = .ok () (w.setCells p.blk (p.sh + o) vs) ∧ Step ρ h w ρ (h.upd b (some ob')) (w.setCells p.blk (p.sh + o) vs) := by
  have h1 := hxs.one
  obtain ⟨s1, s2, s3, s4, s5⟩ := AObj.write_spec (hr.ok b ob p hg hp) hw
  obtain ⟨x, hx, hobj⟩ := hr.obj b ob p hg hp
  have hcells : ob.isCells = true := by cases ob <;> first | rfl | cases hw
  rw [ObjRel.cells hcells] at hobj
  obtain ⟨c, e, lo, hi, rfl, hsz, hfz, hwh, hc⟩ := hobj
  have hin : ∀ j, j < vs.length → ∃ v, c[p.sh + o + j]? = some v := fun j hj => by
    have := s4 j (by rw [hxs.length]; exact hj)
    obtain ⟨y, hy⟩ := Option.isSome_iff_exists.1 this
    obtain ⟨v, a1, _⟩ := hc _ _ hy
    exact ⟨v, by rw [Nat.add_assoc]; exact a1⟩
  refine ⟨?_, ?_⟩
  · have := run_storeCells_cells (P := P) p.blk (p.sh + o) vs 0 w (fun j hj => ?_) (fun j hj => ?_) h1
    · simpa using this
    · obtain ⟨v, hv⟩ := hin j hj
      rw [Nat.add_zero, cell_of_heap hx, hv]; rfl
    · obtain ⟨v, hv⟩ := hin j hj
      exact frozen_of_heap hx _ (by have := (Array.getElem?_eq_some_iff.1 hv).1; omega)
  · obtain ⟨c', k1, k2, k3⟩ := heap_setCells p.blk vs (p.sh + o) w c e (lo, hi) hx
    obtain ⟨o1, o2, o3⟩ := os_setCells p.blk vs (p.sh + o) w
    refine Step.place hr hg hp s1 (write_one hw) (size_setCells _ _ _ _) k1 (fun k hk => heap_setCells_ne _ _ _ _ _ hk) ?_ o1 o2 o3
    rw [ObjRel.cells s3]
    refine ⟨c', e, lo, hi, rfl, by rw [k2, hsz], by rw [k2]; exact hfz, fun hw' => hwh (by rw [← s2]; exact hw'), fun i y hy => ?_⟩
    rw [k3]
    rcases s5 i y hy with ⟨a1, a2, a3⟩ | ⟨a1, a2⟩
    · obtain ⟨v, hv, hvr⟩ := hxs.get a3
      have hlt : i - o < vs.length := (List.getElem?_eq_some_iff.1 hv).1
      obtain ⟨u, hu⟩ := hin (i - o) hlt
      have := (Array.getElem?_eq_some_iff.1 hu).1
      rw [if_pos ⟨by omega, by omega, by omega⟩]
      refine ⟨v, ?_, hvr⟩
      rw [show p.sh + i - (p.sh + o) = i - o by omega]; exact hv
    · rw [← hxs.length, if_neg (by omega)]
      exact hc i y a2

/-! ### a new block -/
def Ren.put (ρ : Ren) (b : Nat) (p : Plc) : Ren := fun x => if x = b then some p else ρ x
theorem Ren.put_same (ρ : Ren) (b : Nat) (p : Plc) : (ρ.put b p) b = some p := by simp [Ren.put]
theorem Ren.le_put {ρ : Ren} {b : Nat} (h : ρ b = none) (p : Plc) : ρ.le (ρ.put b p) := fun x q hx => by
  unfold Ren.put
  rw [if_neg (by rintro rfl; rw [h] at hx; cases hx)]; exact hx

/-- a new abstract block 'h.next', that lies where no living block lies -/
theorem Step.make {ρ : Ren} {h : Heap} {w w' : World} (hr : HRel ρ h w) {o : AObj} {p : Plc} {x' : Obj} (hid : h.next < most) (hf : ρ h.next = none) (hok : o.ok) (h1o : o.one = true → p.sh = 0)
    (hsz : w.heap.size ≤ w'.heap.size) (hx : w'.heap[p.blk]? = some x') (hne : ∀ k, k < w.heap.size → k ≠ p.blk → w'.heap[k]? = w.heap[k]?)
    (hfree : ¬ Owns ρ h p.blk) (hnew : w.heap.size ≤ p.blk) (hrel : ObjRel (ρ.put h.next p) o p x') (hos : w'.os = w.os) (htp : w'.tape = w.tape) (hout : w'.output = w.output) :
    Step ρ h w (ρ.put h.next p) ⟨Nat.succ h.next, h.m.set h.next (some o)⟩ w' := by
  have hle := Ren.le_put hf p
  have hget : ∀ j, (⟨Nat.succ h.next, h.m.set h.next (some o)⟩ : Heap).get j = if h.next = j then some o else h.get j := fun j => Heap.get_upd hid (some o) j
  have hplt : p.blk < w'.heap.size := (Array.getElem?_eq_some_iff.1 hx).1
  have hold : ∀ b q, (ρ.put h.next p) b = some q → b ≠ h.next → ρ b = some q := fun b q hq hb => by simpa [Ren.put, hb] using hq
  refine ⟨hle, ?_, by simp, ⟨?_, ?_, ?_, ?_, fun b o1 q h1 hq h2 => by
    rw [hget] at h1
    split at h1
    · rename_i e
      subst e
      injection h1 with h1; subst h1
      rw [Ren.put_same] at hq; injection hq with hq; subst hq
      exact h1o h2
    · rename_i e
      exact hr.tight b o1 q h1 (hold b q hq (fun e' => e e'.symm)) h2⟩, hsz, ?_, ?_, hos, htp, hout⟩
  · intro b q hq
    by_cases e : b = h.next
    · subst e; exact .inr ⟨hf, Nat.le_refl _, Nat.lt_succ_self _⟩
    · exact .inl (hold b q hq e)
  · intro b o1 q h1 hq
    rw [hget] at h1
    split at h1
    · injection h1 with h1; subst h1; exact hok
    · rename_i e
      exact hr.ok b o1 q h1 (hold b q hq (fun e' => e e'.symm))
  · intro b q hq
    by_cases e : b = h.next
    · subst e; rw [Ren.put_same] at hq; injection hq with hq; subst hq; exact hplt
    · exact Nat.lt_of_lt_of_le (hr.low b q (hold b q hq e)) hsz
  · intro b o1 q h1 hq
    rw [hget] at h1
    split at h1
    · rename_i e
      subst e
      injection h1 with h1; subst h1
      rw [Ren.put_same] at hq; injection hq with hq; subst hq
      exact ⟨x', hx, hrel⟩
    · rename_i e
      have hq' := hold b q hq (Ne.symm e)
      obtain ⟨y, hy, hyr⟩ := hr.obj b o1 q h1 hq'
      refine ⟨y, ?_, hyr.le hle⟩
      rw [hne q.blk (hr.low b q hq') (fun e' => hfree ⟨b, o1, q, h1, hq', e'⟩)]
      exact hy
  · intro a a' o1 o2 q q' h1 h2 hq hq' he
    rw [hget] at h1 h2
    by_cases e1 : h.next = a
    · by_cases e2 : h.next = a'
      · rw [← e1, ← e2]
      · exfalso
        rw [if_neg e2] at h2
        have q2 := hold a' q' hq' (Ne.symm e2)
        subst e1
        rw [Ren.put_same] at hq; injection hq with hq; subst hq
        exact hfree ⟨a', o2, q', h2, q2, he.symm⟩
    · rw [if_neg e1] at h1
      have q1 := hold a q hq (Ne.symm e1)
      by_cases e2 : h.next = a'
      · exfalso
        subst e2
        rw [Ren.put_same] at hq'; injection hq' with hq'; subst hq'
        exact hfree ⟨a, o1, q, h1, q1, he⟩
      · rw [if_neg e2] at h2
        exact hr.inj a a' o1 o2 q q' h1 h2 q1 (hold a' q' hq' (Ne.symm e2)) he
  · intro c hc hno
    exact hne c hc (by omega)
  · rintro c ⟨b, o1, q, h1, hq, he⟩
    rw [hget] at h1
    by_cases e : h.next = b
    · subst e
      rw [Ren.put_same] at hq; injection hq with hq; subst hq
      exact .inr (by omega)
    · rw [if_neg e] at h1
      exact .inl ⟨b, o1, q, h1, hold b q hq (Ne.symm e), he⟩

theorem Step.alloc {ρ : Ren} {h : Heap} {w : World} (hr : HRel ρ h w) {o : AObj} {n : Nat} {x : Obj} (hid : h.next < most) (hf : ρ h.next = none) (hok : o.ok) (hrel : ObjRel (ρ.put h.next ⟨w.heap.size, 0, n⟩) o ⟨w.heap.size, 0, n⟩ x) :
    Step ρ h w (ρ.put h.next ⟨w.heap.size, 0, n⟩) ⟨Nat.succ h.next, h.m.set h.next (some o)⟩ (w.alloc x) := by
  refine Step.make hr hid hf hok (fun _ => rfl) (show w.heap.size ≤ (w.heap.push x).size by simp) (x' := x) (show (w.heap.push x)[w.heap.size]? = some x by simp) (fun k hk _ => ?_) ?_ (Nat.le_refl _) hrel rfl rfl rfl
  · show (w.heap.push x)[k]? = _
    simp [Array.getElem?_push, Nat.ne_of_lt hk]
  · rintro ⟨b, o1, q, h1, hq, he⟩
    have := hr.low b q hq
    simp only at he
    omega

theorem Heap.new_ok {h h' : Heap} {o : AObj} {f : Nat → V} {v : V} (hn : h.new o f = .ok v h') : h.next < most ∧ v = f h.next ∧ h' = ⟨Nat.succ h.next, h.m.set h.next (some o)⟩ := by
  unfold Heap.new at hn
  rw [fNat_eq] at hn
  split at hn
  · rename_i hb
    rw [nat_blt] at hb
    injection hn with h1 h2
    exact ⟨hb, h1.symm, h2.symm⟩
  · cases hn
end CSim
