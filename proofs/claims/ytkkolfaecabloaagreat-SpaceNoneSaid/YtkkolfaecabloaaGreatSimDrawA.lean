/-
  A region that draws its order: what must be ahead of what; what the checks say.
-/
import Derived.Test.YtkkolfaecabloaaGreatSimKind2
namespace CSim
set_option linter.unusedSimpArgs false
set_option linter.unusedVariables false
open Go
variable {P : Program} {n : Nat}

theorem hasBit_iff {m i : Nat} : hasBit m i = true ↔ m.testBit i = true := by
  unfold hasBit
  rw [nat_beq, Nat.testBit_eq_decide_div_mod_eq, decide_eq_true_iff]
  show m >>> i % 2 = 1 ↔ _
  rw [Nat.shiftRight_eq_div_pow]
theorem hasBit_zero (i : Nat) : hasBit 0 i = false := by
  cases h : hasBit 0 i with
  | false => rfl
  | true => rw [hasBit_iff] at h; simp at h

theorem befE_spec {acc : List Nat} {i : Nat} : ∀ {l : List Edge}, hasBit (befE acc l) i = true → ∃ e ∈ l, Region.binds .any e = true ∧ (e.on = i ∨ hasBit (acc.getD e.on 0) i = true)
  | [], h => by rw [befE, hasBit_zero] at h; cases h
  | e :: l, h => by
    simp only [befE] at h
    split at h
    · rename_i hb
      rw [hasBit_iff] at h
      have h2 : ((2 ^ e.on ||| acc.getD e.on 0) ||| befE acc l).testBit i = true := h
      rw [Nat.testBit_or, Nat.testBit_or, Bool.or_eq_true, Bool.or_eq_true, Nat.testBit_two_pow] at h2
      rcases h2 with (h2 | h2) | h2
      · exact ⟨e, List.mem_cons_self .., hb, .inl (by simpa using h2)⟩
      · exact ⟨e, List.mem_cons_self .., hb, .inr (hasBit_iff.2 h2)⟩
      · obtain ⟨e', h3, h4⟩ := befE_spec (hasBit_iff.2 h2)
        exact ⟨e', List.mem_cons_of_mem _ h3, h4⟩
    · obtain ⟨e', h3, h4⟩ := befE_spec h
      exact ⟨e', List.mem_cons_of_mem _ h3, h4⟩

theorem befs_ext : ∀ (l : List Oper) (acc : List Nat), ∃ r, befs l acc = acc ++ r
  | [], acc => ⟨[], by simp [befs]⟩
  | o :: l, acc => by
    simp only [befs, fNat_eq]
    obtain ⟨r, hr⟩ := befs_ext l (acc ++ [befE acc o.after.toList])
    exact ⟨befE acc o.after.toList :: r, by rw [hr]; simp⟩
theorem befs_spec : ∀ (l : List Oper) (acc : List Nat) (t : Nat) (o : Oper), l[t]? = some o → ∀ i, bef (befs l acc) i (acc.length + t) = true → ∃ e ∈ o.after.toList, Region.binds .any e = true ∧ (e.on = i ∨ bef (befs l acc) i e.on = true)
  | [], acc, t, o, h, i, _ => by simp at h
  | o' :: l, acc, 0, o, h, i, hb => by
    simp at h; subst h
    obtain ⟨r, hr⟩ := befs_ext l (acc ++ [befE acc o'.after.toList])
    have hB : befs (o' :: l) acc = (acc ++ [befE acc o'.after.toList]) ++ r := by simp only [befs, fNat_eq]; exact hr
    rw [hB] at hb ⊢
    have h0 : ((acc ++ [befE acc o'.after.toList]) ++ r).getD (acc.length + 0) 0 = befE acc o'.after.toList := by
      rw [List.append_assoc, List.getD_eq_getElem?_getD, List.getElem?_append_right (by omega)]
      simp
    unfold bef at hb
    rw [h0] at hb
    obtain ⟨e, h1, h2, h3⟩ := befE_spec hb
    refine ⟨e, h1, h2, h3.imp id fun h3 => ?_⟩
    unfold bef
    by_cases hlt : e.on < acc.length
    · rw [List.append_assoc, List.getD_eq_getElem?_getD, List.getElem?_append_left hlt, ← List.getD_eq_getElem?_getD]
      exact h3
    · rw [List.getD_eq_getElem?_getD, List.getElem?_eq_none (by omega)] at h3
      simp [hasBit_zero] at h3
  | o' :: l, acc, t + 1, o, h, i, hb => by
    have ih := befs_spec l (acc ++ [befE acc o'.after.toList]) t o (by simpa using h) i
    have hB : befs (o' :: l) acc = befs l (acc ++ [befE acc o'.after.toList]) := by simp only [befs, fNat_eq]
    rw [hB] at hb ⊢
    apply ih
    rw [List.length_append]
    simp only [List.length_cons, List.length_nil]
    rw [show acc.length + (0 + 1) + t = acc.length + (t + 1) by omega]
    exact hb

/-- what must be ahead of a ready operation is done -/
theorem bef_ready {ops : Array Oper} {i j : Nat} {o : Oper} (ho : ops[j]? = some o) (h : bef (befs ops.toList []) i j = true) : ∃ e ∈ o.after.toList, Region.binds .any e = true ∧ (e.on = i ∨ bef (befs ops.toList []) i e.on = true) := by
  have := befs_spec ops.toList [] j o (by simpa using ho) i
  simp only [List.length_nil, Nat.zero_add] at this
  exact this h

theorem edgesOk_spec : ∀ {l : List Oper} {j : Nat}, edgesOk j l = true → ∀ (t : Nat) o, l[t]? = some o → ∀ e ∈ o.after.toList, Region.binds .any e = true → e.on < j + t
  | [], j, h, t, o, ho => by simp at ho
  | o' :: l, j, h, t, o, ho => by
    simp only [edgesOk, Bool.and_eq_true, List.all_eq_true] at h
    cases t with
    | zero =>
      simp at ho; subst ho
      intro e he hb
      have := h.1 e he
      rw [hb] at this
      simpa [nat_blt] using this
    | succ t =>
      have := edgesOk_spec h.2 t o (by simpa using ho)
      intro e he hb
      have := this e he hb
      simp only [nsucc] at this
      omega

theorem memN_iff {x : Nat} : ∀ {l : List Nat}, memN x l = true ↔ x ∈ l
  | [] => by simp [memN]
  | y :: l => by
    simp only [memN]
    split
    · rename_i h; rw [nat_beq] at h; subst h; simp
    · rename_i h; rw [nat_beq_false] at h; rw [memN_iff]; simp [h]
theorem allIn_spec {l : List Nat} : ∀ {k : Nat}, allIn l k = true → ∀ i, i < k → i ∈ l
  | 0, _, i, h => by omega
  | k + 1, h, i, hi => by
    simp only [allIn, Bool.and_eq_true] at h
    by_cases e : i = k
    · subst e; exact memN_iff.1 h.1
    · exact allIn_spec h.2 i (by omega)
end CSim
