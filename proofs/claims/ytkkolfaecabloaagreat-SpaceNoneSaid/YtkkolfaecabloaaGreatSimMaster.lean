/-
  Every operation that is compiled does what it should.
-/
import Derived.Test.YtkkolfaecabloaaGreatSimRun
namespace CSim
set_option linter.unusedSimpArgs false
set_option linter.unusedVariables false
open Go
variable {P : Program} {n : Nat} {o : Oper}

theorem bad_op (why : String) : OpOk P n o (rBad why) := fun _ _ _ _ _ _ h => nomatch h

theorem opnds_nil {l : List Operand} (h : opnds n l = some []) : l = [] := by
  cases l with
  | nil => rfl
  | cons x l =>
    simp only [opnds] at h
    split at h
    · injection h with h; cases h
    · cases h
theorem opnds_cons {l : List Operand} {y : Opnd} {m : List Opnd} (h : opnds n l = some (y :: m)) : ∃ x l', l = x :: l' ∧ opnd n x = some y ∧ opnds n l' = some m := by
  cases l with
  | nil => injection h with h; cases h
  | cons x l =>
    simp only [opnds] at h
    split at h
    · rename_i a r h1 h2
      injection h with h
      injection h with h3 h4
      subst h3; subst h4
      exact ⟨x, l, rfl, h1, h2⟩
    · cases h
theorem opnds_one {l : Array Operand} {y : Opnd} (h : opnds n l.toList = some [y]) : ∃ x, l = #[x] ∧ opnd n x = some y := by
  obtain ⟨x, l', h1, h2, h3⟩ := opnds_cons h
  have := opnds_nil h3
  subst this
  exact ⟨x, Array.ext' h1, h2⟩
theorem opnds_two {l : Array Operand} {y z : Opnd} (h : opnds n l.toList = some [y, z]) : ∃ x x', l = #[x, x'] ∧ opnd n x = some y ∧ opnd n x' = some z := by
  obtain ⟨x, l', h1, h2, h3⟩ := opnds_cons h
  obtain ⟨x', l'', h4, h5, h6⟩ := opnds_cons h3
  have := opnds_nil h6
  subst this; subst h4
  exact ⟨x, x', Array.ext' h1, h2, h5⟩

theorem und_inj {t : TypeId} {d : TypeDesc} (h : und P t = d) (hd : d ≠ .invalid := by nofun) : P.underlying t = some d := und_some h hd

theorem opndO_isSome {x : Option Operand} {y : Option Opnd} (h : opndO n x = some y) : y.isSome = x.isSome := by
  cases x with
  | none => injection h with h; subst h; rfl
  | some x =>
    simp only [opndO] at h
    split at h
    · injection h with h; subst h; rfl
    · cases h
theorem hno_of {mx0 hi0 : Option Operand} {mx hi : Option Opnd} (h1 : opndO n mx0 = some mx) (h2 : opndO n hi0 = some hi) (h : ∀ a, mx = some a → hi = none → False) : mx0.isSome = true → hi0.isSome = true := by
  intro h3
  rw [← opndO_isSome h1] at h3
  rw [← opndO_isSome h2]
  obtain ⟨a, ha⟩ := Option.isSome_iff_exists.1 h3
  cases hh : hi with
  | none => exact (h a ha hh).elim
  | some b => rfl

theorem master_call {cl : Call} {r : Run} (hop : o.op = .call cl) (h : compRun P n o = .mk r) : OpOk P n o r := by
  obtain ⟨ce, args, ats⟩ := cl
  have nd : ∀ c, o.op ≠ .defer c := by rw [hop]; nofun
  unfold compRun at h
  simp only [hop] at h
  cases ce with
  | value f =>
    simp only at h
    split at h
    · rename_i as has
      split at h
      · rename_i g
        injection h with h; subst h
        exact ok_callF hop has
      · split at h
        · rename_i f1 hf1
          injection h with h; subst h
          exact ok_call hop hf1 has
        · injection h with h; subst h; exact bad_op _
    · injection h with h; subst h; exact bad_op _
  | invoke a b => simp only at h; injection h with h; subst h; exact bad_op _
  | builtin b =>
    simp only at h
    split at h
    · injection h with h; subst h; exact bad_op _
    · rename_i as has
      split at h
      · -- append
        rename_i s x
        obtain ⟨s0, x0, rfl, hs0, hx0⟩ := opnds_two has
        split at h
        · rename_i st xt hst hxt
          split at h
          · rename_i e he
            split at h
            · rename_i z es by_ hz hes hby
              split at h
              · injection h with h; subst h; exact bad_op _
              · rename_i hc
                simp only [Bool.and_eq_true, nat_blt, nat_beq, lenL_eq] at hc
                obtain ⟨⟨hc1, hc2⟩, hc3⟩ := hc
                split at h
                · rename_i q hq
                  injection h with h; subst h
                  exact (ok_append (src := .zeros) hop hst hxt (und_inj he) hz hes hby hc1 hc2 hc3 ⟨q, und_inj hq⟩ hs0 hx0).op nd
                · rename_i hq
                  injection h with h; subst h
                  exact (ok_append (src := .str) hop hst hxt (und_inj he) hz hes hby hc1 hc2 hc3 (und_inj hq) hs0 hx0).op nd
                · rename_i q hq
                  injection h with h; subst h
                  exact (ok_append (src := .slice) hop hst hxt (und_inj he) hz hes hby hc1 hc2 hc3 ⟨q, und_inj hq⟩ hs0 hx0).op nd
                · injection h with h; subst h; exact bad_op _
            · injection h with h; subst h; exact bad_op _
          · injection h with h; subst h; exact bad_op _
        · injection h with h; subst h; exact bad_op _
      · -- copy
        rename_i d s
        obtain ⟨d0, s0, rfl, hd0, hs0⟩ := opnds_two has
        split at h
        · rename_i dt hdt
          split at h
          · rename_i e he
            split at h
            · rename_i es hes
              split at h
              · rename_i hc
                rw [nat_blt] at hc
                injection h with h; subst h
                exact (ok_copy hop hdt (und_inj he) hes hc hd0 hs0).op nd
              · injection h with h; subst h; exact bad_op _
            · injection h with h; subst h; exact bad_op _
          · injection h with h; subst h; exact bad_op _
        · injection h with h; subst h; exact bad_op _
      · -- clear
        rename_i x
        obtain ⟨x0, rfl, hx0⟩ := opnds_one has
        split at h
        · rename_i t ht
          split at h
          · rename_i e he
            split at h
            · rename_i z hz
              injection h with h; subst h
              exact (ok_clearSl hop ht (und_inj he) hz hx0).op nd
            · injection h with h; subst h; exact bad_op _
          · rename_i k e he
            injection h with h; subst h
            exact (ok_clearMap hop ht (und_inj he) hx0).op nd
          · injection h with h; subst h; exact bad_op _
        · injection h with h; subst h; exact bad_op _
      · -- len
        rename_i x
        obtain ⟨x0, rfl, hx0⟩ := opnds_one has
        split at h
        · rename_i t ht
          split at h
          · rename_i m e he
            injection h with h; subst h
            exact (ok_lenK hop ht (.inl ⟨e, und_inj he⟩)).op nd
          · rename_i u hu
            split at h
            · rename_i m e he
              injection h with h; subst h
              exact (ok_lenK hop ht (.inr ⟨u, e, und_inj hu, und_inj he⟩)).op nd
            · injection h with h; subst h; exact bad_op _
          · rename_i he
            injection h with h; subst h
            exact (ok_len_str hop ht (und_inj he) hx0).op nd
          · rename_i e he
            injection h with h; subst h
            exact (ok_len_slice hop ht (und_inj he) hx0).op nd
          · rename_i k e he
            injection h with h; subst h
            exact (ok_len_map hop ht (und_inj he) hx0).op nd
          · injection h with h; subst h; exact bad_op _
        · injection h with h; subst h; exact bad_op _
      · -- max
        rename_i x xs
        obtain ⟨x0, l, h1, h2, h3⟩ := opnds_cons has
        injection h with h; subst h
        exact (ok_minmax (mx := true) hop h1 h2 h3).op nd
      · rename_i x xs
        obtain ⟨x0, l, h1, h2, h3⟩ := opnds_cons has
        injection h with h; subst h
        exact (ok_minmax (mx := false) hop h1 h2 h3).op nd
      · rename_i x
        obtain ⟨x0, rfl, hx0⟩ := opnds_one has
        injection h with h; subst h
        exact (ok_re hop hx0).op nd
      · rename_i x
        obtain ⟨x0, rfl, hx0⟩ := opnds_one has
        injection h with h; subst h
        exact (ok_im hop hx0).op nd
      · rename_i x y
        obtain ⟨x0, y0, rfl, hx0, hy0⟩ := opnds_two has
        injection h with h; subst h
        exact (ok_cplx hop hx0 hy0).op nd
      · injection h with h; subst h; exact bad_op _
end CSim
