/-
  Every operation that is compiled does what it should: the other operations.
-/
import Derived.Test.YtkkolfaecabloaaGreatSimMaster
namespace CSim
set_option linter.unusedSimpArgs false
set_option linter.unusedVariables false
open Go
variable {P : Program} {n : Nat} {o : Oper}

theorem master_bin {op : BinOp} {t : TypeId} {x0 y0 : Operand} {t' : TypeId} {r : Run} (hop : o.op = .binOp op t x0 y0 t') (h : compRun P n o = .mk r) : OpOk P n o r := by
  have nd : ∀ c, o.op ≠ .defer c := by rw [hop]; nofun
  unfold compRun at h
  simp only [hop] at h
  split at h
  · rename_i x y hx hy
    split at h
    · rename_i neg hc ht
      split at h
      · rename_i ks g hks hg hgd
        injection h with h; subst h
        exact (ok_eq hop hc ht hks hg hgd hx hy).op nd
      · injection h with h; subst h; exact bad_op _
    · split at h
      · injection h with h; subst h
        exact (ok_shift (left := true) hop rfl hx hy).op nd
      · injection h with h; subst h
        exact (ok_shift (left := false) hop rfl hx hy).op nd
      · injection h with h; subst h
        exact (ok_bin hop hx hy).op nd
  · injection h with h; subst h; exact bad_op _

theorem master_conv {s d : TypeId} {x0 : Operand} {r : Run} (hop : o.op = .convert s d x0) (h : compRun P n o = .mk r) : OpOk P n o r := by
  have nd : ∀ c, o.op ≠ .defer c := by rw [hop]; nofun
  unfold compRun at h
  simp only [hop] at h
  split at h
  · injection h with h; subst h; exact bad_op _
  · rename_i x hx
    split at h
    · rename_i k k' h1 h2
      injection h with h; subst h
      exact (ok_i2i hop (und_inj h1) (und_inj h2) hx).op nd
    · rename_i k k' h1 h2
      injection h with h; subst h
      exact (ok_i2f hop (und_inj h1) (und_inj h2) hx).op nd
    · rename_i k k' h1 h2
      injection h with h; subst h
      exact (ok_f2i hop (und_inj h1) (und_inj h2) hx).op nd
    · rename_i h1 h2
      injection h with h; subst h
      exact (ok_same hop (und_inj h1) (und_inj h2) hx).op nd
    · rename_i e h1 h2
      split at h
      · rename_i h3
        injection h with h; subst h
        exact (ok_s2b hop (und_inj h1) (und_inj h2) (und_inj h3) hx).op nd
      · injection h with h; subst h; exact bad_op _
    · rename_i e h1 h2
      split at h
      · rename_i h3
        injection h with h; subst h
        exact (ok_b2s hop (und_inj h1) (und_inj h2) (und_inj h3) hx).op nd
      · injection h with h; subst h; exact bad_op _
    · rename_i e0 e h1 h2
      split at h
      · rename_i h4 h3
        rw [nat_beq] at h4
        injection h with h; subst h
        exact (ok_shared hop h4 (und_inj h1) (und_inj h2) (und_inj h3) hx).op nd
      · injection h with h; subst h; exact bad_op _
    · injection h with h; subst h; exact bad_op _

theorem master_slice {t : TypeId} {x0 : Operand} {lo0 hi0 mx0 : Option Operand} {r : Run} (hop : o.op = .slice t x0 lo0 hi0 mx0) (h : compRun P n o = .mk r) : OpOk P n o r := by
  have nd : ∀ c, o.op ≠ .defer c := by rw [hop]; nofun
  unfold compRun at h
  simp only [hop] at h
  split at h
  · rename_i x lo hi mx hx hlo hhi hmx
    split at h
    · rename_i ht
      split at h
      · have : mx0 = none := by have := opndO_isSome hmx; simpa using this.symm
        subst this
        injection h with h; subst h
        exact (ok_cutStr hop (und_inj ht) hx hlo hhi).op nd
      · injection h with h; subst h; exact bad_op _
    · rename_i e ht
      split at h
      · injection h with h; subst h; exact bad_op _
      · rename_i s hs hbad
        injection h with h; subst h
        exact (ok_cutSl hop (und_inj ht) hs (hno_of hmx hhi (fun a h1 h2 => hbad a h1 h2)) hx hlo hhi hmx).op nd
      · injection h with h; subst h; exact bad_op _
    · rename_i m e ht
      split at h
      · injection h with h; subst h; exact bad_op _
      · rename_i s hs hbad
        injection h with h; subst h
        exact (ok_cutArr hop (.inl (und_inj ht)) hs (Nat.succ_pos _) (hno_of hmx hhi (fun a h1 h2 => hbad a h1 h2)) hx hlo hhi hmx).op nd
      · injection h with h; subst h; exact bad_op _
    · rename_i a ht
      split at h
      · rename_i m e hta
        split at h
        · injection h with h; subst h; exact bad_op _
        · rename_i s hs hbad
          injection h with h; subst h
          exact (ok_cutArr hop (.inr ⟨a, und_inj ht, und_inj hta⟩) hs (Nat.succ_pos _) (hno_of hmx hhi (fun a h1 h2 => hbad a h1 h2)) hx hlo hhi hmx).op nd
        · injection h with h; subst h; exact bad_op _
      · injection h with h; subst h; exact bad_op _
    · injection h with h; subst h; exact bad_op _
  · injection h with h; subst h; exact bad_op _

theorem compRun_ok {r : Run} (h : compRun P n o = .mk r) : OpOk P n o r := by
  have key : ∀ {r' : Run}, RBox.mk r' = .mk r → OpOk P n o r' → OpOk P n o r := fun h1 h2 => by injection h1 with h1; subst h1; exact h2
  have bad : ∀ {why : String}, RBox.mk (rBad why) = .mk r → OpOk P n o r := fun h1 => key h1 (bad_op _)
  cases hop : o.op with
  | call c => exact master_call hop h
  | binOp op t x y t' => exact master_bin hop h
  | convert s d x => exact master_conv hop h
  | slice t x lo hi mx => exact master_slice hop h
  | move x =>
    unfold compRun at h
    simp only [hop] at h
    split at h
    · rename_i y hy; exact key h ((ok_move (.inl hop) hy).op (by rw [hop]; nofun))
    · exact bad h
  | assign x =>
    unfold compRun at h
    simp only [hop] at h
    split at h
    · rename_i y hy; exact key h ((ok_move (.inr hop) hy).op (by rw [hop]; nofun))
    · exact bad h
  | pick c a b =>
    unfold compRun at h
    simp only [hop] at h
    split at h
    · rename_i c1 a1 b1 h1 h2 h3; exact key h ((ok_pick hop h1 h2 h3).op (by rw [hop]; nofun))
    · exact bad h
  | alloc t =>
    unfold compRun at h
    simp only [hop] at h
    split at h
    · rename_i z hz; exact key h ((ok_alloc hop hz).op (by rw [hop]; nofun))
    · exact bad h
  | box t x =>
    unfold compRun at h
    simp only [hop] at h
    split at h
    · rename_i y hy; exact key h ((ok_box hop hy).op (by rw [hop]; nofun))
    · exact bad h
  | build t ps =>
    unfold compRun at h
    simp only [hop] at h
    split at h
    · rename_i z fs hz hu
      split at h
      · rename_i pl hpl
        split at h
        · rename_i qs hq; exact key h ((ok_buildStruct hop (und_inj hu) hz hpl hq).op (by rw [hop]; nofun))
        · exact bad h
      · exact bad h
    · rename_i z k e hz hu
      split at h
      · rename_i s hs
        split at h
        · rename_i qs hq; exact key h ((ok_buildArray hop (und_inj hu) hz hs hq).op (by rw [hop]; nofun))
        · exact bad h
      · exact bad h
    · exact bad h
  | buildSlice t m ps =>
    unfold compRun at h
    simp only [hop] at h
    split at h
    · rename_i e hu
      split at h
      · rename_i z s hz hs
        split at h
        · rename_i qs hq hc
          simp only [Bool.and_eq_true, nat_blt, nat_beq, nat_ble, lenL_eq] at hc
          obtain ⟨⟨hc1, hc2⟩, hc3⟩ := hc
          exact key h ((ok_buildSlice hop (und_inj hu) hz hs hc2 hc3 hc1 hq).op (by rw [hop]; nofun))
        · exact bad h
      · exact bad h
    · exact bad h
  | load t a =>
    unfold compRun at h
    simp only [hop] at h
    split at h
    · rename_i s y hs hg hy; exact key h ((ok_load hop hg hs rfl hy).op (by rw [hop]; nofun))
    · rename_i s y hs hg hy; exact key h ((ok_load hop hg hs rfl hy).op (by rw [hop]; nofun))
    · exact bad h
  | store t a x =>
    unfold compRun at h
    simp only [hop] at h
    split at h
    · rename_i s y z hs hy hz; exact key h ((ok_store hop hs hy hz).op (by rw [hop]; nofun))
    · exact bad h
  | nilCheck x =>
    unfold compRun at h
    simp only [hop] at h
    split at h
    · rename_i y hy; exact key h ((ok_nilCheck hop hy).op (by rw [hop]; nofun))
    · exact bad h
  | unOp op t x =>
    unfold compRun at h
    simp only [hop] at h
    split at h
    · rename_i y hy
      split at h
      · exact key h ((ok_not hop hy).op (by rw [hop]; nofun))
      · exact key h ((ok_neg hop hy).op (by rw [hop]; nofun))
      · exact key h ((ok_compl hop hy).op (by rw [hop]; nofun))
      · exact bad h
    · exact bad h
  | sliceToArrayPointer t x =>
    unfold compRun at h
    simp only [hop] at h
    split at h
    · rename_i m e y hu hy
      split at h
      · rename_i s hs; exact key h ((ok_s2ap hop (und_inj hu) hy).op (by rw [hop]; nofun))
      · exact bad h
    · exact bad h
  | makeFunc f a b =>
    unfold compRun at h
    simp only [hop] at h
    cases f with
    | func f =>
      simp only at h
      split at h
      · rename_i m h1 h2; exact key h ((ok_makeFunc hop h1 h2).op (by rw [hop]; nofun))
      · exact bad h
    | _ => exact bad h
  | makeMap t r =>
    unfold compRun at h
    simp only [hop] at h
    cases r with
    | none => exact key h ((ok_makeMap hop).op (by rw [hop]; nofun))
    | some r => exact bad h
  | makeSlice t l c =>
    unfold compRun at h
    simp only [hop] at h
    split at h
    · rename_i e hu
      split at h
      · rename_i z s b l1 c1 hz hs hb hl hc
        split at h
        · rename_i hcond
          simp only [Bool.and_eq_true, nat_blt, nat_beq, lenL_eq] at hcond
          obtain ⟨⟨hc1, hc2⟩, hc3⟩ := hcond
          exact key h ((ok_makeSlice hop (und_inj hu) hz hs hb hc1 hc2 hc3 hl hc).op (by rw [hop]; nofun))
        · exact bad h
      · exact bad h
    · exact bad h
  | fieldAddr s x i =>
    unfold compRun at h
    simp only [hop] at h
    split at h
    · rename_i fs y hu hy
      split at h
      · rename_i f hf
        split at h
        · rename_i z hz; exact key h ((ok_fieldAddr hop (und_inj hu) hf hz hy).op (by rw [hop]; nofun))
        · exact bad h
      · exact bad h
    · exact bad h
  | field s x i =>
    unfold compRun at h
    simp only [hop] at h
    split at h
    · rename_i fs y hu hy
      split at h
      · rename_i f hf
        split at h
        · rename_i z hz hg; exact key h ((ok_field hop (und_inj hu) hf hz hg rfl nofun hy).op (by rw [hop]; nofun))
        · rename_i hz hg; exact key h ((ok_field hop (und_inj hu) hf hz hg rfl (fun _ => rfl) hy).op (by rw [hop]; nofun))
        · exact bad h
      · exact bad h
    · exact bad h
  | indexAddr t x i =>
    unfold compRun at h
    simp only [hop] at h
    split at h
    · rename_i y j hy hj
      split at h
      · rename_i m e hu
        split at h
        · rename_i s hs; exact key h ((ok_addrArr hop (und_inj hu) hs hy hj).op (by rw [hop]; nofun))
        · exact bad h
      · rename_i e hu
        split at h
        · rename_i s hs; exact key h ((ok_addrSl hop (und_inj hu) hs hy hj).op (by rw [hop]; nofun))
        · exact bad h
      · exact bad h
    · exact bad h
  | index t x i =>
    unfold compRun at h
    simp only [hop] at h
    split at h
    · rename_i y j hy hj
      split at h
      · rename_i m e hu
        split at h
        · rename_i s hs hg; exact key h ((ok_idxArr hop (und_inj hu) hs hg nofun hy hj).op (by rw [hop]; nofun))
        · rename_i hs hg; exact key h ((ok_idxArr hop (und_inj hu) hs hg (fun _ => rfl) hy hj).op (by rw [hop]; nofun))
        · exact bad h
      · rename_i hu; exact key h ((ok_idxStr hop (und_inj hu) hy hj).op (by rw [hop]; nofun))
      · exact bad h
    · exact bad h
  | lookup t m k ok =>
    unfold compRun at h
    simp only [hop] at h
    split at h
    · rename_i kt e m1 k1 hu hm hk
      split at h
      · rename_i q z hq hz; exact key h ((ok_lookup (ints := true) hop (und_inj hu) (und_inj hq) ⟨_, rfl⟩ hz hm hk).op (by rw [hop]; nofun))
      · rename_i z hq hz; exact key h ((ok_lookup (ints := false) hop (und_inj hu) (und_inj hq) rfl hz hm hk).op (by rw [hop]; nofun))
      · exact bad h
    · exact bad h
  | mapUpdate t m k x =>
    unfold compRun at h
    simp only [hop] at h
    split at h
    · rename_i kt e m1 k1 x1 hu hm hk hx
      split at h
      · rename_i q hq; exact key h ((ok_mapUpdate (ints := true) hop (und_inj hu) (und_inj hq) ⟨_, rfl⟩ hm hk hx).op (by rw [hop]; nofun))
      · rename_i hq; exact key h ((ok_mapUpdate (ints := false) hop (und_inj hu) (und_inj hq) rfl hm hk hx).op (by rw [hop]; nofun))
      · exact bad h
    · exact bad h
  | extract x i =>
    unfold compRun at h
    simp only [hop] at h
    split at h
    · rename_i y hy; exact key h ((ok_extract hop hy).op (by rw [hop]; nofun))
    · exact bad h
  | _ =>
    unfold compRun at h
    simp only [hop] at h
    exact bad h
end CSim
