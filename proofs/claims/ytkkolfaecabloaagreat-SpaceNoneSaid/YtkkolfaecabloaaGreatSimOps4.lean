/-
  Parts of slices; maps; what is made of parts; the least and the greatest; lengths.
-/
import Derived.Test.YtkkolfaecabloaaGreatSimOps3
import Derived.Deep.AppendSrc
import Derived.Deep.Upon
namespace CSim
set_option linter.unusedSimpArgs false
set_option linter.unusedVariables false
open Go
variable {P : Program} {n : Nat} {o : Oper}

/-! ### parts of texts and slices -/
theorem sliceBound_ok {x : V} {v : Value} {y i : Nat} {ρ : Ren} (hx : VRel ρ x v) (h : upto x y = some i) {y' : Nat} (hy : y ≤ y') (code : BoundsCode) (w : World) : (Instr.sliceBound v y' code).run P w = .ok i w := by
  obtain ⟨k, rfl, hle⟩ := upto_ok h
  obtain ⟨k0, rfl, rfl⟩ := hx
  have hb : (0 : Int) ≤ Int.ofNat i ∧ Int.ofNat i ≤ (y' : Int) := by show (0 : Int) ≤ (i : Int) ∧ (i : Int) ≤ y'; omega
  simp only [Instr.sliceBound, asIntOf, Sem.run_bind, Sem.run_pure, Result.andThen_ok, hb, and_self, if_true]
  rfl

theorem cutBounds_ok {e : E} {lo hi mx : Option Opnd} {len cap : Nat} {f : Nat → Nat → Nat → Res} {v : V} {h' : Heap} (hr : cutBounds (evO e) lo hi mx len cap f = .ok v h') :
    ∃ l u m, uptoOr (evO e) mx cap cap = some m ∧ uptoOr (evO e) hi m len = some u ∧ uptoOr (evO e) lo u 0 = some l ∧ f l u m = .ok v h' := by
  unfold cutBounds at hr
  split at hr
  · rename_i m hm
    split at hr
    · rename_i u hu
      split at hr
      · rename_i l hl
        exact ⟨l, u, m, hm, hu, hl, hr⟩
      · cases hr
    · cases hr
  · cases hr

/-- the bounds of a part; 'cap' is a lower bound of the capacity -/
theorem sliceBounds_ok {ρ : Ren} {e : E} {a : Act} (he : ERel ρ n e a.tmps) {lo0 hi0 mx0 : Option Operand} {lo hi mx : Option Opnd} (hlo : opndO n lo0 = some lo) (hhi : opndO n hi0 = some hi) (hmx : opndO n mx0 = some mx)
    (hno : mx0.isSome = true → hi0.isSome = true) {len cap cap' l u m : Nat} (hlen : len ≤ cap) (hcap : cap ≤ cap') (h1 : uptoOr (evO e) mx cap cap = some m) (h2 : uptoOr (evO e) hi m len = some u) (h3 : uptoOr (evO e) lo u 0 = some l) (isSl : Bool) (w : World) :
    (Instr.sliceBounds isSl len cap' (lo0.map a.eval) (hi0.map a.eval) (mx0.map a.eval)).run P w = .ok (l, u, if mx0.isSome then m else cap') w ∧ l ≤ u ∧ u ≤ m ∧ m ≤ cap ∧ (mx.isSome = mx0.isSome) ∧ (mx0.isSome = false → m = cap) := by
  have rlo := opndO_ok hlo he
  have rhi := opndO_ok hhi he
  have rmx := opndO_ok hmx he
  have hle : ∀ {x : Option Opnd} {y d i : Nat}, d ≤ y → uptoOr (evO e) x y d = some i → i ≤ y := by
    intro x y d i hd h
    cases x with
    | none => injection h with h; omega
    | some z => exact (upto_ok h).choose_spec.2
  have lm := hle (Nat.le_refl cap) h1
  cases mx0 with
  | none =>
    cases mx with
    | some z => exact rmx.elim
    | none =>
      injection h1 with h1; subst h1
      have lu := hle (by omega) h2
      have ll := hle (Nat.zero_le _) h3
      refine ⟨?_, ll, lu, Nat.le_refl _, rfl, fun _ => rfl⟩
      cases hi0 with
      | none =>
        cases hi with
        | some z => exact rhi.elim
        | none =>
          injection h2 with h2; subst h2
          cases lo0 with
          | none =>
            cases lo with
            | some z => exact rlo.elim
            | none => injection h3 with h3; subst h3; simp [Instr.sliceBounds]
          | some z0 =>
            cases lo with
            | none => exact rlo.elim
            | some z =>
              have := sliceBound_ok (P := P) rlo h3 (Nat.le_refl _) .sliceB w
              simp [Instr.sliceBounds, this]
      | some y0 =>
        cases hi with
        | none => exact rhi.elim
        | some y =>
          have hb := fun code => sliceBound_ok (P := P) rhi h2 hcap code w
          cases lo0 with
          | none =>
            cases lo with
            | some z => exact rlo.elim
            | none => injection h3 with h3; subst h3; simp [Instr.sliceBounds, hb]
          | some z0 =>
            cases lo with
            | none => exact rlo.elim
            | some z =>
              have := sliceBound_ok (P := P) rlo h3 (Nat.le_refl _) .sliceB w
              simp [Instr.sliceBounds, hb, this]
  | some x0 =>
    cases mx with
    | none => exact rmx.elim
    | some x =>
      have hm := fun code => sliceBound_ok (P := P) rmx h1 hcap code w
      cases hi0 with
      | none => exact absurd (hno rfl) nofun
      | some y0 =>
        cases hi with
        | none => exact rhi.elim
        | some y =>
          have lu : u ≤ m := (upto_ok h2).choose_spec.2
          have ll := hle (Nat.zero_le _) h3
          have hb := fun code => sliceBound_ok (P := P) rhi h2 (Nat.le_refl _) code w
          refine ⟨?_, ll, lu, lm, rfl, nofun⟩
          cases lo0 with
          | none =>
            cases lo with
            | some z => exact rlo.elim
            | none => injection h3 with h3; subst h3; simp [Instr.sliceBounds, hm, hb]
          | some z0 =>
            cases lo with
            | none => exact rlo.elim
            | some z =>
              have := fun code => sliceBound_ok (P := P) rlo h3 (Nat.le_refl _) code w
              simp [Instr.sliceBounds, hm, hb, this]

theorem ok_cutStr {t : TypeId} {x0 : Operand} {x : Opnd} {lo0 hi0 : Option Operand} {lo hi : Option Opnd} (ho : o.op = .slice t x0 lo0 hi0 none) (ht : P.underlying t = some .string) (hx : opnd n x0 = some x)
    (hlo : opndO n lo0 = some lo) (hhi : opndO n hi0 = some hi) : ValOk P n o (rCutStr x lo hi) := by
  intro c e h v h' hr ρ w a he hh _
  obtain ⟨q, hu, hr⟩ := asOth_ok hr no_ne
  have hxr := opnd_ok hx he
  rw [hu] at hxr
  cases q with
  | str s =>
    obtain ⟨b, e1, hb⟩ := id hxr
    simp only [fNat_eq, lenL_eq] at hr
    have hlen : s.length = b.size := by rw [hb, List.length_map, Array.length_toList]; rfl
    obtain ⟨l, u, m, h1, h2, h3, hr⟩ := cutBounds_ok hr
    obtain ⟨k1, k2, k3, k4, _, k6⟩ := sliceBounds_ok (P := P) he hlo hhi (mx0 := none) (mx := none) rfl nofun (Nat.le_refl s.length) (Nat.le_refl _) h1 h2 h3 false w
    rw [takeN_eq, dropN_eq] at hr
    split at hr
    · rename_i r hr0
      split at hr0
      · injection hr0 with hr0; subst hr0
        injection hr with h4 h5; subst h4; subst h5
        refine ⟨.value (.string (b.extract l u)), _, w, ?_, .inl rfl, Out.same hh ⟨b.extract l u, rfl, ?_⟩⟩
        · rw [hlen] at k1
          simp only [execOp, ho, e1, Instr.sliceAt, Instr.slice, Sem.run_bind, run_underlying ht, Result.andThen_ok, Option.map_none, Option.isSome_none, Bool.false_eq_true, if_false, Sem.run_pure]
          simp only [Option.map_none] at k1
          rw [k1]
          rfl
        · rw [hb]
          have : (b.extract l u).data = b.data.extract l u := by simp [ByteArray.data_extract]
          rw [this, Array.toList_extract, List.extract, List.map_take, List.map_drop]
          rfl
      · cases hr0
    · cases hr
  | _ => cases hr

theorem ok_cutSl {t e' : TypeId} {s : Nat} {x0 : Operand} {x : Opnd} {lo0 hi0 mx0 : Option Operand} {lo hi mx : Option Opnd} (ho : o.op = .slice t x0 lo0 hi0 mx0) (ht : P.underlying t = some (.slice e')) (hs : sizeT P e' = some s)
    (hno : mx0.isSome = true → hi0.isSome = true) (hx : opnd n x0 = some x) (hlo : opndO n lo0 = some lo) (hhi : opndO n hi0 = some hi) (hmx : opndO n mx0 = some mx) : ValOk P n o (rCutSl s x lo hi mx) := by
  intro c e h v h' hr ρ w a he hh _
  obtain ⟨q, hu, hr⟩ := asOth_ok hr no_ne
  have hxr := opnd_ok hx he
  rw [hu] at hxr
  cases q with
  | nilslice =>
    have e1 : a.eval x0 = .slice none 0 0 := hxr
    obtain ⟨l, u, m, h1, h2, h3, hr⟩ := cutBounds_ok hr
    injection hr with h4 h5; subst h4; subst h5
    obtain ⟨k1, k2, k3, k4, _, k6⟩ := sliceBounds_ok (P := P) he hlo hhi hmx hno (Nat.le_refl 0) (Nat.le_refl 0) h1 h2 h3 true w
    have hm : m = 0 := by omega
    have hu0 : u = 0 := by omega
    have hl : l = 0 := by omega
    subst hm; subst hu0; subst hl
    refine ⟨.value (.slice none 0 0), _, w, ?_, .inl rfl, Out.same hh rfl⟩
    have k1' : (Instr.sliceBounds true 0 0 (lo0.map a.eval) (hi0.map a.eval) (mx0.map a.eval)).run P w = .ok (0, 0, 0) w := by rw [k1]; simp
    simp only [execOp, ho, e1, Instr.sliceAt, Instr.slice, Sem.run_bind, run_underlying ht, Result.andThen_ok, k1', run_sizeT hs, Sem.run_pure]
    rfl
  | slice b off len cap es ex =>
    obtain ⟨p, co, cap', hp, e1, j1, j2, j3, j4, j5⟩ := slice_rel hxr
    simp only at hr
    split at hr
    · cases hr
    · rename_i hes
      rw [nat_beq] at hes
      subst hes
      obtain ⟨l, u, m, h1, h2, h3, hr⟩ := cutBounds_ok hr
      obtain ⟨k1, k2, k3, k4, k5, k6⟩ := sliceBounds_ok (P := P) he hlo hhi hmx hno j1 j2 h1 h2 h3 true w
      -- the new capacity
      obtain ⟨m', hm', hle', hge'⟩ : ∃ m', (if mx0.isSome then m else cap') = m' ∧ m ≤ m' ∧ m' ≤ cap' := by
        refine ⟨_, rfl, ?_, ?_⟩ <;> split <;> omega
      rw [hm'] at k1
      have hexact : (ex || mx.isSome) = true → m' = m := fun hex => by
        rw [k5] at hex
        rw [← hm']
        split
        · rfl
        · rename_i hms
          have hms' : mx0.isSome = false := by simpa using hms
          rw [hms', Bool.or_false] at hex
          rw [j3 hex, k6 hms']
      have hcut : ∃ off', v = .s (.oth (.slice b off' (u - l) (m - l) s (ex || mx.isSome))) ∧ h' = h ∧ (l < m' → off' = off + l * s) := by
        unfold cut at hr
        split at hr
        · rename_i hb
          simp only [Bool.and_eq_true, nat_beq] at hb
          rw [fSlice_eq] at hr
          injection hr with h4 h5
          exact ⟨off, h4.symm, h5.symm, fun hlt => by have := hexact hb.1; omega⟩
        · rw [fSlice_eq] at hr
          injection hr with h4 h5
          exact ⟨_, h4.symm, h5.symm, fun _ => rfl⟩
      obtain ⟨off', rfl, rfl, hoff⟩ := hcut
      refine ⟨.value (.slice (some ⟨p.blk, if m' = l then co else co + l * s, none⟩) (u - l) (m' - l)), _, w, ?_, .inl rfl, Out.same hh ⟨p, _, m' - l, hp, rfl, by omega, by omega, fun hex => by rw [hexact hex], j4, fun hpos => ?_⟩⟩
      · simp only [execOp, ho, e1, Instr.sliceAt, Instr.slice, Sem.run_bind, run_underlying ht, Result.andThen_ok, k1, run_sizeT hs, Sem.run_pure]
        by_cases hml : m' = l
        · simp [hml]
        · simp [hml, addr_add]
      · have hlt : l < m' := by omega
        obtain ⟨q1, q2⟩ := j5 (by omega)
        rw [if_neg (by omega), hoff hlt, q1]
        refine ⟨by omega, ?_⟩
        have : l * s + (m' - l) * s = m' * s := by rw [← Nat.add_mul]; congr 1; omega
        have h7 : m' * s ≤ cap' * s := Nat.mul_le_mul_right _ hge'
        rw [q1] at q2
        omega
  | _ => cases hr

theorem ok_cutArr {t e' : TypeId} {k s : Nat} {x0 : Operand} {x : Opnd} {lo0 hi0 mx0 : Option Operand} {lo hi mx : Option Opnd} (ho : o.op = .slice t x0 lo0 hi0 mx0)
    (ht : P.underlying t = some (.array k e') ∨ ∃ u, P.underlying t = some (.pointer u) ∧ P.underlying u = some (.array k e')) (hs : sizeT P e' = some s) (hpos : 0 < s)
    (hno : mx0.isSome = true → hi0.isSome = true) (hx : opnd n x0 = some x) (hlo : opndO n lo0 = some lo) (hhi : opndO n hi0 = some hi) (hmx : opndO n mx0 = some mx) : ValOk P n o (rCutArr k s x lo hi mx) := by
  intro c e h v h' hr ρ w a he hh _
  obtain ⟨b, off, hu, hr⟩ := asPtr_ok hr no_ne
  have hxr := opnd_ok hx he
  rw [hu] at hxr
  obtain ⟨p, hp, e1⟩ := ptr_rel hxr
  split at hr
  · rename_i rd hrd
    obtain ⟨_, _, _, _, _, _, _, _, _, hsz⟩ := hh.read hp hrd
    obtain ⟨l, u, m, h1, h2, h3, hr⟩ := cutBounds_ok hr
    obtain ⟨k1, k2, k3, k4, k5, k6⟩ := sliceBounds_ok (P := P) he hlo hhi hmx hno (Nat.le_refl k) (Nat.le_refl k) h1 h2 h3 false w
    have hm : (if mx0.isSome then m else k) = m := by
      split
      · rfl
      · rename_i hms; exact (k6 (by simpa using hms)).symm
    rw [hm] at k1
    have hcut : ∃ off', v = .s (.oth (.slice b off' (u - l) (m - l) s true)) ∧ h' = h ∧ off' = if m = l then off else off + l * s := by
      unfold cut at hr
      split at hr
      · rename_i hb
        simp only [Bool.true_and, nat_beq] at hb
        rw [fSlice_eq] at hr
        injection hr with h4 h5
        exact ⟨off, h4.symm, h5.symm, by rw [if_pos hb]⟩
      · rename_i hb
        simp only [Bool.true_and, nat_beq_false] at hb
        rw [fSlice_eq] at hr
        injection hr with h4 h5
        exact ⟨_, h4.symm, h5.symm, by rw [if_neg hb]; rfl⟩
    obtain ⟨off', rfl, rfl, rfl⟩ := hcut
    refine ⟨.value (.slice (some ⟨p.blk, p.sh + (if m = l then off else off + l * s), none⟩) (u - l) (m - l)), _, w, ?_, .inl rfl, Out.same hh ⟨p, _, m - l, hp, rfl, by omega, Nat.le_refl _, fun _ => rfl, hpos, fun hp0 => ⟨rfl, ?_⟩⟩⟩
    · rcases ht with ht | ⟨ut, ht, hut⟩
      · simp only [execOp, ho, e1, Instr.sliceAt, Sem.run_bind, run_underlying ht, Result.andThen_ok, Instr.sureAddr, Sem.run_pure, k1, run_sizeT hs]
        by_cases hml : m = l
        · simp [hml]
        · simp [hml, addr_add, Nat.add_assoc]
      · simp only [execOp, ho, e1, Instr.sliceAt, Instr.slice, Sem.run_bind, run_underlying ht, run_underlying hut, Result.andThen_ok, asAddr, Sem.run_pure, k1, run_sizeT hs]
        by_cases hml : m = l
        · simp [hml]
        · simp [hml, addr_add, Nat.add_assoc]
    · have hk : 0 < k * s := Nat.mul_pos (by omega) hpos
      have := hsz hk
      rw [nmul] at this
      rw [if_neg (by omega)]
      have h7 : l * s + (m - l) * s = m * s := by rw [← Nat.add_mul]; congr 1; omega
      have h8 : m * s ≤ k * s := Nat.mul_le_mul_right _ k4
      omega
  · cases hr
end CSim
