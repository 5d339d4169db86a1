/-
  Maps; what is made of parts; the least and the greatest; lengths; clearing.
-/
import Derived.Test.YtkkolfaecabloaaGreatSimOps4
import Derived.MapKept
namespace CSim
set_option linter.unusedSimpArgs false
set_option linter.unusedVariables false
open Go
variable {P : Program} {n : Nat} {o : Oper}

/-! ### parts of complex numbers; the least and the greatest; lengths -/
theorem ok_re {ats : Array TypeId} {x0 : Operand} {x : Opnd} (ho : o.op = .call ⟨.builtin .real, #[x0], ats⟩) (hx : opnd n x0 = some x) : ValOk P n o (rRe x) := by
  intro c e h v h' hr ρ w a he hh _
  obtain ⟨q, hu, hr⟩ := asOth_ok hr no_ne
  have hxr := opnd_ok hx he
  rw [hu] at hxr
  cases q with
  | complex k p q =>
    injection hr with h1 h2; subst h1; subst h2
    obtain ⟨k0, rfl, e1⟩ := hxr
    exact ⟨.value (.float k0 p), _, w, by
      simp only [execOp, ho, resolve, Sem.run_bind, Sem.run_pure, Result.andThen_ok, invoke, builtin, List.map_toArray, List.map_cons, List.map_nil, e1]
      rfl, .inl rfl, Out.same hh ⟨k0, rfl, rfl⟩⟩
  | _ => cases hr
theorem ok_im {ats : Array TypeId} {x0 : Operand} {x : Opnd} (ho : o.op = .call ⟨.builtin .imag, #[x0], ats⟩) (hx : opnd n x0 = some x) : ValOk P n o (rIm x) := by
  intro c e h v h' hr ρ w a he hh _
  obtain ⟨q, hu, hr⟩ := asOth_ok hr no_ne
  have hxr := opnd_ok hx he
  rw [hu] at hxr
  cases q with
  | complex k p q =>
    injection hr with h1 h2; subst h1; subst h2
    obtain ⟨k0, rfl, e1⟩ := hxr
    exact ⟨.value (.float k0 q), _, w, by
      simp only [execOp, ho, resolve, Sem.run_bind, Sem.run_pure, Result.andThen_ok, invoke, builtin, List.map_toArray, List.map_cons, List.map_nil, e1]
      rfl, .inl rfl, Out.same hh ⟨k0, rfl, rfl⟩⟩
  | _ => cases hr
theorem ok_cplx {ats : Array TypeId} {x0 y0 : Operand} {x y : Opnd} (ho : o.op = .call ⟨.builtin .complex, #[x0, y0], ats⟩) (hx : opnd n x0 = some x) (hy : opnd n y0 = some y) : ValOk P n o (rCplx x y) := by
  intro c e h v h' hr ρ w a he hh _
  obtain ⟨q, hu, hr⟩ := asOth_ok hr no_ne
  obtain ⟨q', hu', hr⟩ := asOth_ok hr no_ne
  have hxr := opnd_ok hx he
  have hyr := opnd_ok hy he
  rw [hu] at hxr
  rw [hu'] at hyr
  cases q with
  | float k p =>
    cases q' with
    | float k' p' =>
      simp only at hr
      split at hr
      · rename_i hk
        injection hr with h1 h2; subst h1; subst h2
        obtain ⟨k0, rfl, e1⟩ := hxr
        obtain ⟨k1, rfl, e2⟩ := hyr
        have := beq_f hk; subst this
        exact ⟨.value (.complex k0 p p'), _, w, by
          simp only [execOp, ho, resolve, Sem.run_bind, Sem.run_pure, Result.andThen_ok, invoke, builtin, List.map_toArray, List.map_cons, List.map_nil, e1, e2]
          show ((Sem.run P (if k0 = k0 then pure (Value.complex k0 p p') else stuck "complex: parts of different kinds") w).andThen _) = _
          rw [if_pos rfl]
          rfl, .inl rfl, Out.same hh ⟨k0, rfl, rfl⟩⟩
      · cases hr
    | _ => cases hr
  | _ => cases hr

theorem maxF_ok {mx : Bool} {k : FloatKind} {a b : Nat} {z : AV} (h : maxF mx (fOf k) a b = some z) (w : World) :
    ∃ cv, ((match mx with | true => Builtin.max2 | false => Builtin.min2) (.float k a) (.float k b)).run P w = .ok cv w ∧ ∀ ρ, CRel ρ z cv := by
  unfold maxF at h
  rw [fk_fOf] at h
  cases ho : k.format.order a b with
  | none => rw [ho] at h; cases h
  | some r =>
    rw [ho] at h
    cases r with
    | lt =>
      cases mx with
      | true => injection h with h; subst h; exact ⟨.float k b, by simp [Builtin.max2, ho], fun _ => ⟨k, rfl, rfl⟩⟩
      | false => injection h with h; subst h; exact ⟨.float k a, by simp [Builtin.min2, ho], fun _ => ⟨k, rfl, rfl⟩⟩
    | gt =>
      cases mx with
      | true => injection h with h; subst h; exact ⟨.float k a, by simp [Builtin.max2, ho], fun _ => ⟨k, rfl, rfl⟩⟩
      | false => injection h with h; subst h; exact ⟨.float k b, by simp [Builtin.min2, ho], fun _ => ⟨k, rfl, rfl⟩⟩
    | eq =>
      simp only at h
      cases hn : (k.decode a).neg with
      | true =>
        rw [hn] at h
        cases mx with
        | true => injection h with h; subst h; exact ⟨.float k b, by simp [Builtin.max2, ho, hn], fun _ => ⟨k, rfl, rfl⟩⟩
        | false => injection h with h; subst h; exact ⟨.float k a, by simp [Builtin.min2, ho, hn], fun _ => ⟨k, rfl, rfl⟩⟩
      | false =>
        rw [hn] at h
        cases mx with
        | true => injection h with h; subst h; exact ⟨.float k a, by simp [Builtin.max2, ho, hn], fun _ => ⟨k, rfl, rfl⟩⟩
        | false => injection h with h; subst h; exact ⟨.float k b, by simp [Builtin.min2, ho, hn], fun _ => ⟨k, rfl, rfl⟩⟩

theorem maxI_le {mx : Bool} {a b lo hi lo' hi' : Int} (h1 : lo ≤ a) (h2 : a ≤ hi) (h3 : lo' ≤ b) (h4 : b ≤ hi') : maxI mx lo lo' ≤ maxI mx a b ∧ maxI mx a b ≤ maxI mx hi hi' := by
  cases mx <;> simp only [maxI, bltI_eq] <;> constructor <;> split <;> rename_i h5 <;> simp only [decide_eq_true_eq, decide_eq_false_iff_not] at h5 <;> split <;> rename_i h6 <;> simp only [decide_eq_true_eq, decide_eq_false_iff_not] at h6 <;> omega
theorem rngMax_ok {mx : Bool} {k : IntKind} {a b lo hi lo' hi' : Int} {z : AV} (h : rngMax mx (kOf k) lo hi lo' hi' = some z) (h1 : lo ≤ a) (h2 : a ≤ hi) (h3 : lo' ≤ b) (h4 : b ≤ hi') (w : World) :
    ∃ cv, ((match mx with | true => Builtin.max2 | false => Builtin.min2) (.int k a) (.int k b)).run P w = .ok cv w ∧ ∀ ρ, CRel ρ z cv := by
  unfold rngMax at h
  rw [fInt_eq, fInt_eq] at h
  injection h with h; subst h
  obtain ⟨g1, g2⟩ := maxI_le (mx := mx) h1 h2 h3 h4
  refine ⟨.int k (maxI mx a b), ?_, fun _ => ⟨k, _, rfl, rfl, g1, g2⟩⟩
  cases mx with
  | true =>
    simp only [maxI, bltI_eq]
    by_cases hb : a < b
    · rw [decide_eq_true hb]; simp [Builtin.max2, hb]
    · rw [decide_eq_false hb]; simp [Builtin.max2, hb]
  | false =>
    simp only [maxI, bltI_eq]
    by_cases hb : b < a
    · rw [decide_eq_true hb]; simp [Builtin.min2, hb]
    · rw [decide_eq_false hb]; simp [Builtin.min2, hb]

theorem max2A_ok {mx : Bool} {x y z : AV} {ρ : Ren} {cx cy : Value} (hx : CRel ρ x cx) (hy : CRel ρ y cy) (h : max2A mx x y = some z) (w : World) :
    ∃ cv, ((match mx with | true => Builtin.max2 | false => Builtin.min2) cx cy).run P w = .ok cv w ∧ ∀ ρ, CRel ρ z cv := by
  cases x with
  | int k a =>
    obtain ⟨k0, rfl, rfl⟩ := hx
    cases y with
    | int k' b =>
      obtain ⟨k1, rfl, rfl⟩ := hy
      simp only [max2A] at h
      split at h
      · rename_i hk
        have := beq_k hk; subst this
        cases mx with
        | true =>
          simp only [bltI_eq] at h
          by_cases hb : a < b
          · rw [decide_eq_true hb] at h; injection h with h; subst h
            exact ⟨.int k0 b, by simp [Builtin.max2, hb], fun _ => ⟨k0, rfl, rfl⟩⟩
          · rw [decide_eq_false hb] at h; injection h with h; subst h
            exact ⟨.int k0 a, by simp [Builtin.max2, hb], fun _ => ⟨k0, rfl, rfl⟩⟩
        | false =>
          simp only [bltI_eq] at h
          by_cases hb : b < a
          · rw [decide_eq_true hb] at h; injection h with h; subst h
            exact ⟨.int k0 b, by simp [Builtin.min2, hb], fun _ => ⟨k0, rfl, rfl⟩⟩
          · rw [decide_eq_false hb] at h; injection h with h; subst h
            exact ⟨.int k0 a, by simp [Builtin.min2, hb], fun _ => ⟨k0, rfl, rfl⟩⟩
      · cases h
    | oth y =>
      simp only [max2A] at h
      obtain ⟨lo, hi, b, h1, rfl, h2, h3⟩ := rngOf_ok h hy
      exact rngMax_ok h1 (Int.le_refl a) (Int.le_refl a) h2 h3 w
    | _ => cases h
  | oth x =>
    simp only [max2A] at h
    cases x with
    | rng k lo hi =>
      obtain ⟨k0, a, rfl, rfl, h1, h2⟩ := hx
      simp only [max2X] at h
      cases y with
      | int k' b =>
        obtain ⟨k1, rfl, rfl⟩ := hy
        simp only at h
        split at h
        · rename_i hk
          have := beq_k hk; subst this
          exact rngMax_ok h h1 h2 (Int.le_refl b) (Int.le_refl b) w
        · cases h
      | oth y =>
        simp only at h
        obtain ⟨lo', hi', b, h3, rfl, h4, h5⟩ := rngOf_ok h hy
        exact rngMax_ok h3 h1 h2 h4 h5 w
      | _ => cases h
    | float k a =>
      obtain ⟨k0, rfl, rfl⟩ := hx
      cases y with
      | oth y =>
        cases y with
        | float k' b =>
          obtain ⟨k1, rfl, rfl⟩ := hy
          simp only [max2X] at h
          split at h
          · rename_i hk
            have := beq_f hk; subst this
            exact maxF_ok h w
          · cases h
        | _ => cases h
      | _ => cases h
    | _ => cases h
  | _ => cases h

theorem foldA_ok {mx : Bool} {ρ : Ren} {e : E} {a : Act} (he : ERel ρ n e a.tmps) (w : World) : ∀ {l : List Operand} {m : List Opnd} {x z : AV} {cx : Value}, opnds n l = some m → CRel ρ x cx → foldA mx (evO e) x m = some z →
    ∃ cv, ((l.map a.eval).foldlM (match mx with | true => Builtin.max2 | false => Builtin.min2) cx).run P w = .ok cv w ∧ CRel ρ z cv
  | [], m, x, z, cx, h, hx, hz => by injection h with h; subst h; injection hz with hz; subst hz; exact ⟨cx, by simp, hx⟩
  | y0 :: l, m, x, z, cx, h, hx, hz => by
    simp only [opnds] at h
    split at h
    · rename_i y r h1 h2
      injection h with h; subst h
      obtain ⟨u, hu, hz⟩ := sc_ok hz none_ne
      have hyr := opnd_ok h1 he
      rw [hu] at hyr
      split at hz
      · rename_i q hq
        obtain ⟨cv, h3, h4⟩ := max2A_ok (P := P) hx hyr hq w
        obtain ⟨cv', h5, h6⟩ := foldA_ok he w h2 (h4 ρ) hz
        refine ⟨cv', ?_, h6⟩
        rw [List.map_cons, List.foldlM_cons, Sem.run_bind, h3, Result.andThen_ok, h5]
      · cases hz
    · cases h

theorem ok_minmax {mx : Bool} {ats : Array TypeId} {args : Array Operand} {x0 : Operand} {l : List Operand} {x : Opnd} {m : List Opnd} (ho : o.op = .call ⟨.builtin (match mx with | true => .max | false => .min), args, ats⟩) (hargs : args.toList = x0 :: l)
    (hx : opnd n x0 = some x) (hm : opnds n l = some m) : ValOk P n o (rMinmax mx x m) := by
  intro c e h v h' hr ρ w a he hh _
  obtain ⟨u, hu, hr⟩ := sc_ok hr no_ne
  obtain ⟨z, hz, rfl, rfl⟩ := rv_ok hr
  have hxr := opnd_ok hx he
  rw [hu] at hxr
  obtain ⟨cv, h1, h2⟩ := foldA_ok (P := P) he w hm hxr hz
  refine ⟨.value cv, cv, w, ?_, .inl rfl, Out.same hh h2⟩
  have hl : (args.map a.eval).toList = a.eval x0 :: l.map a.eval := by rw [Array.toList_map, hargs]; rfl
  cases mx with
  | true => simp only [execOp, ho, resolve, Sem.run_bind, Sem.run_pure, Result.andThen_ok, invoke, builtin, Builtin.max_, hl, h1]
  | false => simp only [execOp, ho, resolve, Sem.run_bind, Sem.run_pure, Result.andThen_ok, invoke, builtin, Builtin.min_, hl, h1]

theorem ok_lenK {x0 : Operand} {t : TypeId} {ats : Array TypeId} {k : Nat} (ho : o.op = .call ⟨.builtin .len, #[x0], ats⟩) (hat : ats[0]? = some t)
    (ht : (∃ e, P.underlying t = some (.array k e)) ∨ ∃ u e, P.underlying t = some (.pointer u) ∧ P.underlying u = some (.array k e)) : ValOk P n o (rLenK k) := by
  intro c e h v h' hr ρ w a he hh _
  injection hr with h1 h2; subst h1; subst h2
  refine ⟨.value (goInt k), _, w, ?_, .inl rfl, Out.same hh ⟨.i64, rfl, rfl⟩⟩
  rcases ht with ⟨e1, ht⟩ | ⟨u, e1, ht, hu⟩
  · simp [execOp, ho, resolve, invoke, builtin, Builtin.len_, hat, run_underlying ht]
  · simp [execOp, ho, resolve, invoke, builtin, Builtin.len_, hat, run_underlying ht, run_underlying hu]

theorem ok_len_str {x0 : Operand} {x : Opnd} {t : TypeId} {ats : Array TypeId} (ho : o.op = .call ⟨.builtin .len, #[x0], ats⟩) (hat : ats[0]? = some t) (ht : P.underlying t = some .string) (hx : opnd n x0 = some x) : ValOk P n o (rLen .str x) := by
  intro c e h v h' hr ρ w a he hh _
  obtain ⟨q, hu, hr⟩ := asOth_ok hr no_ne
  have hxr := opnd_ok hx he
  rw [hu] at hxr
  cases q with
  | str s =>
    obtain ⟨b, e1, hb⟩ := id hxr
    simp only [fNat_eq, lenL_eq] at hr
    injection hr with h1 h2; subst h1; subst h2
    have hlen : s.length = b.size := by rw [hb, List.length_map, Array.length_toList]; rfl
    exact ⟨.value (goInt b.size), _, w, by simp [execOp, ho, resolve, invoke, builtin, Builtin.len_, hat, run_underlying ht, e1], .inl rfl, Out.same hh ⟨.i64, rfl, by rw [hlen]; rfl⟩⟩
  | _ => cases hr
theorem ok_len_slice {x0 : Operand} {x : Opnd} {t e' : TypeId} {ats : Array TypeId} (ho : o.op = .call ⟨.builtin .len, #[x0], ats⟩) (hat : ats[0]? = some t) (ht : P.underlying t = some (.slice e')) (hx : opnd n x0 = some x) : ValOk P n o (rLen .slice x) := by
  intro c e h v h' hr ρ w a he hh _
  obtain ⟨q, hu, hr⟩ := asOth_ok hr no_ne
  have hxr := opnd_ok hx he
  rw [hu] at hxr
  cases q with
  | nilslice =>
    have e1 : a.eval x0 = .slice none 0 0 := hxr
    injection hr with h1 h2; subst h1; subst h2
    exact ⟨.value (goInt 0), _, w, by simp [execOp, ho, resolve, invoke, builtin, Builtin.len_, hat, run_underlying ht, e1], .inl rfl, Out.same hh ⟨.i64, rfl, rfl⟩⟩
  | slice b off len cap es ex =>
    obtain ⟨p, co, cap', hp, e1, _⟩ := slice_rel hxr
    injection hr with h1 h2; subst h1; subst h2
    exact ⟨.value (goInt len), _, w, by simp [execOp, ho, resolve, invoke, builtin, Builtin.len_, hat, run_underlying ht, e1], .inl rfl, Out.same hh ⟨.i64, rfl, rfl⟩⟩
  | _ => cases hr
theorem map_rel {ρ : Ren} {h : Heap} {w : World} (hh : HRel ρ h w) {b : Nat} {p : Plc} (hp : ρ b = some p) {es : List (AV × V)} (hg : h.get b = some (.map es)) :
    ∃ (l : Array MapEntry) (clock : Nat), w.heap[p.blk]? = some (.map l clock) ∧ All2 (fun (x : AV × V) (e : MapEntry) => CRel ρ x.1 e.key ∧ VRel ρ x.2 e.val) es l.toList ∧ MapKept.Stamped l clock := by
  obtain ⟨x, hx, l, clock, rfl, h2⟩ := hh.obj b _ p hg hp
  exact ⟨l, clock, hx, h2⟩
theorem ok_len_map {x0 : Operand} {x : Opnd} {t kt et : TypeId} {ats : Array TypeId} (ho : o.op = .call ⟨.builtin .len, #[x0], ats⟩) (hat : ats[0]? = some t) (ht : P.underlying t = some (.map kt et)) (hx : opnd n x0 = some x) : ValOk P n o (rLen .map x) := by
  intro c e h v h' hr ρ w a he hh _
  obtain ⟨q, hu, hr⟩ := asOth_ok hr no_ne
  have hxr := opnd_ok hx he
  rw [hu] at hxr
  cases q with
  | nilmap =>
    have e1 : a.eval x0 = .map none := hxr
    injection hr with h1 h2; subst h1; subst h2
    exact ⟨.value (goInt 0), _, w, by simp [execOp, ho, resolve, invoke, builtin, Builtin.len_, hat, run_underlying ht, e1], .inl rfl, Out.same hh ⟨.i64, rfl, rfl⟩⟩
  | map b =>
    obtain ⟨p, hp, e1⟩ := id hxr
    simp only at hr
    split at hr
    · rename_i es hg
      obtain ⟨l, clock, hx', h2, _⟩ := map_rel hh hp hg
      simp only [fNat_eq, lenL_eq] at hr
      injection hr with h3 h4; subst h3; subst h4
      refine ⟨.value (goInt l.size), _, w, ?_, .inl rfl, Out.same hh ⟨.i64, rfl, by rw [h2.length]; rfl⟩⟩
      simp [execOp, ho, resolve, invoke, builtin, Builtin.len_, hat, run_underlying ht, e1, MapKept.run_getObj_map hx']
    · cases hr
  | _ => cases hr
end CSim
