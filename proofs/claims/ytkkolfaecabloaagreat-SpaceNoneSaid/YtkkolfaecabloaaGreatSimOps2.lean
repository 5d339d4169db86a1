/-
  The operations on values, one by one.
-/
import Derived.Test.YtkkolfaecabloaaGreatSimEq
namespace CSim
set_option linter.unusedSimpArgs false
set_option linter.unusedVariables false
open Go
variable {P : Program} {n : Nat} {o : Oper}

theorem cellsK_ok {g : Bool} {v : V} {l : List AV} (h : cellsK g v = some l) : cellsOf v = some l ∧ ∀ {ρ : Ren} {cv : Value}, VRel ρ v cv → (g = true ↔ ∃ cs, cv = .agg cs) := by
  cases v with
  | s a =>
    simp only [cellsK] at h
    split at h
    · cases h
    · split at h
      · cases h
      · rename_i hany
        refine ⟨by simp only [cellsOf, hany]; exact h, fun {ρ cv} hv => ⟨fun e => (nomatch e), fun ⟨cs, e⟩ => ?_⟩⟩
        have := oneCell_of (show CRel ρ a cv from hv) hany
        subst e; cases this
  | agg m =>
    simp only [cellsK] at h
    split at h
    · refine ⟨h, fun {ρ cv} hv => ⟨fun _ => ?_, fun _ => rfl⟩⟩
      obtain ⟨cs, rfl, _⟩ := hv
      exact ⟨cs, rfl⟩
    · cases h
  | tup m => cases h

theorem eqGuard_ok {op : BinOp} {t : TypeId} {x y : Operand} {a b : Value} {w : World} (hg : P.eqGuardType P.depth t = false) (ha : a ≠ .nilIface) : (eqGuard op t x y a b).run P w = .ok () w := by
  cases a <;> cases b <;> first | exact absurd rfl ha | (cases op <;> simp [eqGuard, hg])

theorem not_nilIface {ρ : Ren} {v : V} {cv : Value} {l : List AV} (h : VRel ρ v cv) (hl : cellsOf v = some l) : cv ≠ .nilIface := by
  cases v with
  | s a =>
    rintro rfl
    have h' : CRel ρ a .nilIface := h
    cases a with
    | int => obtain ⟨_, _, e⟩ := h'; cases e
    | bool => cases h'
    | ptr => obtain ⟨_, _, e⟩ := h'; cases e
    | oth x =>
      cases x with
      | any => cases hl
      | one => exact absurd rfl h'.2
      | rng => obtain ⟨_, _, _, e, _⟩ := h'; cases e
      | float => obtain ⟨_, _, e⟩ := h'; cases e
      | complex => obtain ⟨_, _, e⟩ := h'; cases e
      | str => obtain ⟨_, e, _⟩ := h'; cases e
      | slice => obtain ⟨_, _, _, _, e, _⟩ := h'; cases e
      | map => obtain ⟨_, _, e⟩ := h'; cases e
      | func => obtain ⟨_, e, _⟩ := h'; cases e
      | yield => obtain ⟨_, _, e⟩ := h'; cases e
      | _ => cases h'
  | agg m => obtain ⟨_, rfl, _⟩ := h; exact nofun
  | tup m => cases hl

/-- at a type that is compared so two numbers or texts are not compared at all -/
theorem equal_not {t : TypeId} (het : eqType P t = true) {vx vy : Value} {r : Bool} {w : World} {D : Nat} (h : (Op.equalIn (D + 1) t vx vy).run P w = .ok r w) :
    (∀ k a k' b, ¬ (vx = .int k a ∧ vy = .int k' b)) ∧ (∀ k a k' b, ¬ (vx = .float k a ∧ vy = .float k' b)) ∧ (∀ k a b k' c d, ¬ (vx = .complex k a b ∧ vy = .complex k' c d)) ∧ (∀ a b, ¬ (vx = .string a ∧ vy = .string b)) := by
  unfold eqType at het
  cases ht : P.underlying t with
  | none => rw [ht] at het; cases het
  | some d =>
    rw [ht] at het
    refine ⟨?_, ?_, ?_, ?_⟩
    all_goals
      intros
      rintro ⟨rfl, rfl⟩
      cases d <;> first | (cases het; done) | (rw [Op.equalIn, Sem.run_bind, run_underlying ht, Result.andThen_ok] at h; cases h)
theorem binOp_eq_ok {op : BinOp} {neg : Bool} (hop : isCmp op = some neg) {t : TypeId} (het : eqType P t = true) {vx vy : Value} {r : Bool} {w : World} (h : (Op.equal t vx vy).run P w = .ok r w) :
    (binOp op t vx vy).run P w = .ok (.bool (flipB neg r)) w := by
  have hd : (Op.equalIn (9999 + 1) t vx vy).run P w = .ok r w := h
  obtain ⟨h1, h2, h3, h4⟩ := equal_not het hd
  clear hd
  cases op <;> first | (cases hop; done) | skip
  all_goals
    injection hop with hop; subst hop
    unfold binOp
    split <;> first
      | contradiction
      | (exfalso; exact h1 _ _ _ _ ⟨rfl, rfl⟩)
      | (exfalso; exact h2 _ _ _ _ ⟨rfl, rfl⟩)
      | (exfalso; exact h3 _ _ _ _ _ _ ⟨rfl, rfl⟩)
      | (exfalso; exact h4 _ _ ⟨rfl, rfl⟩)
      | (simp [h, flipB]; done)
      | skip

theorem ok_eq {op : BinOp} {neg g : Bool} {t t' : TypeId} {ks : List EK} {x0 y0 : Operand} {x y : Opnd} (ho : o.op = .binOp op t x0 y0 t') (hop : isCmp op = some neg) (het : eqType P t = true) (hks : eks P 50 t = some ks)
    (hg : isAggT P t = some g) (hgd : P.eqGuardType P.depth t = false) (hx : opnd n x0 = some x) (hy : opnd n y0 = some y) : ValOk P n o (rEq neg g ks x y) := by
  intro c e h v h' hr ρ w a he hh _
  simp only [rEq] at hr
  split at hr
  case h_2 => cases hr
  rename_i xs hxs
  split at hr
  case h_2 => cases hr
  rename_i ys hys
  split at hr
  case h_2 => cases hr
  rename_i hlen
  simp only [Bool.and_eq_true, nat_beq, lenL_eq] at hlen
  split at hr
  case h_2 => cases hr
  rename_i r hr0
  have hxr := opnd_ok hx he
  have hyr := opnd_ok hy he
  obtain ⟨cx, hax⟩ := cellsK_ok hxs
  obtain ⟨cy, hay⟩ := cellsK_ok hys
  have heq := equal_ok (P := P) hh hks hg hxr hyr cx cy hr0 (hax hxr) (hay hyr) hlen.1 hlen.2
  have hgu := eqGuard_ok (op := op) (x := x0) (y := y0) (b := a.eval y0) (w := w) hgd (not_nilIface hxr cx)
  simp only [mkBool_eq] at hr
  obtain ⟨_, h1, rfl, rfl⟩ := rv_ok hr
  injection h1 with h1; subst h1
  refine ⟨.value (.bool (flipB neg r)), _, w, ?_, .inl rfl, Out.same hh rfl⟩
  simp only [execOp, ho, Sem.run_bind, hgu, Result.andThen_ok, binOp_eq_ok hop het heq, Sem.run_pure]

/-! ### numbers and texts -/
theorem beq_k {k k' : IntKind} (h : Nat.beq (kOf k) (kOf k') = true) : k = k' := kOf_inj (nat_beq.1 h)
theorem beq_f {k k' : FloatKind} (h : Nat.beq (fOf k) (fOf k') = true) : k = k' := fOf_inj (nat_beq.1 h)

theorem fl_ok {k : FloatKind} {r : Option Nat} {y : AV} (h : fl (fOf k) r = some y) : ∃ m, r = some m ∧ y = .oth (.float (fOf k) m) := by
  cases r with
  | none => cases h
  | some m => simp only [fl, fNat_eq] at h; injection h with h; exact ⟨m, rfl, h.symm⟩
theorem cx_ok {k : FloatKind} {r s : Option Nat} {y : AV} (h : cx (fOf k) r s = some y) : ∃ m m', r = some m ∧ s = some m' ∧ y = .oth (.complex (fOf k) m m') := by
  cases r with
  | none => cases h
  | some m => cases s with
    | none => cases h
    | some m' => simp only [cx, fNat_eq] at h; injection h with h; exact ⟨m, m', rfl, rfl, h.symm⟩

theorem floatBin_ok {op : BinOp} {k : FloatKind} {a b : Nat} {y : AV} (h : floatBin op (fOf k) a b = some y) (w : World) (t : TypeId) :
    ∃ cv, (binOp op t (.float k a) (.float k b)).run P w = .ok cv w ∧ ∀ ρ, CRel ρ y cv := by
  cases op with
  | add =>
    simp only [floatBin, fk_fOf] at h
    obtain ⟨m, h1, rfl⟩ := fl_ok h
    exact ⟨_, by simp [binOp, Op.floatArith, h1], fun _ => ⟨k, rfl, rfl⟩⟩
  | sub =>
    simp only [floatBin, fk_fOf] at h
    obtain ⟨m, h1, rfl⟩ := fl_ok h
    exact ⟨_, by simp [binOp, Op.floatArith, h1], fun _ => ⟨k, rfl, rfl⟩⟩
  | mul =>
    simp only [floatBin, fk_fOf] at h
    obtain ⟨m, h1, rfl⟩ := fl_ok h
    exact ⟨_, by simp [binOp, Op.floatArith, h1], fun _ => ⟨k, rfl, rfl⟩⟩
  | quo =>
    simp only [floatBin, fk_fOf] at h
    obtain ⟨m, h1, rfl⟩ := fl_ok h
    exact ⟨_, by simp [binOp, Op.floatArith, h1], fun _ => ⟨k, rfl, rfl⟩⟩
  | eql | neq | lss | leq | gtr | geq =>
    simp only [floatBin, fk_fOf, mkBool_eq] at h; injection h with h; subst h
    exact ⟨_, by simp only [binOp, ne_eq, not_true, if_false, Op.floatCmp]; rfl, fun _ => rfl⟩
  | _ => cases h

theorem cEq_ok {k : FloatKind} {a b c d : Nat} {w : World} : cEq (fOf k) a b c d = (k.format.order a c == some .eq && k.format.order b d == some .eq) := by simp [cEq, fk_fOf]

theorem cplxBin_ok {op : BinOp} {k : FloatKind} {a b c d : Nat} {y : AV} (h : cplxBin op (fOf k) a b c d = some y) (w : World) (t : TypeId) :
    ∃ cv, (binOp op t (.complex k a b) (.complex k c d)).run P w = .ok cv w ∧ ∀ ρ, CRel ρ y cv := by
  cases op with
  | add =>
    simp only [cplxBin, fk_fOf] at h
    obtain ⟨m, m', h1, h2, rfl⟩ := cx_ok h
    exact ⟨_, by simp [binOp, Op.complexOp, Op.Complex.arith, Op.floatArith, h1, h2], fun _ => ⟨k, rfl, rfl⟩⟩
  | sub =>
    simp only [cplxBin, fk_fOf] at h
    obtain ⟨m, m', h1, h2, rfl⟩ := cx_ok h
    exact ⟨_, by simp [binOp, Op.complexOp, Op.Complex.arith, Op.floatArith, h1, h2], fun _ => ⟨k, rfl, rfl⟩⟩
  | mul =>
    simp only [cplxBin, cMul] at h
    split at h
    · rename_i hk
      have hk' : k = .f64 := by
        rw [nat_beq] at hk
        cases k with
        | f64 => rfl
        | f32 => cases hk
      subst hk'
      split at h
      · rename_i ac bd ad bc e1 e2 e3 e4
        simp only [fk_fOf] at e1 e2 e3 e4 h
        obtain ⟨m, m', h1, h2, rfl⟩ := cx_ok h
        refine ⟨_, ?_, fun _ => ⟨.f64, rfl, rfl⟩⟩
        simp [binOp, Op.complexOp, Op.Complex.conv, Op.Complex.product, Op.Complex.mul, Op.Complex.sub, Op.Complex.add, Op.Complex.arith, Op.floatArith, e1, e2, e3, e4, h1, h2]
      · cases h
    · cases h
  | eql =>
    simp only [cplxBin, mkBool_eq] at h; injection h with h; subst h
    refine ⟨_, by simp [binOp, Op.complexOp, Op.Complex.cmp, Op.floatCmp, asBool]; rfl, fun _ => ?_⟩
    rw [cEq_ok (w := w)]; rfl
  | neq =>
    simp only [cplxBin, mkBool_eq] at h; injection h with h; subst h
    refine ⟨_, by simp [binOp, Op.complexOp, Op.Complex.cmp, Op.floatCmp, asBool]; rfl, fun _ => ?_⟩
    rw [cEq_ok (w := w)]
    show Value.bool _ = Value.bool _
    congr 1
    simp
  | _ => cases h

theorem ltList_bytes : ∀ (a b : List UInt8), ltList (a.map UInt8.toNat) (b.map UInt8.toNat) = Op.bytesLess a b
  | [], [] => rfl
  | _ :: _, [] => rfl
  | [], _ :: _ => rfl
  | x :: a, y :: b => by
    simp only [List.map_cons, ltList, Op.bytesLess, go_eq]
    by_cases h : x < y
    · have h' : x.toNat < y.toNat := h
      rw [nat_blt.2 h', decide_eq_true h]; rfl
    · have h' : ¬ x.toNat < y.toNat := h
      have e1 : Nat.blt x.toNat y.toNat = false := nat_blt_false.2 (by omega)
      rw [e1, decide_eq_false h, Bool.false_or]
      by_cases he : x = y
      · subst he
        rw [show Nat.beq x.toNat x.toNat = true by simp, ltList_bytes a b]
        simp
      · have : Nat.beq x.toNat y.toNat = false := nat_beq_false.2 fun e => he (UInt8.toNat_inj.1 e)
        rw [this]
        simp [he]

theorem strBin_ok {op : BinOp} {a b : ByteArray} {x y : List Nat} {z : AV} (hx : x = a.data.toList.map UInt8.toNat) (hy : y = b.data.toList.map UInt8.toNat) (h : strBin op x y = some z) (w : World) (t : TypeId) :
    ∃ cv, (binOp op t (.string a) (.string b)).run P w = .ok cv w ∧ ∀ ρ, CRel ρ z cv := by
  have heq := eqList_bytes hx hy
  rw [beq_toListBytes] at heq
  have hlt : ltList x y = Op.bytesLess a.toList b.toList := by rw [hx, hy, ltList_bytes, ByteArray.toList_eq, ByteArray.toList_eq]
  cases op with
  | add =>
    simp only [strBin] at h
    split at h
    · rename_i hle
      rw [nat_ble, lenL_eq, lenL_eq, nadd, hx, hy] at hle
      injection h with h; subst h
      have e1 : a.data.toList.length = a.size := by rw [Array.length_toList]; rfl
      have e2 : b.data.toList.length = b.size := by rw [Array.length_toList]; rfl
      have hn : ¬ (((a.size + b.size : Nat) : Int) > IntKind.i64.max) := by
        simp only [List.length_map] at hle
        have : IntKind.i64.max = 9223372036854775807 := by decide
        rw [this]; omega
      refine ⟨_, by simp only [binOp, Op.stringOp, hn, if_false]; rfl, fun _ => ⟨a ++ b, rfl, ?_⟩⟩
      rw [app_eq, hx, hy, ← List.map_append]
      rw [ByteArray.data_append, Array.toList_append]
    · cases h
  | eql =>
    simp only [strBin, mkBool_eq] at h; injection h with h; subst h
    exact ⟨_, by simp only [binOp, Op.stringOp]; rfl, fun _ => by rw [heq]; rfl⟩
  | neq =>
    simp only [strBin, mkBool_eq] at h; injection h with h; subst h
    exact ⟨_, by simp only [binOp, Op.stringOp]; rfl, fun _ => by rw [heq]; rfl⟩
  | lss =>
    simp only [strBin, mkBool_eq] at h; injection h with h; subst h
    exact ⟨_, by simp only [binOp, Op.stringOp]; rfl, fun _ => by rw [hlt]; rfl⟩
  | leq =>
    simp only [strBin, mkBool_eq] at h; injection h with h; subst h
    exact ⟨_, by simp only [binOp, Op.stringOp]; rfl, fun _ => by rw [hlt, heq]; rfl⟩
  | gtr =>
    simp only [strBin, mkBool_eq] at h; injection h with h; subst h
    exact ⟨_, by simp only [binOp, Op.stringOp]; rfl, fun _ => by rw [hlt, heq]; rfl⟩
  | geq =>
    simp only [strBin, mkBool_eq] at h; injection h with h; subst h
    exact ⟨_, by simp only [binOp, Op.stringOp]; rfl, fun _ => by rw [hlt]; rfl⟩
  | _ => cases h

/-! ### ints between bounds -/
theorem wrap_bounds (k : IntKind) (n : Int) : k.min ≤ k.wrap n ∧ k.wrap n ≤ k.max := by
  have h1 : 0 ≤ n % (2 ^ k.bits : Int) := Int.emod_nonneg _ (by cases k <;> decide)
  have h2 : n % (2 ^ k.bits : Int) < 2 ^ k.bits := Int.emod_lt_of_pos _ (by cases k <;> decide)
  unfold IntKind.wrap IntKind.min IntKind.max
  cases k <;> simp [IntKind.bits, IntKind.signed] at h1 h2 ⊢ <;> first | (constructor <;> omega) | (split <;> constructor <;> omega)
theorem wrap_id (k : IntKind) {n : Int} (h1 : k.min ≤ n) (h2 : n ≤ k.max) : k.wrap n = n := by
  unfold IntKind.wrap
  unfold IntKind.min at h1
  unfold IntKind.max at h2
  cases k <;> simp [IntKind.bits, IntKind.signed] at h1 h2 ⊢ <;> first | omega | (split <;> omega)
theorem fits_wrap {k : IntKind} {lo hi n : Int} (h : fitsK (kOf k) lo hi = true) (h1 : lo ≤ n) (h2 : n ≤ hi) : k.wrap n = n := by
  unfold fitsK at h
  rw [Bool.and_eq_true, beqI_iff, beqI_iff, wrapA_eq, wrapA_eq] at h
  have a := wrap_bounds k lo
  have b := wrap_bounds k hi
  rw [h.1] at a; rw [h.2] at b
  exact wrap_id k (by omega) (by omega)
theorem mkRng_some {k : Nat} {lo hi : Int} {z : AV} (h : mkRng k lo hi = some z) : fitsK k lo hi = true ∧ z = .oth (.rng k lo hi) := by
  unfold mkRng at h
  split at h
  · rename_i hf
    rw [fInt_eq, fInt_eq] at h
    injection h with h
    exact ⟨hf, h.symm⟩
  · cases h
theorem rngTest_ok {yes no : Bool} {z : AV} (h : rngTest yes no = some z) {p : Prop} [Decidable p] (h1 : yes = true → p) (h2 : no = true → ¬ p) : z = .bool (decide p) := by
  unfold rngTest at h
  split at h
  · injection h with h; rw [← h, decide_eq_true (h1 rfl)]
  · split at h
    · injection h with h; rw [← h, decide_eq_false (h2 rfl)]
    · cases h
theorem rngBin_ok {op : BinOp} {k : IntKind} {a b lo hi lo' hi' : Int} {z : AV} (h : rngBin op (kOf k) lo hi lo' hi' = some z) (h1 : lo ≤ a) (h2 : a ≤ hi) (h3 : lo' ≤ b) (h4 : b ≤ hi') (w : World) (t : TypeId) :
    ∃ cv, (binOp op t (.int k a) (.int k b)).run P w = .ok cv w ∧ ∀ ρ, CRel ρ z cv := by
  have cmp : ∀ (y : AV), intBin op (kOf k) a b = some y → z = y → ∃ cv, (binOp op t (.int k a) (.int k b)).run P w = .ok cv w ∧ ∀ ρ, CRel ρ z cv := fun y hy e => by
    subst e; exact intBin_ok hy w t
  unfold rngBin at h
  cases op with
  | lss =>
    refine cmp (.bool (decide (a < b))) (by simp only [intBin, iLss, mkBool_eq, bltI_eq]) ?_
    refine rngTest_ok (p := a < b) h ?_ ?_ <;> simp only [bltI_eq, bleI_eq, decide_eq_true_eq] <;> omega
  | leq =>
    refine cmp (.bool (decide (a ≤ b))) (by simp only [intBin, iLeq, mkBool_eq, bleI_eq]) ?_
    refine rngTest_ok (p := a ≤ b) h ?_ ?_ <;> simp only [bltI_eq, bleI_eq, decide_eq_true_eq] <;> omega
  | gtr =>
    refine cmp (.bool (decide (b < a))) (by simp only [intBin, iGtr, mkBool_eq, bltI_eq]) ?_
    refine rngTest_ok (p := b < a) h ?_ ?_ <;> simp only [bltI_eq, bleI_eq, decide_eq_true_eq] <;> omega
  | geq =>
    refine cmp (.bool (decide (b ≤ a))) (by simp only [intBin, iGeq, mkBool_eq, bleI_eq]) ?_
    refine rngTest_ok (p := b ≤ a) h ?_ ?_ <;> simp only [bltI_eq, bleI_eq, decide_eq_true_eq] <;> omega
  | eql =>
    refine cmp (.bool (decide (a = b))) (by simp only [intBin, iEql, mkBool_eq, beqI_eq]; rfl) ?_
    refine rngTest_ok (p := a = b) h nofun ?_
    simp only [bltI_eq, decide_eq_true_eq, Bool.or_eq_true]; omega
  | neq =>
    refine cmp (.bool (decide (a ≠ b))) (by simp only [intBin, iNeq, mkBool_eq, beqI_eq]; congr 2; by_cases e : a = b <;> simp [e]) ?_
    refine rngTest_ok (p := a ≠ b) h ?_ nofun
    simp only [bltI_eq, decide_eq_true_eq, Bool.or_eq_true]; omega
  | add =>
    obtain ⟨hf, rfl⟩ := mkRng_some h
    rw [addI_eq, addI_eq] at hf
    obtain ⟨cv, g1, g2⟩ := intBin_ok (P := P) (op := .add) (k := k) (a := a) (b := b) (y := .int (kOf k) (k.wrap (a + b))) (by simp only [intBin, iAdd, mkInt_eq, wrapA_eq, addI_eq]) w t
    refine ⟨cv, g1, fun ρ => ?_⟩
    obtain ⟨k', e1, e2⟩ := g2 ρ
    have := kOf_inj e1; subst this
    rw [fits_wrap hf (n := a + b) (by omega) (by omega)] at e2
    exact ⟨k, a + b, rfl, e2, by rw [addI_eq]; omega, by rw [addI_eq]; omega⟩
  | sub =>
    obtain ⟨hf, rfl⟩ := mkRng_some h
    rw [subI_eq, subI_eq] at hf
    obtain ⟨cv, g1, g2⟩ := intBin_ok (P := P) (op := .sub) (k := k) (a := a) (b := b) (y := .int (kOf k) (k.wrap (a - b))) (by simp only [intBin, iSub, mkInt_eq, wrapA_eq, subI_eq]) w t
    refine ⟨cv, g1, fun ρ => ?_⟩
    obtain ⟨k', e1, e2⟩ := g2 ρ
    have := kOf_inj e1; subst this
    rw [fits_wrap hf (n := a - b) (by omega) (by omega)] at e2
    exact ⟨k, a - b, rfl, e2, by rw [subI_eq]; omega, by rw [subI_eq]; omega⟩
  | _ => cases h
/-- a value is an int between bounds -/
theorem rngOf_ok {y : AX} {k : IntKind} {f : Int → Int → Option AV} {z : AV} (h : rngOf y (kOf k) f = some z) {ρ : Ren} {cy : Value} (hy : XRel ρ y cy) : ∃ lo hi b, f lo hi = some z ∧ cy = .int k b ∧ lo ≤ b ∧ b ≤ hi := by
  cases y with
  | rng k' lo hi =>
    obtain ⟨k1, b, rfl, rfl, h1, h2⟩ := hy
    simp only [rngOf] at h
    split at h
    · rename_i hk
      have := beq_k hk; subst this
      exact ⟨lo, hi, b, h, rfl, h1, h2⟩
    · cases h
  | _ => cases h

theorem binA_ok {op : BinOp} {x y z : AV} {cx cy : Value} {ρ : Ren} (hx : CRel ρ x cx) (hy : CRel ρ y cy) (h : binA op (intBin op) x y = some z) (w : World) (t : TypeId) :
    ∃ cv, (binOp op t cx cy).run P w = .ok cv w ∧ (∀ ρ, CRel ρ z cv) ∧ cx ≠ .nilIface ∧ (∀ cs, cx ≠ .agg cs) := by
  cases x with
  | int k a =>
    obtain ⟨k0, rfl, rfl⟩ := hx
    cases y with
    | int k' b =>
      obtain ⟨k1, rfl, rfl⟩ := hy
      simp only [binA] at h
      split at h
      · rename_i hk
        have := beq_k hk; subst this
        obtain ⟨cv, h1, h2⟩ := intBin_ok (P := P) h w t
        exact ⟨cv, h1, h2, nofun, nofun⟩
      · cases h
    | oth y =>
      simp only [binA] at h
      obtain ⟨lo, hi, b, h1, rfl, h2, h3⟩ := rngOf_ok h hy
      obtain ⟨cv, g1, g2⟩ := rngBin_ok (P := P) h1 (Int.le_refl a) (Int.le_refl a) h2 h3 w t
      exact ⟨cv, g1, g2, nofun, nofun⟩
    | _ => cases h
  | oth x =>
    simp only [binA] at h
    have hrng : ∀ {k lo hi}, x = .rng k lo hi → ∃ cv, (binOp op t cx cy).run P w = .ok cv w ∧ (∀ ρ, CRel ρ z cv) ∧ cx ≠ .nilIface ∧ (∀ cs, cx ≠ .agg cs) := by
      intro k lo hi e
      subst e
      obtain ⟨k0, a, rfl, rfl, h1, h2⟩ := hx
      simp only [binX] at h
      cases y with
      | int k' b =>
        obtain ⟨k1, rfl, rfl⟩ := hy
        simp only at h
        split at h
        · rename_i hk
          have := beq_k hk; subst this
          obtain ⟨cv, g1, g2⟩ := rngBin_ok (P := P) h h1 h2 (Int.le_refl b) (Int.le_refl b) w t
          exact ⟨cv, g1, g2, nofun, nofun⟩
        · cases h
      | oth y =>
        simp only at h
        obtain ⟨lo', hi', b, h3, rfl, h4, h5⟩ := rngOf_ok h hy
        obtain ⟨cv, g1, g2⟩ := rngBin_ok (P := P) h3 h1 h2 h4 h5 w t
        exact ⟨cv, g1, g2, nofun, nofun⟩
      | _ => cases h
    by_cases hx0 : ∃ k lo hi, x = .rng k lo hi
    · obtain ⟨k, lo, hi, e⟩ := hx0
      exact hrng e
    replace h : binY op x y = some z := by
      cases x with
      | rng k lo hi => exact absurd ⟨k, lo, hi, rfl⟩ hx0
      | _ => exact h
    cases y with
    | oth y =>
      simp only [binY] at h
      cases x with
      | str a =>
        obtain ⟨a0, rfl, ha⟩ := hx
        cases y with
        | str b =>
          obtain ⟨b0, rfl, hb⟩ := hy
          obtain ⟨cv, h1, h2⟩ := strBin_ok (P := P) ha hb h w t
          exact ⟨cv, h1, h2, nofun, nofun⟩
        | _ => cases h
      | float k a =>
        obtain ⟨k0, rfl, rfl⟩ := hx
        cases y with
        | float k' b =>
          obtain ⟨k1, rfl, rfl⟩ := hy
          simp only [binOth] at h
          split at h
          · rename_i hk
            have := beq_f hk; subst this
            obtain ⟨cv, h1, h2⟩ := floatBin_ok (P := P) h w t
            exact ⟨cv, h1, h2, nofun, nofun⟩
          · cases h
        | _ => cases h
      | complex k a b =>
        obtain ⟨k0, rfl, rfl⟩ := hx
        cases y with
        | complex k' c d =>
          obtain ⟨k1, rfl, rfl⟩ := hy
          simp only [binOth] at h
          split at h
          · rename_i hk
            have := beq_f hk; subst this
            obtain ⟨cv, h1, h2⟩ := cplxBin_ok (P := P) h w t
            exact ⟨cv, h1, h2, nofun, nofun⟩
          · cases h
        | _ => cases h
      | _ => cases h
    | _ => cases h
  | _ => cases h

theorem eqGuard_plain {op : BinOp} {t : TypeId} {x y : Operand} {a b : Value} {w : World} (h1 : a ≠ .nilIface) (h2 : ∀ cs, a ≠ .agg cs) : (eqGuard op t x y a b).run P w = .ok () w := by
  cases a <;> cases b <;> first | exact absurd rfl h1 | exact absurd rfl (h2 _) | (cases op <;> rfl)

theorem ok_bin {op : BinOp} {t t' : TypeId} {x0 y0 : Operand} {x y : Opnd} (ho : o.op = .binOp op t x0 y0 t') (hx : opnd n x0 = some x) (hy : opnd n y0 = some y) : ValOk P n o (rBin op (intBin op) x y) := by
  intro c e h v h' hr ρ w a he hh _
  obtain ⟨u, hu, hr⟩ := sc_ok hr no_ne
  obtain ⟨z, hz, hr⟩ := sc_ok hr no_ne
  obtain ⟨r, h1, rfl, rfl⟩ := rv_ok hr
  have hxr := opnd_ok hx he
  have hyr := opnd_ok hy he
  rw [hu] at hxr; rw [hz] at hyr
  obtain ⟨cv, h2, h3, h4, h5⟩ := binA_ok (P := P) hxr hyr h1 w t
  refine ⟨.value cv, cv, w, ?_, .inl rfl, Out.same hh (h3 ρ)⟩
  simp only [execOp, ho, Sem.run_bind, eqGuard_plain h4 h5, Result.andThen_ok, h2, Sem.run_pure]

theorem shiftA_ok {left : Bool} {k : IntKind} {a b : Int} {y : AV} (h : shiftA left (kOf k) a b = some y) (yk : IntKind) (w : World) :
    ∃ cv, (Op.shift (match left with | true => .shl | false => .shr) k a yk b).run P w = .ok cv w ∧ ∀ ρ, CRel ρ y cv := by
  cases b with
  | negSucc m => cases h
  | ofNat m =>
    have hn : ¬ (Int.ofNat m < 0) := by show ¬ ((m : Int) < 0); omega
    have ht : (Int.ofNat m).toNat = m := rfl
    have hp : (Int.ofNat (2 ^ min m k.bits) : Int) = 2 ^ min m k.bits := by
      show ((2 ^ min m k.bits : Nat) : Int) = _
      push_cast; rfl
    cases left with
    | true =>
      simp only [shiftA, ndiv, bits_div, mkInt_eq, wrapA_eq] at h
      injection h with h; subst h
      refine ⟨_, by simp only [Op.shift, hn, if_false, ht]; rfl, fun _ => ⟨k, rfl, ?_⟩⟩
      rw [← hp]; rfl
    | false =>
      simp only [shiftA, ndiv, bits_div] at h
      cases a with
      | ofNat q =>
        simp only [mkInt_eq] at h
        injection h with h; subst h
        refine ⟨_, by simp only [Op.shift, hn, if_false, ht]; rfl, fun _ => ⟨k, rfl, ?_⟩⟩
        rw [← hp]
        exact congrArg (Value.int k) (Int.ofNat_fdiv q (2 ^ min m k.bits)).symm
      | negSucc q =>
        simp only [mkInt_eq] at h
        injection h with h; subst h
        refine ⟨_, by simp only [Op.shift, hn, if_false, ht]; rfl, fun _ => ⟨k, rfl, ?_⟩⟩
        rw [← hp]; rfl

theorem ok_shift {op : BinOp} {left : Bool} {t t' : TypeId} {x0 y0 : Operand} {x y : Opnd} (ho : o.op = .binOp op t x0 y0 t') (hop : op = match left with | true => .shl | false => .shr) (hx : opnd n x0 = some x) (hy : opnd n y0 = some y) :
    ValOk P n o (rShift left x y) := by
  intro c e h v h' hr ρ w a he hh _
  obtain ⟨u, hu, hr⟩ := sc_ok hr no_ne
  obtain ⟨z, hz, hr⟩ := sc_ok hr no_ne
  obtain ⟨r, h1, rfl, rfl⟩ := rv_ok hr
  have hxr := opnd_ok hx he
  have hyr := opnd_ok hy he
  rw [hu] at hxr; rw [hz] at hyr
  unfold shA at h1
  cases u with
  | int k a0 =>
    cases z with
    | int k' b0 =>
      obtain ⟨k0, rfl, e1⟩ := hxr
      obtain ⟨k1, rfl, e2⟩ := hyr
      obtain ⟨cv, h2, h3⟩ := shiftA_ok (P := P) h1 k1 w
      refine ⟨.value cv, cv, w, ?_, .inl rfl, Out.same hh (h3 ρ)⟩
      have hg : (eqGuard op t x0 y0 (a.eval x0) (a.eval y0)).run P w = .ok () w := eqGuard_plain (by rw [e1]; exact nofun) (by rw [e1]; exact nofun)
      simp only [execOp, ho, Sem.run_bind, hg, Result.andThen_ok]
      rw [e1, e2, hop]
      cases left <;> simp only [binOp, h2, Result.andThen_ok, Sem.run_pure]
    | _ => cases h1
  | _ => cases h1

theorem ok_not {t : TypeId} {x0 : Operand} {x : Opnd} (ho : o.op = .unOp .not t x0) (hx : opnd n x0 = some x) : ValOk P n o (rNot x) := by
  intro c e h v h' hr ρ w a he hh _
  obtain ⟨u, hu, hr⟩ := sc_ok hr no_ne
  have hxr := opnd_ok hx he
  rw [hu] at hxr
  cases u with
  | bool b =>
    simp only [mkBool_eq] at hr
    obtain ⟨r, h1, rfl, rfl⟩ := rv_ok hr
    injection h1 with h1; subst h1
    have e1 : a.eval x0 = .bool b := hxr
    exact ⟨.value (.bool (!b)), _, w, by simp [execOp, ho, e1, Op.unary], .inl rfl, Out.same hh rfl⟩
  | _ => cases hr
theorem ok_neg {t : TypeId} {x0 : Operand} {x : Opnd} (ho : o.op = .unOp .neg t x0) (hx : opnd n x0 = some x) : ValOk P n o (rNeg x) := by
  intro c e h v h' hr ρ w a he hh _
  obtain ⟨k, m, hu, hr⟩ := asInt_ok hr no_ne
  have hxr := opnd_ok hx he
  rw [hu] at hxr
  obtain ⟨k0, rfl, e1⟩ := hxr
  simp only [mkInt_eq, wrapA_eq, subI_eq] at hr
  obtain ⟨r, h1, rfl, rfl⟩ := rv_ok hr
  injection h1 with h1; subst h1
  exact ⟨.value (.int k0 (k0.wrap (0 - m))), _, w, by simp [execOp, ho, e1, Op.unary, Op.intArith], .inl rfl, Out.same hh ⟨k0, rfl, rfl⟩⟩
theorem ok_compl {t : TypeId} {x0 : Operand} {x : Opnd} (ho : o.op = .unOp .xor t x0) (hx : opnd n x0 = some x) : ValOk P n o (rCompl x) := by
  intro c e h v h' hr ρ w a he hh _
  obtain ⟨k, m, hu, hr⟩ := asInt_ok hr no_ne
  have hxr := opnd_ok hx he
  rw [hu] at hxr
  obtain ⟨k0, rfl, e1⟩ := hxr
  simp only [mkInt_eq] at hr
  obtain ⟨r, h1, rfl, rfl⟩ := rv_ok hr
  injection h1 with h1; subst h1
  have hlt : all1 (kOf k0) - low (kOf k0) m < 2 ^ k0.bits := by
    rw [all1_eq]
    have := Nat.two_pow_pos k0.bits
    omega
  have hxor : (BitVec.ofInt k0.bits (if k0.signed then -1 else k0.max) ^^^ BitVec.ofInt k0.bits m).toNat = all1 (kOf k0) - low (kOf k0) m := by
    rw [show BitVec.ofInt k0.bits (if k0.signed then -1 else k0.max) = BitVec.allOnes k0.bits from ?_, BitVec.allOnes_xor, BitVec.toNat_not, toNat_ofInt, all1_eq]
    cases k0 <;> decide
  refine ⟨.value (.int k0 (k0.wrap ((all1 (kOf k0) - low (kOf k0) m : Nat) : Int))), _, w, ?_, .inl rfl, Out.same hh ⟨k0, rfl, ?_⟩⟩
  · simp only [execOp, ho, e1, Op.unary, Op.intBits, Sem.run_bind, Sem.run_pure, Result.andThen_ok, hxor]
  · rw [← ofBits_eq k0 hlt]; rfl
end CSim
