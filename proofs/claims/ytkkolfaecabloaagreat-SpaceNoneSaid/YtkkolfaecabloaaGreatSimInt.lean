/-
  Whole numbers: the evaluator's arithmetic is the model's.
-/
import Derived.Test.YtkkolfaecabloaaGreatSimOps
namespace CSim
set_option linter.unusedSimpArgs false
set_option linter.unusedVariables false
open Go

theorem bits_div (k : IntKind) : kOf k / 2 = k.bits := by cases k <;> rfl
theorem all1_eq (k : IntKind) : all1 (kOf k) = 2 ^ k.bits - 1 := by cases k <;> rfl

theorem low_lt (k : IntKind) (x : Int) : low (kOf k) x < 2 ^ k.bits := by
  cases x with
  | ofNat n => simp only [low, nmod, ndiv, bits_div]; exact Nat.mod_lt _ (Nat.two_pow_pos _)
  | negSucc n =>
    simp only [low, nmod, ndiv, nsub, bits_div, all1_eq]
    have := Nat.two_pow_pos k.bits
    omega
theorem low_eq (k : IntKind) (x : Int) : ((low (kOf k) x : Nat) : Int) = x % (2 ^ k.bits : Int) := by
  cases x with
  | ofNat n =>
    show ((n % 2 ^ (kOf k / 2) : Nat) : Int) = (n : Int) % _
    rw [bits_div]; norm_cast
  | negSucc n =>
    show ((all1 (kOf k) - n % 2 ^ (kOf k / 2) : Nat) : Int) = _
    rw [bits_div, all1_eq]
    have hp := Nat.two_pow_pos k.bits
    have hlt := Nat.mod_lt n hp
    rw [Int.negSucc_emod _ (by exact_mod_cast hp)]
    have e1 : ((2 ^ k.bits - 1 - n % 2 ^ k.bits : Nat) : Int) = (2 ^ k.bits : Nat) - 1 - ((n % 2 ^ k.bits : Nat) : Int) := by omega
    rw [e1]
    push_cast
    omega

theorem signed_mod (k : IntKind) : Nat.beq (kOf k % 2) 1 = k.signed := by cases k <;> rfl
theorem ofBits_eq (k : IntKind) {m : Nat} (hm : m < 2 ^ k.bits) : ofBits (kOf k) m = k.wrap (m : Int) := by
  have h1 : (m : Int) % (2 ^ k.bits : Int) = m := by
    have : (m : Int) < (2 ^ k.bits : Int) := by exact_mod_cast hm
    exact Int.emod_eq_of_lt (Int.natCast_nonneg m) this
  unfold IntKind.wrap
  simp only [h1]
  simp only [ofBits, nmod, ndiv, nsub, bits_div, all1_eq, signed_mod]
  have hc : ((m : Int) ≥ (2 ^ (k.bits - 1) : Int)) ↔ 2 ^ (k.bits - 1) ≤ m := by
    constructor
    · intro h; exact_mod_cast h
    · intro h; exact_mod_cast h
  cases hs : k.signed with
  | false => simp
  | true =>
    by_cases hle : 2 ^ (k.bits - 1) ≤ m
    · rw [show Nat.ble (Nat.pow 2 (k.bits - 1)) m = true from nat_ble.2 hle]
      simp only [Bool.and_self, Bool.true_and, decide_eq_true (hc.2 hle), if_true]
      rw [Int.negSucc_eq]
      have : ((2 ^ k.bits - 1 - m : Nat) : Int) = (2 ^ k.bits : Nat) - 1 - (m : Int) := by omega
      rw [this]; push_cast; omega
    · have : Nat.ble (Nat.pow 2 (k.bits - 1)) m = false := nat_ble_false.2 (Nat.lt_of_not_le hle)
      rw [this]
      have : decide ((m : Int) ≥ (2 ^ (k.bits - 1) : Int)) = false := decide_eq_false fun h => hle (hc.1 h)
      simp [this]

theorem wrapA_eq (k : IntKind) (x : Int) : wrapA (kOf k) x = k.wrap x := by
  unfold wrapA
  rw [ofBits_eq k (low_lt k x), low_eq]
  unfold IntKind.wrap
  rw [Int.emod_emod_of_dvd _ (Int.dvd_refl _)]

theorem addI_eq (a b : Int) : addI a b = a + b := by
  cases a with
  | ofNat m => cases b <;> rfl
  | negSucc m => rfl
theorem subI_eq (a b : Int) : subI a b = a - b := by
  cases a with
  | ofNat m => cases b with
    | ofNat n =>
      simp only [subI]
      split
      · rename_i h; rw [nat_ble] at h; simp only [nsub]; show ((m - n : Nat) : Int) = (m : Int) - n; omega
      · rename_i h; rw [nat_ble_false] at h; simp only [nsub]; show Int.negSucc (n - m - 1) = (m : Int) - n; rw [Int.negSucc_eq]; omega
    | negSucc n => rfl
  | negSucc m => rfl
theorem beqI_iff (a b : Int) : beqI a b = true ↔ a = b := by
  cases a with
  | ofNat m => cases b with
    | ofNat n => simp only [beqI, nat_beq]; exact ⟨fun h => by rw [h], fun h => by injection h⟩
    | negSucc n => simp [beqI]
  | negSucc m => cases b with
    | ofNat n => simp [beqI]
    | negSucc n => simp [beqI]
theorem beqI_eq (a b : Int) : beqI a b = (a == b) := by
  rw [Bool.eq_iff_iff, beqI_iff]; simp
theorem bltI_iff (a b : Int) : bltI a b = true ↔ a < b := by
  cases a with
  | ofNat m => cases b with
    | ofNat n => simp only [bltI, nat_blt]; show m < n ↔ (m : Int) < n; omega
    | negSucc n => simp only [bltI]; refine ⟨(fun h => nomatch h), fun h => ?_⟩; have h' : (m : Int) < Int.negSucc n := h; rw [Int.negSucc_eq] at h'; omega
  | negSucc m => cases b with
    | ofNat n => simp only [bltI]; refine ⟨fun _ => ?_, fun _ => trivial⟩; show Int.negSucc m < (n : Int); rw [Int.negSucc_eq]; omega
    | negSucc n => simp only [bltI, nat_blt, Int.negSucc_eq]; omega
theorem bltI_eq (a b : Int) : bltI a b = decide (a < b) := by rw [Bool.eq_iff_iff, bltI_iff]; simp
theorem bleI_eq (a b : Int) : bleI a b = decide (a ≤ b) := by
  unfold bleI
  rw [bltI_eq, Bool.eq_iff_iff]; simp

theorem toNat_ofInt (k : IntKind) (x : Int) : (BitVec.ofInt k.bits x).toNat = low (kOf k) x := by
  have : ((BitVec.ofInt k.bits x).toNat : Int) = ((low (kOf k) x : Nat) : Int) := by
    rw [BitVec.toNat_ofInt, low_eq]
    have h : (0 : Int) ≤ x % (2 ^ k.bits : Int) := Int.emod_nonneg _ (by have := Nat.two_pow_pos k.bits; exact_mod_cast (by omega : (2 ^ k.bits : Nat) ≠ 0))
    push_cast
    rw [Int.toNat_of_nonneg h]
  exact_mod_cast this

theorem emod_low (k : IntKind) (x : Int) : (x % (2 ^ k.bits : Int)).toNat = low (kOf k) x := by rw [← low_eq]; simp

theorem kOf_inj {a b : IntKind} (h : kOf a = kOf b) : a = b := by cases a <;> cases b <;> first | rfl | (exact absurd h (by decide))

/-- an operation on two ints of one kind -/
theorem intBin_ok {P : Program} {op : BinOp} {k : IntKind} {a b : Int} {y : AV} (h : intBin op (kOf k) a b = some y) (w : World) (t : TypeId) :
    ∃ cv, (binOp op t (.int k a) (.int k b)).run P w = .ok cv w ∧ ∀ ρ, CRel ρ y cv := by
  cases op with
  | add =>
    simp only [intBin, iAdd, mkInt_eq, wrapA_eq, addI_eq] at h; injection h with h; subst h
    exact ⟨_, by simp [binOp, Op.intArith], fun _ => ⟨k, rfl, rfl⟩⟩
  | sub =>
    simp only [intBin, iSub, mkInt_eq, wrapA_eq, subI_eq] at h; injection h with h; subst h
    exact ⟨_, by simp [binOp, Op.intArith], fun _ => ⟨k, rfl, rfl⟩⟩
  | mul =>
    simp only [intBin, iMul, mkInt_eq, wrapA_eq] at h; injection h with h; subst h
    exact ⟨_, by simp [binOp, Op.intArith], fun _ => ⟨k, rfl, rfl⟩⟩
  | quo =>
    simp only [intBin, iQuo] at h
    split at h
    · cases h
    · rename_i hb
      have hne : b ≠ 0 := fun e => by rw [(beqI_iff b 0).2 e] at hb; cases hb
      simp only [mkInt_eq, wrapA_eq] at h; injection h with h; subst h
      exact ⟨_, by simp [binOp, Op.intDiv, hne], fun _ => ⟨k, rfl, rfl⟩⟩
  | rem =>
    simp only [intBin, iRem] at h
    split at h
    · cases h
    · rename_i hb
      have hne : b ≠ 0 := fun e => by rw [(beqI_iff b 0).2 e] at hb; cases hb
      simp only [mkInt_eq] at h; injection h with h; subst h
      exact ⟨_, by simp [binOp, Op.intDiv, hne], fun _ => ⟨k, rfl, rfl⟩⟩
  | and =>
    simp only [intBin, iAnd, mkInt_eq] at h; injection h with h; subst h
    refine ⟨_, by simp [binOp, Op.intBits]; rfl, fun _ => ⟨k, rfl, ?_⟩⟩
    rw [ofBits_eq k (m := Nat.land (low (kOf k) a) (low (kOf k) b)) (Nat.lt_of_le_of_lt Nat.and_le_left (low_lt k a))]
    simp only [emod_low]; rfl
  | or =>
    simp only [intBin, iOr, mkInt_eq] at h; injection h with h; subst h
    refine ⟨_, by simp [binOp, Op.intBits]; rfl, fun _ => ⟨k, rfl, ?_⟩⟩
    rw [ofBits_eq k (m := Nat.lor (low (kOf k) a) (low (kOf k) b)) (Nat.or_lt_two_pow (low_lt k a) (low_lt k b))]
    simp only [emod_low]; rfl
  | xor =>
    simp only [intBin, iXor, mkInt_eq] at h; injection h with h; subst h
    refine ⟨_, by simp [binOp, Op.intBits]; rfl, fun _ => ⟨k, rfl, ?_⟩⟩
    rw [ofBits_eq k (m := Nat.xor (low (kOf k) a) (low (kOf k) b)) (Nat.xor_lt_two_pow (low_lt k a) (low_lt k b))]
    simp only [emod_low]; rfl
  | andNot =>
    simp only [intBin, iAndNot, mkInt_eq] at h; injection h with h; subst h
    refine ⟨_, by simp [binOp, Op.intBits]; rfl, fun _ => ⟨k, rfl, ?_⟩⟩
    rw [ofBits_eq k (m := Nat.land (low (kOf k) a) (Nat.sub (all1 (kOf k)) (low (kOf k) b))) (Nat.lt_of_le_of_lt Nat.and_le_left (low_lt k a))]
    simp only [emod_low, nsub, all1_eq]; rfl
  | eql =>
    simp only [intBin, iEql, mkBool_eq, beqI_eq] at h; injection h with h; subst h
    exact ⟨_, by simp only [binOp, Op.intCmp, ne_eq, not_true, if_false]; rfl, fun _ => rfl⟩
  | neq =>
    simp only [intBin, iNeq, mkBool_eq, beqI_eq] at h; injection h with h; subst h
    exact ⟨_, by simp [binOp, Op.intCmp]; rfl, fun _ => by simp [CRel, bne]⟩
  | lss =>
    simp only [intBin, iLss, mkBool_eq, bltI_eq] at h; injection h with h; subst h
    exact ⟨_, by simp only [binOp, Op.intCmp, ne_eq, not_true, if_false]; rfl, fun _ => rfl⟩
  | leq =>
    simp only [intBin, iLeq, mkBool_eq, bleI_eq] at h; injection h with h; subst h
    exact ⟨_, by simp only [binOp, Op.intCmp, ne_eq, not_true, if_false]; rfl, fun _ => rfl⟩
  | gtr =>
    simp only [intBin, iGtr, mkBool_eq, bltI_eq] at h; injection h with h; subst h
    exact ⟨_, by simp only [binOp, Op.intCmp, ne_eq, not_true, if_false]; rfl, fun _ => rfl⟩
  | geq =>
    simp only [intBin, iGeq, mkBool_eq, bleI_eq] at h; injection h with h; subst h
    exact ⟨_, by simp only [binOp, Op.intCmp, ne_eq, not_true, if_false]; rfl, fun _ => rfl⟩
  | shl => cases h
  | shr => cases h
end CSim
