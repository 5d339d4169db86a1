/-
  The check sum of bytes: what the evaluator makes of the function that both the program and the document have.
-/
import Derived.Test.YtkkolfaecabloaaGreatSimTop
namespace CSim
set_option linter.unusedSimpArgs false
set_option linter.unusedVariables false
open Go
variable {P : Program}
noncomputable section

/-- a step of one bit -/
def crcBit (r : Nat) : Nat := fNat r fun r => Nat.xor (Nat.div r 2) (Nat.mul (Nat.mod r 2) 3988292384)
def crcBits (r : Nat) : Nat → Nat
  | 0 => r
  | k + 1 => crcBits (crcBit r) k
def crcByte (r x : Nat) : Nat := fNat (Nat.xor r x) fun r => fNat (crcBit r) fun r => fNat (crcBit r) fun r => fNat (crcBit r) fun r => fNat (crcBit r) fun r => fNat (crcBit r) fun r => fNat (crcBit r) fun r => fNat (crcBit r) fun r => crcBit r
def crcFrom (l : List Nat) : Nat → Nat := List.rec (motive := fun _ => Nat → Nat) (fun r => r) (fun x _ ih r => fNat (crcByte r x) ih) l
def crc (l : List Nat) : Nat := Nat.sub 4294967295 (crcFrom l 4294967295)

theorem crcFrom_cons (x : Nat) (l : List Nat) (r : Nat) : crcFrom (x :: l) r = crcFrom l (crcByte r x) := by
  show fNat (crcByte r x) (crcFrom l) = _
  rw [fNat_eq]
theorem crcByte_eq (r x : Nat) : crcByte r x = crcBits (Nat.xor r x) 8 := by simp only [crcByte, fNat_eq, crcBits]
theorem crcBit_lt {r : Nat} (h : r < 2 ^ 32) : crcBit r < 2 ^ 32 := by
  unfold crcBit
  rw [fNat_eq]
  refine Nat.xor_lt_two_pow (by show r / 2 < _; omega) ?_
  show r % 2 * 3988292384 < _
  omega
theorem crcBits_lt : ∀ {k r : Nat}, r < 2 ^ 32 → crcBits r k < 2 ^ 32
  | 0, _, h => h
  | k + 1, r, h => by
    show crcBits (crcBit r) k < _
    exact crcBits_lt (crcBit_lt h)
theorem crcByte_lt {r x : Nat} (h : r < 2 ^ 32) (hx : x < 256) : crcByte r x < 2 ^ 32 := by
  rw [crcByte_eq]
  exact crcBits_lt (Nat.xor_lt_two_pow h (by omega))
theorem crcFrom_lt : ∀ {l : List Nat} {r : Nat}, r < 2 ^ 32 → (∀ x ∈ l, x < 256) → crcFrom l r < 2 ^ 32
  | [], _, h, _ => h
  | x :: l, r, h, hl => by
    rw [crcFrom_cons]
    exact crcFrom_lt (crcByte_lt h (hl x (List.mem_cons_self ..))) fun y hy => hl y (List.mem_cons_of_mem _ hy)

/-! ### the function, compiled -/
abbrev st (d : Nat) (r : Run) : CO := ⟨some (setter d), r, none⟩
abbrev tm (i : Nat) : Opnd := .t (getter i)
abbrev ki (k : Nat) (n : Int) : Opnd := .c (.s (.int k n))
def sumR8 : List CO := [st 18 (rMv (tm 3)), st 19 (rShift false (tm 18) (ki 128 1)), st 20 (rMv (tm 3)), st 21 (rBin .and iAnd (tm 20) (ki 64 1)), st 22 (rNeg (tm 21)), st 23 (rBin .and iAnd (ki 64 3988292384) (tm 22)), st 24 (rBin .xor iXor (tm 19) (tm 23)), st 3 (rMv (tm 24))]
def sumInner : X := xSeq (xRegion [st 17 (rBin .lss iLss (tm 16) (ki 129 8))]) (xSeq (xCond (tm 17) xSkip (xExit (.exit 2))) (xSeq (xBlock 3 (xRegion sumR8)) (xRegion [st 25 (rBin .add iAdd (tm 16) (ki 129 1)), st 16 (rMv (tm 25))])))
def sumRound : X := xSeq (xRegion [st 10 (rAddrSl 1 (tm 6) (tm 8)), st 11 (rLoad false 1 (tm 10)), st 5 (rMv (tm 11))]) (xSeq (xRegion [st 12 (rMv (tm 3)), st 13 (rMv (tm 5)), st 14 (rI2i 64 (tm 13)), st 15 (rBin .xor iXor (tm 12) (tm 14)), st 3 (rMv (tm 15))]) (xSeq (xRegion [st 16 (rMv (ki 129 0))]) (xBlock 2 (xLoop sumInner))))
def sumOuter : X := xSeq (xRegion [st 9 (rBin .lss iLss (tm 8) (tm 7))]) (xSeq (xCond (tm 9) xSkip (xExit (.exit 0))) (xSeq (xBlock 1 sumRound) (xRegion [st 26 (rBin .add iAdd (tm 8) (ki 129 1)), st 8 (rMv (tm 26))])))
def sumBody : X := xSeq (xRegion [st 2 (rMv (ki 64 0))]) (xSeq (xRegion [st 3 (rMv (ki 64 4294967295))]) (xSeq (xSeq (xRegion [st 6 (rMv (tm 0)), st 7 (rLen .slice (tm 6)), st 8 (rMv (ki 129 0))]) (xBlock 0 (xLoop sumOuter))) (xSeq (xRegion [st 27 (rMv (tm 3)), st 28 (rCompl (tm 27)), st 2 (rMv (tm 28))]) (xExit .ret))))
def sumC : CFunc := ⟨29, sumBody, [(none, getter 2)]⟩

theorem gs_same {i : Nat} (hi : i < 512) (e : E) (x : V) : getter i (setter i e x) = x := by rw [getter_setter hi hi, if_pos rfl]
theorem gs_ne {i j : Nat} (hi : i < 512) (hj : j < 512) (h : i ≠ j) (e : E) (x : V) : getter j (setter i e x) = getter j e := by rw [getter_setter hi hj, if_neg h]
theorem runOps_nil (call : Calls) (e : E) (h : Heap) : runOps call [] e h = .ok e h := rfl
theorem runOps_st (call : Calls) (d : Nat) (r : Run) (l : List CO) (e : E) (h : Heap) {v : V} {h' : Heap} (hr : r call (evO e) h = .ok v h') : runOps call (st d r :: l) e h = runOps call l (setter d e v) h' := by
  show stepO call (st d r) e h (runOps call l) = _
  simp only [stepO, wantedA, hr, putE]

theorem low_lt32 {r : Nat} (h : r < 2 ^ 32) : low 64 (Int.ofNat r) = r := by
  show r % 2 ^ 32 = r
  exact Nat.mod_eq_of_lt h
theorem ofBits32 {r : Nat} : ofBits 64 r = Int.ofNat r := by
  unfold ofBits
  simp only [nmod]
  rfl
theorem shift_eq {r : Nat} : shiftA false 64 (Int.ofNat r) 1 = some (.int 64 (Int.ofNat (r / 2))) := by
  show mkInt 64 _ = _
  rw [mkInt_eq]
  rfl
theorem bit_eq {r : Nat} (h : r < 2 ^ 32) : iXor 64 (Int.ofNat (r / 2)) (ofBits 64 (Nat.land (low 64 3988292384) (low 64 (wrapA 64 (subI 0 (ofBits 64 (Nat.land (low 64 (Int.ofNat r)) (low 64 1)))))))) = some (.int 64 (Int.ofNat (crcBit r))) := by
  have h1 : Nat.land (low 64 (Int.ofNat r)) (low 64 1) = r % 2 := by
    rw [low_lt32 h]
    show r &&& 1 = _
    exact Nat.and_one_is_mod r
  rw [h1, ofBits32]
  unfold iXor
  rw [mkInt_eq, ofBits32, ofBits32]
  have h2 : low 64 (Int.ofNat (r / 2)) = r / 2 := low_lt32 (by omega)
  rw [h2]
  unfold crcBit
  rw [fNat_eq]
  rcases Nat.mod_two_eq_zero_or_one r with h3 | h3
  · have e : Nat.mod r 2 = 0 := h3
    rw [h3, e]
    rfl
  · have e : Nat.mod r 2 = 1 := h3
    rw [h3, e]
    rfl

/-- one bit -/
theorem sumR8_ok (call : Calls) {e : E} {r : Nat} (h : r < 2 ^ 32) (he : getter 3 e = .s (.int 64 (Int.ofNat r))) (hp : Heap) :
    ∃ e', xRegion sumR8 call e hp = .ok .normal e' hp ∧ getter 3 e' = .s (.int 64 (Int.ofNat (crcBit r))) ∧ ∀ j, j < 512 → j ≠ 3 → j < 18 ∨ 24 < j → getter j e' = getter j e := by
  unfold sumR8 xRegion
  rw [runOps_st (hr := by show Res.ok (evO e (tm 3)) hp = _; rw [show evO e (tm 3) = getter 3 e from rfl, he])]
  rw [runOps_st (v := .s (.int 64 (Int.ofNat (r / 2)))) (h' := hp) (hr := by
    simp only [rShift, evO, gs_same (i := 18) (by omega), V.sc, shA, shift_eq, rv])]
  rw [runOps_st (v := .s (.int 64 (Int.ofNat r))) (h' := hp) (hr := by
    simp only [rMv, evO, gs_ne (i := 18) (j := 3) (by omega) (by omega) (by omega), gs_ne (i := 19) (j := 3) (by omega) (by omega) (by omega), he])]
  rw [runOps_st (v := .s (.int 64 (ofBits 64 (Nat.land (low 64 (Int.ofNat r)) (low 64 1))))) (h' := hp) (hr := by
    simp only [rBin, evO, gs_same (i := 20) (by omega), V.sc, binA, iAnd, mkInt_eq, rv])]
  rw [runOps_st (v := .s (.int 64 (wrapA 64 (subI 0 (ofBits 64 (Nat.land (low 64 (Int.ofNat r)) (low 64 1))))))) (h' := hp) (hr := by
    simp only [rNeg, evO, gs_same (i := 21) (by omega), asInt, mkInt_eq, rv])]
  rw [runOps_st (v := .s (.int 64 (ofBits 64 (Nat.land (low 64 3988292384) (low 64 (wrapA 64 (subI 0 (ofBits 64 (Nat.land (low 64 (Int.ofNat r)) (low 64 1)))))))))) (h' := hp) (hr := by
    simp only [rBin, evO, gs_same (i := 22) (by omega), V.sc, binA, iAnd, mkInt_eq, rv])]
  rw [runOps_st (v := .s (.int 64 (Int.ofNat (crcBit r)))) (h' := hp) (hr := by
    simp only [rBin, evO, gs_same (i := 23) (by omega), V.sc]
    rw [gs_ne (i := 23) (j := 19) (by omega) (by omega) (by omega), gs_ne (i := 22) (j := 19) (by omega) (by omega) (by omega), gs_ne (i := 21) (j := 19) (by omega) (by omega) (by omega), gs_ne (i := 20) (j := 19) (by omega) (by omega) (by omega), gs_same (i := 19) (by omega)]
    simp only [binA, bit_eq h, rv])]
  rw [runOps_st (v := .s (.int 64 (Int.ofNat (crcBit r)))) (h' := hp) (hr := by
    simp only [rMv, evO, gs_same (i := 24) (by omega)])]
  refine ⟨_, rfl, gs_same (by omega) _ _, fun j hj h3 h4 => ?_⟩
  iterate 8 rw [gs_ne (by omega) hj (by omega)]

theorem xSeq_ok {a b : X} {c : Calls} {e e1 : E} {h h1 : Heap} (ha : a c e h = .ok .normal e1 h1) : xSeq a b c e h = b c e1 h1 := by
  unfold xSeq
  rw [go_eq, ha]
  rfl
theorem xSeq_out {a b : X} {c : Calls} {e e1 : E} {h h1 : Heap} {x : AExit} (ha : a c e h = .ok x e1 h1) (hx : x ≠ .normal) : xSeq a b c e h = .ok x e1 h1 := by
  unfold xSeq
  rw [go_eq, ha]
  cases x <;> first | exact absurd rfl hx | rfl
theorem blt_int (a b : Int) : bltI a b = decide (a < b) := bltI_eq a b

/-- the bits of a byte -/
theorem sumInner_ok (call : Calls) (hp : Heap) : ∀ (m k : Nat) {e : E} {r : Nat}, m ≤ 8 → m < k → r < 2 ^ 32 → getter 3 e = .s (.int 64 (Int.ofNat r)) → getter 16 e = .s (.int 129 (Int.ofNat (8 - m))) →
    ∃ e', loopN (sumInner call) k e hp = .ok (.exit 2) e' hp ∧ getter 3 e' = .s (.int 64 (Int.ofNat (crcBits r m))) ∧ ∀ j, j < 512 → j ≠ 3 → j < 16 ∨ 25 < j → getter j e' = getter j e
  | m, 0, e, r, _, hk, _, _, _ => by omega
  | 0, k + 1, e, r, _, hk, hr, h3, h16 => by
    rw [loopN_succ]
    refine ⟨setter 17 e (.s (.bool false)), ?_, ?_, ?_⟩
    · have hc : sumInner call e hp = .ok (.exit 2) (setter 17 e (.s (.bool false))) hp := by
        unfold sumInner
        rw [xSeq_ok (e1 := setter 17 e (.s (.bool false))) (h1 := hp)]
        · rw [xSeq_out (x := .exit 2) (e1 := setter 17 e (.s (.bool false))) (h1 := hp) _ nofun]
          unfold xCond
          simp only [evO, gs_same (i := 17) (by omega), V.sc, go_eq]
          rfl
        · unfold xRegion
          rw [runOps_st (v := .s (.bool false)) (h' := hp) (hr := by
            simp only [rBin, evO, h16, V.sc]
            rfl)]
          rfl
      rw [hc]
    · rw [gs_ne (by omega) (by omega) (by omega)]; exact h3
    · intro j hj _ _; rw [gs_ne (by omega) hj (by omega)]
  | m + 1, k + 1, e, r, hm, hk, hr, h3, h16 => by
    rw [loopN_succ]
    have h17 : getter 3 (setter 17 e (.s (.bool true))) = .s (.int 64 (Int.ofNat r)) := by rw [gs_ne (by omega) (by omega) (by omega)]; exact h3
    obtain ⟨e1, g1, g2, g3⟩ := sumR8_ok call hr h17 hp
    have h16' : getter 16 e1 = .s (.int 129 (Int.ofNat (8 - (m + 1)))) := by rw [g3 16 (by omega) (by omega) (by omega), gs_ne (by omega) (by omega) (by omega)]; exact h16
    have hnext : iAdd 129 (Int.ofNat (8 - (m + 1))) 1 = some (.int 129 (Int.ofNat (8 - m))) := by
      have : m = 0 ∨ m = 1 ∨ m = 2 ∨ m = 3 ∨ m = 4 ∨ m = 5 ∨ m = 6 ∨ m = 7 := by omega
      rcases this with rfl | rfl | rfl | rfl | rfl | rfl | rfl | rfl <;> rfl
    have hlt : iLss 129 (Int.ofNat (8 - (m + 1))) 8 = some (.bool true) := by
      unfold iLss
      rw [mkBool_eq, blt_int, decide_eq_true (by show ((8 - (m + 1) : Nat) : Int) < 8; omega)]
    have hc : sumInner call e hp = .ok .normal (setter 16 (setter 25 e1 (.s (.int 129 (Int.ofNat (8 - m))))) (.s (.int 129 (Int.ofNat (8 - m))))) hp := by
      unfold sumInner
      rw [xSeq_ok (e1 := setter 17 e (.s (.bool true))) (h1 := hp)]
      · rw [xSeq_ok (e1 := setter 17 e (.s (.bool true))) (h1 := hp)]
        · rw [xSeq_ok (e1 := e1) (h1 := hp)]
          · unfold xRegion
            rw [runOps_st (v := .s (.int 129 (Int.ofNat (8 - m)))) (h' := hp) (hr := by
              simp only [rBin, evO, h16', V.sc, binA, hnext, rv])]
            rw [runOps_st (v := .s (.int 129 (Int.ofNat (8 - m)))) (h' := hp) (hr := by
              simp only [rMv, evO, gs_same (i := 25) (by omega)])]
            rfl
          · unfold xBlock
            rw [go_eq, g1]
        · unfold xCond
          simp only [evO, gs_same (i := 17) (by omega), V.sc, go_eq]
          rfl
      · unfold xRegion
        rw [runOps_st (v := .s (.bool true)) (h' := hp) (hr := by
          simp only [rBin, evO, h16, V.sc, binA, hlt, rv])]
        rfl
    rw [hc]
    obtain ⟨e2, k1, k2, k3⟩ := sumInner_ok call hp m k (e := setter 16 (setter 25 e1 (.s (.int 129 (Int.ofNat (8 - m))))) (.s (.int 129 (Int.ofNat (8 - m))))) (r := crcBit r) (by omega) (by omega) (crcBit_lt hr)
      (by rw [gs_ne (by omega) (by omega) (by omega), gs_ne (by omega) (by omega) (by omega)]; exact g2) (gs_same (by omega) _ _)
    refine ⟨e2, k1, k2, fun j hj j3 j4 => ?_⟩
    rw [k3 j hj j3 j4, gs_ne (by omega) hj (by omega), gs_ne (by omega) hj (by omega), g3 j hj j3 (by omega), gs_ne (by omega) hj (by omega)]

theorem xBlock_exit {id : Nat} {b : X} {c : Calls} {e e1 : E} {h h1 : Heap} (hb : b c e h = .ok (.exit id) e1 h1) : xBlock id b c e h = .ok .normal e1 h1 := by
  unfold xBlock
  rw [go_eq, hb]
  simp only [Nat.beq_refl]
theorem xBlock_normal {id : Nat} {b : X} {c : Calls} {e e1 : E} {h h1 : Heap} (hb : b c e h = .ok .normal e1 h1) : xBlock id b c e h = .ok .normal e1 h1 := by
  unfold xBlock
  rw [go_eq, hb]
theorem xCond_ok {o : Opnd} {x y : X} {c : Calls} {e : E} {h : Heap} {b : Bool} (ho : evO e o = .s (.bool b)) : xCond o x y c e h = (if b then x c e h else y c e h) := by
  unfold xCond
  rw [ho]
  cases b <;> rfl

theorem byte_val {x : Nat} (hx : x < 256) : wrapA 64 (Int.ofNat x) = Int.ofNat x := by
  unfold wrapA
  rw [low_lt32 (by omega), ofBits32]
theorem xor_val {r x : Nat} (hr : r < 2 ^ 32) (hx : x < 256) : iXor 64 (Int.ofNat r) (Int.ofNat x) = some (.int 64 (Int.ofNat (Nat.xor r x))) := by
  unfold iXor
  rw [mkInt_eq, low_lt32 hr, low_lt32 (by omega), ofBits32]

/-- a byte of the slice -/
structure SumRel (e : E) (b o len cap : Nat) (ex : Bool) (i r : Nat) : Prop where
  r3 : getter 3 e = .s (.int 64 (Int.ofNat r))
  s6 : getter 6 e = .x (.slice b o len cap 1 ex)
  n7 : getter 7 e = .s (.int 129 (Int.ofNat len))
  i8 : getter 8 e = .s (.int 129 (Int.ofNat i))
theorem sumRound_ok (call : Calls) {hp : Heap} {e : E} {b o len cap i r x : Nat} {ex : Bool} (s : SumRel e b o len cap ex i r) (hi : i < len) (hr : r < 2 ^ 32) (hx : x < 256) (hread : hp.read b (o + i) 1 = some [.int kByte (Int.ofNat x)]) :
    ∃ e', sumRound call e hp = .ok .normal e' hp ∧ SumRel e' b o len cap ex i (crcByte r x) := by
  have hbelow : below (getter 8 e) len = some i := by
    rw [s.i8]
    unfold below natOf asInt
    simp only
    have : Nat.blt i len = true := nat_blt.2 hi
    rw [this]
  -- the byte
  have h1 : ∃ e1, xRegion [st 10 (rAddrSl 1 (tm 6) (tm 8)), st 11 (rLoad false 1 (tm 10)), st 5 (rMv (tm 11))] call e hp = .ok .normal e1 hp ∧ getter 5 e1 = .s (.int kByte (Int.ofNat x)) ∧ ∀ j, j < 512 → j ≠ 5 → j ≠ 10 → j ≠ 11 → getter j e1 = getter j e := by
    unfold xRegion
    rw [runOps_st (v := .s (.ptr b (o + i))) (h' := hp) (hr := by
      simp only [rAddrSl, evO, s.s6, V.x, asOth, Nat.beq_refl, hbelow, fNat_eq, nadd, nmul, Nat.mul_one])]
    rw [runOps_st (v := .s (.int kByte (Int.ofNat x))) (h' := hp) (hr := by
      simp only [rLoad, evO, gs_same (i := 10) (by omega), asPtr, hread, loaded])]
    rw [runOps_st (v := .s (.int kByte (Int.ofNat x))) (h' := hp) (hr := by
      simp only [rMv, evO, gs_same (i := 11) (by omega)])]
    refine ⟨_, rfl, gs_same (by omega) _ _, fun j hj a b c => ?_⟩
    rw [gs_ne (by omega) hj (by omega), gs_ne (by omega) hj (by omega), gs_ne (by omega) hj (by omega)]
  obtain ⟨e1, a1, a2, a3⟩ := h1
  have h2 : ∃ e2, xRegion [st 12 (rMv (tm 3)), st 13 (rMv (tm 5)), st 14 (rI2i 64 (tm 13)), st 15 (rBin .xor iXor (tm 12) (tm 14)), st 3 (rMv (tm 15))] call e1 hp = .ok .normal e2 hp ∧ getter 3 e2 = .s (.int 64 (Int.ofNat (Nat.xor r x))) ∧ ∀ j, j < 512 → j ≠ 3 → j < 12 ∨ 15 < j → getter j e2 = getter j e1 := by
    unfold xRegion
    rw [runOps_st (v := .s (.int 64 (Int.ofNat r))) (h' := hp) (hr := by
      simp only [rMv, evO, a3 3 (by omega) (by omega) (by omega) (by omega), s.r3])]
    rw [runOps_st (v := .s (.int kByte (Int.ofNat x))) (h' := hp) (hr := by
      simp only [rMv, evO, gs_ne (i := 12) (j := 5) (by omega) (by omega) (by omega), a2])]
    rw [runOps_st (v := .s (.int 64 (Int.ofNat x))) (h' := hp) (hr := by
      simp only [rI2i, evO, gs_same (i := 13) (by omega), asInt, byte_val hx, mkInt_eq, rv])]
    rw [runOps_st (v := .s (.int 64 (Int.ofNat (Nat.xor r x)))) (h' := hp) (hr := by
      simp only [rBin, evO, gs_same (i := 14) (by omega), V.sc]
      rw [gs_ne (i := 14) (j := 12) (by omega) (by omega) (by omega), gs_ne (i := 13) (j := 12) (by omega) (by omega) (by omega), gs_same (i := 12) (by omega)]
      simp only [binA, xor_val hr hx, rv])]
    rw [runOps_st (v := .s (.int 64 (Int.ofNat (Nat.xor r x)))) (h' := hp) (hr := by
      simp only [rMv, evO, gs_same (i := 15) (by omega)])]
    refine ⟨_, rfl, gs_same (by omega) _ _, fun j hj a b => ?_⟩
    iterate 5 rw [gs_ne (by omega) hj (by omega)]
  obtain ⟨e2, b1, b2, b3⟩ := h2
  have h3 : xRegion [st 16 (rMv (ki 129 0))] call e2 hp = .ok .normal (setter 16 e2 (.s (.int 129 0))) hp := by
    unfold xRegion
    rw [runOps_st (v := .s (.int 129 0)) (h' := hp) (hr := rfl)]
    rfl
  obtain ⟨e3, c1, c2, c3⟩ := sumInner_ok call hp 8 rounds (e := setter 16 e2 (.s (.int 129 0))) (r := Nat.xor r x) (by omega) (by decide) (Nat.xor_lt_two_pow hr (by omega)) (by rw [gs_ne (by omega) (by omega) (by omega)]; exact b2) (gs_same (by omega) _ _)
  refine ⟨e3, ?_, ?_⟩
  · unfold sumRound
    rw [xSeq_ok a1, xSeq_ok b1, xSeq_ok h3]
    exact xBlock_exit c1
  · have keep : ∀ j, j = 6 ∨ j = 7 ∨ j = 8 → getter j e3 = getter j e := fun j hj => by
      rw [c3 j (by omega) (by omega) (by omega), gs_ne (by omega) (by omega) (by omega), b3 j (by omega) (by omega) (by omega), a3 j (by omega) (by omega) (by omega) (by omega)]
    exact ⟨by rw [c2, crcByte_eq], by rw [keep 6 (by omega)]; exact s.s6, by rw [keep 7 (by omega)]; exact s.n7, by rw [keep 8 (by omega)]; exact s.i8⟩

/-- one more byte of a list that is read -/
theorem get_drop {α : Type} {l : List α} {i : Nat} {x : α} {m : List α} (h : l.drop i = x :: m) : l[i]? = some x ∧ l.drop (i + 1) = m := by
  have h1 : (l.drop i)[0]? = some x := by rw [h]; rfl
  rw [List.getElem?_drop] at h1
  refine ⟨h1, ?_⟩
  have : (l.drop i).drop 1 = m := by rw [h]; rfl
  rw [List.drop_drop] at this
  exact this
theorem next_i {i : Nat} (h : i < 1000000) : iAdd 129 (Int.ofNat i) 1 = some (.int 129 (Int.ofNat (i + 1))) := by
  unfold iAdd
  rw [mkInt_eq]
  have e : addI (Int.ofNat i) 1 = Int.ofNat (i + 1) := rfl
  rw [e]
  have := wrapA_eq .i64 (Int.ofNat (i + 1))
  have hk : kOf .i64 = 129 := rfl
  rw [hk] at this
  rw [this, wrap_id .i64 (by show IntKind.i64.min ≤ _; have : IntKind.i64.min = -9223372036854775808 := by decide
                             rw [this]; show (-9223372036854775808 : Int) ≤ ((i + 1 : Nat) : Int); omega) (by
    have : IntKind.i64.max = 9223372036854775807 := by decide
    rw [this]; show ((i + 1 : Nat) : Int) ≤ _; omega)]
theorem sumOuter_ok (call : Calls) {hp : Heap} {b o len cap : Nat} {ex : Bool} (hlen : len < 1000000) {l : List Nat} (hl : l.length = len) (hl2 : ∀ x ∈ l, x < 256) (hread : ∀ (i x : Nat), l[i]? = some x → hp.read b (o + i) 1 = some [.int kByte (Int.ofNat x)]) :
    ∀ (m : List Nat) (k i : Nat) {e : E} {r : Nat}, l.drop i = m → i + m.length = len → m.length < k → r < 2 ^ 32 → SumRel e b o len cap ex i r →
    ∃ e', loopN (sumOuter call) k e hp = .ok (.exit 0) e' hp ∧ getter 3 e' = .s (.int 64 (Int.ofNat (crcFrom m r)))
  | m, 0, i, e, r, _, _, hk, _, _ => by omega
  | [], k + 1, i, e, r, hd, hm, hk, hr, s => by
    rw [loopN_succ]
    have hlt : iLss 129 (Int.ofNat i) (Int.ofNat len) = some (.bool false) := by
      unfold iLss
      rw [mkBool_eq, blt_int, decide_eq_false (by show ¬ ((i : Int) < (len : Int)); simp at hm; omega)]
    have hc : sumOuter call e hp = .ok (.exit 0) (setter 9 e (.s (.bool false))) hp := by
      unfold sumOuter
      rw [xSeq_ok (e1 := setter 9 e (.s (.bool false))) (h1 := hp)]
      · rw [xSeq_out (x := .exit 0) (e1 := setter 9 e (.s (.bool false))) (h1 := hp) _ nofun]
        rw [xCond_ok (b := false) (by simp only [evO, gs_same (i := 9) (by omega)])]
        rfl
      · unfold xRegion
        rw [runOps_st (v := .s (.bool false)) (h' := hp) (hr := by
          simp only [rBin, evO, s.i8, s.n7, V.sc, binA, hlt, rv])]
        rfl
    rw [hc]
    exact ⟨_, rfl, by rw [gs_ne (by omega) (by omega) (by omega)]; exact s.r3⟩
  | x :: m, k + 1, i, e, r, hd, hm, hk, hr, s => by
    rw [loopN_succ]
    simp only [List.length_cons] at hm hk
    obtain ⟨g1, g2⟩ := get_drop hd
    have hx := hl2 x (List.mem_of_getElem? g1)
    have hlt : iLss 129 (Int.ofNat i) (Int.ofNat len) = some (.bool true) := by
      unfold iLss
      rw [mkBool_eq, blt_int, decide_eq_true (by show (i : Int) < (len : Int); omega)]
    have s' : SumRel (setter 9 e (.s (.bool true))) b o len cap ex i r :=
      ⟨by rw [gs_ne (by omega) (by omega) (by omega)]; exact s.r3, by rw [gs_ne (by omega) (by omega) (by omega)]; exact s.s6, by rw [gs_ne (by omega) (by omega) (by omega)]; exact s.n7, by rw [gs_ne (by omega) (by omega) (by omega)]; exact s.i8⟩
    obtain ⟨e1, k1, k2⟩ := sumRound_ok call s' (by omega) hr hx (hread i x g1)
    have hc : sumOuter call e hp = .ok .normal (setter 8 (setter 26 e1 (.s (.int 129 (Int.ofNat (i + 1))))) (.s (.int 129 (Int.ofNat (i + 1))))) hp := by
      unfold sumOuter
      rw [xSeq_ok (e1 := setter 9 e (.s (.bool true))) (h1 := hp)]
      · rw [xSeq_ok (e1 := setter 9 e (.s (.bool true))) (h1 := hp)]
        · rw [xSeq_ok (xBlock_normal k1)]
          unfold xRegion
          rw [runOps_st (v := .s (.int 129 (Int.ofNat (i + 1)))) (h' := hp) (hr := by
            simp only [rBin, evO, k2.i8, V.sc, binA, next_i (show i < 1000000 by omega), rv])]
          rw [runOps_st (v := .s (.int 129 (Int.ofNat (i + 1)))) (h' := hp) (hr := by
            simp only [rMv, evO, gs_same (i := 26) (by omega)])]
          rfl
        · rw [xCond_ok (b := true) (by simp only [evO, gs_same (i := 9) (by omega)])]
          rfl
      · unfold xRegion
        rw [runOps_st (v := .s (.bool true)) (h' := hp) (hr := by
          simp only [rBin, evO, s.i8, s.n7, V.sc, binA, hlt, rv])]
        rfl
    rw [hc]
    obtain ⟨e2, q1, q2⟩ := sumOuter_ok call hlen hl hl2 hread m k (i + 1) (e := setter 8 (setter 26 e1 (.s (.int 129 (Int.ofNat (i + 1))))) (.s (.int 129 (Int.ofNat (i + 1))))) (r := crcByte r x) g2 (by omega) (by omega) (crcByte_lt hr hx)
      ⟨by rw [gs_ne (by omega) (by omega) (by omega), gs_ne (by omega) (by omega) (by omega)]; exact k2.r3, by rw [gs_ne (by omega) (by omega) (by omega), gs_ne (by omega) (by omega) (by omega)]; exact k2.s6,
        by rw [gs_ne (by omega) (by omega) (by omega), gs_ne (by omega) (by omega) (by omega)]; exact k2.n7, gs_same (by omega) _ _⟩
    exact ⟨e2, q1, by rw [q2, crcFrom_cons]⟩

theorem not_val {r : Nat} (h : r < 2 ^ 32) : mkInt 64 (ofBits 64 (Nat.sub (all1 64) (low 64 (Int.ofNat r)))) = some (.int 64 (Int.ofNat (Nat.sub 4294967295 r))) := by
  rw [mkInt_eq, low_lt32 h, ofBits32]
  rfl
theorem sumBody_ok (call : Calls) {hp : Heap} {e : E} {b o len cap : Nat} {ex : Bool} (h0 : getter 0 e = .x (.slice b o len cap 1 ex)) (hlen : len < 1000000) {l : List Nat} (hl : l.length = len) (hl2 : ∀ x ∈ l, x < 256)
    (hread : ∀ (i x : Nat), l[i]? = some x → hp.read b (o + i) 1 = some [.int kByte (Int.ofNat x)]) : ∃ e', sumBody call e hp = .ok .ret e' hp ∧ getter 2 e' = .s (.int 64 (Int.ofNat (crc l))) := by
  have h1 : xRegion [st 2 (rMv (ki 64 0))] call e hp = .ok .normal (setter 2 e (.s (.int 64 0))) hp := by
    unfold xRegion
    rw [runOps_st (v := .s (.int 64 0)) (h' := hp) (hr := rfl)]; rfl
  have h2 : xRegion [st 3 (rMv (ki 64 4294967295))] call (setter 2 e (.s (.int 64 0))) hp = .ok .normal (setter 3 (setter 2 e (.s (.int 64 0))) (.s (.int 64 4294967295))) hp := by
    unfold xRegion
    rw [runOps_st (v := .s (.int 64 4294967295)) (h' := hp) (hr := rfl)]; rfl
  have h3 : ∃ e1, xRegion [st 6 (rMv (tm 0)), st 7 (rLen .slice (tm 6)), st 8 (rMv (ki 129 0))] call (setter 3 (setter 2 e (.s (.int 64 0))) (.s (.int 64 4294967295))) hp = .ok .normal e1 hp ∧ SumRel e1 b o len cap ex 0 4294967295 := by
    unfold xRegion
    rw [runOps_st (v := .x (.slice b o len cap 1 ex)) (h' := hp) (hr := by
      simp only [rMv, evO]
      rw [gs_ne (by omega) (by omega) (by omega), gs_ne (by omega) (by omega) (by omega), h0])]
    rw [runOps_st (v := .s (.int 129 (Int.ofNat len))) (h' := hp) (hr := by
      simp only [rLen, evO, gs_same (i := 6) (by omega), V.x, asOth])]
    rw [runOps_st (v := .s (.int 129 0)) (h' := hp) (hr := rfl)]
    refine ⟨_, rfl, ?_, ?_, ?_, gs_same (by omega) _ _⟩
    · iterate 3 rw [gs_ne (by omega) (by omega) (by omega)]
      rw [gs_same (by omega)]; rfl
    · iterate 2 rw [gs_ne (by omega) (by omega) (by omega)]
      rw [gs_same (by omega)]
    · rw [gs_ne (by omega) (by omega) (by omega), gs_same (by omega)]
  obtain ⟨e1, a1, a2⟩ := h3
  obtain ⟨e2, b1, b2⟩ := sumOuter_ok call hlen hl hl2 hread l rounds 0 rfl (by omega) (by unfold rounds; omega) (by omega) a2
  have hlt := crcFrom_lt (l := l) (r := 4294967295) (by omega) hl2
  have h4 : ∃ e3, xRegion [st 27 (rMv (tm 3)), st 28 (rCompl (tm 27)), st 2 (rMv (tm 28))] call e2 hp = .ok .normal e3 hp ∧ getter 2 e3 = .s (.int 64 (Int.ofNat (crc l))) := by
    unfold xRegion
    rw [runOps_st (v := .s (.int 64 (Int.ofNat (crcFrom l 4294967295)))) (h' := hp) (hr := by
      simp only [rMv, evO, b2])]
    rw [runOps_st (v := .s (.int 64 (Int.ofNat (crc l)))) (h' := hp) (hr := by
      simp only [rCompl, evO, gs_same (i := 27) (by omega), asInt, not_val hlt, rv]
      rfl)]
    rw [runOps_st (v := .s (.int 64 (Int.ofNat (crc l)))) (h' := hp) (hr := by
      simp only [rMv, evO, gs_same (i := 28) (by omega)])]
    exact ⟨_, rfl, gs_same (by omega) _ _⟩
  obtain ⟨e3, c1, c2⟩ := h4
  refine ⟨e3, ?_, c2⟩
  unfold sumBody
  rw [xSeq_ok h1, xSeq_ok h2, xSeq_ok (e1 := e2) (h1 := hp)]
  · rw [xSeq_ok c1]; rfl
  · rw [xSeq_ok a1]
    exact xBlock_exit b1

theorem unbytes_spec : ∀ {l : List AV} {m : List Nat}, unbytes l = some m → l = m.map (fun x => AV.int kByte (Int.ofNat x)) ∧ ∀ x ∈ m, x < 256
  | [], m, h => by injection h with h; subst h; exact ⟨rfl, fun _ h => nomatch h⟩
  | a :: l, m, h => by
    simp only [unbytes] at h
    split at h
    · rename_i n hn
      split at h
      · rename_i r hr
        injection h with h; subst h
        obtain ⟨h1, h2⟩ := unbytes_spec hr
        have hb : a = .int kByte (Int.ofNat n) ∧ n < 256 := by
          unfold byteOf at hn
          split at hn
          · rename_i k z
            split at hn
            · rename_i hk
              rw [nat_beq] at hk
              subst hk
              split at hn
              · rename_i q
                split at hn
                · rename_i hq
                  injection hn with hn; subst hn
                  exact ⟨rfl, nat_blt.1 hq⟩
                · cases hn
              · cases hn
            · cases hn
          · cases hn
        exact ⟨by rw [hb.1, h1]; rfl, fun x hx => by
          cases hx with
          | head => exact hb.2
          | tail _ hm => exact h2 x hm⟩
      · cases h
    · cases h

/-- the check sum as an external function: of bytes that lie in one row of cells -/
def sumOf (h : Heap) (b o len es : Nat) : Option Nat := match Nat.beq es 1 && Nat.blt len 1000000 with
  | true => (match h.get b with
    | some (.cells _ l) => (match takeN len (dropN o l) with
      | some l => (match unbytes l with | some l => some (crc l) | none => none)
      | none => none)
    | _ => none)
  | false => none
def extSum (fs : List Nat) : Ext := fun f args h => match memN f fs with
  | true => (match args with
    | [v] => asOth v none fun x => (match x with
      | .slice b o len _ es _ => (match sumOf h b o len es with
        | some n => fNat n fun n => some (.ok (.s (.int 64 (Int.ofNat n))) h)
        | none => none)
      | _ => none)
    | _ => none)
  | false => none

theorem sumOf_spec {h : Heap} {b o len es n : Nat} (hs : sumOf h b o len es = some n) : es = 1 ∧ len < 1000000 ∧ ∃ l : List Nat, n = crc l ∧ l.length = len ∧ (∀ x ∈ l, x < 256) ∧ ∀ (i x : Nat), l[i]? = some x → h.read b (o + i) 1 = some [.int kByte (Int.ofNat x)] := by
  unfold sumOf at hs
  split at hs
  · rename_i hc
    rw [Bool.and_eq_true, nat_beq, nat_blt] at hc
    split at hs
    · rename_i fz l0 hg
      split at hs
      · rename_i l1 hl1
        split at hs
        · rename_i l hl
          injection hs with hs; subst hs
          obtain ⟨u1, u2⟩ := unbytes_spec hl
          rw [takeN_eq] at hl1
          split at hl1
          · rename_i hle
            injection hl1 with hl1
            have hlen : l.length = len := by
              have := congrArg List.length hl1
              rw [u1, List.length_map, List.length_take] at this
              omega
            refine ⟨hc.1, hc.2, l, rfl, hlen, u2, fun i x hx => ?_⟩
            have hi : i < l.length := (List.getElem?_eq_some_iff.1 hx).1
            have hcell : l0[o + i]? = some (.int kByte (Int.ofNat x)) := by
              have h1 : (l.map fun x => AV.int kByte (Int.ofNat x))[i]? = some (.int kByte (Int.ofNat x)) := by rw [List.getElem?_map, hx]; rfl
              rw [← u1, ← hl1, List.getElem?_take_of_lt (by omega), dropN_eq, List.getElem?_drop] at h1
              exact h1
            unfold Heap.read
            rw [hg]
            show takeN 1 (dropN (o + i) l0) = _
            have hlt : o + i < l0.length := (List.getElem?_eq_some_iff.1 hcell).1
            rw [takeN_eq, if_pos (by rw [dropN_eq, List.length_drop]; omega), dropN_eq]
            have hget : l0[o + i] = .int kByte (Int.ofNat x) := by
              rw [List.getElem?_eq_getElem hlt] at hcell
              exact Option.some.inj hcell
            rw [List.drop_eq_getElem_cons hlt, hget]
            rfl
          · cases hl1
        · cases hs
      · cases hs
    · cases hs
  · cases hs

/-- a function whose code, run by the evaluator, does what an external function says -/
theorem ext_of_enter (hD : DrawAll P) (hN : NamesOk P) {ext : Ext} (h : ∀ f args hp v h', ext f args hp = some (.ok v h') → enterA (compF P) ((CSim.run P ext0 0).at none) f args hp = .ok v h') : ExtOk P ext := by
  intro f args hp v h' hr
  have hc := run_ok hD hN (ext0_ok (P := P)) ext0_mono 0
  have hm := run_mono (P := P) ext0_mono 0
  refine enter_ok hD hN hc hm f args hp v h' (h f args hp v h' ?_)
  simp only at hr
  split at hr
  · rename_i r hx
    rw [hx, hr]
  · cases hr
theorem extSum_mono (fs : List Nat) : ExtMono (extSum fs) := by
  intro f args h v h' hx
  unfold extSum at hx
  split at hx
  · split at hx
    · simp only [asOth, fNat_eq] at hx
      repeat' split at hx
      all_goals first
        | (cases hx; done)
        | (injection hx with hx; injection hx with _ hx; rw [hx]; exact Nat.le_refl _)
    · cases hx
  · cases hx
theorem extSum_ok (hD : DrawAll P) (hN : NamesOk P) {fs : List Nat} (hfs : ∀ f ∈ fs, compF P f = some sumC) : ExtOk P (extSum fs) := by
  refine ext_of_enter hD hN fun f args hp v h' hx => ?_
  unfold extSum at hx
  split at hx
  · rename_i hm
    rw [memN_iff] at hm
    split at hx
    · rename_i v0
      simp only [asOth, fNat_eq] at hx
      split at hx
      · rename_i a
        split at hx
        · rename_i x
          split at hx
          · rename_i b o len cap es ex
            split at hx
            · rename_i n hn
              injection hx with hx
              injection hx with e1 e2; subst e1; subst e2
              obtain ⟨rfl, hlen, l, rfl, hl1, hl2, hl3⟩ := sumOf_spec hn
              unfold enterA
              rw [hfs f hm]
              simp only [go_eq]
              have h0 : getter 0 (initE [V.s (.oth (.slice b o len cap 1 ex))] 0 E.empty) = .x (.slice b o len cap 1 ex) := by
                rw [initE_get _ _ _ 0 (by omega) (by simp)]
                rfl
              obtain ⟨e', g1, g2⟩ := sumBody_ok ((CSim.run P ext0 0).at none) (hp := hp) h0 hlen hl1 hl2 hl3
              have hle : Nat.ble (lenL [V.s (.oth (.slice b o len cap 1 ex))]) sumC.np = true := rfl
              rw [hle]
              simp only
              have hb : sumC.body = sumBody := rfl
              rw [hb, g1]
              simp only [leave, resA]
              have hres : sumC.res = [(none, getter 2)] := rfl
              rw [hres]
              simp only [resA, g2, resV]
            · cases hx
          · cases hx
        · cases hx
      · cases hx
    · cases hx
  · cases hx

/-- two externals -/
def extOr (a b : Ext) : Ext := fun f args h => match a f args h with
  | some r => some r
  | none => b f args h
theorem extOr_mono {a b : Ext} (ha : ExtMono a) (hb : ExtMono b) : ExtMono (extOr a b) := by
  intro f args h v h' hx
  unfold extOr at hx
  split at hx
  · rename_i r hr
    injection hx with hx; subst hx
    exact ha f args h v h' hr
  · exact hb f args h v h' hx
theorem extOr_ok {a b : Ext} (ha : ExtOk P a) (hb : ExtOk P b) : ExtOk P (extOr a b) := by
  intro f args h v h' hx
  cases hr : a f args h with
  | some r =>
    have hx' : r = .ok v h' := by simpa only [extOr, hr] using hx
    exact ha f args h v h' (by simp only [hr]; exact hx')
  | none =>
    refine hb f args h v h' ?_
    simpa only [extOr, hr] using hx
end
end CSim
