/-
  A region that draws its order: what the checks of the canonical order say.
-/
import Derived.Test.YtkkolfaecabloaaGreatSimDrawA
namespace CSim
set_option linter.unusedSimpArgs false
set_option linter.unusedVariables false
open Go
variable {P : Program} {n : Nat}

/-- does the operation with a number change something? -/
def effAt (P : Program) (ops : Array Oper) (i : Nat) : Bool := match ops[i]? with
  | some o => isEff P o
  | none => false
/-- those that change something, the last one first -/
def effRev (P : Program) (ops : Array Oper) : List Nat → List Nat → List Nat
  | [], acc => acc
  | i :: l, acc => effRev P ops l (match effAt P ops i with | true => i :: acc | false => acc)

structure Pair (P : Program) (ops : Array Oper) (b : List Nat) (i : Nat) (o : Oper) (j : Nat) (o' : Oper) : Prop where
  ne : i ≠ j
  fwd : bef b j i = false
  dst : ∀ d, o.dst = some d → o'.dst ≠ some d
  rd : ∀ d, o.dst = some d → d ∈ tmpsOf ops o' → bef b i j = true
  rd' : ∀ d, o'.dst = some d → d ∈ tmpsOf ops o → bef b i j = true
  eff : isEff P o = true → isEff P o' = true → bef b i j = true

theorem pairOk_spec {ops : Array Oper} {b : List Nat} {i j : Nat} {o o' : Oper} (ho : ops[j]? = some o') (h : pairOk P ops b i o j = true) : Pair P ops b i o j o' := by
  unfold pairOk at h
  simp only [ho, Bool.and_eq_true, Bool.not_eq_true', Bool.or_eq_true] at h
  obtain ⟨⟨⟨h1, h2⟩, h3⟩, h4⟩ := h
  refine ⟨nat_beq_false.1 h1, h2, fun d hd hd' => ?_, fun d hd hm => ?_, fun d hd hm => ?_, fun e1 e2 => ?_⟩
  · unfold sameDst at h3
    rw [hd, hd'] at h3
    simp at h3
  · rcases h4 with h4 | ⟨⟨h4, _⟩, _⟩
    · exact h4
    · unfold reads at h4
      rw [hd] at h4
      simp only at h4
      rw [memN_iff.2 hm] at h4; cases h4
  · rcases h4 with h4 | ⟨⟨_, h4⟩, _⟩
    · exact h4
    · unfold reads at h4
      rw [hd] at h4
      simp only at h4
      rw [memN_iff.2 hm] at h4; cases h4
  · rcases h4 with h4 | ⟨_, h4⟩
    · exact h4
    · rw [e1, e2] at h4; cases h4

theorem firstEff_spec {ops : Array Oper} : ∀ {l : List Nat} {u j : Nat}, (∀ i ∈ l, ∃ o, ops[i]? = some o) → l[u]? = some j → effAt P ops j = true → ∃ v j', v ≤ u ∧ l[v]? = some j' ∧ effAt P ops j' = true ∧ firstEff P ops l = some j'
  | [], u, j, _, h, _ => by simp at h
  | i :: l, u, j, hs, h, he => by
    obtain ⟨o, ho⟩ := hs i (List.mem_cons_self ..)
    cases hi : isEff P o with
    | true => exact ⟨0, i, Nat.zero_le _, rfl, by simp [effAt, ho, hi], by simp [firstEff, ho, hi]⟩
    | false =>
      cases u with
      | zero => simp at h; subst h; simp [effAt, ho, hi] at he
      | succ u =>
        obtain ⟨v, j', h1, h2, h3, h4⟩ := firstEff_spec (fun i hm => hs i (List.mem_cons_of_mem _ hm)) (by simpa using h) he
        exact ⟨v + 1, j', by omega, by simpa using h2, h3, by simp [firstEff, ho, hi, h4]⟩

structure Order (P : Program) (ops : Array Oper) (b : List Nat) (kind : Nat → Oper → Kind) (l pe : List Nat) : Prop where
  is : ∀ i ∈ l, ∃ o, ops[i]? = some o
  pair : ∀ (t u i j : Nat) (o o' : Oper), t < u → l[t]? = some i → l[u]? = some j → ops[i]? = some o → ops[j]? = some o' → Pair P ops b i o j o'
  next : ∀ (t u i j : Nat), t < u → l[t]? = some i → l[u]? = some j → effAt P ops i = false → effAt P ops j = true → ∃ v j', t < v ∧ v ≤ u ∧ l[v]? = some j' ∧ effAt P ops j' = true ∧ bef b i j' = true
  back : ∀ (t i : Nat) (o : Oper), l[t]? = some i → ops[i]? = some o → backOk b (kind i o) i (effRev P ops (l.take t) pe) = true

theorem orderOk_spec {ops : Array Oper} {b : List Nat} {kind : Nat → Oper → Kind} : ∀ {l pe : List Nat}, orderOk P ops b kind l pe = true → Order P ops b kind l pe
  | [], pe, _ => ⟨(fun _ h => nomatch h), (fun t u i j o o' _ h => by simp at h), (fun t u i j _ h => by simp at h), (fun t i o h => by simp at h)⟩
  | i0 :: l, pe, h => by
    simp only [orderOk] at h
    split at h
    · cases h
    · rename_i o0 ho0
      simp only [Bool.and_eq_true, List.all_eq_true] at h
      obtain ⟨⟨h1, h2⟩, h3⟩ := h
      have hrest : Order P ops b kind l (match effAt P ops i0 with | true => i0 :: pe | false => pe) ∧ (isEff P o0 = false → ∀ j, firstEff P ops l = some j → bef b i0 j = true) := by
        cases he : isEff P o0 with
        | true =>
          rw [he] at h3
          have : effAt P ops i0 = true := by simp [effAt, ho0, he]
          rw [this]
          exact ⟨orderOk_spec h3, nofun⟩
        | false =>
          rw [he] at h3
          simp only [Bool.and_eq_true] at h3
          have : effAt P ops i0 = false := by simp [effAt, ho0, he]
          rw [this]
          refine ⟨orderOk_spec h3.2, fun _ j hj => ?_⟩
          have := h3.1
          rw [hj] at this
          exact this
      obtain ⟨ih, hfirst⟩ := hrest
      refine ⟨fun i hi => ?_, fun t u i j o o' htu ht hu ho ho' => ?_, fun t u i j htu ht hu he1 he2 => ?_, fun t i o ht ho => ?_⟩
      · cases hi with
        | head => exact ⟨o0, ho0⟩
        | tail _ hm => exact ih.is i hm
      · cases u with
        | zero => omega
        | succ u =>
          cases t with
          | zero =>
            simp at ht; subst ht
            rw [ho0] at ho; injection ho with ho; subst ho
            have hj : j ∈ l := List.mem_of_getElem? (by simpa using hu)
            exact pairOk_spec ho' (h1 j hj)
          | succ t => exact ih.pair t u i j o o' (by omega) (by simpa using ht) (by simpa using hu) ho ho'
      · cases u with
        | zero => omega
        | succ u =>
          cases t with
          | zero =>
            simp at ht; subst ht
            have he0 : isEff P o0 = false := by simpa [effAt, ho0] using he1
            obtain ⟨v, j', g1, g2, g3, g4⟩ := firstEff_spec (P := P) ih.is (by simpa using hu) he2
            exact ⟨v + 1, j', by omega, by omega, by simpa using g2, g3, hfirst he0 j' g4⟩
          | succ t =>
            obtain ⟨v, j', g1, g2, g3, g4, g5⟩ := ih.next t u i j (by omega) (by simpa using ht) (by simpa using hu) he1 he2
            exact ⟨v + 1, j', by omega, by omega, by simpa using g3, g4, g5⟩
      · cases t with
        | zero =>
          simp at ht; subst ht
          rw [ho0] at ho; injection ho with ho; subst ho
          exact h2
        | succ t => exact ih.back t i o (by simpa using ht) ho
end CSim
