/-
  A region that draws its order: the canonical run, with all that the checks say.
-/
import Derived.Test.YtkkolfaecabloaaGreatSimDrawF
import Derived.OrdersIn
namespace CSim
set_option linter.unusedSimpArgs false
set_option linter.unusedVariables false
open Go
variable {P : Program} {n : Nat}

/-- the canonical run of a region -/
structure Can (P : Program) (n : Nat) (ops : Array Oper) (call : Calls) where
  b : List Nat
  L : List Nat
  kind : Nat → Oper → Kind
  o : Nat → Oper
  co : Nat → CO
  S : Nat → St
  W : Nat → Bool
  V : Nat → V
  hb : b = befs ops.toList []
  edges : edgesOk 0 ops.toList = true
  all : ∀ i, i < ops.size → i ∈ L
  order : Order P ops b kind L []
  inOps : ∀ (t i : Nat), L[t]? = some i → ops[i]? = some (o t)
  comp : ∀ (t i : Nat), L[t]? = some i → compCO P n ops (o t) = some (co t)
  run : ∀ (t i : Nat), L[t]? = some i → Run1 call (co t) (kind i (o t)) (S t) (W t) (V t) (S (t + 1))
  kindIs : ∀ (i : Nat) (o : Oper), (kind i o = effOf P o.op) ∨ ∃ a c, kind i o = .read a ∧ effOf P o.op = .read c

variable {ops : Array Oper} {call : Calls}
theorem Can.pos (c : Can P n ops call) {i : Nat} (hi : i < ops.size) : ∃ t : Nat, c.L[t]? = some i := by
  obtain ⟨t, ht, h⟩ := List.getElem_of_mem (c.all i hi)
  exact ⟨t, by rw [← h]; exact List.getElem?_eq_getElem ht⟩
theorem Can.posUniq (c : Can P n ops call) {t u i : Nat} (ht : c.L[t]? = some i) (hu : c.L[u]? = some i) : t = u := by
  rcases Nat.lt_trichotomy t u with h | h | h
  · exact absurd rfl (c.order.pair t u i i _ _ h ht hu (c.inOps t i ht) (c.inOps u i hu)).ne
  · exact h
  · exact absurd rfl (c.order.pair u t i i _ _ h hu ht (c.inOps u i hu) (c.inOps t i ht)).ne

/-- does the operation at a position change something? -/
def Can.eff (c : Can P n ops call) (t : Nat) : Bool := isEff P (c.o t)
/-- how many of the first positions change something -/
def Can.kc (c : Can P n ops call) : Nat → Nat
  | 0 => 0
  | t + 1 => c.kc t + (if c.eff t then 1 else 0)
theorem Can.kc_le (c : Can P n ops call) {t u : Nat} (h : t ≤ u) : c.kc t ≤ c.kc u := by
  induction h with
  | refl => exact Nat.le_refl _
  | step _ ih => exact Nat.le_trans ih (Nat.le_add_right _ _)
theorem Can.kc_lt (c : Can P n ops call) {t u : Nat} (h : t < u) (he : c.eff t = true) : c.kc t < c.kc u := by
  have h1 : c.kc (t + 1) = c.kc t + 1 := by simp [Can.kc, he]
  have := c.kc_le (show t + 1 ≤ u from h)
  omega
/-- the position of the k-th -/
theorem Can.kc_pos (c : Can P n ops call) : ∀ {u k : Nat}, k < c.kc u → ∃ t, t < u ∧ c.eff t = true ∧ c.kc t = k
  | 0, k, h => by simp [Can.kc] at h
  | u + 1, k, h => by
    by_cases h1 : k < c.kc u
    · obtain ⟨t, h2, h3⟩ := c.kc_pos h1
      exact ⟨t, by omega, h3⟩
    · cases he : c.eff u with
      | true =>
        simp [Can.kc, he] at h
        exact ⟨u, by omega, he, by omega⟩
      | false => simp [Can.kc, he] at h; omega

theorem All2.at {α β : Type} {R : α → β → Prop} {l : List α} {m : List β} (h : All2 R l m) {i : Nat} {x : α} (hx : l[i]? = some x) : ∃ y, m[i]? = some y ∧ R x y := h.get hx

/-- the memories of the canonical run -/
structure Mem' (c : Can P n ops call) (m : Nat) : Prop where
  len : ∀ t, t ≤ m → (c.S t).hs.length = c.kc t + 1
  head : ∀ t, t ≤ m → Head (c.S t)
  tail : ∀ t, t ≤ m → Tail (c.S t) (c.S m) (c.kc m - c.kc t)
  next : ∀ t u, t ≤ u → u ≤ m → (c.S t).h.next ≤ (c.S u).h.next

/-- the memory behind the k-th effect, with all blocks that are made later -/
def Can.M (c : Can P n ops call) (m k : Nat) : Heap := ((c.S m).hs[c.kc m - k]?).getD ⟨0, Mem.empty⟩

theorem Mem'.grow {c : Can P n ops call} {m : Nat} (h : Mem' c m) {t : Nat} (ht : t ≤ m) : ∃ A : Nat → H0, (∀ b, A b ≠ none → (c.S t).h.next ≤ b ∧ b < (c.S m).h.next) ∧ ∀ k, k ≤ c.kc t → ∃ g, (c.S t).hs[c.kc t - k]? = some g ∧ Grow A g (c.M m k) := by
  obtain ⟨A, F, l', h1, h2, h3, h4, _⟩ := h.tail t ht
  refine ⟨A, h3, fun k hk => ?_⟩
  have hl := h.len t ht
  have hlt : c.kc t - k < (c.S t).hs.length := by omega
  obtain ⟨y, hy, hg⟩ := h4.get (List.getElem?_eq_getElem hlt)
  refine ⟨_, List.getElem?_eq_getElem hlt, ?_⟩
  have hkm := c.kc_le ht
  have : (c.S m).hs[c.kc m - k]? = some y := by
    rw [h1, List.getElem?_append_right (by omega), h2, show c.kc m - k - (c.kc m - c.kc t) = c.kc t - k by omega]
    exact hy
  unfold Can.M
  rw [this]
  exact hg
end CSim
