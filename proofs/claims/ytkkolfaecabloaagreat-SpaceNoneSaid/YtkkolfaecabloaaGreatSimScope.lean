/-
  A scope: where labels lie, so many jumps.
-/
import Derived.LoopNIn
import Derived.Scope
namespace CSim
set_option linter.unusedSimpArgs false
set_option linter.unusedVariables false
open Go

/-- behind a jump to a label of the scope: the code behind the label -/
def Exit.inScope (c : Code) (next : Code → Act → World → Prop) (Q : Exit → Act → World → Prop) : Exit → Act → World → Prop
  | .goto l, a, w => ∃ rest, findLabel c l = some rest ∧ next rest a w
  | e, a, w => Q e a w
def scopeRounds (F : Fence) (n : Nat) (P : Program) (c : Code) (Q : Exit → Act → World → Prop) : Nat → Code → Act → World → Prop
  | 0, _, _, _ => False
  | m + 1, x, a, w => x.wpIn F n P (Exit.inScope c (scopeRounds F n P c Q m) Q) a w

section
variable {P : Program} {b : Frame} {a : Act} {k : List Item} {cs : List Frame} {w : World}
theorem stepR_scope {c : Code} : step P (lone (b.atR a (.code (.scope c) :: k)) cs w) = .next (lone (b.atR a (.code c :: .inScope c :: k)) cs w) :=
  step_lone_go (by simp [stepG, stepG.exec, Frame.atR])
theorem stepR_inScope {c : Code} : step P (lone (b.atR a (.inScope c :: k)) cs w) = .next (lone (b.atR a k) cs w) :=
  step_lone_go (by simp [stepG, stepG.exec, Frame.atR])
end

theorem wpIn_scope_rounds {F : Fence} {n : Nat} {P : Program} {Q : Exit → Act → World → Prop} {a : Act} {w : World} {c : Code} (m : Nat) (h : scopeRounds F n P c Q m c a w) : (Code.scope c).wpIn F n P Q a w := by
  intro b k cs hro hb hr
  have key : ∀ m x a w, scopeRounds F n P c Q m x a w →
      ∃ e a' w', Q e a' w' ∧ ArrivesIn (Machine.fenced P F) P (lone (b.atR a (.code x :: .inScope c :: k)) cs w) b k cs e a' w' := by
    intro m
    induction m with
    | zero => intro x a w h; exact h.elim
    | succ m ih =>
      intro x a w h
      obtain ⟨e, a₁, w₁, hq, harr⟩ := h b (.inScope c :: k) cs hro hb hr
      cases e with
      | normal => exact ⟨.normal, a₁, w₁, hq, StepsIn.trans harr (.one (fenced_calm hb hr rfl) stepR_inScope)⟩
      | exit id => exact ⟨.exit id, a₁, w₁, hq, fun k' hk => harr.1 k' (by simp [exitTo, hk]), fun h1 hk => harr.2 h1 (by simp [exitTo, hk])⟩
      | goto l =>
        obtain ⟨rest, hf, hn⟩ := hq
        obtain ⟨e₂, a₂, w₂, hq₂, harr₂⟩ := ih rest a₁ w₁ hn
        have hg : gotoIn l (.inScope c :: k) = some (.code rest :: .inScope c :: k) := by simp [gotoIn, hf]
        exact ⟨e₂, a₂, w₂, hq₂, .of_steps (harr.1 _ hg) harr₂⟩
      | ret => exact ⟨_, a₁, w₁, hq, harr⟩
      | panic ch => exact ⟨_, a₁, w₁, hq, harr⟩
      | outgrown => exact ⟨_, a₁, w₁, hq, harr⟩
  obtain ⟨e, a', w', hq, harr⟩ := key m c a w h
  exact ⟨e, a', w', hq, .of_steps (.one (fenced_calm hb hr rfl) stepR_scope) harr⟩
end CSim
