/-
  A region that draws its order: the memories of the canonical run.
-/
import Derived.Test.YtkkolfaecabloaaGreatSimDrawC
namespace CSim
set_option linter.unusedSimpArgs false
set_option linter.unusedVariables false
open Go
variable {P : Program} {n : Nat}

def isEffK : Kind → Bool
  | .eff => true
  | _ => false

theorem Run1.next {call : Calls} (hm : CallsMono call) {co : CO} (hco : Mono co.run) {k : Kind} {s s' : St} {w : Bool} {v : V} (h : Run1 call co k s w v s') : s.h.next ≤ s'.h.next := by
  cases h with
  | skipEff => exact Nat.le_refl _
  | skip => exact Nat.le_refl _
  | eff => rename_i hr; exact hco call hm _ _ _ _ hr
  | pure => exact Nat.le_refl _
  | alloc => rename_i hr' _ _ _; exact hco call hm _ _ _ _ ‹_›
  | read => exact Nat.le_refl _

/-- 'g'' is 'g' and some blocks more -/
def Grow (A : Nat → H0) (g g' : Heap) : Prop := ∀ b, (g'.get b = match A b with | some o => some o | none => g.get b) ∧ (A b ≠ none → g.get b = none)
theorem Grow.sub {A : Nat → H0} {g g' : Heap} (h : Grow A g g') {b : Nat} {o : AObj} (hb : g.get b = some o) : g'.get b = some o := by
  obtain ⟨h1, h2⟩ := h b
  cases hA : A b with
  | none => rw [h1, hA]; exact hb
  | some x => have := h2 (by rw [hA]; nofun); rw [hb] at this; cases this
theorem Grow.refl (g : Heap) : Grow (fun _ => none) g g := fun b => ⟨rfl, fun h => absurd rfl h⟩

theorem addTo_grow {i : Nat} {o : AObj} (hi : i < most) : ∀ {l : List Heap}, freeIn i l = true → All2 (Grow (fun b => if b = i then some o else none)) l (addTo i o l)
  | [], _ => .nil
  | g :: l, h => by
    simp only [freeIn] at h
    split at h
    · cases h
    · rename_i hg
      refine .cons (fun b => ⟨?_, fun hb => ?_⟩) (addTo_grow hi h)
      · rw [Heap.get_upd hi]
        by_cases e : i = b
        · subst e; simp
        · have e' : ¬ b = i := fun h => e h.symm
          simp [e, e']
      · by_cases e : b = i
        · subst e; exact hg
        · exact absurd (if_neg e) hb

theorem Grow.trans {A B : Nat → H0} {g g1 g2 : Heap} (h : Grow A g g1) (k : Grow B g1 g2) : Grow (fun b => match B b with | some o => some o | none => A b) g g2 := by
  intro b
  obtain ⟨h1, h2⟩ := h b
  obtain ⟨k1, k2⟩ := k b
  show (g2.get b = match (match B b with | some o => some o | none => A b) with | some o => some o | none => g.get b) ∧ ((match B b with | some o => some o | none => A b) ≠ none → g.get b = none)
  cases hB : B b with
  | none =>
    rw [hB] at k1
    exact ⟨k1.trans h1, h2⟩
  | some o =>
    rw [hB] at k1
    refine ⟨k1, fun _ => ?_⟩
    have hn := k2 (by rw [hB]; nofun)
    cases hA : A b with
    | none => rw [hA] at h1; exact h1.symm.trans hn
    | some x => exact h2 (by rw [hA]; nofun)

theorem All2.trans3 {α : Type} {R S T : α → α → Prop} (hRS : ∀ a b c, R a b → S b c → T a c) : ∀ {l m k : List α}, All2 R l m → All2 S m k → All2 T l k
  | _, _, _, .nil, .nil => .nil
  | _, _, _, .cons h t, .cons h' t' => .cons (hRS _ _ _ h h') (All2.trans3 hRS t t')

/-- what has become of the memories kept, at the run's end -/
def Tail (s f : St) (c : Nat) : Prop := ∃ (A : Nat → H0) (F l' : List Heap), f.hs = F ++ l' ∧ F.length = c ∧ (∀ b, A b ≠ none → s.h.next ≤ b ∧ b < f.h.next) ∧ All2 (Grow A) s.hs l' ∧ s.h.next ≤ f.h.next

/-- how many of some kinds change something -/
def effCount : List (CO × Kind) → Nat
  | [] => 0
  | (_, k) :: l => (if isEffK k then 1 else 0) + effCount l

/-- an operation that makes a block makes just one -/
def AllocOk (co : CO) (k : Kind) : Prop := k = .alloc → AllocR co.run

theorem Run1.tail {call : Calls} (hm : CallsMono call) {co : CO} (hco : Mono co.run) {k : Kind} (ha : AllocOk co k) {s s' f : St} {w : Bool} {v : V} {c : Nat} (h : Run1 call co k s w v s') (ht : Tail s' f c) : Tail s f ((if isEffK k then 1 else 0) + c) := by
  obtain ⟨A, F, l', h1, h2, h3, h4, h5⟩ := ht
  have hn := h.next hm hco
  have h3' : ∀ b, A b ≠ none → s.h.next ≤ b ∧ b < f.h.next := fun b hb => ⟨Nat.le_trans hn (h3 b hb).1, (h3 b hb).2⟩
  have h5' := Nat.le_trans hn h5
  have push : ∀ {g : Heap}, s'.hs = g :: s.hs → Tail s f (1 + c) := by
    intro g hg
    rw [hg] at h4
    cases h4 with
    | cons hab t =>
      rename_i g' l''
      refine ⟨A, F ++ [g'], l'', by rw [h1]; simp, by simp [h2]; omega, h3', t, h5'⟩
  cases h with
  | skipEff hw => simpa [isEffK] using push rfl
  | skip =>
    rename_i hk hw
    have : isEffK k = false := by cases k <;> first | rfl | exact absurd rfl hk
    rw [this]
    exact ⟨A, F, l', h1, by simp [h2], h3', h4, h5'⟩
  | eff h1' hw hr => simpa [isEffK] using push rfl
  | pure h1' hw hr => exact ⟨A, F, l', h1, by simp [isEffK, h2], h3', h4, h5'⟩
  | read back g0 g1 hs' hw hh hr hst => exact ⟨A, F, l', h1, by simp [isEffK, h2], h3', h4, h5'⟩
  | alloc =>
    rename_i h1' b hw hfree hb hr
    obtain ⟨a1, O, a2, a3⟩ := ha rfl _ _ _ _ _ hr
    have hg := addTo_grow (o := b) a1 hfree
    refine ⟨_, F, l', h1, by simp [isEffK, h2], fun x hx => ?_, All2.trans3 (fun _ _ _ => Grow.trans) hg h4, h5'⟩
    cases hA : A x with
    | some o => exact h3' x (by rw [hA]; nofun)
    | none =>
      rw [hA] at hx
      by_cases e : x = s.h.next
      · have hs : s.h.next < h1'.next := by rw [a2]; exact Nat.lt_succ_self _
        have h5'' : h1'.next ≤ f.h.next := h5
        omega
      · simp [e] at hx

theorem tail_of {call : Calls} (hm : CallsMono call) {S : Nat → St} {W : Nat → Bool} {V' : Nat → V} : ∀ {l : List (CO × Kind)} {t : Nat}, (∀ x ∈ l, Mono x.1.run ∧ AllocOk x.1 x.2) →
    (∀ (j : Nat) co k, l[j]? = some (co, k) → Run1 call co k (S (t + j)) (W (t + j)) (V' (t + j)) (S (t + j + 1))) → Tail (S t) (S (t + l.length)) (effCount l)
  | [], t, _, _ => ⟨fun _ => none, [], (S t).hs, rfl, rfl, fun b h => absurd rfl h, by
      generalize (S t).hs = hs
      induction hs with
      | nil => exact .nil
      | cons g l ih => exact .cons (Grow.refl g) ih, Nat.le_refl _⟩
  | (co, k) :: l, t, hl, hr => by
    have h0 := hr 0 co k rfl
    obtain ⟨m1, m2⟩ := hl (co, k) (List.mem_cons_self ..)
    have ih := tail_of hm (S := S) (W := W) (V' := V') (l := l) (t := t + 1) (fun x hx => hl x (List.mem_cons_of_mem _ hx)) fun j co' k' hj => by
      have := hr (j + 1) co' k' (by simpa using hj)
      rwa [show t + (j + 1) = t + 1 + j by omega] at this
    have := h0.tail hm m1 m2 ih
    rw [show t + ((co, k) :: l).length = t + 1 + l.length by simp; omega]
    exact this
end CSim
