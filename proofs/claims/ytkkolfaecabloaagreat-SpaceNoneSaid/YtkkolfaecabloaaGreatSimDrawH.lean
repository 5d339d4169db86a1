/-
  A region that draws its order: what holds when some of its operations are done.
-/
import Derived.Test.YtkkolfaecabloaaGreatSimDrawG
namespace CSim
set_option linter.unusedSimpArgs false
set_option linter.unusedVariables false
open Go
variable {P : Program} {n : Nat} {ops : Array Oper} {call : Calls}

/-- an operation is done -/
def Done (ls : Array Bool) (i : Nat) : Prop := ls.getD i false = true

/-- what holds when the operations in 'ls' are done; 'k' of those that change something -/
structure Inv (c : Can P n ops call) (ρ0 : Ren) (w0 : World) (ds : List Deferred) (ls : Array Bool) (a : Act) (w : World) (ê : E) (ρ : Ren) (k : Nat) : Prop where
  size : ls.size = ops.size
  env : ERel ρ n ê a.tmps
  ds : a.defers = ds
  slot : ∀ (t i : Nat) (s : Nat), c.L[t]? = some i → Done ls i → (c.o t).dst = some s → s < n → getter s ê = c.V t
  slot0 : ∀ s, s < n → (∀ (t i : Nat), c.L[t]? = some i → Done ls i → (c.o t).dst ≠ some s) → getter s ê = getter s (c.S 0).e
  effs : ∀ (t i : Nat), c.L[t]? = some i → c.eff t = true → (Done ls i ↔ c.kc t < k)
  kle : k ≤ c.kc c.L.length
  closed : ∀ i j, j < ops.size → Done ls j → bef c.b i j = true → Done ls i
  rel : HRel ρ (c.M c.L.length k) w
  le : ρ0.le ρ
  new : ∀ b p, ρ b = some p → ρ0 b = some p ∨ (ρ0 b = none ∧ ∃ t i : Nat, c.L[t]? = some i ∧ Done ls i ∧ (c.S t).h.next ≤ b ∧ b < (c.S (t + 1)).h.next)
  grew : w0.heap.size ≤ w.heap.size
  same : ∀ x, x < w0.heap.size → ¬ Owns ρ0 (c.S 0).h x → w.heap[x]? = w0.heap[x]?
  owns : ∀ x, Owns ρ (c.M c.L.length k) x → Owns ρ0 (c.S 0).h x ∨ w0.heap.size ≤ x
  os : w.os = w0.os
  tape : w.tape = w0.tape
  output : w.output = w0.output

theorem done_set {ls : Array Bool} {i j : Nat} (hi : i < ls.size) : Done (ls.setIfInBounds i true) j ↔ j = i ∨ Done ls j := by
  unfold Done
  simp only [Array.getD_eq_getD_getElem?, Array.getElem?_setIfInBounds]
  by_cases h : i = j
  · subst h; simp [hi]
  · simp [h, Ne.symm h]

/-- one operation more is done -/
theorem Inv.step {c : Can P n ops call} (hn : n ≤ 512) {ρ0 : Ren} {w0 : World} {ds : List Deferred} {ls : Array Bool} {a : Act} {w : World} {ê : E} {ρ : Ren} {k : Nat} (inv : Inv c ρ0 w0 ds ls a w ê ρ k) {t i : Nat} (ht : c.L[t]? = some i) (hnd : ¬ Done ls i)
    (hpre : ∀ j, bef c.b j i = true → Done ls j) {cv : Value} {ρ' : Ren} {w' : World} {g g' : Heap} {A : Nat → H0} {k' : Nat} {C : Heap} (hC : HRel ρ C w) (hO : ∀ x, Owns ρ C x → Owns ρ (c.M c.L.length k) x) (hG : Grow A g C) (hG' : Grow A g' (c.M c.L.length k')) (s : Step ρ g w ρ' g' w')
    (hA : ∀ b, A b ≠ none → ¬ (g.next ≤ b ∧ b < g'.next)) (hv : VRel ρ' (c.V t) cv) (hnew : ∀ b, g.next ≤ b → b < g'.next → (c.S t).h.next ≤ b ∧ b < (c.S (t + 1)).h.next) (hk' : k' = k + if c.eff t then 1 else 0) (hkt : c.eff t = true → k = c.kc t) (hkle : k' ≤ c.kc c.L.length) :
    Inv c ρ0 w0 ds (ls.setIfInBounds i true) (a.put (c.o t).dst cv) w' (putE ê (c.co t).dst (c.V t)) ρ' k' := by
  have hi : i < ls.size := by rw [inv.size]; exact (Array.getElem?_eq_some_iff.1 (c.inOps t i ht)).1
  obtain ⟨hg, hd, hrun⟩ := compCO_some (c.comp t i ht)
  obtain ⟨f1, f2, f3⟩ := frame hC hG hG' s hA
  obtain ⟨p1, p2⟩ := put_ok hd (inv.env.le s.le) hv
  have hget := fun {x : Nat} (hx : x < n) => putE_get hd hn (e := ê) (v := c.V t) hx
  refine ⟨by simpa using inv.size, p1, p2.trans inv.ds, fun u j x hu hj hx hxn => ?_, fun x hxn hno => ?_, fun u j hu he => ?_, hkle, fun x y hy hdy hb => ?_, f1, Ren.le_trans inv.le s.le, fun b p hp => ?_, Nat.le_trans inv.grew s.size, fun x hx hno => ?_, fun x hx => ?_, s.os.trans inv.os, s.tape.trans inv.tape, s.output.trans inv.output⟩
  · rw [hget hxn]
    by_cases e : u = t
    · subst e; rw [if_pos hx]
    · have hne : j ≠ i := fun h => e (by subst h; exact c.posUniq hu ht)
      have hdst : (c.o t).dst ≠ some x := by
        rcases Nat.lt_or_gt_of_ne e with h | h
        · exact (c.order.pair u t j i _ _ h hu ht (c.inOps u j hu) (c.inOps t i ht)).dst x hx
        · exact fun h2 => (c.order.pair t u i j _ _ h ht hu (c.inOps t i ht) (c.inOps u j hu)).dst x h2 hx
      rw [if_neg hdst]
      exact inv.slot u j x hu (((done_set hi).1 hj).resolve_left hne) hx hxn
  · rw [hget hxn, if_neg (hno t i ht ((done_set hi).2 (.inl rfl)))]
    exact inv.slot0 x hxn fun u j hu hj => hno u j hu ((done_set hi).2 (.inr hj))
  · rw [done_set hi]
    by_cases e : u = t
    · subst e
      have : j = i := by rw [ht] at hu; exact (Option.some.inj hu).symm
      subst this
      rw [hk', he, ← hkt he]; simp
    · have hne : j ≠ i := fun h => e (by subst h; exact c.posUniq hu ht)
      rw [or_iff_right hne, inv.effs u j hu he, hk']
      cases het : c.eff t with
      | false => simp
      | true =>
        have hk := hkt het
        have hkne : c.kc u ≠ c.kc t := fun h => by
          rcases Nat.lt_or_gt_of_ne e with h2 | h2
          · have := c.kc_lt h2 he; omega
          · have := c.kc_lt h2 het; omega
        simp; omega
  · rw [done_set hi] at hdy ⊢
    rcases hdy with rfl | hdy
    · exact .inr (hpre x hb)
    · exact .inr (inv.closed x y hy hdy hb)
  · rcases s.new b p hp with h | ⟨h1, h2, h3⟩
    · rcases inv.new b p h with h | ⟨h1, u, j, h2, h3, h4⟩
      · exact .inl h
      · exact .inr ⟨h1, u, j, h2, (done_set hi).2 (.inr h3), h4⟩
    · refine .inr ⟨?_, t, i, ht, (done_set hi).2 (.inl rfl), hnew b h2 h3⟩
      cases h0 : ρ0 b with
      | none => rfl
      | some q => rw [inv.le b q h0] at h1; cases h1
  · rw [f2 x (Nat.lt_of_lt_of_le hx inv.grew) (fun ho => ?_), inv.same x hx hno]
    rcases inv.owns x (hO x ho) with h | h
    · exact hno h
    · omega
  · rcases f3 x hx with h | h
    · exact inv.owns x (hO x h)
    · exact .inr (Nat.le_trans inv.grew h)
end CSim
