/-
  A region that draws its order: slots, kept memories, the frame.
-/
import Derived.Test.YtkkolfaecabloaaGreatSimDrawD
namespace CSim
set_option linter.unusedSimpArgs false
set_option linter.unusedVariables false
open Go
variable {P : Program} {n : Nat}

/-- the latest memory kept is the present one, as far as blocks go -/
def Head (s : St) : Prop := ∃ g l, s.hs = g :: l ∧ ∀ b, g.get b = s.h.get b

theorem Run1.head {call : Calls} {co : CO} {k : Kind} (ha : AllocOk co k) {s s' : St} {w : Bool} {v : V} (h : Run1 call co k s w v s') (hh : Head s) : Head s' := by
  obtain ⟨g, l, h1, h2⟩ := hh
  cases h with
  | skipEff => exact ⟨_, _, rfl, fun _ => rfl⟩
  | skip => exact ⟨g, l, h1, h2⟩
  | eff => exact ⟨_, _, rfl, fun _ => rfl⟩
  | pure => exact ⟨g, l, h1, h2⟩
  | read => exact ⟨g, l, h1, h2⟩
  | alloc =>
    rename_i h1' b hw hfree hb hr
    obtain ⟨a1, O, rfl, a3⟩ := ha rfl _ _ _ _ _ hr
    refine ⟨g.upd s.h.next (some b), addTo s.h.next b l, by rw [h1]; rfl, fun x => ?_⟩
    have hput : ∀ j, (⟨Nat.succ s.h.next, s.h.m.set s.h.next (some O)⟩ : Heap).get j = if s.h.next = j then some O else s.h.get j := fun j => Heap.get_upd a1 (some O) j
    have hO : b = O := by
      have := hb
      rw [hput, if_pos rfl] at this
      exact (Option.some.inj this).symm
    subst hO
    show (g.upd s.h.next (some b)).get x = _
    rw [Heap.get_upd a1, h2]
    exact (hput x).symm

/-- relations hang on the blocks alone -/
theorem HRel.congr {ρ : Ren} {h g : Heap} {w : World} (hh : HRel ρ h w) (hg : ∀ b o p, g.get b = some o → ρ b = some p → h.get b = some o) : HRel ρ g w :=
  ⟨fun b o p h1 hp => hh.ok b o p (hg b o p h1 hp) hp, hh.low, fun b o p h1 hp => hh.obj b o p (hg b o p h1 hp) hp, fun b b' o o' p p' h1 h2 hp hp' he => hh.inj b b' o o' p p' (hg b o p h1 hp) (hg b' o' p' h2 hp') hp hp' he, fun b o p h1 hp h2 => hh.tight b o p (hg b o p h1 hp) hp h2⟩

theorem Grow.split {A : Nat → H0} {g C : Heap} (h : Grow A g C) {b : Nat} {o : AObj} (hb : C.get b = some o) : (A b = some o ∧ g.get b = none) ∨ (A b = none ∧ g.get b = some o) := by
  obtain ⟨h1, h2⟩ := h b
  cases hA : A b with
  | none => rw [hA] at h1; exact .inr ⟨rfl, h1.symm.trans hb⟩
  | some x =>
    rw [hA] at h1
    have hn := h2 (by rw [hA]; nofun)
    rw [h1] at hb
    exact .inl ⟨hb, hn⟩
theorem Grow.added {A : Nat → H0} {g C : Heap} (h : Grow A g C) {b : Nat} {o : AObj} (hb : A b = some o) : C.get b = some o ∧ g.get b = none := by
  obtain ⟨h1, h2⟩ := h b
  rw [hb] at h1
  exact ⟨h1, h2 (by rw [hb]; nofun)⟩

/-- a step in a part of the memory is one in the whole -/
theorem frame {ρ ρ' : Ren} {g g' C C' : Heap} {w w' : World} {A : Nat → H0} (hC : HRel ρ C w) (hG : Grow A g C) (hG' : Grow A g' C') (s : Step ρ g w ρ' g' w') (hA : ∀ b, A b ≠ none → ¬ (g.next ≤ b ∧ b < g'.next)) :
    HRel ρ' C' w' ∧ (∀ c, c < w.heap.size → ¬ Owns ρ C c → w'.heap[c]? = w.heap[c]?) ∧ (∀ c, Owns ρ' C' c → Owns ρ C c ∨ w.heap.size ≤ c) := by
  have old : ∀ {b o p}, A b = some o → ρ' b = some p → ρ b = some p := fun {b o p} hb hp => by
    rcases s.new b p hp with h | ⟨_, h2, h3⟩
    · exact h
    · exact absurd ⟨h2, h3⟩ (hA b (by rw [hb]; nofun))
  have notown : ∀ {b o p}, A b = some o → ρ b = some p → ¬ Owns ρ g p.blk := fun {b o p} hb hp ⟨b2, o2, p2, h1, h2, h3⟩ => by
    obtain ⟨k1, k2⟩ := hG.added hb
    have := hC.inj b2 b o2 o p2 p (hG.sub h1) k1 h2 hp h3
    subst this
    rw [k2] at h1; cases h1
  have ownsub : ∀ c, Owns ρ g c → Owns ρ C c := fun c ⟨b, o, p, h1, h2, h3⟩ => ⟨b, o, p, hG.sub h1, h2, h3⟩
  refine ⟨⟨fun b o p hb hp => ?_, s.rel.low, fun b o p hb hp => ?_, fun b b' o o' p p' hb hb' hp hp' he => ?_, fun b o p hb hp h1 => by
    rcases hG'.split hb with ⟨h2, _⟩ | ⟨_, h2⟩
    · exact hC.tight b o p (hG.added h2).1 (old h2 hp) h1
    · exact s.rel.tight b o p h2 hp h1⟩, fun c hc hno => s.same c hc fun h => hno (ownsub c h), ?_⟩
  · rcases hG'.split hb with ⟨h1, _⟩ | ⟨_, h1⟩
    · exact hC.ok b o p (hG.added h1).1 (old h1 hp)
    · exact s.rel.ok b o p h1 hp
  · rcases hG'.split hb with ⟨h1, _⟩ | ⟨_, h1⟩
    · have hp0 := old h1 hp
      obtain ⟨x, hx, hr⟩ := hC.obj b o p (hG.added h1).1 hp0
      exact ⟨x, by rw [s.same p.blk (hC.low b p hp0) (notown h1 hp0)]; exact hx, hr.le s.le⟩
    · exact s.rel.obj b o p h1 hp
  · have mixed : ∀ {b b' o o' p p'}, A b = some o → g'.get b' = some o' → ρ' b = some p → ρ' b' = some p' → p.blk = p'.blk → False := fun {b b' o o' p p'} h1 h2 hp hp' he => by
      have hp0 := old h1 hp
      rcases s.owns p.blk ⟨b', o', p', h2, hp', he.symm⟩ with h | h
      · exact notown h1 hp0 h
      · have := hC.low b p hp0; omega
    rcases hG'.split hb with ⟨h1, _⟩ | ⟨_, h1⟩
    · rcases hG'.split hb' with ⟨h2, _⟩ | ⟨_, h2⟩
      · exact hC.inj b b' o o' p p' (hG.added h1).1 (hG.added h2).1 (old h1 hp) (old h2 hp') he
      · exact (mixed h1 h2 hp hp' he).elim
    · rcases hG'.split hb' with ⟨h2, _⟩ | ⟨_, h2⟩
      · exact (mixed h2 h1 hp' hp he.symm).elim
      · exact s.rel.inj b b' o o' p p' h1 h2 hp hp' he
  · rintro c ⟨b, o, p, hb, hp, he⟩
    rcases hG'.split hb with ⟨h1, _⟩ | ⟨_, h1⟩
    · exact .inl ⟨b, o, p, (hG.added h1).1, old h1 hp, he⟩
    · rcases s.owns c ⟨b, o, p, h1, hp, he⟩ with h | h
      · exact .inl (ownsub c h)
      · exact .inr h

theorem putE_get {dst : Option Tmp} {d : Option Setter} (hd : dstOf n dst = some d) (hn : n ≤ 512) {e : E} {v : V} {s : Nat} (hs : s < n) : getter s (putE e d v) = if dst = some s then v else getter s e := by
  unfold dstOf at hd
  cases dst with
  | none => injection hd with hd; subst hd; rfl
  | some t =>
    simp only at hd
    split at hd
    · rename_i ht
      rw [nat_blt] at ht
      rw [withSetter_eq] at hd
      injection hd with hd; subst hd
      show getter s (setter t e v) = _
      rw [getter_setter (by omega) (by omega)]
      by_cases h : t = s
      · subst h; simp
      · rw [if_neg h, if_neg (fun h' => h (Option.some.inj h'))]
    · cases hd
theorem Run1.env {call : Calls} {co : CO} {k : Kind} {s s' : St} {w : Bool} {v : V} (h : Run1 call co k s w v s') : s'.e = putE s.e co.dst v := by cases h <;> rfl
theorem Run1.wanted {call : Calls} {co : CO} {k : Kind} {s s' : St} {w : Bool} {v : V} (h : Run1 call co k s w v s') : wantedA s.e co.guard = some w := by cases h <;> assumption

/-- slots of the canonical run -/
theorem slots_of {S : Nat → St} {V' : Nat → V} {D : Nat → Option Nat} (hn : n ≤ 512) (m : Nat) (hstep : ∀ t, t < m → ∃ d, dstOf n (D t) = some d ∧ (S (t + 1)).e = putE (S t).e d (V' t)) (huniq : ∀ t u s, t < u → u < m → D t = some s → D u ≠ some s) {s : Nat} (hs : s < n) :
    ∀ t, t ≤ m → (∀ u, u < t → D u = some s → getter s (S t).e = V' u) ∧ ((∀ u, u < t → D u ≠ some s) → getter s (S t).e = getter s (S 0).e)
  | 0, _ => ⟨fun u hu => by omega, fun _ => rfl⟩
  | t + 1, ht => by
    obtain ⟨i1, i2⟩ := slots_of hn m hstep huniq hs t (by omega)
    obtain ⟨d, h1, h2⟩ := hstep t (by omega)
    have hg := putE_get h1 hn (e := (S t).e) (v := V' t) hs
    rw [← h2] at hg
    refine ⟨fun u hu hd => ?_, fun hno => ?_⟩
    · by_cases e : u = t
      · subst e; rw [hg, if_pos hd]
      · rw [hg, if_neg (fun h => huniq u t s (by omega) (by omega) hd h)]
        exact i1 u (by omega) hd
    · rw [hg, if_neg (hno t (by omega))]
      exact i2 fun u hu => hno u (by omega)
end CSim
