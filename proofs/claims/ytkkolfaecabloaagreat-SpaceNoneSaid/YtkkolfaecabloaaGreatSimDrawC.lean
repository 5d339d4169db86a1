/-
  A region that draws its order: the canonical run, step by step.
-/
import Derived.Test.YtkkolfaecabloaaGreatSimDrawB
namespace CSim
set_option linter.unusedSimpArgs false
set_option linter.unusedVariables false
open Go
variable {P : Program} {n : Nat}

/-- a state of the canonical run -/
structure St where
  e : E
  h : Heap
  hs : List Heap

/-- one step of the canonical run: was it wanted, what did it yield -/
inductive Run1 (call : Calls) (co : CO) : Kind → St → Bool → V → St → Prop
  | skipEff (s : St) (hw : wantedA s.e co.guard = some false) : Run1 call co .eff s false undefA ⟨putE s.e co.dst undefA, s.h, s.h :: s.hs⟩
  | skip (k : Kind) (s : St) (hk : k ≠ .eff) (hw : wantedA s.e co.guard = some false) : Run1 call co k s false undefA ⟨putE s.e co.dst undefA, s.h, s.hs⟩
  | eff (s : St) (v : V) (h1 : Heap) (hw : wantedA s.e co.guard = some true) (hr : co.run call (evO s.e) s.h = .ok v h1) : Run1 call co .eff s true v ⟨putE s.e co.dst v, h1, h1 :: s.hs⟩
  | pure (s : St) (v : V) (h1 : Heap) (hw : wantedA s.e co.guard = some true) (hr : co.run call (evO s.e) s.h = .ok v h1) : Run1 call co .pure s true v ⟨putE s.e co.dst v, s.h, s.hs⟩
  | alloc (s : St) (v : V) (h1 : Heap) (b : AObj) (hw : wantedA s.e co.guard = some true) (hr : co.run call (evO s.e) s.h = .ok v h1) (hfree : freeIn s.h.next s.hs = true) (hb : h1.get s.h.next = some b) :
      Run1 call co .alloc s true v ⟨putE s.e co.dst v, h1, addTo s.h.next b s.hs⟩
  | read (back : Nat) (s : St) (v : V) (g0 g1 : Heap) (hs' : List Heap) (hw : wantedA s.e co.guard = some true) (hh : s.hs = g0 :: hs') (hr : co.run call (evO s.e) g0 = .ok v g1) (hst : stable co.run call (evO s.e) v back hs' = true) :
      Run1 call co (.read back) s true v ⟨putE s.e co.dst v, s.h, s.hs⟩

theorem drawO_ok {call : Calls} {co : CO} {k : Kind} {e : E} {h : Heap} {hs : List Heap} {f : E → Heap → List Heap → ORes} {e' : E} {h' : Heap} (hr : drawO call co k e h hs f = .ok e' h') :
    ∃ w v s', Run1 call co k ⟨e, h, hs⟩ w v s' ∧ f s'.e s'.h s'.hs = .ok e' h' := by
  unfold drawO at hr
  split at hr
  · cases hr
  · rename_i w hw
    cases k with
    | eff =>
      cases w with
      | false => exact ⟨false, undefA, _, .skipEff _ hw, hr⟩
      | true =>
        simp only [drawEff] at hr
        split at hr
        · rename_i v h1 hv; exact ⟨true, v, _, .eff _ v h1 hw hv, hr⟩
        · cases hr
    | pure =>
      cases w with
      | false => exact ⟨false, undefA, _, .skip _ _ nofun hw, hr⟩
      | true =>
        simp only [drawPure] at hr
        split at hr
        · rename_i v h1 hv; exact ⟨true, v, _, .pure _ v h1 hw hv, hr⟩
        · cases hr
    | alloc =>
      cases w with
      | false => exact ⟨false, undefA, _, .skip _ _ nofun hw, hr⟩
      | true =>
        simp only [drawAlloc] at hr
        split at hr
        · rename_i v h1 hv
          split at hr
          · rename_i hf
            split at hr
            · rename_i b hb; exact ⟨true, v, _, .alloc _ v h1 b hw hv hf hb, hr⟩
            · cases hr
          · cases hr
        · cases hr
    | read back =>
      cases w with
      | false => exact ⟨false, undefA, _, .skip _ _ nofun hw, hr⟩
      | true =>
        simp only [drawRead] at hr
        split at hr
        · cases hr
        · rename_i g0 hs'
          split at hr
          · rename_i v g1 hv
            split at hr
            · rename_i hst; exact ⟨true, v, _, .read back _ v g0 g1 hs' hw rfl hv hst, hr⟩
            · cases hr
          · cases hr

/-- the canonical run, as a sequence of states -/
theorem trace_of {call : Calls} : ∀ {l : List (CO × Kind)} {e : E} {h : Heap} {hs : List Heap} {e' : E} {h' : Heap}, runDraw call l e h hs = .ok e' h' →
    ∃ (S : Nat → St) (W : Nat → Bool) (V' : Nat → V), S 0 = ⟨e, h, hs⟩ ∧ (S l.length).e = e' ∧ (S l.length).h = h' ∧ ∀ (t : Nat) co k, l[t]? = some (co, k) → Run1 call co k (S t) (W t) (V' t) (S (t + 1))
  | [], e, h, hs, e', h', hr => by
    injection hr with h1 h2; subst h1; subst h2
    exact ⟨fun _ => ⟨e, h, hs⟩, fun _ => true, fun _ => undefA, rfl, rfl, rfl, fun t co k ht => by simp at ht⟩
  | (co, k) :: l, e, h, hs, e', h', hr => by
    simp only [runDraw, go_eq] at hr
    obtain ⟨w, v, s', h1, h2⟩ := drawO_ok hr
    obtain ⟨S, W, V', g0, g1, g2, g3⟩ := trace_of h2
    refine ⟨fun t => match t with | 0 => ⟨e, h, hs⟩ | t + 1 => S t, fun t => match t with | 0 => w | t + 1 => W t, fun t => match t with | 0 => v | t + 1 => V' t, rfl, g1, g2, fun t co' k' ht => ?_⟩
    cases t with
    | zero =>
      simp at ht
      obtain ⟨rfl, rfl⟩ := ht
      show Run1 call co k ⟨e, h, hs⟩ w v (S 0)
      rw [g0]; exact h1
    | succ t => exact g3 t co' k' (by simpa using ht)
end CSim
