/-
  A region whose operations are done in order.
-/
import Derived.Test.YtkkolfaecabloaaGreatSimMono2
namespace CSim
set_option linter.unusedSimpArgs false
set_option linter.unusedVariables false
open Go
variable {P : Program} {n : Nat}

theorem getter_getD {ρ : Ren} {e : E} {tmps : Array Value} (he : ERel ρ n e tmps) {t : Nat} (ht : t < n) : ∃ v, tmps[t]? = some v ∧ VRel ρ (getter t e) v := by
  have h1 := he.2.2 t ht
  have hlt : t < tmps.size := Nat.lt_of_lt_of_le ht he.2.1
  refine ⟨tmps[t], Array.getElem?_eq_getElem hlt, ?_⟩
  have : tmps.getD t undef = tmps[t] := by simp [Array.getD, hlt]
  rwa [this] at h1

theorem wanted_ok {ops : Array Oper} {o : Oper} {g : Option (Getter × Bool)} (hg : guardOf n ops o = some g) {ρ : Ren} {e : E} {tmps : Array Value} (he : ERel ρ n e tmps) {b : Bool} (hw : wantedA e g = some b) :
    Region.wanted o (yielded ops tmps) = b := by
  unfold guardOf at hg
  unfold Region.wanted
  split at hg
  · rename_i ho
    injection hg with hg; subst hg
    injection hw with hw; subst hw
    simp only [ho]
  · rename_i j w ho
    simp only [ho]
    split at hg
    · rename_i t ht
      split at hg
      · rename_i hlt
        rw [nat_blt] at hlt
        rw [withGetter_eq] at hg
        injection hg with hg; subst hg
        obtain ⟨v, hv, hvr⟩ := getter_getD he hlt
        unfold yielded
        simp only [ht, Option.bind_some, hv]
        simp only [wantedA] at hw
        cases hx : getter t e with
        | s s =>
          rw [hx] at hw hvr
          cases s with
          | bool c =>
            have : v = .bool c := hvr
            subst this
            cases c with
            | true => injection hw with hw; subst hw; cases w <;> rfl
            | false => injection hw with hw; subst hw; cases w <;> rfl
          | _ => cases hw
        | tup l =>
          rw [hx] at hw hvr
          cases l with
          | nil =>
            obtain ⟨vs, rfl, _⟩ := hvr
            cases hw; first | rfl | done
          | cons => cases hw
        | agg l => rw [hx] at hw; cases hw
      · cases hg
    · cases hg

theorem put_ok {dst : Option Tmp} {d : Option Setter} (hd : dstOf n dst = some d) {ρ : Ren} {e : E} {a : Act} (he : ERel ρ n e a.tmps) {v : V} {cv : Value} (hv : VRel ρ v cv) : ERel ρ n (putE e d v) (a.put dst cv).tmps ∧ (a.put dst cv).defers = a.defers := by
  unfold dstOf at hd
  cases dst with
  | none => injection hd with hd; subst hd; exact ⟨he, rfl⟩
  | some t =>
    simp only at hd
    split at hd
    · rename_i ht
      rw [nat_blt] at ht
      rw [withSetter_eq] at hd
      injection hd with hd; subst hd
      have hlt : t < a.tmps.size := Nat.lt_of_lt_of_le ht he.2.1
      refine ⟨⟨he.1, by simpa [Act.put] using he.2.1, fun i hi => ?_⟩, rfl⟩
      show VRel ρ (getter i (setter t e v)) ((a.tmps.setIfInBounds t cv).getD i undef)
      rw [getter_setter (Nat.lt_of_lt_of_le ht he.1) (Nat.lt_of_lt_of_le hi he.1)]
      have hi' : i < a.tmps.size := Nat.lt_of_lt_of_le hi he.2.1
      by_cases h : t = i
      · subst h
        rw [if_pos rfl]
        simp [Array.getD, hlt]
        exact hv
      · rw [if_neg h]
        have := he.2.2 i hi
        simp [Array.getD, hi', Array.getElem_setIfInBounds, h] at this ⊢
        exact this
    · cases hd

theorem compCO_some {ops : Array Oper} {o : Oper} {co : CO} (h : compCO P n ops o = some co) : guardOf n ops o = some co.guard ∧ dstOf n o.dst = some co.dst ∧ compRun P n o = .mk co.run := by
  unfold compCO at h
  split at h
  · rename_i g hg
    split at h
    · rename_i d hd
      split at h
      rename_i r hr
      injection h with h; subst h
      exact ⟨hg, hd, hr⟩
    · cases h
  · cases h

/-- what is known behind a piece of code -/
def Post (ρ : Ren) (n : Nat) (h : Heap) (w : World) (e' : E) (h' : Heap) (ds : List Deferred) (a' : Act) (w' : World) : Prop := ∃ ρ', ERel ρ' n e' a'.tmps ∧ Step ρ h w ρ' h' w' ∧ a'.defers = ds

theorem Post.trans {ρ ρ' : Ren} {h h1 h' : Heap} {w w1 : World} {e' : E} {ds : List Deferred} {a' : Act} {w' : World} (s : Step ρ h w ρ' h1 w1) (p : Post ρ' n h1 w1 e' h' ds a' w') : Post ρ n h w e' h' ds a' w' := by
  obtain ⟨ρ'', h1, h2, h3⟩ := p
  exact ⟨ρ'', h1, Step.trans s h2, h3⟩

/-- a piece of code goes on to 'f': its run says what the number of the next block is -/
theorem stepO_ok {call : Calls} {co : CO} {e : E} {h : Heap} {f : E → Heap → ORes} {e' : E} {h' : Heap} (hs : stepO call co e h f = .ok e' h') :
    ∃ b, wantedA e co.guard = some b ∧ ((b = true ∧ ∃ v h1, co.run call (evO e) h = .ok v h1 ∧ f (putE e co.dst v) h1 = .ok e' h') ∨ (b = false ∧ f (putE e co.dst undefA) h = .ok e' h')) := by
  unfold stepO at hs
  split at hs
  · rename_i b hb
    refine ⟨b, hb, ?_⟩
    split at hs
    · split at hs
      · rename_i v h1 hr
        exact .inl ⟨rfl, v, h1, hr, hs⟩
      · cases hs
    · exact .inr ⟨rfl, hs⟩
  · cases hs

theorem ops_ok {ops : Array Oper} {call : Calls} (hc : CallsOk P call) (hm : CallsMono call) : ∀ {l : List Oper} {k : Nat} {cos : List CO}, compOps P n ops l = some cos → (∀ (j : Nat) o, l[j]? = some o → ops[k + j]? = some o) →
    ∀ {e : E} {h : Heap} {e' : E} {h' : Heap}, runOps call cos e h = .ok e' h' → ∀ {ρ : Ren} {w : World} {a : Act} (ro : Option Nat) (Q : Exit → Act → World → Prop), ERel ρ n e a.tmps → HRel ρ h w → Fresh ρ h.next h'.next →
    (∀ a' w', Post ρ n h w e' h' a.defers a' w' → Q .normal a' w') → wpOpsIn (Fw ro) 0 P ops Q (List.range' k l.length) a w
  | [], k, cos, hco, hj, e, h, e', h', hr, ρ, w, a, ro, Q, he, hh, hf, hq => by
    injection hco with hco; subst hco
    injection hr with h1 h2; subst h1; subst h2
    exact hq a w ⟨ρ, he, Step.refl hh, rfl⟩
  | o :: l, k, cos, hco, hj, e, h, e', h', hr, ρ, w, a, ro, Q, he, hh, hf, hq => by
    simp only [compOps] at hco
    split at hco
    · rename_i co r h1 h2
      injection hco with hco; subst hco
      obtain ⟨hg, hd, hrun⟩ := compCO_some h1
      have hok := hj 0 o rfl
      rw [Nat.add_zero] at hok
      have hj' : ∀ (j : Nat) o, l[j]? = some o → ops[k + 1 + j]? = some o := fun j o' ho' => by
        have := hj (j + 1) o' (by simpa using ho')
        rwa [show k + (j + 1) = k + 1 + j by omega] at this
      rw [runOps_cons] at hr
      obtain ⟨b, hb, hcase⟩ := stepO_ok hr
      have hwant := wanted_ok hg he hb
      rw [List.length_cons, List.range'_succ]
      simp only [wpOpsIn, hok, hwant]
      rcases hcase with ⟨rfl, v, hp1, hv, hrest⟩ | ⟨rfl, hrest⟩
      · rw [if_pos rfl]
        have hmr := compOps_mono h2
        have m2 := runOps_mono hm hmr hrest
        have m1 := compRun_mono hrun call hm _ _ _ _ hv
        refine ⟨fun f _ => Fw_fn ro f, ?_⟩
        rw [Fw_round]
        refine compRun_ok hrun call hc e h v hp1 hv ρ w a he hh (hf.mono (Nat.le_refl _) m2) ro _ Q fun cv w1 hout => ?_
        obtain ⟨ρ1, hv1, hs1⟩ := hout
        obtain ⟨he1, hd1⟩ := put_ok hd (he.le hs1.le) hv1
        refine ops_ok hc hm h2 hj' hrest ro Q he1 hs1.rel (hs1.fresh hf) fun a' w' hp => hq a' w' ?_
        rw [hd1] at hp
        exact Post.trans hs1 hp
      · rw [if_neg (by simp)]
        refine ⟨fun f _ => Fw_fn ro f, ?_⟩
        obtain ⟨he1, hd1⟩ := put_ok hd he (cv := undef) undef_rel
        refine ops_ok hc hm h2 hj' hrest ro Q he1 hh hf fun a' w' hp => hq a' w' ?_
        rw [hd1] at hp
        exact hp
    · cases hco

theorem region_ok {id : Nat} {ops : Array Oper} {cos : List CO} (hco : compOps P n ops ops.toList = some cos) {call : Calls} (hc : CallsOk P call) (hm : CallsMono call) {e : E} {h : Heap} {e' : E} {h' : Heap} (hr : runOps call cos e h = .ok e' h')
    {ρ : Ren} {w : World} {a : Act} (ro : Option Nat) (Q : Exit → Act → World → Prop) (he : ERel ρ n e a.tmps) (hh : HRel ρ h w) (hf : Fresh ρ h.next h'.next) (hq : ∀ a' w', Post ρ n h w e' h' a.defers a' w' → Q .normal a' w') :
    (Code.region id ops false).wpIn (Fw ro) 0 P Q a w := by
  refine wpIn_region ?_
  have := ops_ok hc hm hco (k := 0) (fun j o ho => by rw [Nat.zero_add]; simpa using ho) hr ro Q he hh hf hq
  rw [List.range_eq_range']
  simpa using this
end CSim
