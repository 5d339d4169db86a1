/-
  A region that draws its order: any ready operation may be the next.
-/
import Derived.Test.YtkkolfaecabloaaGreatSimDrawI
namespace CSim
set_option linter.unusedSimpArgs false
set_option linter.unusedVariables false
open Go
variable {P : Program} {n : Nat} {ops : Array Oper} {call : Calls}

inductive RunInv (call : Calls) (co : CO) (k : Kind) (s : St) (w : Bool) (v : V) (s' : St) : Prop
  | skip (hw : w = false) (hv : v = undefA) (hk : k ≠ .eff)
  | skipEff (hw : w = false) (hv : v = undefA) (hk : k = .eff) (hh : s'.h = s.h) (hs : s'.hs = s'.h :: s.hs)
  | eff (hw : w = true) (hk : k = .eff) (hr : co.run call (evO s.e) s.h = .ok v s'.h) (hs : s'.hs = s'.h :: s.hs)
  | pure (h1 : Heap) (hw : w = true) (hk : k = .pure) (hr : co.run call (evO s.e) s.h = .ok v h1)
  | alloc (b : AObj) (hw : w = true) (hk : k = .alloc) (hr : co.run call (evO s.e) s.h = .ok v s'.h) (hb : s'.h.get s.h.next = some b) (hs : s'.hs = addTo s.h.next b s.hs)
  | read (back : Nat) (g0 g1 : Heap) (hs' : List Heap) (hw : w = true) (hk : k = .read back) (hh : s.hs = g0 :: hs') (hr : co.run call (evO s.e) g0 = .ok v g1) (hst : stable co.run call (evO s.e) v back hs' = true)
theorem Run1.inv {co : CO} {k : Kind} {s s' : St} {w : Bool} {v : V} (h : Run1 call co k s w v s') : RunInv call co k s w v s' := by
  cases h with
  | skipEff => exact .skipEff rfl rfl rfl rfl rfl
  | skip => exact .skip rfl rfl ‹_›
  | eff => exact .eff rfl rfl ‹_› rfl
  | pure => exact .pure _ rfl rfl ‹_›
  | alloc => exact .alloc _ rfl rfl ‹_› ‹_› rfl
  | read => exact .read _ _ _ _ rfl rfl ‹_› ‹_› ‹_›

theorem guard_agree {o : Oper} {g : Option (Getter × Bool)} (hg : guardOf n ops o = some g) {e e' : E} (h : ∀ x, x ∈ tmpsOf ops o → x < n → getter x e = getter x e') : wantedA e g = wantedA e' g := by
  unfold guardOf at hg
  split at hg
  · injection hg with hg; subst hg; rfl
  · rename_i j w ho
    split at hg
    · rename_i t ht
      split at hg
      · rename_i hlt
        rw [nat_blt] at hlt
        rw [withGetter_eq] at hg
        injection hg with hg; subst hg
        have : t ∈ tmpsOf ops o := by
          unfold tmpsOf
          rw [ho]
          simp only [List.mem_append]
          exact .inr (by simp [ht])
        simp only [wantedA, h t this hlt]
      · cases hg
    · cases hg

theorem op_agree {o : Oper} {e e' : E} (h : ∀ x, x ∈ tmpsOf ops o → x < n → getter x e = getter x e') : Agree n e e' o.op.operands.toList := by
  intro t ht hlt
  refine h t ?_ hlt
  unfold tmpsOf
  rw [List.mem_append]
  refine .inl (List.mem_filterMap.2 ⟨.tmp t, ht, rfl⟩)

theorem Grow.congr {A : Nat → H0} {g g1 C : Heap} (h : Grow A g C) (hg : ∀ b, g.get b = g1.get b) : Grow A g1 C := fun b => by
  obtain ⟨h1, h2⟩ := h b
  rw [hg b] at h1 h2
  exact ⟨h1, h2⟩
theorem Grow.rel {A : Nat → H0} {g C : Heap} (h : Grow A g C) {ρ : Ren} {w : World} (hr : HRel ρ C w) : HRel ρ g w := hr.congr fun _ _ _ h1 _ => h.sub h1

theorem addTo_get {i : Nat} {o : AObj} : ∀ {l : List Heap} {j : Nat} {g : Heap}, l[j]? = some g → (addTo i o l)[j]? = some (g.upd i (some o))
  | [], j, g, h => by simp at h
  | x :: l, 0, g, h => by simp at h; subst h; rfl
  | x :: l, j + 1, g, h => by
    have := addTo_get (i := i) (o := o) (l := l) (j := j) (g := g) (by simpa using h)
    simpa [addTo] using this
theorem addTo_length {i : Nat} {o : AObj} : ∀ {l : List Heap}, (addTo i o l).length = l.length
  | [] => rfl
  | x :: l => by simp [addTo, addTo_length]

theorem Can.kind_eff (c : Can P n ops call) {i : Nat} {t : Nat} : c.eff t = true ↔ c.kind i (c.o t) = .eff := by
  unfold Can.eff isEff
  rcases c.kindIs i (c.o t) with h | ⟨a, b, h1, h2⟩
  · rw [h]
    cases effOf P (c.o t).op <;> simp
  · rw [h1, h2]; simp
theorem Can.kind_noeff (c : Can P n ops call) {i : Nat} {t : Nat} (h : c.kind i (c.o t) ≠ .eff) : c.eff t = false := by
  cases he : c.eff t with
  | false => rfl
  | true => exact absurd ((c.kind_eff (i := i)).1 he) h
theorem Can.kc_succ (c : Can P n ops call) {t : Nat} (h : c.eff t = true) : c.kc (t + 1) = c.kc t + 1 := by simp [Can.kc, h]

/-- one ready operation is done -/
theorem Inv.op {c : Can P n ops call} (hn : n ≤ 512) (hca : CallsOk P call) (hM : Mem' c c.L.length) {ρ0 : Ren} {w0 : World} {ds : List Deferred} {ls : Array Bool} {a : Act} {w : World} {ê : E} {ρ : Ren} {k : Nat}
    (inv : Inv c ρ0 w0 ds ls a w ê ρ k) (hf : Fresh ρ0 (c.S 0).h.next (c.S c.L.length).h.next) {t i : Nat} (ht : c.L[t]? = some i) (hr : i ∈ Region.ready .any ops ls) (ro : Option Nat) {Q : Exit → Act → World → Prop} {K : Act → World → Prop}
    (hK : ∀ a' w' ê' ρ' k', Inv c ρ0 w0 ds (ls.setIfInBounds i true) a' w' ê' ρ' k' → K a' w') : wpOpIn (Fw ro) 0 P ops Q i K a w := by
  obtain ⟨hnd, hpre⟩ := inv.pre hr
  have hlt := lt_len ht
  obtain ⟨hg, hd, hrun⟩ := compCO_some (c.comp t i ht)
  have hag := fun (x : Nat) (hm : x ∈ tmpsOf ops (c.o t)) (hx : x < n) => inv.agree hn ht hnd hpre hx hm
  have hloc := compRun_local (op_agree hag) hrun
  have hR := c.run t i ht
  have hwA : wantedA ê (c.co t).guard = some (c.W t) := by rw [guard_agree hg hag]; exact hR.wanted
  have hw := wanted_ok hg inv.env hwA
  have hio := c.inOps t i ht
  have none_ne : ∀ (g : Heap) b, (fun _ : Nat => (none : H0)) b ≠ none → ¬ (g.next ≤ b ∧ b < g.next) := fun _ b h => absurd rfl h
  unfold wpOpIn
  simp only [hio]
  rw [hw]
  -- what is to be shown of an operation that runs from 'g'
  have runs : ∀ {g g' : Heap} {v : V}, (c.co t).run call (evO (c.S t).e) g = .ok v g' → HRel ρ g w → Fresh ρ g.next g'.next → (∀ cv w', Out ρ g w v g' cv w' → K (a.put (c.o t).dst cv) w') → (c.o t).wpIn (Fw ro) 0 P a w K Q := by
    intro g g' v h1 h2 h3 h4
    refine ⟨fun f _ => Fw_fn ro f, ?_⟩
    rw [Fw_round]
    exact compRun_ok hrun call hca ê g v g' (by rw [hloc]; exact h1) ρ w a inv.env h2 h3 ro K Q h4
  rcases hR.inv with ⟨w1, w2, w3⟩ | ⟨w1, w2, w3, w4, w5⟩ | ⟨w1, w3, w4, w5⟩ | ⟨h1, w1, w3, w4⟩ | ⟨b, w1, w3, w4, w5, w6⟩ | ⟨back, g0, g1, hs', w1, w3, w4, w5, w6⟩
  · have he := c.kind_noeff w3
    rw [w1, if_neg (by simp)]
    refine ⟨fun f _ => Fw_fn ro f, hK _ _ _ _ _ (inv.step hn ht hnd hpre (cv := undef) inv.rel (fun _ h => h) (Grow.refl _) (Grow.refl _) (Step.refl inv.rel) (none_ne _) (by rw [w2]; exact undef_rel) (fun b h1 h2 => by omega) (k' := k) (by simp [he]) (fun h => by rw [he] at h; cases h) inv.kle)⟩
  · have he := (c.kind_eff (i := i)).2 w3
    have hk := inv.effNext ht hnd hpre he
    obtain ⟨A, hA, hgr⟩ := hM.grow (t := t + 1) (by omega)
    have hs1 := c.kc_succ he
    obtain ⟨ga, ha1, ha2⟩ := hgr (k + 1) (by omega)
    obtain ⟨gb, hb1, hb2⟩ := hgr k (by omega)
    rw [w5, show c.kc (t + 1) - (k + 1) = 0 by omega] at ha1
    rw [w5, show c.kc (t + 1) - k = 1 by omega] at hb1
    simp at ha1 hb1
    subst ha1
    obtain ⟨g0, l0, hh1, hh2⟩ := hM.head t (by omega)
    rw [hh1] at hb1
    simp at hb1
    subst hb1
    have hb3 : Grow A (c.S (t + 1)).h (c.M c.L.length k) := hb2.congr fun b => by rw [hh2, w4]
    rw [w1, if_neg (by simp)]
    refine ⟨fun f _ => Fw_fn ro f, hK _ _ _ _ _ (inv.step hn ht hnd hpre (cv := undef) inv.rel (fun _ h => h) hb3 ha2 (Step.refl (hb3.rel inv.rel)) (fun b _ h => by omega) (by rw [w2]; exact undef_rel) (fun b h1 h2 => by omega) (k' := k + 1) (by simp [he]) (fun _ => hk) ?_)⟩
    have := c.kc_le (show t + 1 ≤ c.L.length by omega)
    omega
  · have he := (c.kind_eff (i := i)).2 w3
    have hk := inv.effNext ht hnd hpre he
    obtain ⟨A, hA, hgr⟩ := hM.grow (t := t + 1) (by omega)
    have hs1 := c.kc_succ he
    obtain ⟨ga, ha1, ha2⟩ := hgr (k + 1) (by omega)
    obtain ⟨gb, hb1, hb2⟩ := hgr k (by omega)
    rw [w5, show c.kc (t + 1) - (k + 1) = 0 by omega] at ha1
    rw [w5, show c.kc (t + 1) - k = 1 by omega] at hb1
    simp at ha1 hb1
    subst ha1
    obtain ⟨g0, l0, hh1, hh2⟩ := hM.head t (by omega)
    rw [hh1] at hb1
    simp at hb1
    subst hb1
    have hb3 : Grow A (c.S t).h (c.M c.L.length k) := hb2.congr fun b => hh2 b
    rw [w1, if_pos rfl]
    refine runs w4 (hb3.rel inv.rel) (inv.fresh hM hf ht hnd) fun cv w' hout => ?_
    obtain ⟨ρ', hv, hs⟩ := hout
    refine hK _ _ _ _ _ (inv.step hn ht hnd hpre inv.rel (fun _ h => h) hb3 ha2 hs (fun b hb h => ?_) hv (fun b h1 h2 => ⟨h1, h2⟩) (k' := k + 1) (by simp [he]) (fun _ => hk) ?_)
    · have := (hA b hb).1
      omega
    · have := c.kc_le (show t + 1 ≤ c.L.length by omega)
      omega
  · have he := c.kind_noeff (i := i) (t := t) (by rw [w3]; nofun)
    have hkind : effOf P (c.o t).op = .pure := by
      rcases c.kindIs i (c.o t) with h | ⟨x, y, h1, h2⟩
      · rw [← h, w3]
      · rw [w3] at h1; cases h1
    have hp := compRun_pure hkind hrun
    obtain ⟨_, hp2⟩ := hp _ _ _ (c.M c.L.length k) _ _ w4
    rw [w1, if_pos rfl]
    refine runs hp2 inv.rel (fun x h1 h2 => by omega) fun cv w' hout => ?_
    obtain ⟨ρ', hv, hs⟩ := hout
    exact hK _ _ _ _ _ (inv.step hn ht hnd hpre inv.rel (fun _ h => h) (Grow.refl _) (Grow.refl _) hs (none_ne _) hv (fun b h1 h2 => by omega) (k' := k) (by simp [he]) (fun h => by rw [he] at h; cases h) inv.kle)
  · have he := c.kind_noeff (i := i) (t := t) (by rw [w3]; nofun)
    have hkind : effOf P (c.o t).op = .alloc := by
      rcases c.kindIs i (c.o t) with h | ⟨x, y, h1, h2⟩
      · rw [← h, w3]
      · rw [w3] at h1; cases h1
    obtain ⟨m1, O, m2, m3⟩ := compRun_alloc hkind hrun _ _ _ _ _ w4
    have hput : ∀ j, (⟨Nat.succ (c.S t).h.next, (c.S t).h.m.set (c.S t).h.next (some O)⟩ : Heap).get j = if (c.S t).h.next = j then some O else (c.S t).h.get j := fun j => Heap.get_upd m1 (some O) j
    have hbO : b = O := by
      rw [m2, hput, if_pos rfl] at w5
      exact (Option.some.inj w5).symm
    subst hbO
    have hk := inv.kUp ht hnd he
    have hkc : c.kc (t + 1) = c.kc t := by simp [Can.kc, he]
    obtain ⟨A, hA, hgr⟩ := hM.grow (t := t + 1) (by omega)
    obtain ⟨ga, ha1, ha2⟩ := hgr k (by omega)
    obtain ⟨A', hA', hgr'⟩ := hM.grow (t := t) (by omega)
    obtain ⟨gb, hb1, hb2⟩ := hgr' k hk
    rw [w6, hkc, addTo_get hb1] at ha1
    injection ha1 with ha1
    subst ha1
    have hin : (c.M c.L.length k).get (c.S t).h.next = some b := ha2.sub (by rw [Heap.get_upd m1, if_pos rfl])
    have hgN : ∀ j, (⟨(c.S t).h.next, (c.M c.L.length k).m.set (c.S t).h.next none⟩ : Heap).get j = if (c.S t).h.next = j then none else (c.M c.L.length k).get j := fun j => Heap.get_upd m1 none j
    have hgN' : ∀ j, (⟨Nat.succ (c.S t).h.next, ((c.M c.L.length k).m.set (c.S t).h.next none).set (c.S t).h.next (some b)⟩ : Heap).get j = if (c.S t).h.next = j then some b else (c.M c.L.length k).get j := fun j => by
      have := Heap.get_upd (h := ⟨(c.S t).h.next, (c.M c.L.length k).m.set (c.S t).h.next none⟩) m1 (some b) j
      rw [hgN] at this
      by_cases e : (c.S t).h.next = j
      · rw [if_pos e] at this ⊢; exact this
      · rw [if_neg e, if_neg e] at this; rw [if_neg e]; exact this
    have hCr : HRel ρ ⟨(c.S t).h.next, (c.M c.L.length k).m.set (c.S t).h.next none⟩ w := inv.rel.congr fun b' o' p' h1 _ => by
      rw [hgN] at h1
      split at h1
      · cases h1
      · exact h1
    have hfr := inv.fresh hM hf ht hnd
    have hnx : (c.S (t + 1)).h.next = (c.S t).h.next + 1 := by rw [m2]
    rw [w1, if_pos rfl]
    refine runs (m3 _) hCr (hfr.mono (Nat.le_refl _) (by rw [hnx]; exact Nat.le_refl _)) fun cv w' hout => ?_
    obtain ⟨ρ', hv, hs⟩ := hout
    refine hK _ _ _ _ _ (inv.step hn ht hnd hpre hCr (fun x ⟨b', o', p', h1, h2, h3⟩ => ?_) (Grow.refl _) (A := fun _ => none) (fun j => ⟨?_, fun h => absurd rfl h⟩) hs (fun b' h _ => absurd rfl h) hv (fun b' h1 h2 => ⟨h1, ?_⟩) (k' := k) (by simp [he]) (fun h => by rw [he] at h; cases h) inv.kle)
    · rw [hgN] at h1
      split at h1
      · cases h1
      · exact ⟨b', o', p', h1, h2, h3⟩
    · rw [hgN']
      by_cases e : (c.S t).h.next = j
      · subst e; rw [if_pos rfl]; exact hin
      · rw [if_neg e]
    · rw [hnx]; exact h2
  · have he := c.kind_noeff (i := i) (t := t) (by rw [w3]; nofun)
    have hkind : ∃ z, effOf P (c.o t).op = .read z := by
      rcases c.kindIs i (c.o t) with h | ⟨x, y, h1, h2⟩
      · exact ⟨back, by rw [← h, w3]⟩
      · exact ⟨y, h2⟩
    obtain ⟨z, hkind⟩ := hkind
    have hp := compRun_read hkind hrun
    have hk := inv.kUp ht hnd he
    have hk2 := inv.kLow ht hpre w3
    have hm : ∃ g, (c.S t).hs[c.kc t - k]? = some g ∧ (c.co t).run call (evO (c.S t).e) g = .ok (c.V t) g := by
      rw [w4]
      cases hj : c.kc t - k with
      | zero =>
        refine ⟨g0, rfl, ?_⟩
        have := hp _ _ _ _ _ w5
        subst this
        exact w5
      | succ j =>
        obtain ⟨g, g', q1, q2⟩ := stable_spec w6 j (by omega)
        have := hp _ _ _ _ _ q2
        subst this
        exact ⟨_, by simpa using q1, q2⟩
    obtain ⟨g, q1, q2⟩ := hm
    obtain ⟨A, hA, hgr⟩ := hM.grow (t := t) (by omega)
    obtain ⟨gb, hb1, hb2⟩ := hgr k hk
    rw [q1] at hb1
    injection hb1 with hb1
    subst hb1
    rw [w1, if_pos rfl]
    refine runs q2 (hb2.rel inv.rel) (fun x h1 h2 => by omega) fun cv w' hout => ?_
    obtain ⟨ρ', hv, hs⟩ := hout
    exact hK _ _ _ _ _ (inv.step hn ht hnd hpre inv.rel (fun _ h => h) hb2 hb2 hs (fun b _ h => by omega) hv (fun b h1 h2 => by omega) (k' := k) (by simp [he]) (fun h => by rw [he] at h; cases h) inv.kle)
end CSim
