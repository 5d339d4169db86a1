/-
  A region that draws its order: one step, by kind.
-/
import Derived.Test.YtkkolfaecabloaaGreatSimDrawH
namespace CSim
set_option linter.unusedSimpArgs false
set_option linter.unusedVariables false
open Go
variable {P : Program} {n : Nat} {ops : Array Oper} {call : Calls}

/-- what must be ahead of a ready operation is done -/
theorem Inv.pre {c : Can P n ops call} {ρ0 : Ren} {w0 : World} {ds : List Deferred} {ls : Array Bool} {a : Act} {w : World} {ê : E} {ρ : Ren} {k : Nat} (inv : Inv c ρ0 w0 ds ls a w ê ρ k) {i : Nat} (hr : i ∈ Region.ready .any ops ls) :
    ¬ Done ls i ∧ ∀ j, bef c.b j i = true → Done ls j := by
  obtain ⟨h1, o, ho, hall⟩ := mem_ready.1 hr
  have hlt : i < ops.size := (Array.getElem?_eq_some_iff.1 ho).1
  refine ⟨fun hd => ?_, fun j hb => ?_⟩
  · unfold Done at hd
    have hs : i < ls.size := by rw [inv.size]; exact hlt
    simp [Array.getD, hs] at h1 hd
    rw [h1] at hd; cases hd
  · rw [c.hb] at hb
    obtain ⟨e, he, hbi, h⟩ := bef_ready ho hb
    have hde : Done ls e.on := hall e (by simpa using he) hbi
    rcases h with rfl | h
    · exact hde
    · rw [← c.hb] at h
      have hlt2 : e.on < ops.size := by
        have := edgesOk_spec c.edges i o (by simpa using ho) e he hbi
        omega
      exact inv.closed j e.on hlt2 hde h

theorem lt_len {l : List Nat} {t i : Nat} (h : l[t]? = some i) : t < l.length := (List.getElem?_eq_some_iff.1 h).1
/-- the numbers of an operation that is not done are free -/
theorem Inv.fresh {c : Can P n ops call} (hM : Mem' c c.L.length) {ρ0 : Ren} {w0 : World} {ds : List Deferred} {ls : Array Bool} {a : Act} {w : World} {ê : E} {ρ : Ren} {k : Nat} (inv : Inv c ρ0 w0 ds ls a w ê ρ k)
    (hf : Fresh ρ0 (c.S 0).h.next (c.S c.L.length).h.next) {t i : Nat} (ht : c.L[t]? = some i) (hnd : ¬ Done ls i) : Fresh ρ (c.S t).h.next (c.S (t + 1)).h.next := by
  intro x h1 h2
  have hlt := lt_len ht
  cases hx : ρ x with
  | none => rfl
  | some p =>
    rcases inv.new x p hx with h | ⟨_, u, j, hu, hj, h3, h4⟩
    · have a1 := hM.next 0 t (Nat.zero_le _) (by omega)
      have a2 := hM.next (t + 1) c.L.length (by omega) (Nat.le_refl _)
      rw [hf x (by omega) (by omega)] at h; cases h
    · have hne : u ≠ t := fun e => by
        subst e
        rw [ht] at hu
        exact hnd (Option.some.inj hu ▸ hj)
      have hul := lt_len hu
      rcases Nat.lt_or_gt_of_ne hne with h | h
      · have := hM.next (u + 1) t (by omega) (by omega); omega
      · have := hM.next (t + 1) u (by omega) (by omega); omega

theorem Can.get (c : Can P n ops call) {t : Nat} (h : t < c.L.length) : ∃ i, c.L[t]? = some i := ⟨_, List.getElem?_eq_getElem h⟩
theorem Can.slots (c : Can P n ops call) (hn : n ≤ 512) {x : Nat} (hx : x < n) {t : Nat} (ht : t ≤ c.L.length) :
    (∀ u, u < t → (c.o u).dst = some x → getter x (c.S t).e = c.V u) ∧ ((∀ u, u < t → (c.o u).dst ≠ some x) → getter x (c.S t).e = getter x (c.S 0).e) := by
  refine slots_of (D := fun t => (c.o t).dst) (V' := c.V) hn c.L.length (fun t ht => ?_) (fun t u s htu hu h1 h2 => ?_) hx t ht
  · obtain ⟨i, hi⟩ := c.get ht
    exact ⟨_, (compCO_some (c.comp t i hi)).2.1, (c.run t i hi).env⟩
  · obtain ⟨i, hi⟩ := c.get (Nat.lt_trans htu hu)
    obtain ⟨j, hj⟩ := c.get hu
    exact (c.order.pair t u i j _ _ htu hi hj (c.inOps t i hi) (c.inOps u j hj)).dst s h1 h2

/-- the slots that an operation looks at are the canonical run's -/
theorem Inv.agree {c : Can P n ops call} (hn : n ≤ 512) {ρ0 : Ren} {w0 : World} {ds : List Deferred} {ls : Array Bool} {a : Act} {w : World} {ê : E} {ρ : Ren} {k : Nat} (inv : Inv c ρ0 w0 ds ls a w ê ρ k) {t i : Nat} (ht : c.L[t]? = some i)
    (hnd : ¬ Done ls i) (hpre : ∀ j, bef c.b j i = true → Done ls j) {x : Nat} (hx : x < n) (hm : x ∈ tmpsOf ops (c.o t)) : getter x ê = getter x (c.S t).e := by
  have hlt := lt_len ht
  have hio := c.inOps t i ht
  have hisz : i < ops.size := (Array.getElem?_eq_some_iff.1 hio).1
  obtain ⟨s1, s2⟩ := c.slots hn hx (Nat.le_of_lt hlt)
  -- a writer of the slot is done just if it stands ahead
  have key : ∀ u j : Nat, c.L[u]? = some j → (c.o u).dst = some x → (Done ls j ↔ u < t) := by
    intro u j hu hd
    have hjo := c.inOps u j hu
    rcases Nat.lt_trichotomy u t with h | h | h
    · have hp := c.order.pair u t j i _ _ h hu ht hjo hio
      exact ⟨fun _ => h, fun _ => hpre j (hp.rd x hd hm)⟩
    · subst h
      have : j = i := by rw [ht] at hu; exact (Option.some.inj hu).symm
      subst this
      exact ⟨fun h => absurd h hnd, fun h => absurd h (Nat.lt_irrefl _)⟩
    · have hp := c.order.pair t u i j _ _ h ht hu hio hjo
      have hb := hp.rd' x hd hm
      have hjsz : j < ops.size := (Array.getElem?_eq_some_iff.1 hjo).1
      exact ⟨fun hd2 => absurd (inv.closed i j hjsz hd2 hb) hnd, fun h2 => by omega⟩
  by_cases hw : ∃ u j : Nat, c.L[u]? = some j ∧ (c.o u).dst = some x ∧ u < t
  · obtain ⟨u, j, hu, hd, hut⟩ := hw
    rw [inv.slot u j x hu ((key u j hu hd).2 hut) hd hx, s1 u hut hd]
  · have h0 : ∀ u, u < t → (c.o u).dst ≠ some x := fun u hu hd => by
      obtain ⟨j, hj⟩ := c.get (show u < c.L.length by omega)
      exact hw ⟨u, j, hj, hd, hu⟩
    rw [inv.slot0 x hx (fun u j hu hj hd => hw ⟨u, j, hu, hd, (key u j hu hd).1 hj⟩), s2 h0]

/-- an operation that changes something is the next one of these -/
theorem Inv.effNext {c : Can P n ops call} {ρ0 : Ren} {w0 : World} {ds : List Deferred} {ls : Array Bool} {a : Act} {w : World} {ê : E} {ρ : Ren} {k : Nat} (inv : Inv c ρ0 w0 ds ls a w ê ρ k) {t i : Nat} (ht : c.L[t]? = some i)
    (hnd : ¬ Done ls i) (hpre : ∀ j, bef c.b j i = true → Done ls j) (he : c.eff t = true) : k = c.kc t := by
  have hlt := lt_len ht
  rcases Nat.lt_trichotomy k (c.kc t) with h | h | h
  · obtain ⟨u, hu, heu, hku⟩ := c.kc_pos h
    obtain ⟨j, hj⟩ := c.get (show u < c.L.length by omega)
    have hp := c.order.pair u t j i _ _ hu hj ht (c.inOps u j hj) (c.inOps t i ht)
    have := (inv.effs u j hj heu).1 (hpre j (hp.eff heu he))
    omega
  · exact h
  · exact absurd ((inv.effs t i ht he).2 h) hnd

theorem Can.effAt (c : Can P n ops call) {t i : Nat} (ht : c.L[t]? = some i) : CSim.effAt P ops i = c.eff t := by
  unfold CSim.effAt Can.eff
  rw [c.inOps t i ht]
/-- an operation that changes nothing is not behind an effect that is done, but for those that stand ahead of it -/
theorem Inv.kUp {c : Can P n ops call} {ρ0 : Ren} {w0 : World} {ds : List Deferred} {ls : Array Bool} {a : Act} {w : World} {ê : E} {ρ : Ren} {k : Nat} (inv : Inv c ρ0 w0 ds ls a w ê ρ k) {t i : Nat} (ht : c.L[t]? = some i)
    (hnd : ¬ Done ls i) (he : c.eff t = false) : k ≤ c.kc t := by
  rcases Nat.lt_or_ge (c.kc t) k with h | h
  · exfalso
    obtain ⟨u, hu, heu, hku⟩ := c.kc_pos (Nat.lt_of_lt_of_le h inv.kle)
    obtain ⟨j, hj⟩ := c.get hu
    have htu : t < u := by
      rcases Nat.lt_trichotomy t u with h2 | h2 | h2
      · exact h2
      · subst h2; rw [he] at heu; cases heu
      · have := c.kc_lt h2 heu; omega
    obtain ⟨v, j', g1, g2, g3, g4, g5⟩ := c.order.next t u i j htu ht hj (by rw [c.effAt ht]; exact he) (by rw [c.effAt hj]; exact heu)
    rw [c.effAt g3] at g4
    have hkv : c.kc v < k := by
      have := c.kc_le g2
      omega
    have hdv := (inv.effs v j' g3 g4).2 hkv
    have hsz : j' < ops.size := (Array.getElem?_eq_some_iff.1 (c.inOps v j' g3)).1
    exact hnd (inv.closed i j' hsz hdv g5)
  · exact h

theorem effRev_snoc {i : Nat} : ∀ (l acc : List Nat), effRev P ops (l ++ [i]) acc = match effAt P ops i with | true => i :: effRev P ops l acc | false => effRev P ops l acc
  | [], acc => by
    show (match CSim.effAt P ops i with | true => i :: acc | false => acc) = _
    rfl
  | j :: l, acc => by
    show effRev P ops (l ++ [i]) _ = _
    rw [effRev_snoc l]
    rfl
theorem Can.rev (c : Can P n ops call) : ∀ {t u j : Nat}, t ≤ c.L.length → u < t → c.L[u]? = some j → c.eff u = true → (effRev P ops (c.L.take t) [])[c.kc t - 1 - c.kc u]? = some j
  | 0, u, j, _, h, _, _ => by omega
  | t + 1, u, j, ht, hu, hj, he => by
    obtain ⟨i, hi⟩ := c.get (show t < c.L.length by omega)
    have hl : c.L.take (t + 1) = c.L.take t ++ [i] := by rw [List.take_add_one, hi]; rfl
    rw [hl, effRev_snoc, c.effAt hi]
    by_cases e : u = t
    · subst e
      rw [he]
      have : j = i := by rw [hi] at hj; exact (Option.some.inj hj).symm
      subst this
      have hk : c.kc (u + 1) = c.kc u + 1 := by simp [Can.kc, he]
      rw [hk, show c.kc u + 1 - 1 - c.kc u = 0 by omega]
      rfl
    · have ih := c.rev (t := t) (by omega) (by omega) hj he
      have hlt := c.kc_lt (show u < t by omega) he
      cases het : c.eff t with
      | true =>
        have hk : c.kc (t + 1) = c.kc t + 1 := by simp [Can.kc, het]
        rw [hk, show c.kc t + 1 - 1 - c.kc u = (c.kc t - 1 - c.kc u) + 1 by omega]
        simpa using ih
      | false =>
        have hk : c.kc (t + 1) = c.kc t := by simp [Can.kc, het]
        rw [hk]
        exact ih
theorem Inv.kLow {c : Can P n ops call} {ρ0 : Ren} {w0 : World} {ds : List Deferred} {ls : Array Bool} {a : Act} {w : World} {ê : E} {ρ : Ren} {k : Nat} (inv : Inv c ρ0 w0 ds ls a w ê ρ k) {t i : Nat} (ht : c.L[t]? = some i)
    (hpre : ∀ j, bef c.b j i = true → Done ls j) {back : Nat} (hk : c.kind i (c.o t) = .read back) : c.kc t - back ≤ k := by
  rcases Nat.lt_or_ge k (c.kc t - back) with h | h
  · exfalso
    have hlt := lt_len ht
    obtain ⟨u, hu, heu, hku⟩ := c.kc_pos (show k < c.kc t by omega)
    obtain ⟨j, hj⟩ := c.get (show u < c.L.length by omega)
    have hb := c.order.back t i (c.o t) ht (c.inOps t i ht)
    rw [hk] at hb
    simp only [backOk, dropN_eq, List.all_eq_true] at hb
    have hr := c.rev (Nat.le_of_lt hlt) hu hj heu
    have hm : j ∈ (effRev P ops (c.L.take t) []).drop back := by
      have : ((effRev P ops (c.L.take t) []).drop back)[c.kc t - 1 - c.kc u - back]? = some j := by
        rw [List.getElem?_drop, show back + (c.kc t - 1 - c.kc u - back) = c.kc t - 1 - c.kc u by omega]
        exact hr
      exact List.mem_of_getElem? this
    have := (inv.effs u j hj heu).1 (hpre j (hb j hm))
    omega
  · exact h
end CSim
