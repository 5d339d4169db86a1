/-
  A region that draws its order: the whole.
-/
import Derived.Test.YtkkolfaecabloaaGreatSimDrawJ
namespace CSim
set_option linter.unusedSimpArgs false
set_option linter.unusedVariables false
open Go
variable {P : Program} {n : Nat} {ops : Array Oper} {call : Calls}

/-- how many operations are left -/
def left (ls : Array Bool) : Nat := ls.toList.countP (fun b => !b)
theorem left_set {ls : Array Bool} {i : Nat} (hi : i < ls.size) (h : ls[i] = false) : left (ls.setIfInBounds i true) + 1 = left ls := by
  unfold left
  have h1 : (ls.setIfInBounds i true).toList = ls.toList.set i true := by simp
  rw [h1, List.countP_set (by simpa using hi)]
  have h2 : ls.toList[i]'(by simpa using hi) = false := by simpa using h
  rw [h2]
  have : 0 < ls.toList.countP (fun b => !b) := List.countP_pos_iff.2 ⟨false, by rw [← h]; simp, rfl⟩
  simp only [Bool.not_false, if_true, Bool.not_true, Bool.false_eq_true, if_false, Nat.add_zero]
  omega
theorem left_zero {ls : Array Bool} (h : left ls = 0) {i : Nat} (hi : i < ls.size) : Done ls i := by
  unfold left at h
  rw [List.countP_eq_zero] at h
  have := h ls[i] (by simp)
  unfold Done
  simp [Array.getD, hi]
  simpa using this

/-- where nothing is ready all is done -/
theorem all_done (hE : edgesOk 0 ops.toList = true) {ls : Array Bool} (hs : ls.size = ops.size) (hr : Region.ready .any ops ls = []) : ∀ i, i < ops.size → Done ls i := by
  intro i
  induction i using Nat.strongRecOn with
  | ind i ih =>
    intro hi
    by_cases hd : Done ls i
    · exact hd
    · exfalso
      have hmem : i ∈ Region.ready .any ops ls := by
        refine mem_ready.2 ⟨?_, ops[i], Array.getElem?_eq_getElem hi, fun e he hb => ?_⟩
        · have hls : i < ls.size := by rw [hs]; exact hi
          unfold Done at hd
          simp [Array.getD, hls] at hd ⊢
          exact hd
        · have := edgesOk_spec hE i ops[i] (by simp [hi]) e (by simpa using he) hb
          exact ih e.on (by omega) (by omega)
      rw [hr] at hmem
      cases hmem

theorem any_ok {c : Can P n ops call} (hn : n ≤ 512) (hca : CallsOk P call) (hM : Mem' c c.L.length) {ρ0 : Ren} {w0 : World} {ds : List Deferred} (hf : Fresh ρ0 (c.S 0).h.next (c.S c.L.length).h.next) (ro : Option Nat) {Q : Exit → Act → World → Prop}
    (hQ : ∀ ls a w ê ρ k, Inv c ρ0 w0 ds ls a w ê ρ k → (∀ i, i < ops.size → Done ls i) → Q .normal a w) :
    ∀ (fuel : Nat) {ls : Array Bool} {a : Act} {w : World} {ê : E} {ρ : Ren} {k : Nat}, Inv c ρ0 w0 ds ls a w ê ρ k → left ls ≤ fuel → wpAnyIn (Fw ro) 0 P .any ops Q fuel ls a w
  | 0, ls, a, w, ê, ρ, k, inv, hl => by
    have hall : ∀ i, i < ops.size → Done ls i := fun i hi => left_zero (by omega) (by rw [inv.size]; exact hi)
    refine ⟨?_, hQ ls a w ê ρ k inv hall⟩
    cases hr : Region.ready .any ops ls with
    | nil => rfl
    | cons i l =>
      exfalso
      have hi : i ∈ Region.ready .any ops ls := by rw [hr]; exact List.mem_cons_self ..
      obtain ⟨h1, o, ho, _⟩ := mem_ready.1 hi
      have hlt : i < ops.size := (Array.getElem?_eq_some_iff.1 ho).1
      have hd := hall i hlt
      have hs : i < ls.size := by rw [inv.size]; exact hlt
      unfold Done at hd
      simp [Array.getD, hs] at h1 hd
      rw [h1] at hd; cases hd
  | fuel + 1, ls, a, w, ê, ρ, k, inv, hl => by
    refine ⟨fun hr => hQ ls a w ê ρ k inv (all_done c.edges inv.size hr), fun i hi => ?_⟩
    obtain ⟨h1, o, ho, _⟩ := mem_ready.1 hi
    have hlt : i < ops.size := (Array.getElem?_eq_some_iff.1 ho).1
    obtain ⟨t, ht⟩ := c.pos hlt
    have hs : i < ls.size := by rw [inv.size]; exact hlt
    have h0 : ls[i] = false := by simpa [Array.getD, hs] using h1
    have := left_set hs h0
    exact inv.op hn hca hM hf ht hi ro fun a' w' ê' ρ' k' inv' => any_ok hn hca hM hf ro hQ fuel inv' (by omega)

/-! ### the canonical run -/
theorem compDrawL_spec {effs b : List Nat} : ∀ {L : List Nat} {l : List (CO × Kind)}, compDrawL P n ops effs b L = some l → l.length = L.length ∧ ∀ (t i : Nat), L[t]? = some i → ∃ o co, ops[i]? = some o ∧ compCO P n ops o = some co ∧ l[t]? = some (co, kindOf P effs b i o)
  | [], l, h => by
    injection h with h; subst h
    exact ⟨rfl, fun t i ht => by simp at ht⟩
  | i0 :: L, l, h => by
    simp only [compDrawL] at h
    split at h
    · rename_i o ho
      split at h
      · rename_i co r hco hr
        injection h with h; subst h
        obtain ⟨h1, h2⟩ := compDrawL_spec hr
        refine ⟨by simp [h1], fun t i ht => ?_⟩
        cases t with
        | zero => simp at ht; subst ht; exact ⟨o, co, ho, hco, rfl⟩
        | succ t => simpa using h2 t i (by simpa using ht)
      · cases h
    · cases h

theorem kindOf_is (effs b : List Nat) (i : Nat) (o : Oper) : (kindOf P effs b i o = effOf P o.op) ∨ ∃ a c, kindOf P effs b i o = .read a ∧ effOf P o.op = .read c := by
  unfold kindOf
  cases h : effOf P o.op with
  | read c => exact .inr ⟨_, c, rfl, rfl⟩
  | pure => exact .inl rfl
  | alloc => exact .inl rfl
  | eff => exact .inl rfl

theorem Run1.hsLen {co : CO} {k : Kind} {s s' : St} {w : Bool} {v : V} (h : Run1 call co k s w v s') : s'.hs.length = s.hs.length + (if isEffK k then 1 else 0) := by
  cases h
  case skip hk hw => cases k <;> first | rfl | exact absurd rfl hk
  all_goals simp [isEffK, addTo_length]

/-- the memories of a canonical run that begins with one -/
theorem mem_of (hm : CallsMono call) (c : Can P n ops call) {h : Heap} (h0 : (c.S 0).hs = [h]) (h0' : (c.S 0).h = h) : Mem' c c.L.length := by
  have hmono : ∀ t, t < c.L.length → Mono (c.co t).run ∧ AllocOk (c.co t) (c.kind (c.L[t]?.getD 0) (c.o t)) := fun t ht => by
    obtain ⟨i, hi⟩ := c.get ht
    obtain ⟨_, _, hrun⟩ := compCO_some (c.comp t i hi)
    refine ⟨compRun_mono hrun, fun hk => ?_⟩
    rw [hi] at hk
    simp only [Option.getD_some] at hk
    have hkind : effOf P (c.o t).op = .alloc := by
      rcases c.kindIs i (c.o t) with h | ⟨x, y, h1, h2⟩
      · rw [← h, hk]
      · rw [hk] at h1; cases h1
    exact compRun_alloc hkind hrun
  have hstep : ∀ t, t < c.L.length → Run1 call (c.co t) (c.kind (c.L[t]?.getD 0) (c.o t)) (c.S t) (c.W t) (c.V t) (c.S (t + 1)) := fun t ht => by
    obtain ⟨i, hi⟩ := c.get ht
    rw [hi]
    exact c.run t i hi
  have hek : ∀ t, t < c.L.length → (if isEffK (c.kind (c.L[t]?.getD 0) (c.o t)) then 1 else 0) = (if c.eff t then 1 else 0) := fun t ht => by
    cases he : c.eff t with
    | true => rw [(c.kind_eff (i := c.L[t]?.getD 0)).1 he]; rfl
    | false =>
      have : c.kind (c.L[t]?.getD 0) (c.o t) ≠ .eff := fun h => by rw [(c.kind_eff).2 h] at he; cases he
      cases hk : c.kind (c.L[t]?.getD 0) (c.o t) <;> first | rfl | exact absurd hk this
  have hnext1 : ∀ t, t < c.L.length → (c.S t).h.next ≤ (c.S (t + 1)).h.next := fun t ht => (hstep t ht).next hm (hmono t ht).1
  refine ⟨fun t ht => ?_, fun t ht => ?_, fun t ht => ?_, fun t u htu hu => ?_⟩
  · induction t with
    | zero => rw [h0]; rfl
    | succ t ih =>
      rw [(hstep t (by omega)).hsLen, ih (by omega), hek t (by omega)]
      simp only [Can.kc]
      omega
  · induction t with
    | zero => exact ⟨h, [], h0, fun b => by rw [h0']⟩
    | succ t ih => exact (hstep t (by omega)).head (hmono t (by omega)).2 (ih (by omega))
  · have key : ∀ d t, t + d = c.L.length → Tail (c.S t) (c.S c.L.length) (c.kc c.L.length - c.kc t) := by
      intro d
      induction d with
      | zero =>
        intro t ht
        rw [Nat.add_zero] at ht
        subst ht
        rw [Nat.sub_self]
        exact tail_of (S := c.S) (W := c.W) (V' := c.V) hm (l := []) (t := c.L.length) (fun _ h => nomatch h) (fun j co k h => by simp at h)
      | succ d ih =>
        intro t ht
        have := (hstep t (by omega)).tail hm (hmono t (by omega)).1 (hmono t (by omega)).2 (ih (t + 1) (by omega))
        rw [hek t (by omega)] at this
        have h2 := c.kc_le (show t + 1 ≤ c.L.length by omega)
        simp only [Can.kc] at this h2
        rw [show c.kc c.L.length - c.kc t = (if c.eff t = true then 1 else 0) + (c.kc c.L.length - (c.kc t + if c.eff t = true then 1 else 0)) by omega]
        exact this
    exact key (c.L.length - t) t (by omega)
  · induction htu with
    | refl => exact Nat.le_refl _
    | step hle ih => exact Nat.le_trans (ih (by omega)) (hnext1 _ (by omega))

theorem HRel.world {ρ : Ren} {h : Heap} {w w' : World} (hr : HRel ρ h w) (hh : w'.heap = w.heap) : HRel ρ h w' := ⟨hr.ok, fun b p hp => by rw [hh]; exact hr.low b p hp, fun b o p h1 h2 => by rw [hh]; exact hr.obj b o p h1 h2, hr.inj, hr.tight⟩

theorem draw_ok (hP : P.follows .mixedOrders = true) (id : Nat) (ops : Array Oper) (effs L : List Nat) : CodeOk P n (drawWith P n ops effs (befs ops.toList []) L) (.region id ops true) := by
  unfold drawWith
  split
  · exact bad_code "draw" _
  · rename_i hok
    split
    · rename_i l hl
      intro call hca hm e h ex e' h' hr ρ w a ro base rs Q he hh hf hro hb hd hmk hq
      unfold xDraw at hr
      split at hr
      · rename_i e1 h1 hrun
        injection hr with q1 q2 q3; subst q1; subst q2; subst q3
        simp only [drawOk, Bool.and_eq_true] at hok
        obtain ⟨⟨k1, k2⟩, k3⟩ := hok
        obtain ⟨hlen, hspec⟩ := compDrawL_spec hl
        obtain ⟨S, W, V', s0, s1, s2, s3⟩ := trace_of hrun
        have hne : ∀ t : Nat, ∃ x : Oper × CO, ∀ i : Nat, L[t]? = some i → ops[i]? = some x.1 ∧ compCO P n ops x.1 = some x.2 ∧ l[t]? = some (x.2, kindOf P effs (befs ops.toList []) i x.1) := fun t => by
          cases ht : L[t]? with
          | none => exact ⟨⟨default, ⟨none, rBad "", none⟩⟩, fun i hi => nomatch hi⟩
          | some i =>
            obtain ⟨o, co, g1, g2, g3⟩ := hspec t i ht
            exact ⟨⟨o, co⟩, fun j hj => by injection hj with hj; subst hj; exact ⟨g1, g2, g3⟩⟩
        have hx := fun t => Classical.choose_spec (hne t)
        let c : Can P n ops call := { b := befs ops.toList [], L := L, kind := kindOf P effs (befs ops.toList []), o := fun t => (Classical.choose (hne t)).1, co := fun t => (Classical.choose (hne t)).2, S := S, W := W, V := V', hb := rfl, edges := k1, all := allIn_spec k2, order := orderOk_spec k3, inOps := fun t i ht => (hx t i ht).1, comp := fun t i ht => (hx t i ht).2.1, run := fun t i ht => s3 t _ _ (hx t i ht).2.2, kindIs := kindOf_is effs _ }
        have hL : c.L.length = l.length := hlen.symm
        have hS0 : c.S 0 = ⟨e, h, [h]⟩ := s0
        have hSe : (c.S c.L.length).e = e1 := by rw [hL]; exact s1
        have hSh : (c.S c.L.length).h = h1 := by rw [hL]; exact s2
        have hM := mem_of hm c (h := h) (by rw [hS0]) (by rw [hS0])
        have hn := he.1
        have hf' : Fresh ρ (c.S 0).h.next (c.S c.L.length).h.next := by rw [hS0, hSh]; exact hf
        refine wpIn_region_any hP ?_
        -- at the start
        obtain ⟨A, hA, hgr⟩ := hM.grow (t := 0) (Nat.zero_le _)
        obtain ⟨g0, hg1, hg2⟩ := hgr 0 (Nat.zero_le _)
        have hg0 : h = g0 := by
          rw [hS0] at hg1
          simpa [Can.kc] using hg1
        subst hg0
        have hback : ∀ b o p, (c.M c.L.length 0).get b = some o → ρ b = some p → h.get b = some o := fun b o p h1' h2' => by
          rcases hg2.split h1' with ⟨x1, x2⟩ | ⟨_, x2⟩
          · have := hA b (by rw [x1]; nofun)
            rw [hf' b this.1 this.2] at h2'; cases h2'
          · exact x2
        let w1 : World := { w with drawn := w.drawn + 1 }
        have hrel0 : HRel ρ (c.M c.L.length 0) w1 := (hh.congr hback).world rfl
        have inv0 : Inv c ρ w1 a.defers (Array.replicate ops.size false) a w1 e ρ 0 := by
          have nodone : ∀ i, ¬ Done (Array.replicate ops.size false) i := fun i hd => by
            unfold Done at hd
            simp [Array.getD] at hd
          exact ⟨by simp, he, rfl, fun t i s ht hd => absurd hd (nodone i), fun s hs _ => by rw [hS0], fun t i ht _ => ⟨fun hd => absurd hd (nodone i), fun h => by omega⟩, Nat.zero_le _,
            fun i j _ hd => absurd hd (nodone j), hrel0, Ren.le_refl _, fun b p hp => .inl hp, Nat.le_refl _, fun _ _ _ => rfl, fun x ⟨b, o, p, h1, h2, h3⟩ => .inl ⟨b, o, p, by rw [hS0]; exact hback b o p h1 h2, h2, h3⟩, rfl, rfl, rfl⟩
        refine any_ok hn hca hM hf' ro (fun ls a' w' ê ρ' k inv hall => hq a' w' ?_) ops.size inv0 ?_
        · -- at the end
          have hk : k = c.kc c.L.length := by
            rcases Nat.lt_or_ge k (c.kc c.L.length) with hlt | hge
            · exfalso
              obtain ⟨t, ht, het, hkt⟩ := c.kc_pos hlt
              obtain ⟨i, hi⟩ := c.get ht
              have := (inv.effs t i hi het).1 (hall i (Array.getElem?_eq_some_iff.1 (c.inOps t i hi)).1)
              omega
            · exact Nat.le_antisymm inv.kle hge
          obtain ⟨g1, l1, hd1, hd2⟩ := hM.head c.L.length (Nat.le_refl _)
          have hMend : ∀ b, (c.M c.L.length k).get b = (c.S c.L.length).h.get b := fun b => by
            unfold Can.M
            rw [hk, Nat.sub_self, hd1]
            exact hd2 b
          have hslots : ∀ s, s < n → getter s ê = getter s e1 := fun s hs => by
            obtain ⟨q1, q2⟩ := c.slots hn hs (t := c.L.length) (Nat.le_refl _)
            by_cases hw : ∃ u j : Nat, c.L[u]? = some j ∧ (c.o u).dst = some s
            · obtain ⟨u, j, hu, hdst⟩ := hw
              rw [← hSe, q1 u (lt_len hu) hdst]
              exact inv.slot u j s hu (hall j (Array.getElem?_eq_some_iff.1 (c.inOps u j hu)).1) hdst hs
            · have : ∀ u, u < c.L.length → (c.o u).dst ≠ some s := fun u hu hdst => by
                obtain ⟨j, hj⟩ := c.get hu
                exact hw ⟨u, j, hj, hdst⟩
              rw [← hSe, q2 this]
              exact inv.slot0 s hs fun u j hu _ hdst => hw ⟨u, j, hu, hdst⟩
          have howns : ∀ x, Owns ρ' h1 x → Owns ρ' (c.M c.L.length k) x := fun x ⟨b, o, p, x1, x2, x3⟩ => ⟨b, o, p, by rw [hMend, hSh]; exact x1, x2, x3⟩
          have hst : Step ρ h w ρ' h1 w' := by
            refine ⟨inv.le, fun b p hp => ?_, ?_, inv.rel.congr fun b o p h1' _ => by rw [hMend, hSh]; exact h1', inv.grew, fun x hx hno => ?_, fun x hx => ?_, inv.os, inv.tape, inv.output⟩
            · rcases inv.new b p hp with h | ⟨h2, t, i, ht, _, h3, h4⟩
              · exact .inl h
              · refine .inr ⟨h2, ?_, ?_⟩
                · have := hM.next 0 t (Nat.zero_le _) (Nat.le_of_lt (lt_len ht))
                  rw [hS0] at this
                  exact Nat.le_trans this h3
                · have := hM.next (t + 1) c.L.length (lt_len ht) (Nat.le_refl _)
                  rw [hSh] at this
                  exact Nat.lt_of_lt_of_le h4 this
            · have := hM.next 0 c.L.length (Nat.zero_le _) (Nat.le_refl _)
              rw [hS0, hSh] at this
              exact this
            · exact inv.same x hx (by rw [hS0]; exact hno)
            · have := inv.owns x (howns x hx)
              rw [hS0] at this
              exact this
          exact ⟨ρ', rs, ⟨inv.env.1, inv.env.2.1, fun s hs => by rw [← hslots s hs]; exact inv.env.2.2 s hs⟩, hst, inv.ds.trans hd, hmk.step hst⟩
        · unfold left
          have := List.countP_le_length (p := fun b => !b) (l := (Array.replicate ops.size false).toList)
          simpa using this
      · cases hr
    · exact bad_code "draw" _

theorem drawAll (hP : P.follows .mixedOrders = true) : DrawAll P := fun _ id ops => draw_ok hP id ops _ _
end CSim
