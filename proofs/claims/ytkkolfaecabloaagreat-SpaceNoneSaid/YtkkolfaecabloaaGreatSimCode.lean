/-
  Code: what its run says of the walk.
-/
import Derived.Test.YtkkolfaecabloaaGreatSimRegion
import Derived.Test.YtkkolfaecabloaaGreatSimScope
namespace CSim
set_option linter.unusedSimpArgs false
set_option linter.unusedVariables false
open Go
variable {P : Program} {n : Nat}

def exitOf : AExit → Exit
  | .normal => .normal
  | .exit i => .exit i
  | .goto l => .goto l
  | .ret => .ret
def mark (r : Nat) : Deferred := { target := .collected r, args := #[] }
/-- the marks of the loops over functions -/
def Marks (ρ : Ren) (h : Heap) (w : World) (base : Nat) (rs : List Nat) : Prop := rs.Nodup ∧ ∀ r ∈ rs, base ≤ r ∧ w.heap[r]? = some (.deferred (some [])) ∧ ¬ Owns ρ h r

theorem Marks.step {ρ ρ' : Ren} {h h' : Heap} {w w' : World} {base : Nat} {rs : List Nat} (s : Step ρ h w ρ' h' w') (hm : Marks ρ h w base rs) : Marks ρ' h' w' base rs := by
  refine ⟨hm.1, fun r hr => ?_⟩
  obtain ⟨h1, h2, h3⟩ := hm.2 r hr
  have hlt : r < w.heap.size := (Array.getElem?_eq_some_iff.1 h2).1
  refine ⟨h1, by rw [s.same r hlt h3]; exact h2, fun h4 => ?_⟩
  rcases s.owns r h4 with h5 | h5
  · exact h3 h5
  · omega

/-- the round that the code lies in -/
def RoundRel (ρ : Ren) (r : Option Nat) (ro : Option Nat) : Prop := match r, ro with
  | none, none => True
  | some l, some lc => ∃ p, ρ l = some p ∧ p.blk = lc
  | _, _ => False
theorem RoundRel.le {ρ ρ' : Ren} (h : ρ.le ρ') {r ro : Option Nat} (hr : RoundRel ρ r ro) : RoundRel ρ' r ro := by
  cases r with
  | none => cases ro with
    | none => trivial
    | some _ => exact hr
  | some l => cases ro with
    | none => exact hr
    | some lc => obtain ⟨p, h1, h2⟩ := hr; exact ⟨p, h _ _ h1, h2⟩

def PostC (ρ : Ren) (n : Nat) (h : Heap) (w : World) (base : Nat) (e' : E) (h' : Heap) (a' : Act) (w' : World) : Prop :=
  ∃ ρ' rs, ERel ρ' n e' a'.tmps ∧ Step ρ h w ρ' h' w' ∧ a'.defers = rs.map mark ∧ Marks ρ' h' w' base rs

theorem PostC.trans {ρ ρ' : Ren} {h h1 h' : Heap} {w w1 : World} {base : Nat} {e' : E} {a' : Act} {w' : World} (s : Step ρ h w ρ' h1 w1) (p : PostC ρ' n h1 w1 base e' h' a' w') : PostC ρ n h w base e' h' a' w' := by
  obtain ⟨ρ'', rs, h1, h2, h3⟩ := p
  exact ⟨ρ'', rs, h1, Step.trans s h2, h3⟩

/-- the run of 'x' stands for the walk of 'c' -/
def CodeOk (P : Program) (n : Nat) (x : X) (c : Code) : Prop :=
  ∀ call, CallsOk P call → CallsMono call → ∀ e h ex e' h', x call e h = .ok ex e' h' → ∀ ρ w (a : Act) (ro : Option Nat) (base : Nat) (rs : List Nat) (Q : Exit → Act → World → Prop),
    ERel ρ n e a.tmps → HRel ρ h w → Fresh ρ h.next h'.next → RoundRel ρ call.round ro → base ≤ w.heap.size → a.defers = rs.map mark → Marks ρ h w base rs →
    (∀ a' w', PostC ρ n h w base e' h' a' w' → Q (exitOf ex) a' w') → c.wpIn (Fw ro) 0 P Q a w

theorem bad_code (why : String) (c : Code) : CodeOk P n (xBad why) c := fun _ _ _ _ _ _ _ _ h => nomatch h

theorem code_exit {x : AExit} {c : Code} (hc : ∀ {F : Fence} {Q : Exit → Act → World → Prop} {a : Act} {w : World}, Q (exitOf x) a w → c.wpIn F 0 P Q a w) : CodeOk P n (xExit x) c := by
  intro call hca hm e h ex e' h' hr ρ w a ro base rs Q he hh hf hro hb hd hmk hq
  injection hr with h1 h2 h3; subst h1; subst h2; subst h3
  exact hc (hq a w ⟨ρ, rs, he, Step.refl hh, hd, hmk⟩)

theorem code_region {id : Nat} {ops : Array Oper} {cos : List CO} (hco : compOps P n ops ops.toList = some cos) : CodeOk P n (xRegion cos) (.region id ops false) := by
  intro call hca hm e h ex e' h' hr ρ w a ro base rs Q he hh hf hro hb hd hmk hq
  unfold xRegion at hr
  split at hr
  · rename_i e1 h1 hr'
    injection hr with h1 h2 h3; subst h1; subst h2; subst h3
    refine region_ok hco hca hm hr' ro Q he hh hf fun a' w' hp => hq a' w' ?_
    obtain ⟨ρ', h1, h2, h3⟩ := hp
    exact ⟨ρ', rs, h1, h2, h3.trans hd, hmk.step h2⟩
  · cases hr

theorem code_seq {x y : X} {c d : Code} (hx : CodeOk P n x c) (hy : CodeOk P n y d) (my : XMono y) : CodeOk P n (xSeq x y) (.seq c d) := by
  intro call hca hm e h ex e' h' hr ρ w a ro base rs Q he hh hf hro hb hd hmk hq
  simp only [xSeq, go_eq] at hr
  refine wpIn_seq ?_
  split at hr
  · rename_i x1 e1 h1 hx1
    cases x1 with
    | normal =>
      have m2 := my call hm _ _ _ _ _ hr
      refine hx call hca hm e h _ e1 h1 hx1 ρ w a ro base rs _ he hh (hf.mono (Nat.le_refl _) m2) hro hb hd hmk fun a1 w1 hp => ?_
      obtain ⟨ρ1, rs1, q1, q2, q3, q4⟩ := hp
      exact hy call hca hm e1 h1 ex e' h' hr ρ1 w1 a1 ro base rs1 Q q1 q2.rel (q2.fresh hf) (hro.le q2.le) (Nat.le_trans hb q2.size) q3 q4 fun a' w' hp => hq a' w' (PostC.trans q2 hp)
    | exit i =>
      injection hr with h1 h2 h3; subst h1; subst h2; subst h3
      exact hx call hca hm e h _ _ _ hx1 ρ w a ro base rs _ he hh hf hro hb hd hmk fun a1 w1 hp => hq a1 w1 hp
    | goto i =>
      injection hr with h1 h2 h3; subst h1; subst h2; subst h3
      exact hx call hca hm e h _ _ _ hx1 ρ w a ro base rs _ he hh hf hro hb hd hmk fun a1 w1 hp => hq a1 w1 hp
    | ret =>
      injection hr with h1 h2 h3; subst h1; subst h2; subst h3
      exact hx call hca hm e h _ _ _ hx1 ρ w a ro base rs _ he hh hf hro hb hd hmk fun a1 w1 hp => hq a1 w1 hp
  · cases hr

theorem code_cond {o : Operand} {y : Opnd} (ho : opnd n o = some y) {x1 x2 : X} {c1 c2 : Code} (h1 : CodeOk P n x1 c1) (h2 : CodeOk P n x2 c2) : CodeOk P n (xCond y x1 x2) (.cond o c1 c2) := by
  intro call hca hm e h ex e' h' hr ρ w a ro base rs Q he hh hf hro hb hd hmk hq
  obtain ⟨z, hz, hr⟩ := sc_ok hr nofun
  have hor := opnd_ok ho he
  rw [hz] at hor
  cases z with
  | bool t =>
    have e1 : a.eval o = .bool t := hor
    cases t with
    | true => exact wpIn_cond_true e1 (h1 call hca hm e h ex e' h' hr ρ w a ro base rs Q he hh hf hro hb hd hmk hq)
    | false => exact wpIn_cond_false e1 (h2 call hca hm e h ex e' h' hr ρ w a ro base rs Q he hh hf hro hb hd hmk hq)
  | _ => cases hr

theorem code_block {i : Nat} {x : X} {c : Code} (hx : CodeOk P n x c) : CodeOk P n (xBlock i x) (.block i c) := by
  intro call hca hm e h ex e' h' hr ρ w a ro base rs Q he hh hf hro hb hd hmk hq
  simp only [xBlock, go_eq] at hr
  refine wpIn_block ?_
  split at hr
  · rename_i x1 e1 h1 hx1
    cases x1 with
    | exit j =>
      simp only at hr
      split at hr
      · rename_i hj
        rw [nat_beq] at hj
        injection hr with h1 h2 h3; subst h1; subst h2; subst h3
        refine hx call hca hm e h _ _ _ hx1 ρ w a ro base rs _ he hh hf hro hb hd hmk fun a1 w1 hp => ?_
        show if j = i then _ else _
        rw [if_pos hj]
        exact hq a1 w1 hp
      · rename_i hj
        rw [nat_beq_false] at hj
        injection hr with h1 h2 h3; subst h1; subst h2; subst h3
        refine hx call hca hm e h _ _ _ hx1 ρ w a ro base rs _ he hh hf hro hb hd hmk fun a1 w1 hp => ?_
        show if j = i then _ else _
        rw [if_neg hj]
        exact hq a1 w1 hp
    | normal =>
      injection hr with h1 h2 h3; subst h1; subst h2; subst h3
      exact hx call hca hm e h _ _ _ hx1 ρ w a ro base rs _ he hh hf hro hb hd hmk fun a1 w1 hp => hq a1 w1 hp
    | goto l =>
      injection hr with h1 h2 h3; subst h1; subst h2; subst h3
      exact hx call hca hm e h _ _ _ hx1 ρ w a ro base rs _ he hh hf hro hb hd hmk fun a1 w1 hp => hq a1 w1 hp
    | ret =>
      injection hr with h1 h2 h3; subst h1; subst h2; subst h3
      exact hx call hca hm e h _ _ _ hx1 ρ w a ro base rs _ he hh hf hro hb hd hmk fun a1 w1 hp => hq a1 w1 hp
  · cases hr

theorem code_loop {x : X} {c : Code} (hx : CodeOk P n x c) (mx : XMono x) : CodeOk P n (xLoop x) (.loop c) := by
  intro call hca hm e h ex e' h' hr ρ w a ro base rs Q he hh hf hro hb hd hmk hq
  refine wpIn_loop_rounds rounds ?_
  have key : ∀ (k : Nat) {e h ρ w} {a : Act} {rs}, loopN (x call) k e h = .ok ex e' h' → ERel ρ n e a.tmps → HRel ρ h w → Fresh ρ h.next h'.next → RoundRel ρ call.round ro → base ≤ w.heap.size → a.defers = rs.map mark → Marks ρ h w base rs →
      (∀ a' w', PostC ρ n h w base e' h' a' w' → Q (exitOf ex) a' w') → Code.roundsIn (Fw ro) 0 P c Q k a w := by
    intro k
    induction k with
    | zero => intro e h ρ w a rs hr; cases hr
    | succ k ih =>
      intro e h ρ w a rs hr he hh hf hro hb hd hmk hq
      rw [roundsIn_succ]
      rw [loopN_succ] at hr
      split at hr
      · rename_i x1 e1 h1 hx1
        cases x1 with
        | normal =>
          have m2 := loopN_mono (fun _ _ _ _ _ hx => mx call hm _ _ _ _ _ hx) _ hr
          refine hx call hca hm e h _ _ _ hx1 ρ w a ro base rs _ he hh (hf.mono (Nat.le_refl _) m2) hro hb hd hmk fun a1 w1 hp => ?_
          obtain ⟨ρ1, rs1, q1, q2, q3, q4⟩ := hp
          exact ih hr q1 q2.rel (q2.fresh hf) (hro.le q2.le) (Nat.le_trans hb q2.size) q3 q4 fun a' w' hp => hq a' w' (PostC.trans q2 hp)
        | exit j =>
          injection hr with h1 h2 h3; subst h1; subst h2; subst h3
          exact hx call hca hm e h _ _ _ hx1 ρ w a ro base rs _ he hh hf hro hb hd hmk fun a1 w1 hp => hq a1 w1 hp
        | goto l =>
          injection hr with h1 h2 h3; subst h1; subst h2; subst h3
          exact hx call hca hm e h _ _ _ hx1 ρ w a ro base rs _ he hh hf hro hb hd hmk fun a1 w1 hp => hq a1 w1 hp
        | ret =>
          injection hr with h1 h2 h3; subst h1; subst h2; subst h3
          exact hx call hca hm e h _ _ _ hx1 ρ w a ro base rs _ he hh hf hro hb hd hmk fun a1 w1 hp => hq a1 w1 hp
      · cases hr
  exact key rounds hr he hh hf hro hb hd hmk hq

/-- labels, and the code behind them -/
def LabelsOk (P : Program) (n : Nat) (c : Code) (ls : List (Nat × X)) : Prop := ∀ q ∈ ls, ∃ d, findLabel c q.1 = some d ∧ CodeOk P n q.2 d ∧ XMono q.2

theorem code_scope {x : X} {c : Code} {ls : List (Nat × X)} (hx : CodeOk P n x c) (mx : XMono x) (hls : LabelsOk P n c ls) : CodeOk P n (xScope ls x) (.scope c) := by
  intro call hca hm e h ex e' h' hr ρ w a ro base rs Q he hh hf hro hb hd hmk hq
  refine wpIn_scope_rounds rounds ?_
  have key : ∀ (k : Nat) {x : X} {d : Code} {e h ρ w} {a : Act} {rs}, CodeOk P n x d → XMono x → scopeN ls call k x e h = .ok ex e' h' → ERel ρ n e a.tmps → HRel ρ h w → Fresh ρ h.next h'.next → RoundRel ρ call.round ro → base ≤ w.heap.size → a.defers = rs.map mark → Marks ρ h w base rs →
      (∀ a' w', PostC ρ n h w base e' h' a' w' → Q (exitOf ex) a' w') → scopeRounds (Fw ro) 0 P c Q k d a w := by
    intro k
    induction k with
    | zero => intro x d e h ρ w a rs _ _ hr; cases hr
    | succ k ih =>
      intro x d e h ρ w a rs hx mx hr he hh hf hro hb hd hmk hq
      simp only [scopeN, go_eq] at hr
      split at hr
      · rename_i x1 e1 h1 hx1
        cases x1 with
        | goto l =>
          simp only at hr
          split at hr
          · rename_i y hy
            obtain ⟨d', hd', hyok, hym⟩ := hls _ (findL_mem hy)
            have m2 := scopeN_mono (fun q hq => (hls q hq).choose_spec.2.2) hm k hym hr
            refine hx call hca hm e h _ _ _ hx1 ρ w a ro base rs _ he hh (hf.mono (Nat.le_refl _) m2) hro hb hd hmk fun a1 w1 hp => ⟨d', hd', ?_⟩
            obtain ⟨ρ1, rs1, q1, q2, q3, q4⟩ := hp
            exact ih hyok hym hr q1 q2.rel (q2.fresh hf) (hro.le q2.le) (Nat.le_trans hb q2.size) q3 q4 fun a' w' hp => hq a' w' (PostC.trans q2 hp)
          · cases hr
        | normal =>
          injection hr with h1 h2 h3; subst h1; subst h2; subst h3
          exact hx call hca hm e h _ _ _ hx1 ρ w a ro base rs _ he hh hf hro hb hd hmk fun a1 w1 hp => hq a1 w1 hp
        | exit j =>
          injection hr with h1 h2 h3; subst h1; subst h2; subst h3
          exact hx call hca hm e h _ _ _ hx1 ρ w a ro base rs _ he hh hf hro hb hd hmk fun a1 w1 hp => hq a1 w1 hp
        | ret =>
          injection hr with h1 h2 h3; subst h1; subst h2; subst h3
          exact hx call hca hm e h _ _ _ hx1 ρ w a ro base rs _ he hh hf hro hb hd hmk fun a1 w1 hp => hq a1 w1 hp
      · cases hr
  exact key rounds hx mx hr he hh hf hro hb hd hmk hq
end CSim
