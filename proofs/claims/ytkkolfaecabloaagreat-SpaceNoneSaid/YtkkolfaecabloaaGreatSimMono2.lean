/-
  Numbers of blocks only grow: code, calls.
-/
import Derived.Test.YtkkolfaecabloaaGreatSimMono
namespace CSim
set_option linter.unusedSimpArgs false
set_option linter.unusedVariables false
open Go
variable {P : Program} {n : Nat}

def XMono (x : X) : Prop := ∀ c, CallsMono c → ∀ e h ex e' h', x c e h = .ok ex e' h' → h.next ≤ h'.next

theorem runOps_cons (c : Calls) (o : CO) (l : List CO) (e : E) (h : Heap) : runOps c (o :: l) e h = stepO c o e h (runOps c l) := rfl
theorem runOps_mono {c : Calls} (hc : CallsMono c) : ∀ {l : List CO}, (∀ o ∈ l, Mono o.run) → ∀ {e h e' h'}, runOps c l e h = .ok e' h' → h.next ≤ h'.next
  | [], _, e, h, e', h', hr => by injection hr with h1 h2; subst h2; exact Nat.le_refl _
  | o :: l, hl, e, h, e', h', hr => by
    rw [runOps_cons] at hr
    unfold stepO at hr
    split at hr
    · split at hr
      · split at hr
        · rename_i v h1 hv
          exact Nat.le_trans (hl o (List.mem_cons_self ..) c hc _ _ _ _ hv) (runOps_mono hc (fun o ho => hl o (List.mem_cons_of_mem _ ho)) hr)
        · cases hr
      · exact runOps_mono hc (fun o ho => hl o (List.mem_cons_of_mem _ ho)) hr
    · cases hr

theorem runDraw_mono {c : Calls} (hc : CallsMono c) : ∀ {l : List (CO × Kind)}, (∀ o ∈ l, Mono o.1.run) → ∀ {e h hs e' h'}, runDraw c l e h hs = .ok e' h' → h.next ≤ h'.next
  | [], _, e, h, hs, e', h', hr => by injection hr with h1 h2; subst h2; exact Nat.le_refl _
  | (o, k) :: l, hl, e, h, hs, e', h', hr => by
    have ih := fun {e h hs e' h'} => runDraw_mono hc (l := l) (fun o ho => hl o (List.mem_cons_of_mem _ ho)) (e := e) (h := h) (hs := hs) (e' := e') (h' := h')
    have ho := hl (o, k) (List.mem_cons_self ..) c hc
    simp only [runDraw, go_eq, drawO] at hr
    split at hr
    · cases hr
    · rename_i w _
      split at hr
      · cases w with
        | false => exact ih hr
        | true =>
          simp only [drawEff] at hr
          split at hr
          · rename_i h1; exact Nat.le_trans (ho _ _ _ _ h1) (ih hr)
          · cases hr
      · cases w with
        | false => exact ih hr
        | true =>
          simp only [drawPure] at hr
          split at hr
          · exact ih hr
          · cases hr
      · cases w with
        | false => exact ih hr
        | true =>
          simp only [drawAlloc] at hr
          split at hr
          · rename_i h1
            split at hr
            · split at hr
              · exact Nat.le_trans (ho _ _ _ _ h1) (ih hr)
              · cases hr
            · cases hr
          · cases hr
      · cases w with
        | false => exact ih hr
        | true =>
          simp only [drawRead] at hr
          split at hr
          · cases hr
          · split at hr
            · split at hr
              · exact ih hr
              · cases hr
            · cases hr

theorem compCO_mono {ops : Array Oper} {o : Oper} {co : CO} (h : compCO P n ops o = some co) : Mono co.run := by
  unfold compCO at h
  split at h
  · split at h
    · split at h
      rename_i r hr
      injection h with h; subst h
      exact compRun_mono hr
    · cases h
  · cases h
theorem compOps_mono {ops : Array Oper} : ∀ {l : List Oper} {cos : List CO}, compOps P n ops l = some cos → ∀ co ∈ cos, Mono co.run
  | [], cos, h, co, hm => by injection h with h; subst h; cases hm
  | o :: l, cos, h, co, hm => by
    simp only [compOps] at h
    split at h
    · rename_i c r h1 h2
      injection h with h; subst h
      cases hm with
      | head => exact compCO_mono h1
      | tail _ hm => exact compOps_mono h2 co hm
    · cases h
theorem compDrawL_mono {ops : Array Oper} {effs b : List Nat} : ∀ {l : List Nat} {cos : List (CO × Kind)}, compDrawL P n ops effs b l = some cos → ∀ co ∈ cos, Mono co.1.run
  | [], cos, h, co, hm => by injection h with h; subst h; cases hm
  | i :: l, cos, h, co, hm => by
    simp only [compDrawL] at h
    split at h
    · split at h
      · rename_i c r h1 h2
        injection h with h; subst h
        cases hm with
        | head => exact compCO_mono h1
        | tail _ hm => exact compDrawL_mono h2 co hm
      · cases h
    · cases h

theorem bad_x (why : String) : XMono (xBad why) := fun _ _ _ _ _ _ _ h => nomatch h
theorem xRegion_mono {l : List CO} (hl : ∀ o ∈ l, Mono o.run) : XMono (xRegion l) := by
  intro c hc e h ex e' h' hr
  unfold xRegion at hr
  split at hr
  · rename_i hr'
    injection hr with h1 h2 h3; subst h3
    exact runOps_mono hc hl hr'
  · cases hr
theorem xDraw_mono {l : List (CO × Kind)} (hl : ∀ o ∈ l, Mono o.1.run) : XMono (xDraw l) := by
  intro c hc e h ex e' h' hr
  unfold xDraw at hr
  split at hr
  · rename_i hr'
    injection hr with h1 h2 h3; subst h3
    exact runDraw_mono hc hl hr'
  · cases hr
theorem xSeq_mono {a b : X} (ha : XMono a) (hb : XMono b) : XMono (xSeq a b) := by
  intro c hc e h ex e' h' hr
  simp only [xSeq, go_eq] at hr
  split at hr
  · rename_i x e1 h1 hx
    have m1 := ha c hc _ _ _ _ _ hx
    split at hr
    · exact Nat.le_trans m1 (hb c hc _ _ _ _ _ hr)
    · injection hr with _ _ h3; subst h3; exact m1
  · cases hr
theorem xCond_mono {o : Opnd} {a b : X} (ha : XMono a) (hb : XMono b) : XMono (xCond o a b) := by
  intro c hc e h ex e' h' hr
  obtain ⟨y, _, hr⟩ := sc_ok hr nofun
  cases y with
  | bool t => cases t with
    | true => exact ha c hc _ _ _ _ _ hr
    | false => exact hb c hc _ _ _ _ _ hr
  | _ => cases hr
theorem xBlock_mono {i : Nat} {a : X} (ha : XMono a) : XMono (xBlock i a) := by
  intro c hc e h ex e' h' hr
  simp only [xBlock, go_eq] at hr
  split at hr
  · rename_i x e1 h1 hx
    have m1 := ha c hc _ _ _ _ _ hx
    repeat' split at hr
    all_goals (injection hr with _ _ h3; subst h3; exact m1)
  · cases hr
theorem loopN_succ (b : E → Heap → XRes) (k : Nat) (e : E) (h : Heap) : loopN b (k + 1) e h = match b e h with
    | .ok x e h => (match x with
      | .normal => loopN b k e h
      | x => .ok x e h)
    | .no => .no := rfl
theorem loopN_mono {b : E → Heap → XRes} (hb : ∀ e h ex e' h', b e h = .ok ex e' h' → h.next ≤ h'.next) : ∀ (k : Nat) {e h ex e' h'}, loopN b k e h = .ok ex e' h' → h.next ≤ h'.next
  | 0, e, h, ex, e', h', hr => by cases hr
  | k + 1, e, h, ex, e', h', hr => by
    rw [loopN_succ] at hr
    split at hr
    · rename_i x e1 h1 hx
      have m1 := hb _ _ _ _ _ hx
      split at hr
      · exact Nat.le_trans m1 (loopN_mono hb k hr)
      · injection hr with _ _ h3; subst h3; exact m1
    · cases hr
theorem xLoop_mono {a : X} (ha : XMono a) : XMono (xLoop a) := fun c hc e h ex e' h' hr => loopN_mono (fun _ _ _ _ _ hx => ha c hc _ _ _ _ _ hx) _ hr
theorem xExit_mono (x : AExit) : XMono (xExit x) := by
  intro c hc e h ex e' h' hr
  injection hr with _ _ h3; subst h3; exact Nat.le_refl _
theorem endRange_mono {e : E} {h : Heap} {l : Nat} {ex e' h'} (hr : endRange e h l = .ok ex e' h') : h.next ≤ h'.next := by
  unfold endRange at hr
  repeat' split at hr
  all_goals first
    | (cases hr; done)
    | (injection hr with _ _ h3; subst h3; exact Nat.le_refl _)
theorem xRange_mono {g : Opnd} {ps : List Nat} {asg body : Code} {m : Nat} : XMono (xRange g ps asg body m) := by
  intro c hc e h ex e' h' hr
  obtain ⟨q, _, hr⟩ := asOth_ok hr nofun
  cases q with
  | func f cap =>
    simp only at hr
    split at hr
    · cases hr
    · split at hr
      · rename_i y h1 h2
        split at hr
        · rename_i v h3 h4
          exact Nat.le_trans (new_mono h2) (Nat.le_trans (hc.1 _ _ _ _ _ h4) (endRange_mono hr))
        · cases hr
      · cases hr
  | _ => cases hr

theorem bop_x (a b : Box) (f : X → X → X) : (bop a b f).x = f a.x b.x := by cases a; cases b; rfl
theorem bop1_x (a : Box) (f : X → X) : (bop1 a f).x = f a.x := by cases a; rfl

theorem compDraw_mono {ops : Array Oper} : XMono (compDraw P n ops) := by
  unfold compDraw drawWith
  split
  · exact bad_x "draw"
  · split
    · rename_i l hl; exact xDraw_mono (compDrawL_mono hl)
    · exact bad_x "draw"

theorem comp_mono : ∀ (c : Code), XMono (comp P n c).x
  | .skip => xExit_mono .normal
  | .region _ ops draw => by
    simp only [comp]
    cases draw with
    | false =>
      unfold box
      simp only
      split
      · rename_i l hl; exact xRegion_mono (compOps_mono hl)
      · exact bad_x "operand"
    | true => exact compDraw_mono
  | .seq a b => by simp only [comp, bop_x]; exact xSeq_mono (comp_mono a) (comp_mono b)
  | .cond o a b => by
    simp only [comp]
    split
    · simp only [bop_x]; exact xCond_mono (comp_mono a) (comp_mono b)
    · exact bad_x "operand"
  | .block i b => by simp only [comp, bop1_x]; exact xBlock_mono (comp_mono b)
  | .loop b => by simp only [comp, bop1_x]; exact xLoop_mono (comp_mono b)
  | .exit i => xExit_mono _
  | .label _ => xExit_mono .normal
  | .goto l => xExit_mono _
  | .ret => xExit_mono _
  | .scope _ => bad_x "scope"
  | .rangeFunc g ps asg body => by
    simp only [comp]
    unfold box
    split
    · exact xRange_mono
    · exact bad_x "operand"
  | .refuse w => bad_x w

theorem compLs_mono {b : Code} : ∀ (ls : List Nat), ∀ q ∈ compLs P n b ls, XMono q.2
  | [], q, hq => by cases hq
  | l :: r, q, hq => by
    simp only [compLs] at hq
    split at hq
    · rename_i c hc
      cases hx : comp P n c with
      | mk x =>
        rw [hx] at hq
        cases hq with
        | head => have := comp_mono (P := P) (n := n) c; rw [hx] at this; exact this
        | tail _ hm => exact compLs_mono r q hm
    · exact compLs_mono r q hq
theorem findL_mem {l : Nat} : ∀ {ls : List (Nat × X)} {x : X}, findL l ls = some x → (l, x) ∈ ls
  | [], x, h => by cases h
  | (i, c) :: r, x, h => by
    simp only [findL] at h
    split at h
    · rename_i hi
      rw [nat_beq] at hi
      subst hi
      injection h with h; subst h
      exact List.mem_cons_self ..
    · exact List.mem_cons_of_mem _ (findL_mem h)
theorem scopeN_mono {ls : List (Nat × X)} (hls : ∀ q ∈ ls, XMono q.2) {c : Calls} (hc : CallsMono c) : ∀ (k : Nat) {b : X}, XMono b → ∀ {e h ex e' h'}, scopeN ls c k b e h = .ok ex e' h' → h.next ≤ h'.next
  | 0, b, hb, e, h, ex, e', h', hr => by cases hr
  | k + 1, b, hb, e, h, ex, e', h', hr => by
    simp only [scopeN, go_eq] at hr
    split at hr
    · rename_i x e1 h1 hx
      have m1 := hb c hc _ _ _ _ _ hx
      split at hr
      · split at hr
        · rename_i y hy
          exact Nat.le_trans m1 (scopeN_mono hls hc k (hls _ (findL_mem hy)) hr)
        · cases hr
      · injection hr with _ _ h3; subst h3; exact m1
    · cases hr
theorem compTop_mono : ∀ (c : Code), XMono (compTop P n c).x
  | .scope b => by
    simp only [compTop, bop1_x]
    exact fun c hc e h ex e' h' hr => scopeN_mono (compLs_mono _) hc _ (comp_mono b) hr
  | .seq a b => by simp only [compTop, bop_x]; exact xSeq_mono (compTop_mono a) (compTop_mono b)
  | .skip => comp_mono .skip
  | .region i ops d => comp_mono (.region i ops d)
  | .cond o a b => comp_mono (.cond o a b)
  | .block i b => comp_mono (.block i b)
  | .loop b => comp_mono (.loop b)
  | .exit i => comp_mono (.exit i)
  | .label l => comp_mono (.label l)
  | .goto l => comp_mono (.goto l)
  | .ret => comp_mono .ret
  | .rangeFunc g ps asg body => comp_mono (.rangeFunc g ps asg body)
  | .refuse w => comp_mono (.refuse w)

/-! ### calls -/
theorem leave_mono {res : List (Option (Bool × Nat) × Getter)} {e : E} {h : Heap} {v : V} {h' : Heap} (hr : leave res e h = .ok v h') : h' = h := by
  unfold leave at hr
  split at hr
  · injection hr with _ h2; exact h2.symm
  · cases hr
theorem enterA_mono {fs : Nat → Option CFunc} (hfs : ∀ f fn, fs f = some fn → XMono fn.body) {c : Calls} (hc : CallsMono c) {f : Nat} {args : List V} {h : Heap} {v : V} {h' : Heap} (hr : enterA fs c f args h = .ok v h') : h.next ≤ h'.next := by
  simp only [enterA, go_eq] at hr
  split at hr
  · cases hr
  · rename_i fn hfn
    split at hr
    · split at hr
      · rename_i x e1 h1 hx
        have m1 := hfs f fn hfn c hc _ _ _ _ _ hx
        split at hr
        · rw [leave_mono hr]; exact m1
        · rw [leave_mono hr]; exact m1
        · cases hr
      · cases hr
    · cases hr
theorem endRoundA_mono {l : Nat} {x : AExit} {h : Heap} {v : V} {h' : Heap} (hr : endRoundA l x h = .ok v h') : h'.next = h.next := by
  unfold endRoundA at hr
  repeat' split at hr
  all_goals first
    | (cases hr; done)
    | (injection hr with _ h2; subst h2; rfl)
theorem yieldA_mono {run : Nat → Code → E → Heap → XRes} (hrun : ∀ m c e h ex e' h', run m c e h = .ok ex e' h' → h.next ≤ h'.next) {l : Nat} {args : List V} {h : Heap} {v : V} {h' : Heap} (hr : yieldA run l args h = .ok v h') : h.next ≤ h'.next := by
  unfold yieldA at hr
  split at hr
  · split at hr
    · split at hr
      · rename_i x e2 h2 hx
        have m1 := hrun _ _ _ _ _ _ _ hx
        split at hr
        · unfold bodyRoundA at hr
          split at hr
          · split at hr
            · split at hr
              · rename_i y e3 h3 hy
                have m2 := hrun _ _ _ _ _ _ _ hy
                rw [endRoundA_mono hr]
                exact Nat.le_trans m1 m2
              · cases hr
            · cases hr
          · cases hr
        · cases hr
      · cases hr
    · cases hr
  · cases hr

theorem compF_body {f : Nat} {fn : CFunc} (h : compF P f = some fn) : ∃ (g : Func) (c : Code), P.funcs[f]? = some g ∧ g.body = some c ∧ bodyF P g c = some fn := by
  unfold compF at h
  split at h
  · rename_i g hg
    split at h
    · rename_i c hc
      exact ⟨g, c, hg, hc, h⟩
    · cases h
  · cases h
theorem bodyF_ok {g : Func} {c : Code} {fn : CFunc} (h : bodyF P g c = some fn) : g.ntmps ≤ 512 ∧ g.params.size + g.nfree ≤ g.ntmps ∧ compRes P g.ntmps g.results.toList = some fn.res ∧ (compTop P g.ntmps c).x = fn.body ∧ fn.np = g.ntmps := by
  unfold bodyF at h
  split at h
  · rename_i hb
    simp only [Bool.and_eq_true, nat_ble, nadd] at hb
    split at h
    · rename_i r hr
      split at h
      rename_i x hx
      injection h with h; subst h
      exact ⟨hb.1, hb.2, hr, by rw [hx]; rfl, rfl⟩
    · cases h
  · cases h

def ExtMono (ext : Ext) : Prop := ∀ f args h v h', ext f args h = some (.ok v h') → h.next ≤ h'.next
theorem at_mono {c : Calls} (hc : CallsMono c) (r : Option Nat) : CallsMono (c.at r) := hc
theorem run_mono {ext : Ext} (he : ExtMono ext) : ∀ k, CallsMono (run P ext k)
  | 0 => ⟨(fun _ _ _ _ _ h => nomatch h), (fun _ _ _ _ _ h => nomatch h)⟩
  | k + 1 => by
    have ih := run_mono he k
    refine ⟨fun f args h v h' hr => ?_, fun f args h v h' hr => ?_⟩
    · simp only [run, callN, callsStep] at hr
      split at hr
      · rename_i r hx
        subst hr
        exact he _ _ _ _ _ hx
      · refine enterA_mono (fun f fn hfn => ?_) (at_mono ih none) hr
        obtain ⟨g, c, _, _, hb⟩ := compF_body hfn
        rw [← (bodyF_ok hb).2.2.2.1]
        exact compTop_mono c
    · exact yieldA_mono (fun m c e h ex e' h' hx => comp_mono c _ (at_mono ih _) _ _ _ _ _ hx) hr
end CSim
