/-
  What an operation does, calls included: the master statement.
-/
import Derived.Test.YtkkolfaecabloaaGreatSimOps8
import Derived.Conc.MuLone
import Derived.RangeFuncRecord
namespace CSim
set_option linter.unusedSimpArgs false
set_option linter.unusedVariables false
open Go
variable {P : Program} {n : Nat} {o : Oper}

/-- the fence: none, but the round that the code lies in -/
def Fw (r : Option Nat) : Fence := { Fence.wide with round := r }
theorem Fw_fn (r : Option Nat) (f : FuncId) : (Fw r).fn f := trivial
theorem Fw_depth (r : Option Nat) : (Fw r).depth.isSome = true → 1 ≤ 0 := fun h => nomatch h
theorem Fw_round (r : Option Nat) : (Fw r).round = r := rfl
theorem callsIn_Fw {r : Option Nat} {k : Nat} {f : FuncId} {args : Array Value} {w : World} {R : Ending → World → Prop} : CallsIn (Fw r) k P f args w R ↔ CallsIn Fence.wide k P f args w R := Iff.rfl
theorem roundIn_Fw {r : Option Nat} {k l : Nat} {f : FuncId} {tmps : Array Value} {asg body : Code} {w : World} {R : Ending → World → Prop} : RoundIn (Fw r) k P l f tmps asg body w R ↔ RoundIn Fence.wide k P l f tmps asg body w R := Iff.rfl

/-- what a call's end says -/
def RetOk (ρ : Ren) (h : Heap) (w : World) (v : V) (h' : Heap) : Ending → World → Prop := fun e w' => ∃ cv, e = .returned cv ∧ Out ρ h w v h' cv w'

def FnOk (P : Program) (f : CallF) : Prop := ∀ g args h v h', f g args h = .ok v h' → ∀ ρ w (cargs : Array Value), VsRel ρ args cargs.toList → HRel ρ h w → Fresh ρ h.next h'.next →
  (∀ w0, (callFunc g cargs).run P w0 = .ok (.enter g cargs) w0) ∧ CallsIn Fence.wide 0 P g cargs w (RetOk ρ h w v h')

/-- yield's temporaries -/
def roundTmps (r : Loop) (args : Array Value) : Array Value := (r.params.zip args).foldl (fun tmps (x : Tmp × Value) => tmps.setIfInBounds x.1 x.2) r.tmps

def YieldOk (P : Program) (f : CallF) : Prop := ∀ l args h v h', f l args h = .ok v h' → ∀ ρ w (cargs : Array Value) p, VsRel ρ args cargs.toList → HRel ρ h w → Fresh ρ h.next h'.next → ρ l = some p →
  ∃ r : Loop, w.heap[p.blk]? = some (.loop r) ∧ cargs.size = r.params.size ∧ RoundIn Fence.wide 0 P p.blk r.fn (roundTmps r cargs) r.assign r.body w (RetOk ρ h w v h')

structure CallsOk (P : Program) (c : Calls) : Prop where
  fn : FnOk P c.fn
  yield : YieldOk P c.yield

/-- 'r' does what the operation does -/
def OpOk (P : Program) (n : Nat) (o : Oper) (r : Run) : Prop :=
  ∀ c, CallsOk P c → ∀ e h v h', r c (evO e) h = .ok v h' → ∀ ρ w (a : Act), ERel ρ n e a.tmps → HRel ρ h w → Fresh ρ h.next h'.next →
    ∀ (ro : Option Nat) (next : Act → World → Prop) (Q : Exit → Act → World → Prop), (∀ cv w', Out ρ h w v h' cv w' → next (a.put o.dst cv) w') →
      o.uponIn (Fw ro) 0 P a next Q ((o.semAt ro a.eval).run P w)

theorem ValOk.op {r : Run} (h : ValOk P n o r) (hd : ∀ c, o.op ≠ .defer c) : OpOk P n o r := by
  intro c _ e hp v h' hr ρ w a he hh hf ro next Q hn
  obtain ⟨x, cv, w', h1, h2, h3⟩ := h c e hp v h' hr ρ w a he hh hf
  rw [Oper.semAt_eq ro a.eval o hd, h1]
  rcases h2 with rfl | ⟨rfl, rfl⟩
  · exact hn cv w' h3
  · exact hn undef w' h3

theorem VsRel.append {ρ : Ren} : ∀ {l m : List V} {l' m' : List Value}, VsRel ρ l l' → VsRel ρ m m' → VsRel ρ (app l m) (l' ++ m')
  | [], m, l', m', h, h' => by
    have : l' = [] := h
    subst this; exact h'
  | x :: l, m, l', m', ⟨y, ys, e, r, rs⟩, h' => by
    subst e
    exact ⟨y, ys ++ m', rfl, r, VsRel.append rs h'⟩
theorem capV_rel {ρ : Ren} {cap : List (Nat × Nat)} {l : List Value} (h : All2 (fun (x : Nat × Nat) y => ∃ p, ρ x.1 = some p ∧ y = Value.pointer (some ⟨p.blk, p.sh + x.2, none⟩)) cap l) : VsRel ρ (capV cap) l := by
  induction h with
  | nil => rfl
  | cons hab _ ih => exact ⟨_, _, rfl, hab, ih⟩

theorem retOk_next {ρ : Ren} {h h' : Heap} {w : World} {v : V} {a : Act} {dst : Option Tmp} {next : Act → World → Prop} {Q : Exit → Act → World → Prop} (hn : ∀ cv w', Out ρ h w v h' cv w' → next (a.put dst cv) w') :
    ∀ e w', RetOk ρ h w v h' e w' → (match e, w' with
      | .returned v, w'' => next (a.put dst v) w''
      | .panicked chain, w'' => Q (.panic chain) a w''
      | .outgrown, _ => LetsOut Q) := by
  rintro e w' ⟨cv, rfl, ho⟩
  exact hn cv w' ho

theorem ok_callF {f : FuncId} {args : Array Operand} {ats : Array TypeId} {as : List Opnd} (ho : o.op = .call ⟨.value (.func f), args, ats⟩) (has : opnds n args.toList = some as) : OpOk P n o (rCallF f as) := by
  intro c hc e h v h' hr ρ w a he hh hf ro next Q hn
  have hargs := opnds_ok he has
  have hl : (args.map a.eval).toList = args.toList.map a.eval := by simp
  rw [← hl] at hargs
  obtain ⟨h1, h2⟩ := hc.fn f _ h v h' hr ρ w (args.map a.eval) hargs hh hf
  rw [Oper.semAt_eq ro a.eval o (by rw [ho]; nofun)]
  have hrun : (execOp a.eval o).run P w = .ok (.enter f (args.map a.eval)) w := by
    have e1 : a.eval (.func f) = .func (.func f) #[] #[] := rfl
    simp only [execOp, ho, resolve, Sem.run_bind, e1, Deferred.ofValue, Sem.run_pure, Result.andThen_ok, invoke, Array.empty_append, Array.append_empty, h1]
  rw [hrun]
  exact ⟨Fw_depth ro, (callsIn_Fw (r := ro)).2 (h2.mono (retOk_next hn))⟩

theorem ok_call {f0 : Operand} {f : Opnd} {args : Array Operand} {ats : Array TypeId} {as : List Opnd} (ho : o.op = .call ⟨.value f0, args, ats⟩) (hf0 : opnd n f0 = some f) (has : opnds n args.toList = some as) : OpOk P n o (rCall f as) := by
  intro c hc e h v h' hr ρ w a he hh hf ro next Q hn
  have hargs := opnds_ok he has
  have hl : (args.map a.eval).toList = args.toList.map a.eval := by simp
  rw [← hl] at hargs
  obtain ⟨q, hu, hr⟩ := asOth_ok hr no_ne
  have hfr := opnd_ok hf0 he
  rw [hu] at hfr
  rw [Oper.semAt_eq ro a.eval o (by rw [ho]; nofun)]
  cases q with
  | func g cap =>
    obtain ⟨cs, e1, hcap⟩ := id hfr
    have hargs2 : VsRel ρ (app (evs (evO e) as) (capV cap)) ((args.map a.eval) ++ cs).toList := by
      rw [Array.toList_append]; exact hargs.append (capV_rel hcap)
    obtain ⟨h1, h2⟩ := hc.fn g _ h v h' hr ρ w _ hargs2 hh hf
    have hrun : (execOp a.eval o).run P w = .ok (.enter g (args.map a.eval ++ cs)) w := by
      simp only [execOp, ho, resolve, Sem.run_bind, e1, Deferred.ofValue, Sem.run_pure, Result.andThen_ok, invoke, Array.empty_append, h1]
    rw [hrun]
    exact ⟨Fw_depth ro, (callsIn_Fw (r := ro)).2 (h2.mono (retOk_next hn))⟩
  | yield l =>
    obtain ⟨p, hp, e1⟩ := id hfr
    obtain ⟨r, h1, h2, h3⟩ := hc.yield l _ h v h' hr ρ w _ p hargs hh hf hp
    have hrun : (execOp a.eval o).run P w = .ok (.round p.blk r.fn (roundTmps r (args.map a.eval)) r.assign r.body) w := by
      simp only [execOp, ho, resolve, Sem.run_bind, e1, Deferred.ofValue, Sem.run_pure, Result.andThen_ok, invoke, Array.empty_append, run_yield h1 h2]
      rfl
    rw [hrun]
    exact ⟨Fw_depth ro, (roundIn_Fw (r := ro)).2 (h3.mono (retOk_next hn))⟩
  | _ => cases hr
end CSim
