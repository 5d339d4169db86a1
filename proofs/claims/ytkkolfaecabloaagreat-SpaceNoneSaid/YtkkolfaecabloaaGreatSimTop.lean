/-
  Whole calls: what the evaluator says of them; calls that hang on nothing, as external functions.
-/
import Derived.Test.YtkkolfaecabloaaGreatSimDrawK
import Derived.Below
namespace CSim
set_option linter.unusedSimpArgs false
set_option linter.unusedVariables false
open Go Go.RowKit
variable {P : Program}

def ρ0 : Ren := fun _ => none
def H00 : Heap := ⟨0, Mem.empty⟩
theorem H00_get (b : Nat) : H00.get b = none := by
  unfold Heap.get H00
  split
  · exact Mem.get_empty b
  · rfl
theorem empty_rel (w : World) : HRel ρ0 H00 w := ⟨(fun b o p h _ => by rw [H00_get] at h; cases h), (fun _ _ h => nomatch h), (fun b o p h _ => by rw [H00_get] at h; cases h), (fun b b' o o' p p' h _ _ _ _ => by rw [H00_get] at h; cases h), (fun b o p h _ _ => by rw [H00_get] at h; cases h)⟩
theorem empty_owns {c : Nat} (h : Owns ρ0 H00 c) : False := by
  obtain ⟨b, o, p, _, h2, _⟩ := h
  cases h2
theorem step_below {ρ' : Ren} {h' : Heap} {w w' : World} (s : Step ρ0 H00 w ρ' h' w') : Below w.heap.size w w' := ⟨s.os, s.tape, s.output, s.size, fun k hk => s.same k hk empty_owns⟩

/-- a run from nothing says what the call does -/
theorem top_calls {f : CallF} (hc : FnOk P f) {g : Nat} {args : List V} {v : V} {h' : Heap} (hr : f g args H00 = .ok v h') {cargs : Array Value} (ha : VsRel ρ0 args cargs.toList) (w : World) :
    Go.Calls P g cargs w fun e w' => ∃ cv ρ', e = .returned cv ∧ VRel ρ' v cv ∧ Below w.heap.size w w' := by
  obtain ⟨_, h2⟩ := hc g args H00 v h' hr ρ0 w cargs ha (empty_rel w) (fun _ _ _ => rfl)
  refine (callsIn_wide.1 h2).mono fun e w' h => ?_
  obtain ⟨cv, e1, ρ', h3, h4⟩ := h
  exact ⟨cv, ρ', e1, h3, step_below h4⟩

/-- is it true? -/
def isTrue : Res → Bool
  | .ok (.s (.bool b)) _ => b
  | _ => false
theorem isTrue_spec {r : Res} (h : isTrue r = true) : ∃ h', r = .ok (.s (.bool true)) h' := by
  unfold isTrue at h
  split at h
  · subst h; exact ⟨_, rfl⟩
  · cases h
theorem top_true {f : CallF} (hc : FnOk P f) {g : Nat} {args : List V} (hr : isTrue (f g args H00) = true) {cargs : Array Value} (ha : VsRel ρ0 args cargs.toList) (w : World) :
    Go.Calls P g cargs w fun e w' => e = .returned (.bool true) ∧ Below w.heap.size w w' := by
  obtain ⟨h', h1⟩ := isTrue_spec hr
  refine (top_calls hc h1 ha w).mono fun e w' ⟨cv, ρ', e1, h3, h4⟩ => ?_
  have : cv = .bool true := h3
  subst this
  exact ⟨e1, h4⟩

/-- what a step from nothing leaves of a memory that is beside it -/
theorem step_aside {ρ ρ' : Ren} {h h' : Heap} {w w' : World} (hr : HRel ρ h w) (s : Step ρ0 H00 w ρ' h' w') : Step ρ h w ρ h w' := by
  have hold : ∀ k, k < w.heap.size → w'.heap[k]? = w.heap[k]? := fun k hk => s.same k hk empty_owns
  exact ⟨Ren.le_refl ρ, fun _ _ h => .inl h, Nat.le_refl _, ⟨hr.ok, fun b p hp => Nat.lt_of_lt_of_le (hr.low b p hp) s.size, fun b o p h1 hp => by rw [hold _ (hr.low b p hp)]; exact hr.obj b o p h1 hp, hr.inj, hr.tight⟩, s.size, fun c hc _ => hold c hc, fun _ h => .inl h, s.os, s.tape, s.output⟩

/-- calls without arguments that answer true, and hang on nothing -/
def extTrue (fs : List Nat) : Ext := fun f args h => match memN f fs with
  | true => (match args with | [] => some (.ok (.s (.bool true)) h) | _ => none)
  | false => none
theorem extTrue_mono (fs : List Nat) : ExtMono (extTrue fs) := by
  intro f args h v h' hx
  unfold extTrue at hx
  split at hx
  · split at hx
    · injection hx with hx
      injection hx with _ hx
      rw [hx]; exact Nat.le_refl _
    · cases hx
  · cases hx
theorem extTrue_ok {fs : List Nat} (hfs : ∀ g ∈ fs, ∃ f : CallF, FnOk P f ∧ isTrue (f g [] H00) = true) : ExtOk P (extTrue fs) := by
  intro g args h v h' hx ρ w cargs hargs hh hf
  simp only [extTrue] at hx
  split at hx
  · rename_i r hr
    split at hr
    · rename_i hm
      rw [memN_iff] at hm
      split at hr
      · injection hr with hr; subst hr
        injection hx with e1 e2; subst e1; subst e2
        have hl : cargs.toList = [] := hargs
        obtain ⟨f, h1, h2⟩ := hfs g hm
        obtain ⟨h2', h3⟩ := isTrue_spec h2
        obtain ⟨k1, k2⟩ := h1 g [] H00 _ _ h3 ρ0 w cargs (by rw [hl]; rfl) (empty_rel w) (fun _ _ _ => rfl)
        refine ⟨k1, k2.mono fun e w' hret => ?_⟩
        obtain ⟨cv, e1, ρ', h4, h5⟩ := hret
        have : cv = .bool true := h4
        subst this
        exact ⟨_, e1, ρ, rfl, step_aside hh h5⟩
      · cases hr
    · cases hr
  · cases hx

/-- no external functions -/
def ext0 : Ext := fun _ _ _ => none
theorem ext0_mono : ExtMono ext0 := fun _ _ _ _ _ h => nomatch h
theorem ext0_ok : ExtOk P ext0 := fun _ _ _ _ _ h => nomatch h

def namesOkB (P : Program) : Bool := P.funcs.toList.all fun g => !(g.name == "runtime.NumGoroutine")
theorem namesOk {P : Program} (h : namesOkB P = true) : NamesOk P := by
  intro f g hg
  unfold namesOkB at h
  rw [List.all_eq_true] at h
  have := h g (List.mem_of_getElem? (i := f) (by simpa using hg))
  simpa using this
end CSim
