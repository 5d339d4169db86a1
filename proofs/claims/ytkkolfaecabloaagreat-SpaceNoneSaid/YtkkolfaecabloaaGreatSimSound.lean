/-
  Functions; the evaluator is sound.
-/
import Derived.Test.YtkkolfaecabloaaGreatSimCalls
namespace CSim
set_option linter.unusedSimpArgs false
set_option linter.unusedVariables false
open Go
variable {P : Program} {n : Nat}

/-! ### results -/
theorem loaded_some {α : Type} {agg : Bool} {l : List AV} {f : V → Option α} {z : α} (h : loaded agg l none f = some z) : ∃ v, f v = some z ∧ ∀ hp : Heap, loaded agg l .no (fun v => .ok v hp) = Res.ok v hp := by
  cases agg with
  | true => exact ⟨_, h, fun _ => rfl⟩
  | false =>
    cases l with
    | nil => cases h
    | cons x l =>
      cases l with
      | nil => exact ⟨_, h, fun _ => rfl⟩
      | cons y l => cases h

/-- one result -/
def resOne (tmps : Array Value) : ResultVar → Sem Value
  | .tmp t => pure (tmps.getD t undef)
  | .cell a t => do loadVar t (← Go.asAddr (tmps.getD a undef))

theorem resA_ok {ρ : Ren} {h : Heap} {w : World} {e : E} {tmps : Array Value} (hh : HRel ρ h w) (he : ERel ρ n e tmps) : ∀ {l : List ResultVar} {res : List (Option (Bool × Nat) × Getter)} {vs : List V}, compRes P n l = some res → resA h e res = some vs →
    ∃ cvs, (l.mapM (resOne tmps)).run P w = .ok cvs w ∧ VsRel ρ vs cvs
  | [], res, vs, hc, hr => by
    injection hc with hc; subst hc
    injection hr with hr; subst hr
    exact ⟨[], by simp, rfl⟩
  | .tmp t :: l, res, vs, hc, hr => by
    simp only [compRes] at hc
    split at hc
    · rename_i r ht hr1
      rw [nat_blt] at ht
      rw [withGetter_eq] at hc
      injection hc with hc; subst hc
      simp only [resA] at hr
      split at hr
      · rename_i r' hr'
        injection hr with hr; subst hr
        obtain ⟨cvs, h1, h2⟩ := resA_ok hh he hr1 hr'
        refine ⟨tmps.getD t undef :: cvs, ?_, _, _, rfl, he.2.2 t ht, h2⟩
        simp only [List.mapM_cons, Sem.run_bind, resOne, Sem.run_pure, Result.andThen_ok, h1]
      · cases hr
    · cases hc
  | .cell a t :: l, res, vs, hc, hr => by
    have key : ∀ {agg : Bool} {s k : Nat} {r : List (Option (Bool × Nat) × Getter)}, sizeT P t = some s → isAggT P t = some agg → k = (if agg then s else 1) → a < n → compRes P n l = some r → resA h e ((some (agg, k), getter a) :: r) = some vs →
        ∃ cvs, ((ResultVar.cell a t :: l).mapM (resOne tmps)).run P w = .ok cvs w ∧ VsRel ρ vs cvs := by
      intro agg s k r hs hg hk ha hr1 hr
      simp only [resA] at hr
      obtain ⟨b, o, hx, hr⟩ := asPtr_ok hr none_ne
      have hpt := he.2.2 a ha
      rw [hx] at hpt
      obtain ⟨p, hp, hpv⟩ := ptr_rel hpt
      split at hr
      · rename_i cs hcs
        obtain ⟨v, hv1, hv2⟩ := loaded_some hr
        split at hv1
        · rename_i r' hr'
          injection hv1 with hv1; subst hv1
          obtain ⟨cv, g1, g2, _⟩ := loadVar_ok (P := P) hh hg hs hk hp hcs (hv2 h)
          obtain ⟨cvs, h1, h2⟩ := resA_ok hh he hr1 hr'
          refine ⟨cv :: cvs, ?_, _, _, rfl, g2, h2⟩
          simp only [List.mapM_cons, Sem.run_bind, resOne, hpv, Go.asAddr, Sem.run_pure, Result.andThen_ok, g1, h1]
        · cases hv1
      · cases hr
    simp only [compRes] at hc
    split at hc
    · rename_i s r hs hg ha hr1
      rw [nat_blt] at ha
      rw [withGetter_eq] at hc
      injection hc with hc; subst hc
      exact key hs hg rfl ha hr1 hr
    · rename_i s r hs hg ha hr1
      rw [nat_blt] at ha
      rw [withGetter_eq] at hc
      injection hc with hc; subst hc
      exact key hs hg rfl ha hr1 hr
    · cases hc

theorem leave_ok {ρ : Ren} {h : Heap} {w : World} {e : E} {tmps : Array Value} (hh : HRel ρ h w) {g : Func} (he : ERel ρ n e tmps) {res : List (Option (Bool × Nat) × Getter)} (hc : compRes P n g.results.toList = some res) {v : V} {h' : Heap} (hr : leave res e h = .ok v h') :
    ∃ cv, (results g tmps).run P w = .ok cv w ∧ VRel ρ v cv ∧ h' = h := by
  unfold leave at hr
  split at hr
  · rename_i vs hvs
    injection hr with h1 h2; subst h1; subst h2
    obtain ⟨cvs, g1, g2⟩ := resA_ok hh he hc hvs
    have hm : (g.results.mapM (resOne tmps)).run P w = .ok cvs.toArray w := by
      rw [Array.mapM_eq_mapM_toList]
      simp only [Sem.run_map, g1]
      rfl
    have hres : (results g tmps).run P w = .ok (if h : cvs.toArray.size = 1 then cvs.toArray[0] else .tuple cvs.toArray) w := by
      have e0 : results g tmps = (do let vs ← g.results.mapM (resOne tmps); pure (if h : vs.size = 1 then vs[0] else .tuple vs)) := by
        unfold results
        congr 1
      rw [e0]
      simp only [Sem.run_bind, hm, Result.andThen_ok, Sem.run_pure]
    refine ⟨_, hres, ?_, rfl⟩
    have hlen := g2.length
    unfold resV
    split
    · rename_i v1
      obtain ⟨y, ys, rfl, r1, r2⟩ := g2
      have : ys = [] := r2
      subst this
      exact r1
    · rename_i hne
      have : ¬ cvs.toArray.size = 1 := by
        intro h1
        simp only [List.size_toArray] at h1
        rw [← hlen] at h1
        match vs, h1 with
        | [v], _ => exact hne v rfl
      rw [dif_neg this]
      exact ⟨_, rfl, g2⟩
  · cases hr

/-! ### the marks, at the end -/
theorem leaves_marks {F : Fence} {m : Nat} {g : Func} {tmps : Array Value} {R : Ending → World → Prop} : ∀ (rs : List Nat) (w : World), rs.Nodup → (∀ r ∈ rs, w.heap[r]? = some (.deferred (some []))) →
    (∀ w' : World, w'.heap.size = w.heap.size → (∀ k, k ∉ rs → w'.heap[k]? = w.heap[k]?) → w'.os = w.os → w'.tape = w.tape → w'.output = w.output → LeavesIn F m P g tmps R [] .returning w') →
    LeavesInM F m P g tmps R (rs.map mark) .returning w
  | [], w, _, _, hk => hk w rfl (fun _ _ => rfl) rfl rfl rfl
  | r :: rs, w, hn, hd, hk => by
    obtain ⟨hn1, hn2⟩ := List.nodup_cons.1 hn
    refine ⟨nofun, .inl ⟨r, w.putObj r (.deferred none), rfl, run_takeDeferred (hd r (List.mem_cons_self ..)), ?_⟩⟩
    refine leaves_marks rs _ hn2 (fun r' hr' => ?_) fun w' h1 h2 h3 h4 h5 => ?_
    · rw [World.putObj_heap_other (fun e => hn1 (by rw [← e]; exact hr'))]
      exact hd r' (List.mem_cons_of_mem _ hr')
    · refine hk w' (by rw [h1]; exact World.putObj_size) (fun k hk' => ?_) h3 h4 h5
      rw [h2 k (fun hm => hk' (List.mem_cons_of_mem _ hm)), World.putObj_heap_other (fun e => hk' (by rw [e]; exact List.mem_cons_self ..))]

/-! ### the slots that a function starts with -/
theorem initE_get : ∀ (vs : List V) (i : Nat) (e : E) (j : Nat), j < 512 → i + vs.length ≤ 512 → getter j (initE vs i e) = if i ≤ j ∧ j < i + vs.length then (vs[j - i]?).getD undefA else getter j e
  | [], i, e, j, hj, h => by
    rw [if_neg (by simp only [List.length_nil]; omega)]; rfl
  | v :: vs, i, e, j, hj, h => by
    simp only [List.length_cons] at h
    simp only [initE]
    rw [initE_get vs (Nat.succ i) _ j hj (by simp only [nsucc]; omega), getter_setter (by omega) hj]
    simp only [List.length_cons]
    by_cases h1 : i + 1 ≤ j ∧ j < i + 1 + vs.length
    · rw [if_pos h1, if_pos (by omega)]
      have : j - i = (j - (i + 1)) + 1 := by omega
      rw [this]; rfl
    · rw [if_neg h1]
      by_cases h2 : i = j
      · subst h2; rw [if_pos rfl, if_pos (by omega), Nat.sub_self]; rfl
      · rw [if_neg h2, if_neg (by omega)]
theorem VsRel.get' {ρ : Ren} : ∀ {l : List V} {m : List Value}, VsRel ρ l m → ∀ {i : Nat} {x : V}, l[i]? = some x → ∃ y, m[i]? = some y ∧ VRel ρ x y
  | [], _, _, i, x, h => by simp at h
  | a :: l, m, ⟨y, ys, e, r, rs⟩, i, x, h => by
    subst e
    cases i with
    | zero => simp at h; subst h; exact ⟨y, rfl, r⟩
    | succ i => simpa using VsRel.get' rs (i := i) (by simpa using h)

theorem init_rel {ρ : Ren} {args : List V} {cargs : Array Value} (h : VsRel ρ args cargs.toList) {m : Nat} (hm : m ≤ 512) (hl : args.length ≤ m) : ERel ρ m (initE args 0 E.empty) (cargs ++ Array.replicate (m - cargs.size) undef) := by
  have hlen := h.length
  simp only [Array.length_toList] at hlen
  refine ⟨hm, by simp; omega, fun i hi => ?_⟩
  rw [initE_get args 0 E.empty i (by omega) (by omega)]
  by_cases hlt : i < args.length
  · rw [if_pos (by omega), Nat.sub_zero]
    obtain ⟨y, h1, h2⟩ := VsRel.get' h (List.getElem?_eq_getElem hlt)
    rw [List.getElem?_eq_getElem hlt, Option.getD_some]
    have hc : i < cargs.size := by omega
    have hy : cargs[i] = y := by
      rw [Array.getElem?_toList, Array.getElem?_eq_getElem hc] at h1
      exact Option.some.inj h1
    have : (cargs ++ Array.replicate (m - cargs.size) undef).getD i undef = y := by
      rw [Array.getD_eq_getD_getElem?, Array.getElem?_append_left hc, Array.getElem?_eq_getElem hc, hy]; rfl
    rw [this]; exact h2
  · rw [if_neg (by omega), getter_empty]
    have : (cargs ++ Array.replicate (m - cargs.size) undef).getD i undef = undef := by
      rw [Array.getD_eq_getD_getElem?, Array.getElem?_append_right (by omega), Array.getElem?_replicate]
      split <;> rfl
    rw [this]; exact undef_rel

/-- what is asked of the regions that draw -/
def DrawAll (P : Program) : Prop := ∀ (n id : Nat) (ops : Array Oper), CodeOk P n (compDraw P n ops) (.region id ops true)

theorem comp_ok (hD : DrawAll P) : ∀ (c : Code), CodeOk P n (comp P n c).x c
  | .skip => code_exit (x := .normal) fun h => wpIn_skip h
  | .region id ops draw => by
    simp only [comp]
    cases draw with
    | false =>
      unfold box
      simp only
      split
      · rename_i l hl; exact code_region hl
      · exact bad_code "operand" _
    | true => exact hD n id ops
  | .seq a b => by simp only [comp, bop_x]; exact code_seq (comp_ok hD a) (comp_ok hD b) (comp_mono b)
  | .cond o a b => by
    simp only [comp]
    split
    · rename_i y hy; simp only [bop_x]; exact code_cond hy (comp_ok hD a) (comp_ok hD b)
    · exact bad_code "operand" _
  | .block i b => by simp only [comp, bop1_x]; exact code_block (comp_ok hD b)
  | .loop b => by simp only [comp, bop1_x]; exact code_loop (comp_ok hD b) (comp_mono b)
  | .exit i => code_exit (x := .exit i) fun h => wpIn_exit h
  | .label l => code_exit (x := .normal) fun h => wpIn_label h
  | .goto l => code_exit (x := .goto l) fun h => wpIn_goto h
  | .ret => code_exit (x := .ret) fun h => wpIn_ret h
  | .scope c => bad_code "scope" _
  | .rangeFunc g ps asg body => by
    simp only [comp]
    unfold box
    split
    · rename_i gO hg; exact code_range hg
    · exact bad_code "operand" _
  | .refuse w => bad_code w _

theorem compLs_ok (hD : DrawAll P) {b : Code} : ∀ (ls : List Nat), LabelsOk P n b (compLs P n b ls)
  | [], q, hq => by cases hq
  | l :: r, q, hq => by
    simp only [compLs] at hq
    split at hq
    · rename_i c hc
      cases hx : comp P n c with
      | mk x =>
        rw [hx] at hq
        cases hq with
        | head =>
          have h1 := comp_ok (n := n) hD c
          have h2 := comp_mono (P := P) (n := n) c
          rw [hx] at h1 h2
          exact ⟨c, hc, h1, h2⟩
        | tail _ hm => exact compLs_ok hD r q hm
    · exact compLs_ok hD r q hq
theorem compTop_ok (hD : DrawAll P) : ∀ (c : Code), CodeOk P n (compTop P n c).x c
  | .scope b => by simp only [compTop, bop1_x]; exact code_scope (comp_ok hD b) (comp_mono b) (compLs_ok hD _)
  | .seq a b => by simp only [compTop, bop_x]; exact code_seq (compTop_ok hD a) (compTop_ok hD b) (compTop_mono b)
  | .skip => comp_ok hD .skip
  | .region i ops d => comp_ok hD (.region i ops d)
  | .cond o a b => comp_ok hD (.cond o a b)
  | .block i b => comp_ok hD (.block i b)
  | .loop b => comp_ok hD (.loop b)
  | .exit i => comp_ok hD (.exit i)
  | .label l => comp_ok hD (.label l)
  | .goto l => comp_ok hD (.goto l)
  | .ret => comp_ok hD .ret
  | .rangeFunc g ps asg body => comp_ok hD (.rangeFunc g ps asg body)
  | .refuse w => comp_ok hD (.refuse w)

/-- no function of the program's is called as the runtime's is -/
def NamesOk (P : Program) : Prop := ∀ (f : Nat) (g : Func), P.funcs[f]? = some g → (g.name == "runtime.NumGoroutine") = false

theorem enter_ok (hD : DrawAll P) (hN : NamesOk P) {c : Calls} (hc : CallsOk P c) (hm : CallsMono c) : FnOk P (enterA (compF P) (c.at none)) := by
  intro f args h v h' hr ρ w cargs hargs hh hf
  simp only [enterA, go_eq] at hr
  split at hr
  · cases hr
  · rename_i fn hfn
    obtain ⟨g, code, hg, hgb, hb⟩ := compF_body hfn
    obtain ⟨b1, b2, b3, b4, b5⟩ := bodyF_ok hb
    split at hr
    · rename_i hlen
      rw [nat_ble, lenL_eq, b5] at hlen
      refine ⟨fun w0 => MuLone.run_callFunc_enter hg (hN f g hg) hgb cargs w0, ?_⟩
      split at hr
      · rename_i x e1 h1 hx
        have he := init_rel hargs b1 hlen
        refine callsIn_of_wp_marks hg hgb trivial ?_
        have hleave : ∀ a' w', PostC ρ g.ntmps h w w.heap.size e1 h1 a' w' → leave fn.res e1 h1 = .ok v h' → LeavesInM Fence.wide 0 P g a'.tmps (RetOk ρ h w v h') a'.defers .returning w' := by
          rintro a' w' ⟨ρ1, rs, q1, q2, q3, q4⟩ hl
          rw [q3]
          refine leaves_marks rs w' q4.1 (fun r hr => (q4.2 r hr).2.1) fun w2 k1 k2 k3 k4 k5 => ?_
          have hs2 := Step.beside q2 rs k1 k2 (fun r hr => ⟨(q4.2 r hr).1, (q4.2 r hr).2.2⟩) k3 k4 k5
          obtain ⟨cv, g1, g2, rfl⟩ := leave_ok (P := P) hs2.rel q1 b3 hl
          exact ⟨cv, g1, cv, rfl, ρ1, g2, hs2⟩
        have hf1 : Fresh ρ h.next h1.next := by
          have hl : h' = h1 := by
            split at hr
            · exact leave_mono hr
            · exact leave_mono hr
            · cases hr
          rw [hl] at hf; exact hf
        rw [← b4] at hx
        refine compTop_ok hD code (c.at none) ⟨hc.fn, hc.yield⟩ hm _ h x e1 h1 hx ρ w _ none w.heap.size [] _ he hh hf1 trivial (Nat.le_refl _) rfl ⟨List.nodup_nil, fun _ h => by cases h⟩ fun a' w' hp => ?_
        cases x with
        | normal => exact hleave a' w' hp hr
        | ret => exact hleave a' w' hp hr
        | exit i => cases hr
        | goto i => cases hr
      · cases hr
    · cases hr

def ExtOk (P : Program) (ext : Ext) : Prop := FnOk P fun f args h => match ext f args h with
  | some r => r
  | none => .no

/-- **the evaluator is sound** -/
theorem run_ok (hD : DrawAll P) (hN : NamesOk P) {ext : Ext} (hE : ExtOk P ext) (hM : ExtMono ext) : ∀ k, CallsOk P (run P ext k)
  | 0 => ⟨(fun _ _ _ _ _ h => nomatch h), (fun _ _ _ _ _ h => nomatch h)⟩
  | k + 1 => by
    have ih := run_ok hD hN hE hM k
    have im := run_mono (P := P) hM k
    refine ⟨fun f args h v h' hr => ?_, yield_ok ih im fun m d => comp_ok hD d⟩
    have hr' : (match ext f args h with
      | some r => r
      | none => enterA (compF P) ((run P ext k).at none) f args h) = .ok v h' := hr
    cases hx : ext f args h with
    | some r =>
      rw [hx] at hr'
      refine hE f args h v h' ?_
      show (match ext f args h with | some r => r | none => .no) = _
      rw [hx]; exact hr'
    | none =>
      rw [hx] at hr'
      exact enter_ok hD hN ih im f args h v h' hr'
end CSim
