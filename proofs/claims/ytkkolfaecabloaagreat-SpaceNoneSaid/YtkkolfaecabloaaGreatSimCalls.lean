/-
  Calls, loops over functions: what their runs say of the walk.
-/
import Derived.Test.YtkkolfaecabloaaGreatSimCode
import Derived.RangeFuncRecord
namespace CSim
set_option linter.unusedSimpArgs false
set_option linter.unusedVariables false
open Go
variable {P : Program} {n : Nat}

/-! ### the world's other blocks -/
/-- a block that no abstract block lies in -/
theorem Step.extra {ρ : Ren} {h : Heap} {w : World} (hh : HRel ρ h w) (x : Obj) : Step ρ h w ρ h (w.alloc x) := by
  have hsz : (w.alloc x).heap.size = w.heap.size + 1 := by show (w.heap.push x).size = _; simp
  have hold : ∀ k, k < w.heap.size → (w.alloc x).heap[k]? = w.heap[k]? := fun k hk => by
    show (w.heap.push x)[k]? = _
    simp [Array.getElem?_push, Nat.ne_of_lt hk]
  refine ⟨Ren.le_refl ρ, fun _ _ h => .inl h, Nat.le_refl _, ⟨hh.ok, fun b p hp => ?_, fun b o p h1 hp => ?_, hh.inj, hh.tight⟩, by omega, fun c hc _ => hold c hc, fun _ h => .inl h, rfl, rfl, rfl⟩
  · have := hh.low b p hp; omega
  · obtain ⟨y, hy, hr⟩ := hh.obj b o p h1 hp
    exact ⟨y, by rw [hold p.blk (hh.low b p hp)]; exact hy, hr⟩

/-- a block is forgotten; the model's may be another one -/
theorem Step.drop {ρ : Ren} {h : Heap} {w w' : World} (hh : HRel ρ h w) {b : Nat} {o : AObj} {p : Plc} (hg : h.get b = some o) (hp : ρ b = some p) (hsz : w'.heap.size = w.heap.size) (hne : ∀ k, k ≠ p.blk → w'.heap[k]? = w.heap[k]?)
    (hos : w'.os = w.os) (htp : w'.tape = w.tape) (hout : w'.output = w.output) : Step ρ h w ρ (h.upd b none) w' := by
  have hb := Heap.get_lt hg
  have hk := hh.kill hb
  refine ⟨Ren.le_refl ρ, fun _ _ h => .inl h, Nat.le_refl _, ⟨hk.ok, fun b' q hq => by rw [hsz]; exact hh.low b' q hq, fun b' o1 q h1 hq => ?_, hk.inj, hk.tight⟩, by omega, fun c hc hno => hne c fun e => hno ⟨b, o, p, hg, hp, e.symm⟩, ?_, hos, htp, hout⟩
  · obtain ⟨y, hy, hr⟩ := hk.obj b' o1 q h1 hq
    refine ⟨y, ?_, hr⟩
    rw [Heap.get_upd hb] at h1
    split at h1
    · cases h1
    · rename_i e
      rw [hne q.blk (fun e' => e (hh.inj b b' o o1 p q hg h1 hp hq e'.symm))]
      exact hy
  · rintro c ⟨b', o1, q, h1, hq, he⟩
    rw [Heap.get_upd hb] at h1
    split at h1
    · cases h1
    · exact .inl ⟨b', o1, q, h1, hq, he⟩

/-- blocks that no abstract block lies in are other ones -/
theorem Step.beside {ρ ρ' : Ren} {h h' : Heap} {w w1 w' : World} (s : Step ρ h w ρ' h' w1) (rs : List Nat) (hsz : w'.heap.size = w1.heap.size) (hne : ∀ k, k ∉ rs → w'.heap[k]? = w1.heap[k]?) (hrs : ∀ r ∈ rs, w.heap.size ≤ r ∧ ¬ Owns ρ' h' r)
    (hos : w'.os = w1.os) (htp : w'.tape = w1.tape) (hout : w'.output = w1.output) : Step ρ h w ρ' h' w' := by
  refine ⟨s.le, s.new, s.next, ⟨s.rel.ok, fun b p hp => by rw [hsz]; exact s.rel.low b p hp, fun b o p h1 hp => ?_, s.rel.inj, s.rel.tight⟩, by rw [hsz]; exact s.size, fun c hc hno => ?_, s.owns, hos.trans s.os, htp.trans s.tape, hout.trans s.output⟩
  · obtain ⟨y, hy, hr⟩ := s.rel.obj b o p h1 hp
    exact ⟨y, by rw [hne p.blk (fun hm => (hrs _ hm).2 ⟨b, o, p, h1, hp, rfl⟩)]; exact hy, hr⟩
  · rw [hne c (fun hm => by have := (hrs c hm).1; omega)]
    exact s.same c hc hno

/-! ### loops over functions -/
theorem run_enterLoop_inner {w : World} {l : Nat} {r : Loop} (h : w.heap[l]? = some (.loop r)) (fn : FuncId) (tmps : Array Value) (ps : Array Tmp) (assign body : Code) :
    (Instr.enterLoop fn tmps ps assign body (some l)).run P w = .ok (w.heap.size, []) (w.alloc (.loop { state := .ready, pending := none, fn, tmps, params := ps, assign, body, defers := r.defers })) := by
  unfold Instr.enterLoop
  simp only [Sem.run_bind, run_getLoop h, run_newObj_alloc, Result.andThen, Sem.run_pure]

theorem roundOk_loop {h : Heap} {l : Nat} (hr : roundOk (some l) h = true) : ∃ st pend e ps asg body m, h.get l = some (.loop st pend e ps asg body m) := by
  unfold roundOk at hr
  split at hr
  · rename_i h0; cases h0
  · rename_i l' h0
    injection h0 with h0; subst h0
    split at hr
    · rename_i st pend e ps asg body m hg; exact ⟨_, _, _, _, _, _, _, hg⟩
    · cases hr

theorem endRange_ok {e : E} {h : Heap} {l : Nat} {ex : AExit} {e' : E} {h' : Heap} (hr : endRange e h l = .ok ex e' h') :
    ∃ st pend e0 ps asg body m, h.get l = some (.loop st pend e0 ps asg body m) ∧ st ≠ 1 ∧ e' = e ∧ h' = h.upd l none ∧ ((pend = none ∧ ex = .normal) ∨ pend = some ex) := by
  unfold endRange at hr
  split at hr
  · rename_i st pend e0 ps asg body m hg
    split at hr
    · cases hr
    · rename_i hst
      rw [nat_beq_false] at hst
      split at hr
      · injection hr with h1 h2 h3; exact ⟨st, none, e0, ps, asg, body, m, hg, hst, h2.symm, h3.symm, .inl ⟨rfl, h1.symm⟩⟩
      · rename_i x
        injection hr with h1 h2 h3; exact ⟨st, some x, e0, ps, asg, body, m, hg, hst, h2.symm, h3.symm, .inr (by rw [h1])⟩
  · cases hr

theorem code_range {g : Operand} {gO : Opnd} (hg : opnd n g = some gO) {ps : Array Tmp} {asg body : Code} : CodeOk P n (xRange gO ps.toList asg body n) (.rangeFunc g ps asg body) := by
  intro call hca hm e h ex e' h' hr ρ w a ro base rs Q he hh hf hro hb hd hmk hq
  obtain ⟨q, hu, hr⟩ := asOth_ok hr nofun
  have hgr := opnd_ok hg he
  rw [hu] at hgr
  cases q with
  | func f cap =>
    obtain ⟨cs, e1, hcap⟩ := id hgr
    simp only at hr
    split at hr
    · cases hr
    · rename_i hround
      split at hr
      · rename_i y h1 hnew
        split at hr
        · rename_i v h2 hcall
          obtain ⟨hid, rfl, rfl⟩ := Heap.new_ok hnew
          have m2 := hm.1 _ _ _ _ _ hcall
          obtain ⟨st, pend, e0, ps0, asg0, body0, m0, hgl, hst, rfl, rfl, hpend⟩ := endRange_ok hr
          rw [Heap.upd_next] at hf
          have hf' : ρ h.next = none := hf h.next (Nat.le_refl _) (Nat.lt_of_lt_of_le (Nat.lt_succ_self _) m2)
          -- the record, laid
          have hlay : ∀ fn, ∃ (lc : Nat) (mk : List Nat) (w1 : World), (Instr.enterLoop fn a.tmps ps asg body ro).run P w = .ok (lc, mk.map mark) w1 ∧ Step ρ h w (ρ.put h.next ⟨lc, 0, 0⟩) ⟨Nat.succ h.next, h.m.set h.next (some (.loop 0 none e' ps.toList asg body n))⟩ w1 ∧
              Marks (ρ.put h.next ⟨lc, 0, 0⟩) ⟨Nat.succ h.next, h.m.set h.next (some (.loop 0 none e' ps.toList asg body n))⟩ w1 base (mk ++ rs) := by
            intro fn
            have hobj : ∀ (lc : Nat) (df : Nat), ObjRel (ρ.put h.next ⟨lc, 0, 0⟩) (.loop 0 none e' ps.toList asg body n) ⟨lc, 0, 0⟩ (.loop { state := .ready, pending := none, fn, tmps := a.tmps, params := ps, assign := asg, body, defers := df }) := fun lc df =>
              ⟨_, rfl, rfl, rfl, he.le (Ren.le_put hf' _), rfl, rfl, rfl⟩
            cases ro with
            | none =>
              have hx := Step.extra hh (.deferred (some []))
              have hsz : (w.alloc (.deferred (some []))).heap.size = w.heap.size + 1 := World.size_alloc _ _
              have hs := Step.alloc (n := 0) hx.rel hid hf' (o := .loop 0 none e' ps.toList asg body n) trivial (hobj _ w.heap.size)
              rw [hsz] at hs
              have hrun := run_enterLoop_outer (P := P) (w := w) fn a.tmps ps asg body
              refine ⟨w.heap.size + 1, [w.heap.size], _, hrun, Step.trans hx hs, ?_⟩
              have hmk2 := (hmk.step hx).step hs
              have hnotin : w.heap.size ∉ rs := fun hin => by
                have := (Array.getElem?_eq_some_iff.1 (hmk.2 _ hin).2.1).1
                omega
              refine ⟨List.nodup_cons.2 ⟨hnotin, hmk2.1⟩, fun r hr => ?_⟩
              rcases List.mem_cons.1 hr with rfl | hr
              · have hno : ¬ Owns ρ h w.heap.size := fun ⟨b, o, p, h1, hp, he⟩ => by
                  have := hh.low b p hp
                  omega
                refine ⟨hb, ?_, fun ho => ?_⟩
                · have := hs.same w.heap.size (by rw [hsz]; omega) hno
                  rw [this]
                  exact World.alloc_heap_new w _
                · rcases hs.owns _ ho with h3 | h3
                  · exact hno h3
                  · rw [hsz] at h3; omega
              · exact hmk2.2 r hr
            | some lc =>
              cases hcr : call.round with
              | none => rw [hcr] at hro; exact hro.elim
              | some l0 =>
                rw [hcr] at hro hround
                obtain ⟨p0, hp0, rfl⟩ := hro
                obtain ⟨_, _, _, _, _, _, _, hgl0⟩ := roundOk_loop hround
                obtain ⟨x0, hx0, r0, rfl, _⟩ := hh.obj _ _ _ hgl0 hp0
                have hs := Step.alloc (n := 0) hh hid hf' (o := .loop 0 none e' ps.toList asg body n) trivial (hobj _ r0.defers)
                exact ⟨w.heap.size, [], _, run_enterLoop_inner hx0 fn a.tmps ps asg body, hs, hmk.step hs⟩
          refine wpIn_rangeFunc fun fn _ => ?_
          obtain ⟨lc, mk, w1, hrun, hs1, hmk1⟩ := hlay fn
          have hargs : VsRel (ρ.put h.next ⟨lc, 0, 0⟩) (.x (.yield h.next) :: capV cap) (#[Value.func (.yield lc) #[] #[]] ++ cs).toList := by
            rw [Array.toList_append]
            exact ⟨_, _, rfl, ⟨⟨lc, 0, 0⟩, Ren.put_same _ _ _, rfl⟩, capV_rel (hcap.mono fun _ _ ⟨p, hp, hy⟩ => ⟨p, Ren.le_put hf' _ _ _ hp, hy⟩)⟩
          obtain ⟨hc1, hc2⟩ := hca.fn f _ _ v h2 hcall (ρ.put h.next ⟨lc, 0, 0⟩) w1 _ hargs hs1.rel (hs1.fresh hf)
          refine ⟨lc, mk.map mark, w1, { target := .fn (.func f) cs, args := #[] ++ #[Value.func (.yield lc) #[] #[]] }, w1, f, #[Value.func (.yield lc) #[] #[]] ++ cs, w1, hrun, ?_, fun f' _ => Fw_fn ro f', ?_, Fw_depth ro, ?_⟩
          · have e2 : (#[Operand.const (Value.func (.yield lc) #[] #[])].map a.eval) = #[Value.func (.yield lc) #[] #[]] := by simp [Act.eval]
            simp only [resolve, rangeCall, e1, e2, Deferred.ofValue, Sem.run_pure]
          · simp only [invoke, Array.empty_append]
            exact hc1 w1
          · refine (callsIn_Fw (r := ro)).2 (hc2.mono ?_)
            rintro en w3 ⟨cv, rfl, ρ2, hv2, hs2⟩
            have hpl : ρ2 h.next = some ⟨lc, 0, 0⟩ := hs2.le _ _ (Ren.put_same _ _ _)
            obtain ⟨x3, hx3, r3, rfl, hst3, hpd3, _⟩ := hs2.rel.obj _ _ _ hgl hpl
            have hnb : r3.state ≠ .busy := by
              intro hbusy
              rw [hbusy] at hst3
              match st, hst3, hst with
              | 0, h, _ => cases h
              | 1, _, h => exact h rfl
              | 2, h, _ => cases h
              | _ + 3, h, _ => exact h
            have hlt : lc < w3.heap.size := (Array.getElem?_eq_some_iff.1 hx3).1
            have hs3 := Step.drop (w' := w3.putObj lc (.loop { r3 with state := .exhausted })) hs2.rel hgl hpl World.putObj_size (fun k hk => World.putObj_heap_other hk) rfl rfl rfl
            have hall := Step.trans hs1 (Step.trans hs2 hs3)
            refine ⟨r3.pending, w3.putObj lc (.loop { r3 with state := .exhausted }), run_endLoop hx3 hnb, ?_⟩
            have hpost : PostC ρ n h w base e' (h2.upd h.next none) { a with defers := mk.map mark ++ a.defers } (w3.putObj lc (.loop { r3 with state := .exhausted })) := by
              refine ⟨ρ2, mk ++ rs, he.le hall.le, hall, ?_, (hmk1.step hs2).step hs3⟩
              show mk.map mark ++ a.defers = _
              rw [hd, List.map_append]
            rcases hpend with ⟨rfl, rfl⟩ | rfl
            · have : r3.pending = none := hpd3
              rw [this] at hpost ⊢
              exact hq _ _ hpost
            · cases ex with
              | normal => exact hpd3.elim
              | ret =>
                have : r3.pending = some .ret := hpd3
                rw [this] at hpost ⊢
                exact wpIn_ret (hq _ _ hpost)
              | exit i =>
                have : r3.pending = some (.exit i) := hpd3
                rw [this] at hpost ⊢
                exact wpIn_exit (hq _ _ hpost)
              | goto i =>
                have : r3.pending = some (.goto i) := hpd3
                rw [this] at hpost ⊢
                exact wpIn_goto (hq _ _ hpost)
        · cases hr
      · cases hr
  | _ => cases hr

/-! ### a round -/
theorem setTs_len : ∀ {ps : List Nat} {vs : List V} {m : Nat} {e e1 : E}, setTs ps vs m e = some e1 → ps.length = vs.length
  | [], [], m, e, e1, h => rfl
  | [], _ :: _, m, e, e1, h => by cases h
  | p :: ps, [], m, e, e1, h => by cases h
  | p :: ps, v :: vs, m, e, e1, h => by
    simp only [setTs] at h
    split at h
    · simp [setTs_len h]
    · cases h
theorem VsRel.length {ρ : Ren} : ∀ {l : List V} {m : List Value}, VsRel ρ l m → l.length = m.length
  | [], m, h => by have : m = [] := h; subst this; rfl
  | x :: l, m, ⟨y, ys, e, _, r⟩ => by subst e; simp [VsRel.length r]
theorem setTs_ok {ρ : Ren} : ∀ {ps : List Nat} {vs : List V} {cvs : List Value} {e e1 : E} {tmps : Array Value}, setTs ps vs n e = some e1 → VsRel ρ vs cvs → ERel ρ n e tmps →
    ERel ρ n e1 ((ps.zip cvs).foldl (fun tmps (x : Nat × Value) => tmps.setIfInBounds x.1 x.2) tmps)
  | [], [], cvs, e, e1, tmps, h, hv, he => by injection h with h; subst h; exact he
  | [], _ :: _, cvs, e, e1, tmps, h, hv, he => by cases h
  | p :: ps, [], cvs, e, e1, tmps, h, hv, he => by cases h
  | p :: ps, v :: vs, cvs, e, e1, tmps, h, ⟨y, ys, e2, r, rs⟩, he => by
    subst e2
    simp only [setTs] at h
    split at h
    · rename_i hp
      have hp' := hp
      rw [nat_blt] at hp
      rw [List.zip_cons_cons, List.foldl_cons]
      have hd : dstOf n (some p) = some (some (setter p)) := by
        simp only [dstOf, hp', withSetter_eq]
      have := (put_ok hd (a := { tmps := tmps, defers := [] }) he r).1
      exact setTs_ok h rs this
    · cases h

theorem endRound_rel {ρ : Ren} {h : Heap} {w : World} (hh : HRel ρ h w) {l : Nat} {p : Plc} (hp : ρ l = some p) {x : AExit} {v : V} {h' : Heap} (hr : endRoundA l x h = .ok v h') :
    ∃ cv w', (Instr.endRound p.blk (match x with | .normal => none | .ret => some .ret | .exit i => some (.exit i) | .goto l => some (.goto l))).run P w = .ok cv w' ∧ Out ρ h w v h' cv w' := by
  unfold endRoundA at hr
  split at hr
  · rename_i st pend e ps asg body m hg
    obtain ⟨y, hy, r, rfl, r1, r2, r3, r4, r5, r6⟩ := hh.obj _ _ _ hg hp
    have hlt : p.blk < w.heap.size := (Array.getElem?_eq_some_iff.1 hy).1
    have hplace : ∀ (st : Nat) (pd : Option AExit) (s : LoopState) (j : Option Code), stRel st s → jumpRel pd j → Step ρ h w ρ (h.upd l (some (.loop st pd e ps asg body m))) (w.putObj p.blk (.loop { r with state := s, pending := j })) := fun st pd s j h1 h2 =>
      Step.place hh hg hp trivial nofun World.putObj_size (World.putObj_heap_same hlt) (fun k hk => World.putObj_heap_other hk) ⟨_, rfl, h1, h2, r3, r4, r5, r6⟩ rfl rfl rfl
    cases x with
    | normal =>
      injection hr with h1 h2; subst h1; subst h2
      exact ⟨_, _, run_endRound none hy, ρ, rfl, hplace 0 none .ready none rfl rfl⟩
    | ret =>
      injection hr with h1 h2; subst h1; subst h2
      exact ⟨_, _, run_endRound (some .ret) hy, ρ, rfl, hplace 2 (some .ret) .done (some .ret) rfl rfl⟩
    | exit i =>
      injection hr with h1 h2; subst h1; subst h2
      exact ⟨_, _, run_endRound (some (.exit i)) hy, ρ, rfl, hplace 2 (some (.exit i)) .done (some (.exit i)) rfl rfl⟩
    | goto i =>
      injection hr with h1 h2; subst h1; subst h2
      exact ⟨_, _, run_endRound (some (.goto i)) hy, ρ, rfl, hplace 2 (some (.goto i)) .done (some (.goto i)) rfl rfl⟩
  · cases hr

theorem yield_ok {c : Calls} (hc : CallsOk P c) (hm : CallsMono c) (hcode : ∀ m d, CodeOk P m (comp P m d).x d) :
    YieldOk P (fun l args h => yieldA (fun m code e h => (comp P m code).x (c.at (some l)) e h) l args h) := by
  intro l args h v h' hr ρ w cargs p hargs hh hf hp
  simp only [yieldA] at hr
  split at hr
  · rename_i st pend e ps asg body m hg
    obtain ⟨y, hy, r, rfl, r1, r2, r3, r4, r5, r6⟩ := hh.obj _ _ _ hg hp
    split at hr
    · rename_i e1 he1
      split at hr
      · rename_i x e2 h2 hx
        have hlen : cargs.size = r.params.size := by
          have h1 := setTs_len he1
          have h2 := hargs.length
          rw [← r4] at h1
          simp at h1 h2
          omega
        refine ⟨r, hy, hlen, ?_⟩
        cases x with
        | normal =>
          simp only [bodyRoundA] at hr
          split at hr
          · rename_i st2 pend2 e3 ps2 asg2 bd2 m2 hg2
            split at hr
            · rename_i hst
              rw [nat_beq] at hst
              subst hst
              split at hr
              · rename_i x3 e4 h3 hx3
                have hcm : CallsMono (c.at (some l)) := hm
                have hca : CallsOk P (c.at (some l)) := ⟨hc.fn, hc.yield⟩
                have n3 := endRoundA_mono hr
                have n2 := comp_mono body (c.at (some l)) hcm _ _ _ _ _ hx3
                rw [Heap.upd_next] at n2
                have hf1 : Fresh ρ h.next h2.next := hf.mono (Nat.le_refl _) (by rw [n3]; exact n2)
                refine roundIn_of_wpIn (F := Fence.wide) trivial ?_
                have he : ERel ρ m e1 (roundTmps r cargs) := by
                  have := setTs_ok he1 hargs r3
                  unfold roundTmps
                  rw [← Array.foldl_toList, Array.toList_zip, r4]
                  exact this
                rw [r5, r6]
                refine hcode m asg (c.at (some l)) hca hcm e1 h _ e2 h2 hx ρ w { tmps := roundTmps r cargs, defers := [] } (some p.blk) w.heap.size [] _ he hh hf1 ⟨p, hp, rfl⟩ (Nat.le_refl _) rfl ⟨List.nodup_nil, fun _ h => by cases h⟩ fun a1 w1 hp1 => ?_
                obtain ⟨ρ1, rs1, q1, q2, q3, q4⟩ := hp1
                have hp1 : ρ1 l = some p := q2.le _ _ hp
                obtain ⟨y2, hy2, r', rfl, s1, s2, s3, s4, s5, s6⟩ := q2.rel.obj _ _ _ hg2 hp1
                have hlt2 : p.blk < w1.heap.size := (Array.getElem?_eq_some_iff.1 hy2).1
                have hready : r'.state = .ready := s1
                have hb := Step.place (w' := w1.putObj p.blk (.loop { r' with state := .busy })) q2.rel hg2 hp1 (o' := .loop 1 pend2 e3 ps2 asg2 bd2 m2) trivial nofun World.putObj_size (World.putObj_heap_same hlt2) (fun k hk => World.putObj_heap_other hk) ⟨_, rfl, rfl, s2, s3, s4, s5, s6⟩ rfl rfl rfl
                refine ⟨_, run_beginRound hy2 hready, ?_⟩
                have hfb : Fresh ρ1 (h2.upd l (some (.loop 1 pend2 e3 ps2 asg2 bd2 m2))).next h3.next := by
                  have := q2.fresh hf
                  rw [n3] at this
                  exact this
                refine hcode m body (c.at (some l)) hca hcm e2 _ _ e4 h3 hx3 ρ1 _ a1 (some p.blk) w.heap.size rs1 _ q1 hb.rel hfb ⟨p, hp1, rfl⟩ (Nat.le_trans q2.size hb.size) q3 (q4.step hb) fun a2 w2 hp2 => ?_
                · obtain ⟨ρ2, rs2, t1, t2, t3, t4⟩ := hp2
                  have hp2 : ρ2 l = some p := t2.le _ _ hp1
                  obtain ⟨cv, w4, u1, ρ3, u2, u3⟩ := endRound_rel (P := P) t2.rel hp2 hr
                  have hall := Step.trans q2 (Step.trans hb (Step.trans t2 u3))
                  have hret : RetOk ρ h w v h' (.returned cv) w4 := ⟨cv, rfl, ρ3, u2, hall⟩
                  cases x3 with
                  | normal => exact ⟨cv, w4, u1, hret⟩
                  | ret => exact ⟨cv, w4, u1, hret⟩
                  | exit i => exact ⟨cv, w4, u1, hret⟩
                  | goto i => exact ⟨cv, w4, u1, hret⟩
              · cases hr
            · cases hr
          · cases hr
        | _ => cases hr
      · cases hr
    · cases hr
  · cases hr
end CSim
