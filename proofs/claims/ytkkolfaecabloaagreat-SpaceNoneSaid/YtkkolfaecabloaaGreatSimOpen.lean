/-
  A call's arguments, as abstract values; what the arguments read as behind the call.
-/
import Derived.Test.YtkkolfaecabloaaGreatSimTop
import Derived.Carry
import Derived.OpenShut
namespace CSim
set_option linter.unusedSimpArgs false
set_option linter.unusedVariables false
open Go Go.RowKit
variable {P : Program} {ρ : Ren}

/-- a type whose values are of one cell, and no interface's -/
def plainT (P : Program) (u : TypeId) : Bool := match P.underlying u with
  | some .bool | some .string | some (.int _) | some (.float _) | some (.complex _) | some (.pointer _) | some (.slice _) => true
  | _ => false
theorem cell_one {w : World} {r : Reach} {base : Nat} {u : TypeId} {v : Value} (hp : plainT P u = true) (h : Cell.okWide P w r base u v) : v.oneCell' = true ∧ v ≠ .nilIface := by
  unfold plainT at hp
  unfold Cell.okWide at h
  unfold Cell.ok at h
  cases hu : P.underlying u with
  | none => rw [hu] at hp; cases hp
  | some d =>
    rw [hu] at hp h
    cases d <;> first | (cases hp; done) | skip
    all_goals cases v <;> first | (cases h; done) | exact ⟨rfl, nofun⟩ | (simp at h; done)
/-- a type whose values are made of such cells -/
def rowT (P : Program) (t : TypeId) (n : Nat) : Bool := (match P.underlying t with | some (.struct _) | some (.array _ _) => true | _ => false) &&
  (match P.cellTypes P.depth t with | some ts => ts.all (plainT P) | none => false) && Nat.beq (P.cellsOf t) n
theorem agg_one {w : World} {r : Reach} {base : Nat} {t : TypeId} {n : Nat} {v : Value} (hp : rowT P t n = true) (h : Value.okWide P w r base t v) : VRel ρ (.agg (List.replicate n (.oth .one))) v := by
  unfold rowT at hp
  rw [Bool.and_eq_true, Bool.and_eq_true, nat_beq] at hp
  obtain ⟨⟨h1, h2⟩, h3⟩ := hp
  have hagg : ∃ cs, v = .agg cs ∧ cs.size = P.cellsOf t ∧ Row.okWide P w r base t cs := by
    unfold Value.okWide at h
    cases hu : P.underlying t with
    | none => rw [hu] at h1; cases h1
    | some d =>
      rw [hu] at h1 h
      cases d <;> first | (cases h1; done) | exact h
  obtain ⟨cs, rfl, hsz, ts, hts, _, hcs⟩ := hagg
  rw [hts] at h2
  simp only [List.all_eq_true] at h2
  refine ⟨cs, rfl, All2.of_get (by simp [hsz, h3]) fun i x hx => ?_⟩
  rw [List.getElem?_replicate] at hx
  split at hx
  · rename_i hi
    injection hx with hx; subst hx
    have hlt : i < cs.size := by omega
    obtain ⟨u, hu, hok⟩ := hcs i cs[i] (Array.getElem?_eq_getElem hlt)
    have := cell_one (h2 u (List.mem_of_getElem? hu)) hok
    exact ⟨cs[i], by simp [hlt], this.1, this⟩
  · cases hx
def oneT (P : Program) (t : TypeId) : Bool := plainT P t
theorem val_one {w : World} {r : Reach} {base : Nat} {t : TypeId} {v : Value} (hp : oneT P t = true) (h : Value.okWide P w r base t v) : VRel ρ (.s (.oth .one)) v := by
  have hp' : plainT P t = true := hp
  have : Cell.okWide P w r base t v := by
    unfold Value.okWide at h
    unfold plainT at hp'
    cases hu : P.underlying t with
    | none => rw [hu] at hp'; cases hp'
    | some d =>
      rw [hu] at hp' h
      cases d <;> first | (cases hp'; done) | exact h
  exact cell_one hp' this
theorem int_rng {k : IntKind} {a lo hi : Int} (h1 : lo ≤ a) (h2 : a ≤ hi) : VRel ρ (.s (.oth (.rng (kOf k) lo hi))) (.int k a) := ⟨k, a, rfl, rfl, h1, h2⟩
theorem int_is {k : IntKind} {a : Int} : VRel ρ (.s (.int (kOf k) a)) (.int k a) := ⟨k, rfl, rfl⟩
theorem args_nil : VsRel ρ [] ([] : List Value) := rfl
theorem args_cons {x : V} {xs : List V} {y : Value} {ys : List Value} (h : VRel ρ x y) (hs : VsRel ρ xs ys) : VsRel ρ (x :: xs) (y :: ys) := ⟨y, ys, rfl, h, hs⟩

/-- the arguments read behind the call as they did -/
theorem below_trodAll {H : Type} {enc : TypeId × Value → H} (hl : laidOutB P = true) {W W' : World} (hb : Below W.heap.size W W') : ∀ {ts : List TypeId} {vs : List Value} {ds : List (DataW H)} {ps : List MemPlace}, (∀ t ∈ ts, P.readableRec t = true ∧ t < P.types.size) →
    DataW.TrodAll enc P W 0 (fun _ => true) true ts vs ds ps → DataW.TrodAll enc P W' 0 (fun b => decide (b < W.heap.size)) true ts vs ds ps
  | [], vs, ds, ps, _, h => by
    obtain ⟨rfl, rfl, rfl⟩ := ChangeShapes.trodAll_nil h
    exact ChangeShapes.trodAll_mk0
  | t :: ts, vs, ds, ps, ht, h => by
    obtain ⟨v, vs', d, ds', p, q, rfl, rfl, rfl, h0, h1⟩ := ChangeShapes.trodAll_cons h
    obtain ⟨r1, r2⟩ := ht t (List.mem_cons_self ..)
    refine trodAll_cons_mk (Below.trod hl r1 r2 h0 hb ?_) (below_trodAll hl hb (fun t h => ht t (List.mem_cons_of_mem _ h)) h1)
    obtain ⟨m, hm⟩ := h0
    exact DataW.trod_lt m _ _ _ hm
def readB (P : Program) (ts : List TypeId) : Bool := ts.all fun t => P.readableRec t && Nat.blt t P.types.size
theorem readB_spec {ts : List TypeId} (h : readB P ts = true) : ∀ t ∈ ts, P.readableRec t = true ∧ t < P.types.size := by
  unfold readB at h
  rw [List.all_eq_true] at h
  intro t ht
  have := h t ht
  rw [Bool.and_eq_true, nat_blt] at this
  exact this
end CSim
