/-
  The keys of a map, sorted: 'slices.Sorted(maps.Keys(m))' at keys that are ints, as an external function.
-/
import Derived.Test.YtkkolfaecabloaaGreatSimSum
import Derived.Lib.SlKeysI
namespace CSim
set_option linter.unusedSimpArgs false
set_option linter.unusedVariables false
open Go Go.RowKit Go.Maps
variable {P : Program}

/-- an iterator over the keys of a map, collected and sorted: what is asked of the program -/
def SortedOk (P : Program) (fS fK : Nat) (tI : TypeId) : Prop :=
  P.underlying tI = some (.int .i64) ∧ (∀ args w, (callFunc fS args).run P w = .ok (.enter fS args) w) ∧
  ∀ (Bm b nn : Nat) (D0 : DataW Unit) (R : Value → Option (DataW Unit × List MemPlace)) (w : World), Bm < w.heap.size → w.cell? ⟨Bm, 0, none⟩ = some (.map (some b)) → w.ownsMap P tI R b nn D0 → Maps.size D0 ≤ maxLen → Maps.size D0 * 8 ≤ 140737488355328 →
    Go.Calls P fS #[.func (.func fK) #[] #[.pointer (some ⟨Bm, 0, none⟩)]] w fun e w' => ∃ (v : Value) (ss : List Int), e = .returned v ∧ ss.Perm (intKeys D0) ∧
      w'.ownsRow w.heap.size tI 1 v ss.length ((ss.mergeSort (fun x y => decide (x ≤ y))).map encZ) ∧ (v = .slice none 0 0 ↔ ss = []) ∧ Below w.heap.size w w'

/-! ### a sort for the kernel -/
def insI (x : Int) : List Int → List Int
  | [] => [x]
  | y :: l => match bltI x y with
    | true => x :: y :: l
    | false => y :: insI x l
def isort : List Int → List Int
  | [] => []
  | x :: l => insI x (isort l)
theorem insI_perm (x : Int) : ∀ l : List Int, (insI x l).Perm (x :: l)
  | [] => .refl _
  | y :: l => by
    simp only [insI]
    split
    · exact .refl _
    · exact ((insI_perm x l).cons y).trans (List.Perm.swap x y l)
theorem isort_perm : ∀ l : List Int, (isort l).Perm l
  | [] => .refl _
  | x :: l => (insI_perm x (isort l)).trans ((isort_perm l).cons x)
theorem insI_sorted (x : Int) : ∀ {l : List Int}, l.Pairwise (· ≤ ·) → (insI x l).Pairwise (· ≤ ·)
  | [], _ => by simp [insI]
  | y :: l, h => by
    obtain ⟨h1, h2⟩ := List.pairwise_cons.1 h
    simp only [insI]
    split
    · rename_i hb
      rw [bltI_iff] at hb
      refine List.pairwise_cons.2 ⟨fun z hz => ?_, h⟩
      cases hz with
      | head => omega
      | tail _ hm => have := h1 z hm; omega
    · rename_i hb
      have hb' : y ≤ x := by
        rcases Int.lt_or_le x y with h3 | h3
        · rw [(bltI_iff x y).2 h3] at hb; cases hb
        · exact h3
      refine List.pairwise_cons.2 ⟨fun z hz => ?_, insI_sorted x h2⟩
      rcases List.mem_cons.1 ((insI_perm x l).mem_iff.1 hz) with rfl | hm
      · exact hb'
      · exact h1 z hm
theorem isort_sorted : ∀ l : List Int, (isort l).Pairwise (· ≤ ·)
  | [] => .nil
  | x :: l => insI_sorted x (isort_sorted l)
theorem isort_eq {l m : List Int} (h : l.Perm m) : l.mergeSort (fun x y => decide (x ≤ y)) = isort m := by
  have tr : ∀ a b c : Int, decide (a ≤ b) = true → decide (b ≤ c) = true → decide (a ≤ c) = true := fun a b c h1 h2 => by simp only [decide_eq_true_eq] at *; exact Int.le_trans h1 h2
  have to : ∀ a b : Int, (decide (a ≤ b) || decide (b ≤ a)) = true := fun a b => by simp only [Bool.or_eq_true, decide_eq_true_eq]; exact Int.le_total a b
  refine List.Perm.eq_of_pairwise (le := fun a b => decide (a ≤ b) = true) (fun a b _ _ h1 h2 => ?_) (List.pairwise_mergeSort tr to l) ((isort_sorted m).imp fun h => decide_eq_true h) (((List.mergeSort_perm l _).trans h).trans (isort_perm m).symm)
  simp only [decide_eq_true_eq] at h1 h2
  exact Int.le_antisymm h1 h2

/-- a map's keys, if they are ints -/
def keysI : List (AV × V) → Option (List Int)
  | [] => some []
  | (k, _) :: l => match k with
    | .int k n => (match Nat.beq k kI && fitsK kI n n with
      | true => (match keysI l with
        | some r => some (n :: r)
        | none => none)
      | false => none)
    | _ => none
def intsL : List Int → List AV
  | [] => []
  | n :: l => .int kI n :: intsL l
theorem intsL_eq (l : List Int) : intsL l = l.map fun n => AV.int kI n := by
  induction l with
  | nil => rfl
  | cons x l ih => simp [intsL, ih]
noncomputable def sortedOf (ks : List Int) (h : Heap) : Option Res := match ks with
  | [] => some (.ok (.x .nilslice) h)
  | _ :: _ => match Nat.blt (lenL ks) 1000000 with
    | true => fNat (lenL ks) fun n => some (h.new (.cells false (intsL (isort ks))) fun i => .x (.slice i 0 n n 1 false))
    | false => none
/-- what the captured variable holds -/
def boxed (h : Heap) (cap : List (Nat × Nat)) : Option Nat := match cap with
  | [(b, o)] => match Nat.beq o 0 with
    | true => (match h.get b with
      | some (.cells _ [x]) => (match x with
        | .oth y => (match y with | .map m => some m | _ => none)
        | _ => none)
      | _ => none)
    | false => none
  | _ => none
noncomputable def extSorted (fS fK : Nat) : Ext := fun f args h => match Nat.beq f fS with
  | true => (match args with
    | [v] => asOth v none fun x => (match x with
      | .func g cap => (match Nat.beq g fK with
        | true => (match boxed h cap with
          | some m => (match h.get m with
            | some (.map es) => (match keysI es with
              | some ks => sortedOf ks h
              | none => none)
            | _ => none)
          | none => none)
        | false => none)
      | _ => none)
    | _ => none)
  | false => none

theorem Step.below {ρ : Ren} {h : Heap} {w w' : World} (hr : HRel ρ h w) (b : Below w.heap.size w w') : Step ρ h w ρ h w' :=
  ⟨Ren.le_refl ρ, fun _ _ h => .inl h, Nat.le_refl _, ⟨hr.ok, fun b' p hp => Nat.lt_of_lt_of_le (hr.low b' p hp) b.size, fun b' o p h1 hp => by rw [b.block _ (hr.low b' p hp)]; exact hr.obj b' o p h1 hp, hr.inj, hr.tight⟩, b.size, fun c hc _ => b.block c hc, fun _ h => .inl h, b.os, b.tape, b.output⟩

theorem keysI_spec {ρ : Ren} : ∀ {es : List (AV × V)} {ks : List Int} {l : List MapEntry}, keysI es = some ks → All2 (fun (x : AV × V) (e : MapEntry) => CRel ρ x.1 e.key ∧ VRel ρ x.2 e.val) es l →
    l.map (·.key) = ks.map encZ ∧ ∀ n ∈ ks, (Lit.int .i64 n).wf = true
  | [], ks, l, h, hl => by
    cases hl
    injection h with h; subst h; exact ⟨rfl, fun _ h => nomatch h⟩
  | (k, v) :: es, ks, l, h, hl => by
    cases hl
    rename_i e m hab t
    simp only [keysI] at h
    split at h
    · rename_i k0 n
      split at h
      · rename_i hc
        rw [Bool.and_eq_true, nat_beq] at hc
        obtain ⟨rfl, hf⟩ := hc
        split at h
        · rename_i r hr
          injection h with h; subst h
          obtain ⟨h1, h2⟩ := keysI_spec hr t
          obtain ⟨k', hk, hv⟩ := hab.1
          have : k' = .i64 := kOf_inj hk.symm
          subst this
          refine ⟨by rw [List.map_cons, List.map_cons, h1, hv], fun n' hn => ?_⟩
          cases hn with
          | head =>
            have hw := fits_wrap (k := .i64) hf (Int.le_refl n) (Int.le_refl n)
            have b := wrap_bounds .i64 n
            rw [hw] at b
            simpa [Lit.wf] using b
          | tail _ hm => exact h2 n' hm
        · cases h
      · cases h
    · cases h

/-- every element reads as nothing -/
def anyR : Value → Option (DataW Unit × List MemPlace) := fun _ => some (.nil, [])
theorem fit_of {tI : TypeId} (hI : P.underlying tI = some (.int .i64)) {ks : List Int} {l : Array MapEntry} {clock : Nat} (hk : l.toList.map (·.key) = ks.map encZ) (hw : ∀ n ∈ ks, (Lit.int .i64 n).wf = true) (hst : MapKept.Stamped l clock) (hlen : ks.length < 1000000) :
    WideElems.Fit P tI anyR l clock ∧ l.toList.map (WideElems.rg P tI anyR) = ks.map (fun n => (Lit.int .i64 n, DataW.nil)) := by
  have hsz : l.size = ks.length := by
    have := congrArg List.length hk
    simpa using this
  have hrd : ∀ x ∈ l.toList, ∀ n, x.key = encZ n → n ∈ ks → WideElems.rd P tI anyR x = some (Lit.int .i64 n, DataW.nil) := fun x _ n hx hn => by
    have hkey : Go.keyOf P tI x.key = some (Lit.int .i64 n) := by
      rw [hx]
      simp [Go.keyOf, hI, mapKey, hw n hn, encZ]
    simp [WideElems.rd, hkey, anyR]
  have hget : ∀ x ∈ l.toList, ∃ n, x.key = encZ n ∧ n ∈ ks := fun x hx => by
    have : x.key ∈ l.toList.map (·.key) := List.mem_map_of_mem hx
    rw [hk] at this
    obtain ⟨n, hn, e⟩ := List.mem_map.1 this
    exact ⟨n, e.symm, hn⟩
  refine ⟨⟨by rw [hsz]; unfold maxLen; omega, hst, fun x hx => ?_⟩, ?_⟩
  · obtain ⟨n, h1, h2⟩ := hget x hx
    exact ⟨_, hrd x hx n h1 h2⟩
  · apply List.ext_getElem?
    intro i
    rw [List.getElem?_map, List.getElem?_map]
    have hi : (l.toList.map (·.key))[i]? = (ks.map encZ)[i]? := by rw [hk]
    rw [List.getElem?_map, List.getElem?_map] at hi
    cases hx : l.toList[i]? with
    | none =>
      rw [hx] at hi
      cases hn : ks[i]? with
      | none => rfl
      | some n => rw [hn] at hi; cases hi
    | some x =>
      rw [hx] at hi
      cases hn : ks[i]? with
      | none => rw [hn] at hi; cases hi
      | some n =>
        rw [hn] at hi
        simp only [Option.map_some, Option.some.injEq] at hi ⊢
        exact WideElems.rg_of (hrd x (List.mem_of_getElem? hx) n hi (List.mem_of_getElem? hn))

theorem extSorted_mono (fS fK : Nat) : ExtMono (extSorted fS fK) := by
  intro f args h v h' hx
  unfold extSorted at hx
  split at hx
  · split at hx
    · simp only [asOth] at hx
      repeat' split at hx
      all_goals first
        | (cases hx; done)
        | (rename_i ks _
           unfold sortedOf at hx
           split at hx
           · injection hx with hx; injection hx with _ hx; rw [hx]; exact Nat.le_refl _
           · split at hx
             · rw [fNat_eq] at hx; injection hx with hx; exact new_mono hx
             · cases hx)
    · cases hx
  · cases hx

theorem extSorted_ok {fS fK : Nat} {tI : TypeId} (hS : SortedOk P fS fK tI) : ExtOk P (extSorted fS fK) := by
  obtain ⟨hI, hent, hcall⟩ := hS
  intro f args h v h' hx ρ w cargs hargs hh hf
  have hx' : extSorted fS fK f args h = some (.ok v h') := by
    simp only at hx
    split at hx
    · rename_i r hr
      rw [hr, hx]
    · cases hx
  clear hx
  unfold extSorted at hx'
  split at hx'
  rotate_left
  · cases hx'
  rename_i hfS
  rw [nat_beq] at hfS
  subst hfS
  split at hx'
  rotate_left
  · cases hx'
  rename_i v0
  simp only [asOth] at hx'
  split at hx'
  rotate_left
  · cases hx'
  rename_i a0
  split at hx'
  rotate_left
  · cases hx'
  rename_i x0
  split at hx'
  rotate_left
  · cases hx'
  rename_i g cap
  split at hx'
  rotate_left
  · cases hx'
  rename_i hg
  rw [nat_beq] at hg
  subst hg
  split at hx'
  rotate_left
  · cases hx'
  rename_i m hbox
  split at hx'
  rotate_left
  · cases hx'
  rename_i es hm
  split at hx'
  rotate_left
  · cases hx'
  rename_i ks hks
  -- the argument
  obtain ⟨y, ys, hy1, hy2, hy3⟩ := hargs
  have hys : ys = [] := hy3
  subst hys
  obtain ⟨cs, rfl, hcap⟩ := hy2
  have hca : cargs = #[.func (.func g) #[] cs] := by
    cases cargs; simp only at hy1; rw [hy1]
  subst hca
  unfold boxed at hbox
  split at hbox
  rotate_left
  · cases hbox
  rename_i b o
  split at hbox
  rotate_left
  · cases hbox
  rename_i ho
  rw [nat_beq] at ho
  subst ho
  split at hbox
  rotate_left
  · cases hbox
  rename_i fz x1 hgb
  split at hbox
  rotate_left
  · cases hbox
  rename_i y1
  split at hbox
  rotate_left
  · cases hbox
  rename_i m1
  injection hbox with hbox; subst hbox
  have hcs : ∃ p, ρ b = some p ∧ cs = #[.pointer (some ⟨p.blk, p.sh + 0, none⟩)] := by
    obtain ⟨csl⟩ := cs
    simp only at hcap
    cases hcap
    rename_i z zs hz1 hz2
    cases hz2
    obtain ⟨p, hp, rfl⟩ := hz1
    exact ⟨p, hp, rfl⟩
  obtain ⟨p, hp, rfl⟩ := hcs
  have hsh := hh.tight b _ p hgb hp rfl
  obtain ⟨xb, hxb, c0, e0, lo, hi, rfl, hsz0, _, _, hc0⟩ := hh.obj b _ p hgb hp
  obtain ⟨vb, hvb, hvb1, hvb2⟩ := hc0 0 _ rfl
  obtain ⟨pm, hpm, rfl⟩ := hvb2
  rw [hsh] at hvb ⊢
  obtain ⟨l, clock, hl1, hl2, hl3⟩ := map_rel hh hpm hm
  obtain ⟨k1, k2⟩ := keysI_spec hks hl2
  have hlen : ks.length < 1000000 := by
    unfold sortedOf at hx'
    split at hx'
    · simp
    · split at hx'
      · rename_i hlt
        rw [nat_blt, lenL_eq] at hlt
        exact hlt
      · cases hx'
  obtain ⟨f1, f2⟩ := fit_of hI k1 k2 hl3 hlen
  have hown : w.ownsMap P tI anyR pm.blk l.size (.map ((l.toList.map (WideElems.rg P tI anyR)).foldr DataW.insert [])) := ⟨l, clock, hl1, f1, Nat.le_refl _, rfl⟩
  have hperm : (intKeys (.map ((l.toList.map (WideElems.rg P tI anyR)).foldr DataW.insert []) : DataW Unit)).Perm ks := by
    have h1 := (WideShapes.sorted_perm (l.toList.map (WideElems.rg P tI anyR))).map (fun p => Go.intOf p.1)
    rw [f2, List.map_map] at h1
    have h2 : (ks.map ((fun p : Lit × DataW Unit => Go.intOf p.1) ∘ fun n => (Lit.int .i64 n, DataW.nil))) = ks := by
      have : ((fun p : Lit × DataW Unit => Go.intOf p.1) ∘ fun n => (Lit.int .i64 n, DataW.nil)) = id := by funext n; rfl
      rw [this, List.map_id]
    rw [h2] at h1
    rw [f2]
    exact h1
  have hsize : Maps.size (.map ((l.toList.map (WideElems.rg P tI anyR)).foldr DataW.insert []) : DataW Unit) = ks.length := by
    show List.length _ = _
    rw [(WideShapes.sorted_perm _).length_eq, f2, List.length_map]
  have hcell : w.cell? ⟨p.blk, 0, none⟩ = some (.map (some pm.blk)) := by
    rw [cell_of_heap hxb]
    simpa using hvb
  have hblk : p.blk < w.heap.size := hh.low b p hp
  refine ⟨fun w0 => hent _ w0, callsIn_wide.2 ?_⟩
  refine (hcall p.blk pm.blk l.size _ anyR w hblk hcell hown (by rw [hsize]; unfold maxLen; omega) (by rw [hsize]; omega)).mono fun e w' ⟨rv, ss, he, hss, hrow, hnil, hbel⟩ => ?_
  subst he
  have hss' : ss.Perm ks := hss.trans hperm
  have hsl : ss.length = ks.length := hss'.length_eq
  rw [isort_eq hss'] at hrow
  unfold sortedOf at hx'
  split at hx'
  · -- none
    injection hx' with hx'; injection hx' with e1 e2; subst e1; subst e2
    have : ss = [] := List.eq_nil_of_length_eq_zero hsl
    have hrv := hnil.2 this
    subst hrv
    exact ⟨_, rfl, ρ, rfl, Step.below hh hbel⟩
  · rename_i k0 kr
    split at hx'
    rotate_left
    · cases hx'
    rw [fNat_eq, lenL_eq] at hx'
    injection hx' with hx'
    obtain ⟨hid, e1, e2⟩ := Heap.new_ok hx'
    subst e2
    have hf' := fresh_next hf
    rcases hrow.2 with ⟨hrv, hz⟩ | ⟨gb, cp, cur, hrv, hbase, hgb', q1, q2, q3, q4⟩
    · exfalso
      have := hnil.1 hrv
      rw [this] at hsl; simp at hsl
    · subst hrv
      have hgl : gb < w'.heap.size := (Array.getElem?_eq_some_iff.1 hgb').1
      have hrel : ObjRel (ρ.put h.next ⟨gb, 0, cp⟩) (.cells false (intsL (isort (k0 :: kr)))) ⟨gb, 0, cp⟩ (.cells cur tI (0, 0)) := by
        refine ⟨cur, tI, 0, 0, rfl, by simpa using q3, .inl rfl, fun _ => rfl, fun i x hx => ?_⟩
        simp only [AObj.cell] at hx
        rw [intsL_eq, List.getElem?_map] at hx
        cases hn : (isort (k0 :: kr))[i]? with
        | none => rw [hn] at hx; cases hx
        | some n =>
          rw [hn] at hx
          injection hx with hx; subst hx
          refine ⟨.int .i64 n, ?_, rfl, .i64, rfl, rfl⟩
          have hi : i < ss.length * 1 := by
            have h3 : i < (isort (k0 :: kr)).length := (List.getElem?_eq_some_iff.1 hn).1
            rw [(isort_perm _).length_eq] at h3
            rw [hsl]; simpa using h3
          have h4 : (cur.toList.take (ss.length * 1))[i]? = ((isort (k0 :: kr)).map encZ)[i]? := by rw [q4]
          rw [List.getElem?_take_of_lt hi, List.getElem?_map, hn] at h4
          simpa using h4
      have hstep : Step ρ h w (ρ.put h.next ⟨gb, 0, cp⟩) ⟨Nat.succ h.next, h.m.set h.next (some (.cells false (intsL (isort (k0 :: kr)))))⟩ w' := by
        refine Step.make hh hid hf' trivial (fun _ => rfl) hbel.size hgb' (fun k hk _ => hbel.block k hk) (fun ho => ?_) hbase hrel hbel.os hbel.tape hbel.output
        obtain ⟨b2, o2, p2, _, z2, z3⟩ := ho
        have := hh.low b2 p2 z2
        simp only at z3
        omega
      refine ⟨_, rfl, _, ?_, hstep⟩
      rw [e1]
      refine ⟨⟨gb, 0, cp⟩, 0, cp, Ren.put_same _ _ _, ?_, Nat.le_refl _, ?_, nofun, Nat.one_pos, fun _ => ⟨rfl, by simp⟩⟩
      · rw [hsl]
      · rw [← hsl]; exact q1
end CSim
