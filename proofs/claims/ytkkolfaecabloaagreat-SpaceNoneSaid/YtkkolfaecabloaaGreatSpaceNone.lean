/-
  'copyholdlaw14.SpaceNone' returns true, whatever the node, the place, the size and the bytes are.
  Conditions: none.
-/
import Derived.Test.YtkkolfaecabloaaGreatSpaceTypes
import Derived.Test.YtkkolfaecabloaaGreatSpaceNone1
import Derived.Test.YtkkolfaecabloaaGreatSpaceNone2
import Derived.Test.YtkkolfaecabloaaGreatSpaceNone3
import Derived.Test.YtkkolfaecabloaaGreatSpaceNone4
namespace Go.Proofs.YtkkolfaecabloaaGreat.space
open Go Go.ChangeShapes Go.WideShapes Go.ChangeAt Go.RowKit CSim
set_option maxRecDepth 100000
set_option linter.unusedSimpArgs false
set_option linter.unusedVariables false

theorem none_all : ∀ m : Nat, m < 32 → isTrue (calls.fn 5 [.s (.int kI (Int.ofNat m)), One, One, One] H00) = true
  | 0, _ => none_0
  | 1, _ => none_1
  | 2, _ => none_2
  | 3, _ => none_3
  | 4, _ => none_4
  | 5, _ => none_5
  | 6, _ => none_6
  | 7, _ => none_7
  | 8, _ => none_8
  | 9, _ => none_9
  | 10, _ => none_10
  | 11, _ => none_11
  | 12, _ => none_12
  | 13, _ => none_13
  | 14, _ => none_14
  | 15, _ => none_15
  | 16, _ => none_16
  | 17, _ => none_17
  | 18, _ => none_18
  | 19, _ => none_19
  | 20, _ => none_20
  | 21, _ => none_21
  | 22, _ => none_22
  | 23, _ => none_23
  | 24, _ => none_24
  | 25, _ => none_25
  | 26, _ => none_26
  | 27, _ => none_27
  | 28, _ => none_28
  | 29, _ => none_29
  | 30, _ => none_30
  | 31, _ => none_31
  | k + 32, h => absurd h (by omega)
theorem walk (a0 : Int) (v1 v2 v3 : Value) (w : World) (w0 : (Lit.int .i64 a0).wf = true) (h1 : VRel ρ0 One v1) (h2 : VRel ρ0 One v2) (h3 : VRel ρ0 One v3) :
    Go.Calls Tryz.prog 5 #[.int .i64 a0, v1, v2, v3] w fun e w' => e = .returned (.bool true) ∧ Below w.heap.size w w' := by
  have b0 := bounds w0
  have go : ∀ {x : V}, isTrue (calls.fn 5 [x, One, One, One] H00) = true → VRel ρ0 x (.int .i64 a0) →
      Go.Calls Tryz.prog 5 #[.int .i64 a0, v1, v2, v3] w fun e w' => e = .returned (.bool true) ∧ Below w.heap.size w w' := fun hr hx =>
    top_true calls_ok hr (args_cons hx (args_cons h1 (args_cons h2 (args_cons h3 args_nil)))) w
  rcases Int.lt_or_le a0 0 with c | c
  · exact go none_m (int_rng (k := .i64) b0.1 (by omega))
  rcases Int.lt_or_le 31 a0 with d | d
  · exact go none_p (int_rng (k := .i64) (by omega) b0.2)
  obtain ⟨m, rfl⟩ : ∃ m : Nat, a0 = m := ⟨a0.toNat, by omega⟩
  have hm : m < 32 := by omega
  exact go (none_all m hm) ⟨.i64, rfl, rfl⟩

theorem lifted_none (os : Os) (started : os.Started) (H : Type) (enc : TypeId × Value → H) :
    ReturnsInHanded {} Tryz.checked os 5 .any (Rows.spaceNoneSpec.pre6 enc Tryz.prog Tryz.f5 Rows.spaceNoneRow.domain false) (Rows.spaceNoneSpec.post enc Tryz.prog Tryz.f5 false true false false) := by
  refine returnsInHanded_of_change (C := Tryz.checked) own started (by kernel_rfl) Tryz.func5
    (ChangeSpec.witness6 (enc := enc) (C := Tryz.checked) false ⟨#[], #[.int .i64 0, .int .i64 0, .int .i64 0, .slice none 0 0], []⟩ 8 (by kernel_rfl) (by kernel_rfl) (by kernel_rfl) (by kernel_rfl)) ?_
  intro W base args ds gs before hval0 hW hcnd _
  have hval : ∀ (j : Nat) t v, Tryz.f5.params[j]? = some t → args[j]? = some v → Value.okWide Tryz.prog W .any base t v := hval0
  have hW' := hW
  obtain ⟨p, q, hA0, hV, rfl, hfz, hnd⟩ := hW
  have hA : DataW.TrodAll enc Tryz.prog W 0 (fun _ => true) true Tryz.f5.params.toList args.toList ds p := hA0
  rw [Tryz.params5] at hA hval
  have hall := hA
  obtain ⟨v0, vs0, d0, ds0, p0, q0, hargs, rfl, rfl, h0, r0⟩ := trodAll_cons hA
  obtain ⟨v1, vs1, d1, ds1, p1, q1, rfl, rfl, rfl, h1, r1⟩ := trodAll_cons r0
  obtain ⟨v2, vs2, d2, ds2, p2, q2, rfl, rfl, rfl, h2, r2⟩ := trodAll_cons r1
  obtain ⟨v3, vs3, d3, ds3, p3, q3, rfl, rfl, rfl, h3, r3⟩ := trodAll_cons r2
  obtain ⟨rfl, rfl, rfl⟩ := trodAll_nil r3
  obtain rfl : args = #[v0, v1, v2, v3] := by cases args; simp_all
  obtain ⟨rfl, rfl⟩ := trodVars_none hV
  obtain ⟨a0, rfl, rfl, rfl, w0⟩ := open_int Tryz.underlying3 (hval 0 3 v0 rfl rfl) h0
  refine (walk a0 v1 v2 v3 W w0 (val_one t3 (hval 1 3 v1 rfl rfl)) (val_one t3 (hval 2 3 v2 rfl rfl)) (val_one t30 (hval 3 30 v3 rfl rfl))).mono fun e W' ⟨he, bel⟩ => ?_
  subst he
  exact ⟨_, rfl, _, _, _, [], _, [], hW', trodAll_mk1 (shut_bool Tryz.underlying4 _), below_trodAll laidOut bel (readB_spec readable) hall, rfl, bel.frame _, fun h => by cases h⟩

theorem over_none : Rows.spaceNoneRow.holds Tryz.pinned (OpenSpec.ofChange Rows.spaceNoneSpec) :=
  OpenClaim.holds_of_wide 5 Tryz.f5 rfl rfl rfl rfl rfl rfl rfl ⟨rfl, rfl, rfl, rfl, rfl⟩ rfl rfl rfl rfl rfl (by kernel_rfl) Tryz.func5 (by kernel_rfl)
    (of_decide_eq_true (by kernel_rfl)) (by unfold Func.isWrapper; first | (rw [if_pos (by decide +kernel)]; kernel_rfl) | (rw [if_neg (by decide +kernel)]; exact ⟨rfl, rfl⟩))
    (fun os started H enc _ => lifted_none os started H enc)

/-- the statement -/
theorem none_holds : Rows.SpaceNoneSaid := over_none
#print axioms none_holds
end Go.Proofs.YtkkolfaecabloaaGreat.space
