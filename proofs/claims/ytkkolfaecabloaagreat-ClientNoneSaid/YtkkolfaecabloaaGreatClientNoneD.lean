/-
  The walk, and the row's step.
-/
import Derived.Test.YtkkolfaecabloaaGreatRows
import Derived.Test.YtkkolfaecabloaaGreatSimOpen
import Derived.Test.YtkkolfaecabloaaGreatClientNoneC
import Derived.WalkKit
import Derived.ProofKit
import Derived.OpenShut
import Derived.ChangeOld
import Derived.Below
namespace Go.Proofs.YtkkolfaecabloaaGreat.clientNone
open Go.ChangeShapes Go.WideShapes Go.ChangeAt Go.RowKit CSim
set_option maxRecDepth 100000
set_option linter.unusedSimpArgs false
set_option linter.unusedVariables false

theorem walk (a0 a1 : Int) (v2 v3 v4 v5 : Value) (w : World) (w0 : (Lit.int .i64 a0).wf = true) (w1 : (Lit.int .i64 a1).wf = true)
    (h2 : VRel ρ0 One v2) (h3 : VRel ρ0 (Ones 7) v3) (h4 : VRel ρ0 (Ones 3) v4) (h5 : VRel ρ0 (Ones 2) v5) :
    Go.Calls Tryz.prog 4 #[.int .i64 a0, .int .i64 a1, v2, v3, v4, v5] w fun e w' => e = .returned (.bool true) ∧ Below w.heap.size w w' := by
  have b0 := bounds w0
  have b1 := bounds w1
  have go : ∀ {lo hi lo' hi' : Int}, isTrue (calls.fn 4 (R lo hi :: R lo' hi' :: rest) H00) = true → lo ≤ a0 → a0 ≤ hi → lo' ≤ a1 → a1 ≤ hi' →
      Go.Calls Tryz.prog 4 #[.int .i64 a0, .int .i64 a1, v2, v3, v4, v5] w fun e w' => e = .returned (.bool true) ∧ Below w.heap.size w w' := fun hr q1 q2 q3 q4 =>
    top_true calls_ok hr (args_cons (int_rng (k := .i64) q1 q2) (args_cons (int_rng (k := .i64) q3 q4) (args_cons h2 (args_cons h3 (args_cons h4 (args_cons h5 args_nil)))))) w
  rcases Int.lt_or_le a0 0 with c | c
  · exact go run0 b0.1 (by omega) b1.1 b1.2
  · rcases Int.lt_or_le 7 a0 with d | d
    · exact go run1 (by omega) b0.2 b1.1 b1.2
    · rcases Int.lt_or_le a1 1 with c1 | c1
      · exact go run2 c d b1.1 (by omega)
      · rcases Int.lt_or_le 1073741824 a1 with d1 | d1
        · exact go run4 c d (by omega) b1.2
        · exact go run3 c d c1 d1

theorem lifted (os : Os) (started : os.Started) (H : Type) (enc : TypeId × Value → H) :
    ReturnsInHanded {} Tryz.checked os 4 .any (Rows.clientNoneSpec.pre6 enc Tryz.prog Tryz.f4 Rows.clientNoneRow.domain false) (Rows.clientNoneSpec.post enc Tryz.prog Tryz.f4 false true false false) := by
  refine returnsInHanded_of_change (C := Tryz.checked) own started (by kernel_rfl) Tryz.func4
    (ChangeSpec.witness6 (enc := enc) (C := Tryz.checked) false ⟨#[], #[.int .i64 0, .int .i64 0, .int .i64 0, .agg #[.int .i64 0, .string ByteArray.empty, .string ByteArray.empty, .int .i64 0, .int .i64 0, .int .i64 0, .slice none 0 0], .agg #[.int .i64 0, .int .i64 0, .slice none 0 0], .agg #[.int .i64 0, .int .i64 0]], []⟩ 8 (by kernel_rfl) (by kernel_rfl) (by kernel_rfl) (by kernel_rfl)) ?_
  intro W base args ds gs before hval0 hW hcnd _
  have hval : ∀ (j : Nat) t v, Tryz.f4.params[j]? = some t → args[j]? = some v → Value.okWide Tryz.prog W .any base t v := hval0
  have hW' := hW
  obtain ⟨p, q, hA0, hV, rfl, hfz, hnd⟩ := hW
  have hA : DataW.TrodAll enc Tryz.prog W 0 (fun _ => true) true Tryz.f4.params.toList args.toList ds p := hA0
  rw [Tryz.params4] at hA hval
  have hall := hA
  obtain ⟨v0, vs0, d0, ds0, p0, q0, hargs, rfl, rfl, h0, r0⟩ := trodAll_cons hA
  obtain ⟨v1, vs1, d1, ds1, p1, q1, rfl, rfl, rfl, h1, r1⟩ := trodAll_cons r0
  obtain ⟨v2, vs2, d2, ds2, p2, q2, rfl, rfl, rfl, h2, r2⟩ := trodAll_cons r1
  obtain ⟨v3, vs3, d3, ds3, p3, q3, rfl, rfl, rfl, h3, r3⟩ := trodAll_cons r2
  obtain ⟨v4, vs4, d4, ds4, p4, q4, rfl, rfl, rfl, h4, r4⟩ := trodAll_cons r3
  obtain ⟨v5, vs5, d5, ds5, p5, q5, rfl, rfl, rfl, h5, r5⟩ := trodAll_cons r4
  obtain ⟨rfl, rfl, rfl⟩ := trodAll_nil r5
  obtain rfl : args = #[v0, v1, v2, v3, v4, v5] := by cases args; simp_all
  obtain ⟨rfl, rfl⟩ := trodVars_none hV
  obtain ⟨a0, rfl, rfl, rfl, w0⟩ := open_int Tryz.underlying3 (hval 0 3 v0 rfl rfl) h0
  obtain ⟨a1, rfl, rfl, rfl, w1⟩ := open_int Tryz.underlying3 (hval 1 3 v1 rfl rfl) h1
  refine (walk a0 a1 v2 v3 v4 v5 W w0 w1 (val_one t3 (hval 2 3 v2 rfl rfl)) (agg_one t32 (hval 3 32 v3 rfl rfl)) (agg_one t35 (hval 4 35 v4 rfl rfl)) (agg_one t39 (hval 5 39 v5 rfl rfl))).mono fun e W' ⟨he, bel⟩ => ?_
  subst he
  exact ⟨_, rfl, _, _, _, [], _, [], hW', trodAll_mk1 (shut_bool Tryz.underlying4 _), below_trodAll laidOut bel (readB_spec readable) hall, rfl, bel.frame _, fun h => by cases h⟩

end Go.Proofs.YtkkolfaecabloaaGreat.clientNone
