/-
  A region that draws its order: a read that yields the same in some memories.
-/
import Derived.Test.YtkkolfaecabloaaGreatSimDrawE
namespace CSim
set_option linter.unusedSimpArgs false
set_option linter.unusedVariables false
open Go
variable {P : Program} {n : Nat}

theorem same1_eq : ∀ {a b : AV}, same1 a b = true → a = b := by
  intro a b h
  cases a with
  | int k x =>
    cases b with
    | int k' y =>
      simp only [same1, Bool.and_eq_true, nat_beq, beqI_eq, decide_eq_true_eq] at h
      rw [h.1, eq_of_beq h.2]
    | _ => cases h
  | bool x =>
    cases b with
    | bool y => simp only [same1, beq_iff_eq] at h; rw [h]
    | _ => cases h
  | ptr x y =>
    cases b with
    | ptr x' y' => simp only [same1, Bool.and_eq_true, nat_beq] at h; rw [h.1, h.2]
    | _ => cases h
  | oth x =>
    cases b with
    | oth y =>
      cases x <;> cases y <;> simp only [same1, Bool.and_eq_true, nat_beq, eqList_iff, beq_iff_eq, beqI_iff] at h <;> first | (cases h; done) | rfl | (simp_all; done)
    | _ => cases h
theorem sameL_eq : ∀ {a b : List AV}, sameL a b = true → a = b
  | [], [], _ => rfl
  | [], _ :: _, h => by cases h
  | _ :: _, [], h => by cases h
  | x :: a, y :: b, h => by
    simp only [sameL, Bool.and_eq_true] at h
    rw [same1_eq h.1, sameL_eq h.2]
theorem sameV_eq {a b : V} (h : sameV a b = true) : a = b := by
  unfold sameV at h
  split at h
  · rw [sameL_eq h]
  · rw [same1_eq h]
  · simp only [Bool.and_eq_true] at h; rw [same1_eq h.1, same1_eq h.2]
  · simp only [Bool.and_eq_true] at h; rw [sameL_eq h.1, same1_eq h.2]
  · cases h
theorem stable_spec {o : Run} {call : Calls} {ev : Env} {x : V} : ∀ {k : Nat} {hs : List Heap}, stable o call ev x k hs = true → ∀ j, j < k → ∃ g g', hs[j]? = some g ∧ o call ev g = .ok x g'
  | 0, hs, h, j, hj => by omega
  | k + 1, [], h, j, hj => by cases h
  | k + 1, g :: hs, h, j, hj => by
    simp only [stable] at h
    split at h
    · rename_i y g' hg
      simp only [Bool.and_eq_true] at h
      have := sameV_eq h.1
      subst this
      cases j with
      | zero => exact ⟨g, g', rfl, hg⟩
      | succ j =>
        obtain ⟨g2, g3, h1, h2⟩ := stable_spec h.2 j (by omega)
        exact ⟨g2, g3, by simpa using h1, h2⟩
    · cases h
end CSim
