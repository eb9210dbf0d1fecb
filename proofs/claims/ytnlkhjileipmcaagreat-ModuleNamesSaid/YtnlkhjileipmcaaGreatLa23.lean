/- The law SortNeeds: what needs less is let through where more may be read. -/
import Derived.Test.YtnlkhjileipmcaaGreatLa22
set_option linter.unusedVariables false
set_option linter.unusedSimpArgs false
namespace Go.AM
theorem any_false {l : List Int} {p : Int → Bool} (h : l.any p ≠ true) : ∀ x ∈ l, p x = false := by
  intro x hx
  cases c : p x with
  | false => rfl
  | true => exact absurd (List.any_eq_true.2 ⟨x, hx, c⟩) h
theorem needsE_zero {l : List Va} {e : Ex} {want : Int} {now env sys : Bool} (h : needsE l e want now env sys = 0) : (sortE l e).2 = 0 ∧ (sortE l e).1 = want ∧ (∀ x ∈ readsE 4 e, nextBad l env sys x = false) ∧ (∀ x ∈ readsE 3 e, hidBad l now x = false) := by
  unfold needsE at h
  by_cases c1 : (sortE l e).2 = 0
  · rw [if_neg (by simpa using c1)] at h
    by_cases c2 : (sortE l e).1 = want
    · rw [if_neg (by simpa using c2)] at h
      cases c3 : (readsE 4 e).any (nextBad l env sys) with
      | true => rw [c3] at h; cases h
      | false =>
        cases c4 : (readsE 3 e).any (hidBad l now) with
        | true => rw [c3, c4] at h; cases h
        | false => exact ⟨c1, c2, any_false (by rw [c3]; simp), any_false (by rw [c4]; simp)⟩
    · rw [if_pos c2] at h; cases h
  · rw [if_pos c1] at h; exact absurd h c1
theorem needsE_of {l : List Va} {e : Ex} {want : Int} {now env sys : Bool} (h1 : (sortE l e).2 = 0) (h2 : (sortE l e).1 = want) (h3 : ∀ x ∈ readsE 4 e, nextBad l env sys x = false) (h4 : ∀ x ∈ readsE 3 e, hidBad l now x = false) : needsE l e want now env sys = 0 := by
  have z : ∀ (l : List Int) (p : Int → Bool), (∀ x ∈ l, p x = false) → l.any p = false := by
    intro l p h
    cases hc : l.any p with
    | false => rfl
    | true =>
      obtain ⟨x, hx, hp⟩ := List.any_eq_true.1 hc
      rw [h x hx] at hp
      cases hp
  unfold needsE
  rw [if_neg (by simpa using h1), if_neg (by simpa using h2), z _ _ h3, z _ _ h4]
  rfl
theorem nextBad_all (l : List Va) (v : Int) : nextBad l true true v = false := by unfold nextBad; split <;> rfl
theorem hidBad_all (l : List Va) (v : Int) : hidBad l true v = false := by unfold hidBad; simp
theorem needsE_sides {l : List Va} {e : Ex} {want : Int} {now env sys env' sys' : Bool} (h : readsE 4 e = []) : needsE l e want now env sys = needsE l e want now env' sys' := by
  unfold needsE
  rw [h]
  rfl
end Go.AM
namespace Go.Proofs.YtnlkhjileipmcaaGreat
open Go.AM
end Go.Proofs.YtnlkhjileipmcaaGreat
