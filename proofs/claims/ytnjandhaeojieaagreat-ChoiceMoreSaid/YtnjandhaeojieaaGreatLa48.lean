/- The law ChoiceGuards: a command whose guard is false does nothing; one that sets nothing keeps all that is its side's. -/
import Derived.Test.YtnjandhaeojieaaGreatLa45
set_option linter.unusedVariables false
set_option linter.unusedSimpArgs false
namespace Go.AM
open Go.Proofs.YtnjandhaeojieaaGreat
theorem mask_mask {env : Bool} : ∀ (l : List Va) (xs : List Int), maskE env l (maskE env l xs) = maskE env l xs
  | [], _ => by simp [maskE]
  | _ :: _, [] => by simp [maskE]
  | v :: r, x :: xs => by
    have ih := mask_mask (env := env) r xs
    unfold maskE at ih ⊢
    simp only [List.zipWith_cons_cons, ih]
    congr 1
    split <;> rfl
theorem ok_state {l : List Va} (hm : mayV l = 0) {xs : List Int} (hr : InR l xs) : valuesOk l (stateFrom l xs) = true := by
  obtain ⟨ht, hp, hP⟩ := total_prod hm
  obtain ⟨a, b⟩ := state_range hp hr
  exact valuesOk_iff.2 ⟨hm, a, by rw [ht]; exact b⟩
theorem part_state {l : List Va} (hm : mayV l = 0) {xs : List Int} (hr : InR l xs) (env : Bool) : partE l (stateFrom l xs) env = stateFrom l (maskE env l xs) := by
  obtain ⟨ht, hp, hP⟩ := total_prod hm
  unfold partE
  rw [if_pos (ok_state hm hr), values_state hp hr]
theorem part_of {l : List Va} {s : Int} (h : valuesOk l s = true) (env : Bool) : partE l s env = stateFrom l (maskE env l (valuesFrom l s)) := by
  unfold partE
  rw [if_pos h]
theorem part_pick {l : List Va} {s : Int} (h : valuesOk l s = true) : pickE l (partE l s true) = true ∧ valuesOk l (partE l s true) = true := by
  obtain ⟨hm, s0, s1⟩ := valuesOk_iff.1 h
  obtain ⟨ht, hp, hP⟩ := total_prod hm
  have hr := InR_mask (env := true) hp (InR_values hp s0)
  have e : partE l (partE l s true) true = partE l s true := by
    rw [part_of h, part_state hm hr, mask_mask]
  have r := part_range (env := true) hm h
  refine ⟨?_, ?_⟩
  · unfold pickE
    rw [e, decide_eq_true r.1]
    simp
  · rw [part_of h]; exact ok_state hm hr
end Go.AM
namespace Go.Proofs.YtnjandhaeojieaaGreat
open Go.AM
end Go.Proofs.YtnjandhaeojieaaGreat
