/- The law SortOne: an expression is of one sort, as its kids are each of one. -/
import Derived.Test.YtnlkhjileipmcaaGreatLa23
set_option linter.unusedVariables false
set_option linter.unusedSimpArgs false
namespace Go.AM
theorem nodeE_err (l : List Va) (op n : Int) (ss : List Int) : (nodeE l op n ss).2 = 0 ∨ (nodeE l op n ss).1 = 0 ∧ ((nodeE l op n ss).2 = 3 ∨ (nodeE l op n ss).2 = 4) := by
  unfold nodeE
  split
  · exact .inr ⟨rfl, .inl rfl⟩
  · split
    · exact .inr ⟨rfl, .inr rfl⟩
    · exact .inl rfl
mutual
theorem ofE_err (l : List Va) : ∀ e : Ex, (ofE l e).2 = 0 ∨ (ofE l e).1 = 0 ∧ ((ofE l e).2 = 3 ∨ (ofE l e).2 = 4)
  | .mk op n ks => by
    simp only [ofE]
    split
    · rename_i c
      rcases ofL_err l ks with h | h
      · exact absurd h c
      · exact .inr ⟨rfl, h⟩
    · exact nodeE_err l op n _
theorem ofL_err (l : List Va) : ∀ ks : List Ex, (ofL l ks).1 = 0 ∨ ((ofL l ks).1 = 3 ∨ (ofL l ks).1 = 4)
  | [] => .inl rfl
  | k :: ks => by
    simp only [ofL]
    split
    · rename_i c
      rcases ofE_err l k with h | h
      · exact absurd h c
      · exact .inr h.2
    · split
      · rename_i c
        rcases ofL_err l ks with h | h
        · exact absurd h c
        · exact .inr h
      · exact .inl rfl
end
/-- Of what is of a sort the kids are each of one. -/
theorem kids_typed {l : List Va} {op n s : Int} {ks : List Ex} (h : Typed l (.mk op n ks) s) : ∃ ss : List Int, ss.length = ks.length ∧ (∀ (i : Nat) (k : Ex), ks[i]? = some k → ∃ t, ss[i]? = some t ∧ Typed l k t) ∧ (op = 15 → ss = [1, s, s]) ∧ (op = 9 → s = 1 ∧ ∃ t, ss = [t, t]) := by
  have two : ∀ {a b : Ex} {x y : Int}, Typed l a x → Typed l b y → ∀ (i : Nat) (k : Ex), [a, b][i]? = some k → ∃ t, [x, y][i]? = some t ∧ Typed l k t := by
    intro a b x y ha hb i k hi
    match i, hi with
    | 0, hi => obtain rfl := Option.some.inj hi; exact ⟨x, rfl, ha⟩
    | 1, hi => obtain rfl := Option.some.inj hi; exact ⟨y, rfl, hb⟩
  cases h with
  | num => exact ⟨[], rfl, fun i k hi => by simp at hi, fun h => by omega, fun h => by omega⟩
  | bool => exact ⟨[], rfl, fun i k hi => by simp at hi, fun h => by omega, fun h => by omega⟩
  | var ho => exact ⟨[], rfl, fun i k hi => by simp at hi, fun h => by omega, fun h => by omega⟩
  | not ha =>
    refine ⟨[1], rfl, fun i k hi => ?_, fun h => by omega, fun h => by omega⟩
    match i, hi with
    | 0, hi => obtain rfl := Option.some.inj hi; exact ⟨1, rfl, ha⟩
  | logic ho ha hb => exact ⟨[1, 1], rfl, two ha hb, fun h => by omega, fun h => by omega⟩
  | @same s' _ _ ha hb => exact ⟨[s', s'], rfl, two ha hb, fun h => by omega, fun _ => ⟨rfl, s', rfl⟩⟩
  | less ho ha hb => exact ⟨[2, 2], rfl, two ha hb, fun h => by omega, fun h => by omega⟩
  | sum ho ha hb => exact ⟨[2, 2], rfl, two ha hb, fun h => by omega, fun h => by omega⟩
  | ite ha hb hc =>
    refine ⟨[1, s, s], rfl, fun i k hi => ?_, fun _ => rfl, fun h => by omega⟩
    match i, hi with
    | 0, hi => obtain rfl := Option.some.inj hi; exact ⟨1, rfl, ha⟩
    | 1, hi => obtain rfl := Option.some.inj hi; exact ⟨s, rfl, hb⟩
    | 2, hi => obtain rfl := Option.some.inj hi; exact ⟨s, rfl, hc⟩
end Go.AM
namespace Go.Proofs.YtnlkhjileipmcaaGreat
open Go.AM
theorem needsE_open {l : List Va} {e : Ex} (h : (sortE l e).2 = 0) (want : Int) : needsE l e want true true true = if (sortE l e).1 = want then 0 else 4 := by
  by_cases c : (sortE l e).1 = want
  · rw [if_pos c]; exact needsE_of h c (fun x _ => nextBad_all _ x) (fun x _ => hidBad_all _ x)
  · rw [if_neg c]; unfold needsE; rw [if_neg (by simpa using h), if_pos c]
end Go.Proofs.YtnlkhjileipmcaaGreat
