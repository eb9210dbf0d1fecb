/- Commands that set all to any: what they lead to, and how many states that are. -/
import Derived.Test.YtnjandhaeojieaaGreatLa48
set_option linter.unusedVariables false
set_option linter.unusedSimpArgs false
namespace Go.AM
open Go.Proofs.YtnjandhaeojieaaGreat
theorem envAt_get {l : List Va} {v : Int} (h : v.toNat < l.length) : envAt l v = l[v.toNat].env := by
  unfold envAt
  rw [List.getElem?_eq_getElem h]; rfl
theorem state_eq {l : List Va} {x y : Int} (hp : Pos l) (hx : 0 ≤ x ∧ x < prodV l) (hy : 0 ≤ y ∧ y < prodV l) (h : ∀ k : Nat, (valuesFrom l x)[k]? = (valuesFrom l y)[k]?) : x = y := by
  rw [← state_values hp hx.1 hx.2, ← state_values hp hy.1 hy.2, List.ext_getElem? h]
end Go.AM
