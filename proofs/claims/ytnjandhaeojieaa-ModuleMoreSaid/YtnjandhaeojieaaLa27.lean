/- The document's own answers on values; the laws EvalSame and EvalForms. -/
import Derived.Test.YtnjandhaeojieaaLa26
set_option linter.unusedVariables false
set_option linter.unusedSimpArgs false
namespace Go.AM
end Go.AM
namespace Go.Proofs.Ytnjandhaeojieaa
open Go.AM
def VR (c : Option R) (v : Int × Int) : Prop := ∃ x, c = some (lookR [(0, .i x), (1, .b (decide (v.2 = 0)))]) ∧ (v.2 = 0 → x = v.1)
theorem VR.no {c : Option R} {v : Int × Int} (h : VR c v) (h0 : v.2 ≠ 0) : ∃ x, c = some (lookR [(0, .i x), (1, .b false)]) := by
  obtain ⟨x, h1, h2⟩ := h
  exact ⟨x, by rw [h1, decide_eq_false h0]⟩
theorem VR.mk {c : Option R} {x : Int} (h : c = some (lookR [(0, .i x), (1, .b true)])) : VR c (x, 0) := ⟨x, h, fun _ => rfl⟩
end Go.Proofs.Ytnjandhaeojieaa
