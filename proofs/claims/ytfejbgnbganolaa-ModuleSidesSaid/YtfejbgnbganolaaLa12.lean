/- SortKinds: of two expressions: which of them may stand side by side under which operation. -/
import Derived.Test.YtfejbgnbganolaaLa11
set_option linter.unusedVariables false
set_option linter.unusedSimpArgs false
namespace Go.Proofs.Ytfejbgnbganolaa
open Go.AM
theorem aw3 (n : Nat) : C_parrylaw3_awake (K (n + 40)) = rb true := by kernel_rfl
theorem awake3_sp : Ev fun N => C_parrylaw3_awake (K N) = rb true := ⟨40, fun N hN => by
  obtain ⟨M, rfl⟩ : ∃ M, N = M + 40 := ⟨N - 40, by omega⟩
  exact aw3 M⟩
end Go.Proofs.Ytfejbgnbganolaa
