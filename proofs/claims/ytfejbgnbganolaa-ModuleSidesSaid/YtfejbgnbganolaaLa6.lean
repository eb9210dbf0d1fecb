/- What every program must know of expressions: reckoned out. -/
import Derived.Test.YtfejbgnbganolaaLa5
namespace Go.Proofs.Ytfejbgnbganolaa
open Go.AM
theorem aw2 (n : Nat) : C_parrylaw2_awake (K (n + 40)) = rb true := by kernel_rfl
theorem awake2_sp : Ev fun N => C_parrylaw2_awake (K N) = rb true := ⟨40, fun N hN => by
  obtain ⟨M, rfl⟩ : ∃ M, N = M + 40 := ⟨N - 40, by omega⟩
  exact aw2 M⟩
end Go.Proofs.Ytfejbgnbganolaa
