/- What commands that set all to any lead to are just the states of a pick; how many they are. -/
import Derived.Test.YtnjandhaeojieaaGreatLa48
set_option linter.unusedVariables false
set_option linter.unusedSimpArgs false
namespace Go.AM
open Go.Proofs.YtnjandhaeojieaaGreat
theorem upFrom_rise : ∀ (m : Nat) (i : Int), (upFrom i m).Pairwise (· < ·)
  | 0, _ => List.Pairwise.nil
  | m + 1, i => List.Pairwise.cons (fun x hx => by have := (upFrom_mem.1 hx).1; omega) (upFrom_rise m (i + 1))
/-! How many -/
def cnt (n : Nat) (f : Int → Bool) : Nat := ((upFrom 0 n).filter f).length
end Go.AM
