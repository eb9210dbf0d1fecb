/- What commands that set all to any lead to are just the states of a pick; how many they are. -/
import Derived.Test.YtnjandhaeojieaaLa45
import Derived.Test.YtnjandhaeojieaaLa27
set_option linter.unusedVariables false
set_option linter.unusedSimpArgs false
namespace Go.AM
open Go.Proofs.Ytnjandhaeojieaa
def cnt (n : Nat) (f : Int → Bool) : Nat := ((upFrom 0 n).filter f).length
end Go.AM
