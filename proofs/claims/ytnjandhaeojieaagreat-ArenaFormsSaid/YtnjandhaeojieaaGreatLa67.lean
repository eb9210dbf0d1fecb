/- The law ArenaMoves (the whole). -/
import Derived.Test.YtnjandhaeojieaaGreatLa65
set_option linter.unusedVariables false
set_option linter.unusedSimpArgs false
namespace Go.Proofs.YtnjandhaeojieaaGreat
open Go.AM
theorem len_l (n:Nat)(g:Nat→Nat→T):(T.l n g).len=n:=rfl
theorem el_l (n:Nat)(g:Nat→Nat→T)(i j:Nat):(T.l n g).el i j=g i j:=rfl
end Go.Proofs.YtnjandhaeojieaaGreat
