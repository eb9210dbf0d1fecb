/- The law ChoiceForms: what may be chosen is what the document says. -/
import Derived.Test.YtnjandhaeojieaaGreatLa52
import Derived.Test.YtnjandhaeojieaaGreatLa50
set_option linter.unusedVariables false
set_option linter.unusedSimpArgs false
namespace Go.AM
open Go.Proofs.YtnjandhaeojieaaGreat
theorem filt24 {l : List Va} {f : Int → Bool} (hm : mayV l = 0) (hT : prodV l ≤ 24) : ((upFrom 0 (totalE l).toNat).filter f).length ≤ 24 := by
  refine Nat.le_trans (List.length_filter_le _ _) ?_
  rw [upFrom_len, (total_prod hm).1]
  omega
end Go.AM
namespace Go.Proofs.YtnjandhaeojieaaGreat
open Go.AM
end Go.Proofs.YtnjandhaeojieaaGreat
