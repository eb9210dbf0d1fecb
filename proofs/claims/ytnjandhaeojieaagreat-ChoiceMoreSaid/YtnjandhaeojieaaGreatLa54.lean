/- The document's own answers: what may be chosen. -/
import Derived.Test.YtnjandhaeojieaaGreatLa53
set_option linter.unusedVariables false
set_option linter.unusedSimpArgs false
namespace Go.AM
open Go.Proofs.YtnjandhaeojieaaGreat
def refEnvE (m : Md) (s : Int) : List Int := if mayM m ≠ 0 then [] else if valuesOk m.vars s = false then [] else (upFrom 0 (totalE m.vars).toNat).filter fun p => m.env.any fun c => pickE m.vars p && doesE m.vars c true s s p
def refSysE (m : Md) (s p : Int) : List Int := if mayM m ≠ 0 then [] else if valuesOk m.vars s = false then [] else if pickE m.vars p = false then [] else (upFrom 0 (totalE m.vars).toNat).filter fun x => m.sys.any fun c => (partE m.vars x true == p) && doesE m.vars c false s p x
end Go.AM
namespace Go.Proofs.YtnjandhaeojieaaGreat
open Go.AM
section
variable (l k1 k2 te ts ta tn tp : T) (hl : l.len ≤ 9223372036854775807) (h1 : KW k1) (h2 : KW k2) (he : KC te) (hs : KC ts) (ha : KW ta) (hn : KW tn) (hp : KW tp)
include hl h1 h2 he hs ha hn hp
end
end Go.Proofs.YtnjandhaeojieaaGreat
