/- The law ChoiceFails: a command in which one value is out of its range leads nowhere. -/
import Derived.Test.YtnlkhjileipmcaaGreatLa45
set_option linter.unusedVariables false
set_option linter.unusedSimpArgs false
namespace Go.AM
open Go.Proofs.YtnlkhjileipmcaaGreat
end Go.AM
namespace Go.Proofs.YtnlkhjileipmcaaGreat
open Go.AM
def oneC (o m : Int) (k s : T) : T := T.l 1 (fun i j => ((([[(T.i o), (T.i m), k, s]] : List (List T)).getD (0 + i) []).getD j (.b false)))
theorem cmdsOf_one (o m : Int) (k s : T) : cmdsOf (oneC o m k s) = [⟨.mk o m (kidsOf k), setsOf s⟩] := rfl
section
variable {h : H} {l k1 k2 te ts ta tn tp ck t : T} {o1 n1 o2 n2 co cn st q x2 x3 x4 : Int} {x0 : ByteArray} {x1 : Bool}
end
end Go.Proofs.YtnlkhjileipmcaaGreat
