/- The law ChoiceInits: the beginnings are just the states where both inits are true. -/
import Derived.Test.YtnjandhaeojieaaGreatLa55
import Derived.Test.YtnjandhaeojieaaGreatLa48
import Derived.Test.YtnjandhaeojieaaGreatMp1
set_option linter.unusedVariables false
set_option linter.unusedSimpArgs false
namespace Go.Proofs.YtnjandhaeojieaaGreat
open Go.AM
theorem initEnv_mem {m:Md}(h:mayM m=0){p:Int}:p∈Xek m↔(0≤p∧p<Xcz m.vars)∧pickE m.vars p=true∧trueE m.vars m.ie p p=true:=by
 unfold Xek
 rw[if_neg (by simpa using h),List.mem_filter,upFrom_mem,Bool.and_eq_true]
 constructor<;>rintro ⟨h1,h2⟩<;>exact ⟨by omega,h2⟩
section
variable {h:H}{l:T}{o1 n1:Int}{k1:T}{o2 n2:Int}{k2 te ts ta tn tp:T}
end
section
variable (l k1 k2 te ts ta tn tp:T)(hl:l.len≤9223372036854775807)(h1:KW k1)(h2:KW k2)(he:KC te)(hs:KC ts)(ha:KW ta)(hn:KW tn)(hp:KW tp)
end
end Go.Proofs.YtnjandhaeojieaaGreat
