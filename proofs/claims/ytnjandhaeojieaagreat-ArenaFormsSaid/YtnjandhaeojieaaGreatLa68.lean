/- Games that may be. -/
import Derived.Test.YtnjandhaeojieaaGreatLa67
set_option linter.unusedVariables false
set_option linter.unusedSimpArgs false
namespace Go.AM
open Go.Proofs.YtnjandhaeojieaaGreat
structure GOk (Ow:List Int)(L:List (List Int)):Prop where
 n:Ow.length≤3000
 len:L.length=Ow.length
 who:∀ o∈Ow,o=0∨o=1
 up:∀ l∈L,l.Pairwise (·<·)∧∀ z∈l,0≤z∧z<(Ow.length:Int)
end Go.AM
namespace Go.Proofs.YtnjandhaeojieaaGreat
open Go.AM
section
variable {Ow:List Int}{L:List (List Int)}{tO tX:T}(hg:GOk Ow L)(hO:Ints tO Ow)(hXl:tX.len=L.length)(hX:∀ i l,L[i]? =some l→Ints (tX.el i 0) l)(hll:∀ l∈L,l.length≤3000)
include hg hO hXl hX hll
end
end Go.Proofs.YtnjandhaeojieaaGreat
set_option linter.unusedVariables false
set_option linter.unusedSimpArgs false
namespace Go.AM
open Go.Proofs.YtnjandhaeojieaaGreat
structure StR (n:Nat)(L:List (List Int))(todo D D0:List Int):Prop where
 nd:(todo++D).Nodup
 rng:∀ x,x∈todo∨x∈D→0≤x∧x<(n:Int)
 zero:(0:Int)∈todo∨(0:Int)∈D
 done:∀ d∈D0,∀ l,L[d.toNat]? =some l→∀ z∈l,z∈todo∨z∈D
theorem int_up (n:Nat):((Xgd 0 n).length=n)∧∀ x,x∈Xgd 0 n↔0≤x∧x<(n:Int):=⟨Xsv n 0,fun x=>by rw[upFrom_mem];constructor<;>(intro h;omega)⟩
theorem StR.le {n:Nat}{L:List (List Int)}{todo D D0:List Int}(h:StR n L todo D D0):todo.length+D.length≤n:=by
 have:=nodup_sub (u:=Xgd 0 n) h.nd fun x hx=>((int_up n).2 x).2 (h.rng x (List.mem_append.1 hx))
 rw[List.length_append,(int_up n).1] at this
 exact this
end Go.AM
namespace Go.Proofs.YtnjandhaeojieaaGreat
open Go.AM
section
variable {N0 n:Nat}{L:List (List Int)}{tO tX:T}(hn:n≤3000)(hLn:L.length=n)(hXl:tX.len=n)(hX:∀ i l,L[i]? =some l→Ints (tX.el i 0) l)(hl24:∀ l∈L,l.length≤24)(hLr:∀ l∈L,∀ z∈l,0≤z∧z<(n:Int))
include hn hLn hXl hX hl24 hLr
end
end Go.Proofs.YtnjandhaeojieaaGreat
