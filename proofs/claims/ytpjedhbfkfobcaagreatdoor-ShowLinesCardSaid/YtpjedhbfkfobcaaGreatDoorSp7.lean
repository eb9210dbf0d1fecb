/- What package eval's functions come to. -/
import Derived.Test.YtpjedhbfkfobcaaGreatDoorMo4
import Derived.Test.YtpjedhbfkfobcaaGreatDoorSp5
set_option linter.unusedVariables false
set_option linter.unusedSimpArgs false
namespace Go.Proofs.YtpjedhbfkfobcaaGreatDoor
open Go.AM
theorem Ints.at {t:T}{l:List Int}(h:Ints t l){n:Int}{x:Int}(h0:0≤n)(hx:l[n.toNat]? =some x):n<(t.len:Int)∧(t.el n.toNat 0).int=x:=by
 have h1:=h.1
 have h2:=(List.getElem?_eq_some_iff.1 hx).1
 exact ⟨by omega,h.2 _ _ hx⟩
end Go.Proofs.YtpjedhbfkfobcaaGreatDoor
set_option linter.unusedVariables false
set_option linter.unusedSimpArgs false
namespace Go.Proofs.YtpjedhbfkfobcaaGreatDoor
open Go.AM
theorem Xpw {l:List Va}{e:Ex}(h:(sortE l e).2=0):mayV l=0∧mayE e=0∧Xed e=true∧Xfi e=true∧sortE l e=ofE l e∧Typed l e (sortE l e).1:=by
 unfold sortE at h
 split at h
 ·rename_i h1;exact absurd h h1
 ·rename_i h1
  have h1:mayV l=0:=by simpa using h1
  split at h
  ·rename_i h2;exact absurd h h2
  ·rename_i h2
   have h2:mayE e=0:=by simpa using h2
   have h3:Xed e=true∧Xfi e=true:=by
    unfold mayE at h2
    split at h2
    ·split at h2
     ·exact ⟨by assumption,by assumption⟩
     ·cases h2
    ·cases h2
   have e1:sortE l e=ofE l e:=by unfold sortE;rw[if_neg (by simpa using h1),if_neg (by simpa using h2)]
   exact ⟨h1,h2,h3.1,h3.2,e1,by rw[e1];exact (Xsj (mayV_sorts h1) e h3.1).1 h⟩
end Go.Proofs.YtpjedhbfkfobcaaGreatDoor
