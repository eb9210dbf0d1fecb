/- The law ChoiceMore: with one command more nothing that may be chosen is lost. -/
import Derived.Test.YtnjandhaeojieaaGreatLa57
import Derived.Test.YtnjandhaeojieaaGreatLa48
set_option linter.unusedVariables false
set_option linter.unusedSimpArgs false
namespace Go.Proofs.YtnjandhaeojieaaGreat
open Go.AM
section
variable {t:T}{o n:Int}{k s:T}
end
section
variable {h:H}{l:T}{o1 n1:Int}{k1:T}{o2 n2:Int}{k2 te ts ta tn tp:T}
end
theorem env_len {m:Md}{s:Int}(hT:mayV m.vars=0→prodV m.vars≤24):(envE m s).length≤24∧(envE m s).Pairwise (·<·)∧∀ x∈envE m s,partE m.vars x true=x:=by
 rw[env_ref]
 unfold Xrq
 split
 ·simp
 ·rename_i c
  have cm:=(Xfe (m:=m) (by simpa using c)).1
  split
  ·simp
  ·refine ⟨filt24 cm (hT cm),(Xqc ..).filter _,fun x hx=> ?_⟩
   rw[List.mem_filter,List.any_eq_true] at hx
   obtain ⟨_,c,_,hc⟩:=hx
   rw[Bool.and_eq_true] at hc
   have:=hc.1
   unfold pickE at this
   rw[Bool.and_eq_true] at this
   exact eq_of_beq this.2
theorem sys_len {m:Md}{s p:Int}(hT:mayV m.vars=0→prodV m.vars≤24):(sysE m s p).length≤24∧(sysE m s p).Pairwise (·<·)∧∀ x∈sysE m s p,partE m.vars x true=p:=by
 rw[sys_ref]
 unfold Xro
 split
 ·simp
 ·rename_i c
  have cm:=(Xfe (m:=m) (by simpa using c)).1
  split
  ·simp
  ·split
   ·simp
   ·refine ⟨filt24 cm (hT cm),(Xqc ..).filter _,fun x hx=> ?_⟩
    rw[List.mem_filter,List.any_eq_true] at hx
    obtain ⟨_,c,_,hc⟩:=hx
    rw[Bool.and_eq_true] at hc
    exact eq_of_beq hc.1
end Go.Proofs.YtnjandhaeojieaaGreat
