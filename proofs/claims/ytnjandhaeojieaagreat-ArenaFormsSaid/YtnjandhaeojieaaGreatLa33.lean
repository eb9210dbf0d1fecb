/- The law ModuleSides: a command of the one side may not do what is the other one's. -/
import Derived.Test.YtnjandhaeojieaaGreatLa30
set_option linter.unusedVariables false
set_option linter.unusedSimpArgs false
namespace Go.Proofs.YtnjandhaeojieaaGreat
open Go.AM
theorem WT_row {t e:TypeId}{x:T}(hu:Tryz.prog.underlying t=some (.slice e))(h:WT Tryz.prog t x):x.len≤9223372036854775807∧∀ i,i<x.len→∀ j τ,(lv Tryz.prog e)[j]? =some τ→WT Tryz.prog τ (x.el i j):=by
 generalize Tryz.prog=P at *
 cases h with
 | int h hw=>rw[hu] at h;cases h
 | bool h=>rw[hu] at h;cases h
 | str h hs=>rw[hu] at h;cases h
 | @sl _ e' n g h hn hg=>
  rw[hu] at h
  have e1:e'=e:=by injection h with h;injection h with h;exact h.symm
  subst e1
  exact ⟨Nat.le_trans hn (Nat.le_refl _),fun i hi j τ hj=>hg i j τ hi hj⟩
theorem unSets:Tryz.prog.underlying 29=some (.slice 87):=by kernel_rfl
theorem unCmds:Tryz.prog.underlying 26=some (.slice 31):=by kernel_rfl
theorem lvSet:lv Tryz.prog 87=[3,4,3,3,23]:=by kernel_rfl
theorem lvCmd:lv Tryz.prog 31=[3,3,23,29]:=by kernel_rfl
theorem WT_KS {x:T}(h:WT Tryz.prog 29 x):KS x:=by
 obtain ⟨h1,h2⟩:=WT_row unSets h
 exact ⟨h1,fun i hi=>WT_KW (h2 i hi 4 23 (by rw[lvSet];rfl))⟩
theorem WT_KC {x:T}(h:WT Tryz.prog 26 x):KC x:=by
 obtain ⟨h1,h2⟩:=WT_row unCmds h
 exact ⟨h1,fun i hi=>⟨WT_KW (h2 i hi 2 23 (by rw[lvCmd];rfl)),WT_KS (h2 i hi 3 29 (by rw[lvCmd];rfl))⟩⟩
theorem setE_zero {l:List Va}{env:Bool}{was:List Int}{s:Se}(h:setE l env was s=0):0≤s.var∧s.var<(l.length:Int)∧envAt l s.var=env∧s.var∉was:=by
 unfold setE at h
 split at h
 ·cases h
 ·rename_i c
  refine ⟨?_,?_,?_,?_⟩
  ·exact Int.not_lt.1 fun q=>c (.inl q)
  ·exact Int.not_le.1 fun q=>c (.inr (.inl q))
  ·exact Classical.byContradiction fun q=>c (.inr (.inr (.inl q)))
  ·exact fun q=>c (.inr (.inr (.inr q)))
theorem setsGo_ok {l:List Va}{env:Bool}:∀ {ss:List Se} {was:List Int},Xqy l env ss was=0→(∀ s∈ss,0≤s.var∧s.var<(l.length:Int)∧envAt l s.var=env∧s.var∉was)∧(ss.map Se.var).Pairwise (·≠·)
 | [],_,_=>⟨fun s hs=>(by cases hs),List.Pairwise.nil⟩
 | s::r,was,h=>by
  simp only[Xqy] at h
  by_cases c:setE l env was s=0
  ·rw[if_neg (by simpa using c)] at h
   obtain ⟨h1,h2⟩:=setsGo_ok h
   refine ⟨fun q hq=> ?_,?_⟩
   ·rcases List.mem_cons.1 hq with rfl|hq
    ·exact setE_zero c
    ·obtain ⟨a1,a2,a3,a4⟩:=h1 q hq
     exact ⟨a1,a2,a3,fun hm=>a4 (List.mem_append.2 (.inl hm))⟩
   ·simp only[List.map_cons,List.pairwise_cons]
    refine ⟨fun x hx=> ?_,h2⟩
    obtain ⟨q,hq,rfl⟩:=List.mem_map.1 hx
    intro e
    exact (h1 q hq).2.2.2 (List.mem_append.2 (.inr (by rw[e];exact List.mem_cons_self ..)))
  ·rw[if_pos c] at h
   exact absurd h c
theorem mayCmd_zero {l:List Va}{env:Bool}{c:Cm}(h:Xff l env c=0):mayV l=0∧Xcu l c.guard 1 true (!env) false=0∧c.sets.length≤6∧Xqy l env c.sets []=0:=by
 unfold Xff at h
 by_cases c1:mayV l=0
 ·rw[if_neg (by simpa using c1)] at h
  by_cases c2:Xcu l c.guard 1 true (!env) false=0
  ·rw[if_neg (by simpa using c2)] at h
   by_cases c3:6<(c.sets.length:Int)
   ·rw[if_pos c3] at h;cases h
   ·rw[if_neg c3] at h
    exact ⟨c1,c2,by omega,h⟩
  ·rw[if_pos c2] at h;exact absurd h c2
 ·rw[if_pos c1] at h;exact absurd h c1
section
variable {h:H}{env:Bool}{v:Int}{l k1 k2 te ts ta tn tp gk t:T}{o1 n1 o2 n2 go gn:Int}{Q:Option R}
end
end Go.Proofs.YtnjandhaeojieaaGreat
