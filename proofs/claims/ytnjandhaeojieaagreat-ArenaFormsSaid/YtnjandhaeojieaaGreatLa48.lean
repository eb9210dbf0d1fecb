/- The law ChoiceGuards: a command whose guard is false does nothing; one that sets nothing keeps all that is its side's. -/
import Derived.Test.YtnjandhaeojieaaGreatLa45
set_option linter.unusedVariables false
set_option linter.unusedSimpArgs false
namespace Go.AM
open Go.Proofs.YtnjandhaeojieaaGreat
theorem part_of {l:List Va}{s:Int}(h:Xcc l s=true)(env:Bool):partE l s env=Xch l (maskE env l (Xap l s)):=by
 unfold partE
 rw[if_pos h]
end Go.AM
namespace Go.Proofs.YtnjandhaeojieaaGreat
open Go.AM
end Go.Proofs.YtnjandhaeojieaaGreat
set_option linter.unusedVariables false
set_option linter.unusedSimpArgs false
namespace Go.AM
open Go.Proofs.YtnjandhaeojieaaGreat
theorem envAt_get {l:List Va}{v:Int}(h:v.toNat<l.length):envAt l v=l[v.toNat].env:=by
 unfold envAt
 rw[List.getElem?_eq_getElem h];rfl
theorem state_eq {l:List Va}{x y:Int}(hp:Pos l)(hx:0≤x∧x<prodV l)(hy:0≤y∧y<prodV l)(h:∀ k:Nat,(Xap l x)[k]? =(Xap l y)[k]?):x=y:=by
 rw[←Xkr hp hx.1 hx.2,←Xkr hp hy.1 hy.2,List.ext_getElem? h]
end Go.AM
set_option linter.unusedVariables false
set_option linter.unusedSimpArgs false
namespace Go.AM
open Go.Proofs.YtnjandhaeojieaaGreat
theorem Xqc:∀ (m:Nat) (i:Int),(Xgd i m).Pairwise (·<·)
 | 0,_=>List.Pairwise.nil
 | m+1,i=>List.Pairwise.cons (fun x hx=>by have:=(upFrom_mem.1 hx).1;omega) (Xqc m (i+1))
theorem Xly {l:List Va}{xs:List Int}{b:Bool}{k:Nat}(h:k<l.length)(hx:xs.length=l.length):(maskE b l xs)[k]? =if l[k].env=b then xs[k]? else some (lowV l[k]):=by
 rw[maskE_get h (by omega),List.getElem?_eq_getElem (show k<xs.length by omega)]
 split<;>rfl
theorem pick_iff {l:List Va}{S x:Int}(hm:mayV l=0)(hS:Xcc l S=true)(h0:0≤x)(h1:x<prodV l):pickE l x=true↔∀ k (h:k<l.length),l[k].env≠true→(Xap l x)[k]? =(Xap l (partE l S true))[k]? :=by
 obtain ⟨ht,hp,hP⟩:=Xcp hm
 have okx:Xcc l x=true:=valuesOk_iff.2 ⟨hm,h0,by rw[ht];exact h1⟩
 have hr:=Xcx hp h0
 have hrS:=Xcx hp (valuesOk_iff.1 hS).2.1
 have hq:=Xmv (env:=true) hp hr
 have e:pickE l x=true↔maskE true l (Xap l x)=Xap l x:=by
  unfold pickE
  rw[decide_eq_true h0,Bool.true_and,beq_iff_eq,part_of okx]
  constructor
  ·intro h
   have:=congrArg (Xap l) h
   rw[Xej hp hq] at this
   exact this
  ·intro h
   rw[h];exact Xkr hp h0 h1
 rw[e,part_of hS,Xej hp (Xmv hp hrS)]
 constructor
 ·intro h k hk c
  rw[Xly hk hrS.len,if_neg c,←h,Xly hk hr.len,if_neg c]
 ·intro h
  apply List.ext_getElem?
  intro k
  by_cases hk:k<l.length
  ·rw[Xly hk hr.len]
   by_cases c:l[k].env=true
   ·rw[if_pos c]
   ·rw[if_neg c,h k hk c,Xly hk hrS.len,if_neg c]
  ·rw[List.getElem?_eq_none (by rw[Xnh hr.len];omega),List.getElem?_eq_none (by rw[hr.len];omega)]
theorem of_pick_iff {l:List Va}{S P x:Int}(hm:mayV l=0)(hS:Xcc l S=true)(hP:Xcc l P=true)(h0:0≤x)(h1:x<prodV l):(partE l x true==partE l P true)=true↔∀ k (h:k<l.length),l[k].env≠false→(Xap l x)[k]? =(Xap l (Xru l S (partE l P true)))[k]? :=by
 obtain ⟨ht,hp,_⟩:=Xcp hm
 have okx:Xcc l x=true:=valuesOk_iff.2 ⟨hm,h0,by rw[ht];exact h1⟩
 have hr:=Xcx hp h0
 have hrS:=Xcx hp (valuesOk_iff.1 hS).2.1
 have hrP:=Xcx hp (valuesOk_iff.1 hP).2.1
 have hq:=Xmv (env:=true) hp hr
 have hqP:=Xmv (env:=true) hp hrP
 have e:(partE l x true==partE l P true)=true↔maskE true l (Xap l x)=maskE true l (Xap l P):=by
  rw[beq_iff_eq,part_of okx,part_of hP]
  constructor
  ·intro h
   have:=congrArg (Xap l) h
   rw[Xej hp hq,Xej hp hqP] at this
   exact this
  ·intro h
   rw[h]
 have em:Xap l (Xru l S (partE l P true))=mixE l (Xap l S) (maskE true l (Xap l P)):=by
  unfold Xru
  rw[part_of hP,Xej hp hqP,Xej hp (InR_mix hrS hqP)]
 rw[e,em]
 have gm:∀ k (h:k<l.length),l[k].env≠false→(mixE l (Xap l S) (maskE true l (Xap l P)))[k]? =(Xap l P)[k]? :=by
  intro k hk c
  have c':l[k].env=true:=by simpa using c
  have a:=Xly (b:=true) hk hrP.len
  rw[if_pos c',List.getElem?_eq_getElem (show k<(maskE true l (Xap l P)).length by rw[hqP.len];exact hk)] at a
  rw[mixE_get hk (by rw[hrS.len];exact hk) (by rw[hqP.len];exact hk),if_pos c',a]
 constructor
 ·intro h k hk c
  have c':l[k].env=true:=by simpa using c
  rw[gm k hk c]
  have:=congrArg (fun z=>z[k]?) h
  rw[Xly hk hr.len,Xly hk hrP.len,if_pos c',if_pos c'] at this
  exact this
 ·intro h
  apply List.ext_getElem?
  intro k
  by_cases hk:k<l.length
  ·rw[Xly hk hr.len,Xly hk hrP.len]
   by_cases c:l[k].env=true
   ·rw[if_pos c,if_pos c,h k hk (by simp[c]),gm k hk (by simp[c])]
   ·rw[if_neg c,if_neg c]
  ·rw[List.getElem?_eq_none (by rw[Xnh hr.len];omega),List.getElem?_eq_none (by rw[Xnh hrP.len];omega)]
def cnt (n:Nat)(f:Int→Bool):Nat:=((Xgd 0 n).filter f).length
end Go.AM
