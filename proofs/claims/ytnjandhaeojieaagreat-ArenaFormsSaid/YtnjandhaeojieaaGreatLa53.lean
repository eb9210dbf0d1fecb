/- The document's own answer: does a command lead there? -/
import Derived.Test.YtnjandhaeojieaaGreatLa52
set_option linter.unusedVariables false
set_option linter.unusedSimpArgs false
namespace Go.AM
open Go.Proofs.YtnjandhaeojieaaGreat
def wantE (l:List Va)(i:Int)(now next:Int):List Se→Int→Bool→Option (Int×Bool)
 | [],w,a=>some (w,a)
 | s::r,w,a=>if s.var=i then (if s.any=true then wantE l i now next r w true else if (Xfq l s.e now next).2≠0 then none else wantE l i now next r (Xfq l s.e now next).1 false) else wantE l i now next r w a
def hasE (x:Int):Option (Int×Bool)→Bool
 | none=>false
 | some (w,a)=>a||(x==w)
def Xua (f:Nat→Bool):Nat→Nat→Bool
 | _,0=>true
 | i,m+1=>f i&&Xua f (i+1) m
theorem Xte {f:Nat→Bool}:∀ {m i:Nat},Xua f i m=true↔∀ j,i≤j→j<i+m→f j=true
 | 0,i=>by simp only[Xua,true_iff];intro j h1 h2;omega
 | m+1,i=>by
  simp only[Xua,Bool.and_eq_true,Xte (m:=m)]
  constructor
  ·rintro ⟨h1,h2⟩ j a b
   by_cases c:j=i
   ·subst c;exact h1
   ·exact h2 j (by omega) (by omega)
  ·intro h
   exact ⟨h i (by omega) (by omega),fun j a b=>h j (by omega) (by omega)⟩
def doesE (l:List Va)(c:Cm)(env:Bool)(s next to:Int):Bool:=
 trueE l c.guard s next&&Xua (fun i=> !(envAt l (i:Int)==env)||hasE ((Xap l to).getD i 0) (wantE l i s next c.sets ((Xap l s).getD i 0) false)) 0 l.length
end Go.AM
namespace Go.Proofs.YtnjandhaeojieaaGreat
open Go.AM
section
variable {h:H}{l t:T}{env:Bool}{now next:Int}{gW gI:Nat→Nat→T}
theorem doesB2 {i:Nat}{o n:Int}{k:T}{nW nI:Nat}(hi:i<nI)(hI:nI≤100)(ht:t.len≤100)(hv:∀ j,j<t.len→∀ op n now next,Xgj h l op n (t.el j 4) now next=rii (Xfq (Xaa l) (.mk op n (Xad (t.el j 4))) now next).1 (Xfq (Xaa l) (.mk op n (Xad (t.el j 4))) now next).2)
  {c:Nat} {Q:Bool} {p9:T} {p10 p11:Int} (hk:∀ M,c≤M→Xar.B1 h M nW nI l env now next p9 p10 p11 o n k t gW gI=rb Q):
  ∀ m j,j+m=t.len→∀ N w a,c+2*m+1≤N→Xar.B2 h N nW nI l env now next (i:Int) w a p9 p10 p11 t (t.len:Int) (j:Int) o n k t gW gI=rb (hasE (gI i 0).int (wantE (Xaa l) i now next ((Xhy t).drop j) w a)&&Q)
 | 0,j,hj,N,w,a,hN=>by
  obtain ⟨N,rfl⟩:∃ M,N=M+1:=⟨N-1,by omega⟩
  rw[Xar.B2_eq,List.drop_of_length_le (by rw[Xhm];omega)]
  refine Xac (decide_eq_false (by omega)) ?_
  simp only[wantE,hasE]
  cases a with
  | true=>exact Xac rfl (hk N (by omega))
  | false=>
   refine if_of rfl (if_of (by simp;omega) (if_of (decide_eq_true (by omega)) ?_))
   rw[Int.toNat_natCast,Nat.zero_add]
   by_cases c:(gI i 0).int=w
   ·refine Xac (by simpa using c) ((hk N (by omega)).trans ?_)
    rw[show ((gI i 0).int==w)=true by simpa using c]
    rfl
   ·refine if_of (by simpa using c) ?_
    rw[show ((gI i 0).int==w)=false by simpa using c]
    rfl
 | m+1,j,hj,N,w,a,hN=>by
  obtain ⟨N,rfl⟩:∃ M,N=M+1+1:=⟨N-2,by omega⟩
  have hlt:j<t.len:=by omega
  have ih:=fun w a=>doesB2 hi hI ht hv hk m (j+1) (by omega) N w a (by omega)
  rw[Xqd t hlt,Xar.B2_eq,Int.toNat_natCast]
  refine if_of (decide_eq_true (by omega)) (if_of (by simp;omega) ?_)
  simp only[wantE]
  by_cases c1:(t.el j 0).int=(i:Int)
  case neg=>
   rw[if_neg (show ¬(seAt t j).var=(i:Int) from c1)]
   refine if_of (by simpa using c1) ?_
   rw[Xar.B3_eq,Xaq (a:=(j:Int)+1) (by omega) (by omega)]
   exact ih w a
  rw[if_pos (show (seAt t j).var=(i:Int) from c1)]
  refine Xac (by simpa using c1) ?_
  cases c2:(t.el j 1).bool with
  | true=>
   rw[if_pos (show (seAt t j).any=true from c2)]
   refine Xac rfl ?_
   rw[Xar.B3_eq,Xaq (a:=(j:Int)+1) (by omega) (by omega)]
   exact ih w true
  | false=>
   rw[if_neg (show ¬(seAt t j).any=true by show ¬(t.el j 1).bool=true;rw[c2];simp)]
   refine if_of rfl (Xag (hv j hlt _ _ _ _) ?_)
   obtain ⟨X,hX⟩:∃ X,X=Xfq (Xaa l) (.mk (t.el j 2).int (t.el j 3).int (Xad (t.el j 4))) now next:=⟨_,rfl⟩
   have hX':Xfq (Xaa l) (seAt t j).e now next=X:=hX.symm
   rw[←hX,hX']
   by_cases c3:X.2=0
   ·rw[if_neg (by simpa using c3)]
    refine Xac (by show (X.2 != 0)=false;simpa using c3) ?_
    rw[Xar.B3_eq,Xaq (a:=(j:Int)+1) (by omega) (by omega)]
    exact ih X.1 false
   ·rw[if_pos c3]
    exact if_of (by show (X.2 != 0)=true;simpa using c3) rfl
theorem doesB0 {o n:Int}{k:T}{c1:Nat}(hc1:300≤c1)(hl:l.len≤6)(ht:t.len≤100)(hv:∀ j,j<t.len→∀ op n now next,Xgj h l op n (t.el j 4) now next=rii (Xfq (Xaa l) (.mk op n (Xad (t.el j 4))) now next).1 (Xfq (Xaa l) (.mk op n (Xad (t.el j 4))) now next).2):
  ∀ m i,i+m=l.len→∀ N,m*c1+1≤N→Xar.B0 h N l.len l.len l env now next l (l.len:Int) (i:Int) o n k t gW gI=rb (Xua (fun i=> !((l.el i 1).bool==env)||hasE (gI i 0).int (wantE (Xaa l) i now next (Xhy t) (gW i 0).int false)) i m)
 | 0,i,hi,N,hN=>by
  obtain ⟨N,rfl⟩:∃ M,N=M+1:=⟨N-1,by omega⟩
  rw[Xar.B0_eq]
  exact Xac (decide_eq_false (by omega)) rfl
 | m+1,i,hi,N,hN=>by
  have hsm:(m+1)*c1=m*c1+c1:=Nat.succ_mul m c1
  obtain ⟨N,rfl⟩:∃ M,N=M+1+1:=⟨N-2,by omega⟩
  have hlt:i<l.len:=by omega
  have next':∀ M,m*c1+2≤M→Xar.B1 h M l.len l.len l env now next l (l.len:Int) (i:Int) o n k t gW gI=rb (Xua (fun i=> !((l.el i 1).bool==env)||hasE (gI i 0).int (wantE (Xaa l) i now next (Xhy t) (gW i 0).int false)) (i+1) m):=by
   intro M hM
   obtain ⟨M,rfl⟩:∃ M',M=M'+1:=⟨M-1,by omega⟩
   rw[Xar.B1_eq,Xaq (a:=(i:Int)+1) (by omega) (by omega)]
   exact doesB0 hc1 hl ht hv m (i+1) (by omega) M (by omega)
  rw[Xar.B0_eq,Int.toNat_natCast]
  refine if_of (decide_eq_true (by omega)) (if_of (by simp;omega) ?_)
  simp only[Xua]
  cases c:((l.el i 1).bool==env) with
  | false=>exact if_of rfl ((next' _ (by omega)).trans rfl)
  | true=>
   refine Xac rfl (if_of (by simp;omega) (if_of (decide_eq_true (by omega)) ?_))
   rw[Nat.zero_add]
   have:=doesB2 (h:=h) (l:=l) (t:=t) (env:=env) (now:=now) (next:=next) (gW:=gW) (gI:=gI) (nW:=l.len) (nI:=l.len) hlt (by omega) ht hv (c:=m*c1+2) next' t.len 0 (by omega) (N+1) (gW i 0).int false (by omega)
   rw[List.drop_zero] at this
   exact this
end
theorem does_sp (l:T)(hl:l.len≤9223372036854775807)(hm:mayV (Xaa l)=0)(k t:T)(hk:KW k)(ht:KS t)(h6:t.len≤6):Ev fun N=>∀ o n env s next to,Xcc (Xaa l) s=true→Xcc (Xaa l) to=true→Xkd (K N) l o n k t env s next to=rb (doesE (Xaa l) ⟨.mk o n (Xad k),Xhy t⟩ env s next to):=by
 have hl6:=Xhl (Xfa hm)
 rw[Xbj] at hl6
 obtain ⟨htot,hp,hP⟩:=Xcp hm
 refine Ev.step (Ev.imp4 (Xtb l hl k hk) (Xrn l hl) (Ev.all (k:=t.len) fun j hj=>refValue_sp l hl (t.el j 4) (ht.2 j hj)) (Ev.ge 10000) fun N h1 h2 h3 hN o n env s next to cs ct=> ?_)
 obtain ⟨t1,e1,v1⟩:=h2 s
 obtain ⟨t2,e2,v2⟩:=h2 to
 have i1:=v1 cs
 have i2:=v2 ct
 have r1:=(Xcx hp (valuesOk_iff.1 cs).2.1).len
 have r2:=(Xcx hp (valuesOk_iff.1 ct).2.1).len
 rw[Xbj] at r1 r2
 have l1:t1.len=l.len:=by rw[i1.1,r1]
 have l2:t2.len=l.len:=by rw[i2.1,r2]
 rw[Xwo]
 unfold doesE
 simp only
 refine Xag (h1 o n s next) ?_
 rw[Xal]
 show (bif !(trueE (Xaa l) (.mk o n (Xad k)) s next) then _ else _)=_
 cases c:trueE (Xaa l) (.mk o n (Xad k)) s next with
 | false=>exact if_of rfl rfl
 | true=>
  refine Xac rfl (Xag e1 (Xag e2 ?_))
  show Xar.B0 (K N) N t1.len t2.len l env s next l (l.len:Int) 0 o n k t (fun i j=>t1.el i j) (fun i j=>t2.el i j)=_
  rw[l1,l2,Bool.true_and,Xbj]
  refine (doesB0 (c1:=300) (by omega) (by omega) (by omega) h3 l.len 0 (by omega) N (by omega)).trans (congrArg rb ?_)
  have ex:∀ f g:Nat→Bool,(∀ i,i<l.len→f i=g i)→Xua f 0 l.len=Xua g 0 l.len:=by
   intro f g hfg
   rw[Bool.eq_iff_iff,Xte,Xte]
   constructor
   ·intro h j a b;rw[←hfg j (by omega)];exact h j a b
   ·intro h j a b;rw[hfg j (by omega)];exact h j a b
  refine ex _ _ fun i hi=> ?_
  have a1:(t1.el i 0).int=(Xap (Xaa l) s).getD i 0:=by
   rw[i1.el0 (show i<(Xap (Xaa l) s).length by omega),List.getD_eq_getElem?_getD,List.getElem?_eq_getElem (by omega)];rfl
  have a2:(t2.el i 0).int=(Xap (Xaa l) to).getD i 0:=by
   rw[i2.el0 (show i<(Xap (Xaa l) to).length by omega),List.getD_eq_getElem?_getD,List.getElem?_eq_getElem (by omega)];rfl
  rw[a1,a2,Xql (l:=l) (v:=(i:Int)) (by omega) (by omega),Int.toNat_natCast]
end Go.Proofs.YtnjandhaeojieaaGreat
set_option linter.unusedVariables false
set_option linter.unusedSimpArgs false
namespace Go.AM
open Go.Proofs.YtnjandhaeojieaaGreat
def Xrq (m:Md)(s:Int):List Int:=if mayM m≠0 then [] else if Xcc m.vars s=false then [] else (Xgd 0 (Xcz m.vars).toNat).filter fun p=>m.env.any fun c=>pickE m.vars p&&doesE m.vars c true s s p
def Xro (m:Md)(s p:Int):List Int:=if mayM m≠0 then [] else if Xcc m.vars s=false then [] else if pickE m.vars p=false then [] else (Xgd 0 (Xcz m.vars).toNat).filter fun x=>m.sys.any fun c=>(partE m.vars x true==p)&&doesE m.vars c false s p x
end Go.AM
namespace Go.Proofs.YtnjandhaeojieaaGreat
open Go.AM
theorem someBk {B:Nat→Nat→Int→(Nat→Nat→T)→Option R}{f:Int→Bool}{tot k:Nat}(ht:tot≤512)
  (hB:∀ M n (i:Nat) g,i<tot→B (M+k) n (i:Int) g=(bif f i then (bif decide ((n+1)*8≤140737488355328) then B M (n+1) ((i+1:Nat):Int) (pushG n g i) else none) else B M n ((i+1:Nat):Int) g))
  (hE:∀ M n g,B (M+1) n (tot:Int) g=some (lookR [(0,T.l n g)])):
  ∀ m i,i+m=tot→∀ N n g,m*k+1≤N→n≤i→∃ n' g',B N n (i:Int) g=some (lookR [(0,T.l n' g')])∧intsR n' g'=intsR n g++(Xgd (i:Int) m).filter f
 | 0,i,hi,N,n,g,hN,hn=>by
  obtain ⟨N,rfl⟩:∃ M,N=M+1:=⟨N-1,by omega⟩
  obtain rfl:i=tot:=by omega
  exact ⟨n,g,hE N n g,by simp[Xgd]⟩
 | m+1,i,hi,N,n,g,hN,hn=>by
  have hsm:(m+1)*k=m*k+k:=Nat.succ_mul m k
  obtain ⟨N,rfl⟩:∃ M,N=M+k:=⟨N-k,by omega⟩
  rw[hB N n i g (by omega)]
  simp only[Xgd]
  cases c:f (i:Int) with
  | true=>
   obtain ⟨n',g',e1,e2⟩:=someBk ht hB hE m (i+1) (by omega) N (n+1) (pushG n g i) (by omega) (by omega)
   refine ⟨n',g',if_of rfl (if_of (decide_eq_true (by omega)) e1),?_⟩
   rw[e2,Xib,List.filter_cons_of_pos c,List.append_assoc]
   rfl
  | false=>
   obtain ⟨n',g',e1,e2⟩:=someBk ht hB hE m (i+1) (by omega) N n g (by omega) (by omega)
   refine ⟨n',g',Xac rfl e1,?_⟩
   rw[e2,List.filter_cons_of_neg (by simp[c])]
   rfl
theorem cmdLoop {B:Nat→Bool→Int→Option R}{E:Nat→Bool→Option R}{t:T}{f:Cm→Bool}(hB:∀ M ok j,j<t.len→B (M+2) ok (j:Int)=B M (ok||f (cmAt t j)) ((j+1:Nat):Int))(hE:∀ M ok,B (M+1) ok (t.len:Int)=E M ok):
  ∀ m j,j+m=t.len→∀ M ok,B (M+2*m+1) ok (j:Int)=E M (ok||((Xca t).drop j).any f)
 | 0,j,hj,M,ok=>by
  obtain rfl:j=t.len:=by omega
  rw[List.drop_of_length_le (by rw[Xes];omega)]
  simpa using hE M ok
 | m+1,j,hj,M,ok=>by
  have ih:=cmdLoop hB hE m (j+1) (by omega) M (ok||f (cmAt t j))
  rw[show M+2*(m+1)+1=(M+2*m+1)+2 by omega,hB _ ok j (by omega),ih,Xuq t (show j<t.len by omega),List.any_cons,Bool.or_assoc]
section
variable (l k1 k2 te ts ta tn tp:T)(hl:l.len≤9223372036854775807)(h1:KW k1)(h2:KW k2)(he:KC te)(hs:KC ts)(ha:KW ta)(hn:KW tn)(hp:KW tp)
include hl h1 h2 he hs ha hn hp
theorem refEnv_sp (o1 n1 o2 n2 s:Int):Ev fun N=>Gives (Xrq ⟨Xaa l,.mk o1 n1 (Xad k1),.mk o2 n2 (Xad k2),Xca te,Xca ts,Xad ta,Xad tn,Xad tp⟩ s) (Xjc (K N) l o1 n1 k1 o2 n2 k2 te ts ta tn tp s):=by
 by_cases c:mayM ⟨Xaa l,.mk o1 n1 (Xad k1),.mk o2 n2 (Xad k2),Xca te,Xca ts,Xad ta,Xad tn,Xad tp⟩=0
 case neg=>
  refine Ev.step ((Xgf l hl k1 k2 te ts ta tn tp h1 h2 he hs ha hn hp).imp fun N b1=> ?_)
  rw[Xpx]
  unfold Xrq
  rw[if_pos c]
  exact Gives.bind (b1 ..) (Gives.of (by rw[Xal];show (mayM _ != 0)=true;simpa using c) Xfn)
 obtain ⟨cm,_,_,ce,_,_⟩:=Xfe c
 simp only at cm ce
 have ce:=firstE_zero.1 ce
 have hf:te.len≤12:=by
  have d:=Xvo c
  unfold fullM at d
  simp only[Xes,Bool.or_eq_false_iff,decide_eq_false_iff_not] at d
  omega
 obtain ⟨ht,hpos,hP⟩:=Xcp cm
 have hr:=Xgy (Xaa l)
 obtain ⟨tot,htot⟩:∃ tot:Nat,Xcz (Xaa l)=(tot:Int):=⟨(Xcz (Xaa l)).toNat,by omega⟩
 have h6:∀ j,j<te.len→(te.el j 3).len≤6:=fun j hj=>by
  have:=(Xpi (ce _ (List.mem_of_getElem? (Xtl te hj)))).2
  rw[←Xhm];exact this
 refine Ev.step (Ev.imp4 (Xgf l hl k1 k2 te ts ta tn tp h1 h2 he hs ha hn hp) (Xkk l hl cm) (Ev.and (Xtd l hl cm) (Ev.all (k:=te.len) fun j hj=>does_sp l hl cm (te.el j 2) (te.el j 3) (he.2 j hj).1 (he.2 j hj).2 (h6 j hj))) (Ev.ge 100000) fun N b1 b2 b34 hN=> ?_)
 obtain ⟨b3,b4⟩:=b34
 have b1:=b1 o1 n1 o2 n2
 rw[c] at b1
 rw[Xpx]
 unfold Xrq
 rw[if_neg (by simpa using c)]
 simp only[htot,Int.toNat_natCast] at b2 hr ⊢
 refine Gives.bind b1 (Gives.not (by rw[Xal];rfl) ?_)
 by_cases c1:s<0
 ·rw[if_pos (by
   cases q:Xcc (Xaa l) s with
   | false=>rfl
   | true=>have:=(valuesOk_iff.1 q).2.1;omega)]
  exact Gives.of (decide_eq_true c1) Xfn
 refine Gives.not (decide_eq_false c1) (Gives.bind b2 ?_)
 simp only[Xal,int_i]
 by_cases c2:(tot:Int)≤s
 ·rw[if_pos (by
   cases q:Xcc (Xaa l) s with
   | false=>rfl
   | true=>have:=(valuesOk_iff.1 q).2.2;omega)]
  exact Gives.of (decide_eq_true c2) Xfn
 have okS:Xcc (Xaa l) s=true:=valuesOk_iff.2 ⟨cm,by omega,by omega⟩
 rw[if_neg (by rw[okS];simp)]
 refine Gives.not (decide_eq_false c2) (Gives.bind b2 ?_)
 simp only[Xal,int_i]
 have:=someBk (k:=2*te.len+3) (B:=fun M n i g=>Xau.B0 (K N) M n s (tot:Int) i l o1 n1 k1 o2 n2 k2 te ts ta tn tp g) (f:=fun p=>(Xca te).any fun c=>pickE (Xaa l) p&&doesE (Xaa l) c true s s p) (tot:=tot) (by omega) (fun M n i g hi=> ?_) (fun M n g=> ?_) tot 0 (by omega) N 0 (fun _ _=> .b false) (by
   have:tot*(2*te.len+3)≤512*27:=Nat.mul_le_mul (by omega) (by omega)
   omega) (Nat.le_refl _)
 ·obtain ⟨n',g',e1,e2⟩:=this
  exact ⟨_,e1,Xgu (by rw[e2];rfl)⟩
 ·have okI:Xcc (Xaa l) (i:Int)=true:=valuesOk_iff.2 ⟨cm,by omega,by omega⟩
  have loop:=cmdLoop (t:=te) (B:=fun M ok j=>Xau.B1 (K N) M n s (i:Int) ok (tot:Int) (i:Int) te (te.len:Int) j l o1 n1 k1 o2 n2 k2 te ts ta tn tp g)
   (E:=fun M ok=>(bif ok then (bif decide ((n+1)*8≤140737488355328) then Xau.B3 (K N) M (n+1) s (tot:Int) (i:Int) l o1 n1 k1 o2 n2 k2 te ts ta tn tp (pushG n g i) else none) else Xau.B3 (K N) M n s (tot:Int) (i:Int) l o1 n1 k1 o2 n2 k2 te ts ta tn tp g))
   (f:=fun c=>pickE (Xaa l) i&&doesE (Xaa l) c true s s i) (fun M ok j hj=> ?_) (fun M ok=> ?_) te.len 0 (by omega) (M+1) false
  ·show Xau.B0 (K N) (M+(2*te.len+3)) n s (tot:Int) (i:Int) l o1 n1 k1 o2 n2 k2 te ts ta tn tp g=_
   rw[show M+(2*te.len+3)=(M+1+2*te.len+1)+1 by omega,Xau.B0_eq]
   refine if_of (decide_eq_true (by omega)) (loop.trans ?_)
   simp only[List.drop_zero,Bool.false_or]
   rw[Xau.B3_eq,Xau.B3_eq,Xaq (a:=(i:Int)+1) (by omega) (by omega)]
   rfl
  ·show Xau.B1 (K N) (M+2) n s (i:Int) ok (tot:Int) (i:Int) te (te.len:Int) (j:Int) l o1 n1 k1 o2 n2 k2 te ts ta tn tp g=_
   rw[Xau.B1_eq,Int.toNat_natCast]
   refine if_of (decide_eq_true (by omega)) (if_of (by simp;omega) ?_)
   rw[Xau.B2_eq,Xaq (a:=(j:Int)+1) (by omega) (by omega)]
   cases ok with
   | true=>exact if_of rfl rfl
   | false=>
    refine Xac rfl (Xag (b3 i) ?_)
    rw[Xal,Bool.false_or]
    show (bif pickE (Xaa l) i then _ else _)=_
    cases d:pickE (Xaa l) (i:Int) with
    | false=>
     refine Xac rfl ?_
     rw[Xau.B2_eq,Xaq (a:=(j:Int)+1) (by omega) (by omega)]
     rfl
    | true=>
     refine if_of rfl (Xag (b4 j hj _ _ true s s i okS okI) ?_)
     rw[Xal,Xau.B2_eq,Xaq (a:=(j:Int)+1) (by omega) (by omega)]
     rfl
  ·show Xau.B1 (K N) (M+1) n s (i:Int) ok (tot:Int) (i:Int) te (te.len:Int) (te.len:Int) l o1 n1 k1 o2 n2 k2 te ts ta tn tp g=_
   rw[Xau.B1_eq]
   exact Xac (decide_eq_false (by omega)) rfl
 ·rw[Xau.B0_eq]
  exact Xac (decide_eq_false (by omega)) rfl
theorem refSys_sp (o1 n1 o2 n2 s p:Int):Ev fun N=>Gives (Xro ⟨Xaa l,.mk o1 n1 (Xad k1),.mk o2 n2 (Xad k2),Xca te,Xca ts,Xad ta,Xad tn,Xad tp⟩ s p) (Xjb (K N) l o1 n1 k1 o2 n2 k2 te ts ta tn tp s p):=by
 by_cases c:mayM ⟨Xaa l,.mk o1 n1 (Xad k1),.mk o2 n2 (Xad k2),Xca te,Xca ts,Xad ta,Xad tn,Xad tp⟩=0
 case neg=>
  refine Ev.step ((Xgf l hl k1 k2 te ts ta tn tp h1 h2 he hs ha hn hp).imp fun N b1=> ?_)
  rw[Xpv]
  unfold Xro
  rw[if_pos c]
  exact Gives.bind (b1 ..) (Gives.of (by rw[Xal];show (mayM _ != 0)=true;simpa using c) Xfn)
 obtain ⟨cm,_,_,_,ce,_⟩:=Xfe c
 simp only at cm ce
 have ce:=firstE_zero.1 ce
 have hf:ts.len≤12:=by
  have d:=Xvo c
  unfold fullM at d
  simp only[Xes,Bool.or_eq_false_iff,decide_eq_false_iff_not] at d
  omega
 obtain ⟨ht,hpos,hP⟩:=Xcp cm
 have hr:=Xgy (Xaa l)
 obtain ⟨tot,htot⟩:∃ tot:Nat,Xcz (Xaa l)=(tot:Int):=⟨(Xcz (Xaa l)).toNat,by omega⟩
 have h6:∀ j,j<ts.len→(ts.el j 3).len≤6:=fun j hj=>by
  have:=(Xpi (ce _ (List.mem_of_getElem? (Xtl ts hj)))).2
  rw[←Xhm];exact this
 refine Ev.step (Ev.imp4 (Xgf l hl k1 k2 te ts ta tn tp h1 h2 he hs ha hn hp) (Xkk l hl cm) (Ev.and (Xtd l hl cm) (Ev.and (refPart_sp l hl cm) (Ev.all (k:=ts.len) fun j hj=>does_sp l hl cm (ts.el j 2) (ts.el j 3) (hs.2 j hj).1 (hs.2 j hj).2 (h6 j hj)))) (Ev.ge 100000) fun N b1 b2 b34 hN=> ?_)
 obtain ⟨b3,b5,b4⟩:=b34
 have b1:=b1 o1 n1 o2 n2
 rw[c] at b1
 rw[Xpv]
 unfold Xro
 rw[if_neg (by simpa using c)]
 simp only[htot,Int.toNat_natCast] at b2 hr ⊢
 refine Gives.bind b1 (Gives.not (by rw[Xal];rfl) ?_)
 by_cases c1:s<0
 ·rw[if_pos (by
   cases q:Xcc (Xaa l) s with
   | false=>rfl
   | true=>have:=(valuesOk_iff.1 q).2.1;omega)]
  exact Gives.of (decide_eq_true c1) Xfn
 refine Gives.not (decide_eq_false c1) (Gives.bind b2 ?_)
 simp only[Xal,int_i]
 by_cases c2:(tot:Int)≤s
 ·rw[if_pos (by
   cases q:Xcc (Xaa l) s with
   | false=>rfl
   | true=>have:=(valuesOk_iff.1 q).2.2;omega)]
  exact Gives.of (decide_eq_true c2) Xfn
 have okS:Xcc (Xaa l) s=true:=valuesOk_iff.2 ⟨cm,by omega,by omega⟩
 rw[if_neg (by rw[okS];simp)]
 refine Gives.not (decide_eq_false c2) (Gives.bind (b3 p) ?_)
 rw[Xal]
 show Gives _ (bif !(pickE (Xaa l) p) then _ else _)
 cases hpk:pickE (Xaa l) p with
 | false=>rw[if_pos rfl];exact Gives.of rfl Xfn
 | true=>
 have okP:=pick_ok hpk
 rw[if_neg (by simp)]
 refine Gives.not rfl (Gives.bind b2 ?_)
 simp only[Xal,int_i]
 have:=someBk (k:=2*ts.len+3) (B:=fun M n i g=>Xat.B0 (K N) M n s p (tot:Int) i l o1 n1 k1 o2 n2 k2 te ts ta tn tp g) (f:=fun x=>(Xca ts).any fun c=>(partE (Xaa l) x true==p)&&doesE (Xaa l) c false s p x) (tot:=tot) (by omega) (fun M n i g hi=> ?_) (fun M n g=> ?_) tot 0 (by omega) N 0 (fun _ _=> .b false) (by
   have:tot*(2*ts.len+3)≤512*27:=Nat.mul_le_mul (by omega) (by omega)
   omega) (Nat.le_refl _)
 ·obtain ⟨n',g',e1,e2⟩:=this
  exact ⟨_,e1,Xgu (by rw[e2];rfl)⟩
 ·have okI:Xcc (Xaa l) (i:Int)=true:=valuesOk_iff.2 ⟨cm,by omega,by omega⟩
  have loop:=cmdLoop (t:=ts) (B:=fun M ok j=>Xat.B1 (K N) M n s p (i:Int) ok (tot:Int) (i:Int) ts (ts.len:Int) j l o1 n1 k1 o2 n2 k2 te ts ta tn tp g)
   (E:=fun M ok=>(bif ok then (bif decide ((n+1)*8≤140737488355328) then Xat.B3 (K N) M (n+1) s p (tot:Int) (i:Int) l o1 n1 k1 o2 n2 k2 te ts ta tn tp (pushG n g i) else none) else Xat.B3 (K N) M n s p (tot:Int) (i:Int) l o1 n1 k1 o2 n2 k2 te ts ta tn tp g))
   (f:=fun c=>(partE (Xaa l) i true==p)&&doesE (Xaa l) c false s p i) (fun M ok j hj=> ?_) (fun M ok=> ?_) ts.len 0 (by omega) (M+1) false
  ·show Xat.B0 (K N) (M+(2*ts.len+3)) n s p (tot:Int) (i:Int) l o1 n1 k1 o2 n2 k2 te ts ta tn tp g=_
   rw[show M+(2*ts.len+3)=(M+1+2*ts.len+1)+1 by omega,Xat.B0_eq]
   refine if_of (decide_eq_true (by omega)) (loop.trans ?_)
   simp only[List.drop_zero,Bool.false_or]
   rw[Xat.B3_eq,Xat.B3_eq,Xaq (a:=(i:Int)+1) (by omega) (by omega)]
   rfl
  ·show Xat.B1 (K N) (M+2) n s p (i:Int) ok (tot:Int) (i:Int) ts (ts.len:Int) (j:Int) l o1 n1 k1 o2 n2 k2 te ts ta tn tp g=_
   rw[Xat.B1_eq,Int.toNat_natCast]
   refine if_of (decide_eq_true (by omega)) (if_of (by simp;omega) ?_)
   rw[Xat.B2_eq,Xaq (a:=(j:Int)+1) (by omega) (by omega)]
   cases ok with
   | true=>exact if_of rfl rfl
   | false=>
    refine Xac rfl (Xag (b5 i true) ?_)
    rw[Xal,int_i,Bool.false_or]
    cases d:(partE (Xaa l) (i:Int) true==p) with
    | false=>
     refine Xac rfl ?_
     rw[Xat.B2_eq,Xaq (a:=(j:Int)+1) (by omega) (by omega)]
     rfl
    | true=>
     refine if_of rfl (Xag (b4 j hj _ _ false s p i okS okI) ?_)
     rw[Xal,Xat.B2_eq,Xaq (a:=(j:Int)+1) (by omega) (by omega)]
     rfl
  ·show Xat.B1 (K N) (M+1) n s p (i:Int) ok (tot:Int) (i:Int) ts (ts.len:Int) (ts.len:Int) l o1 n1 k1 o2 n2 k2 te ts ta tn tp g=_
   rw[Xat.B1_eq]
   exact Xac (decide_eq_false (by omega)) rfl
 ·rw[Xat.B0_eq]
  exact Xac (decide_eq_false (by omega)) rfl
end
end Go.Proofs.YtnjandhaeojieaaGreat
