/- The document's own answers: State, Part, picks, where a play may begin. -/
import Derived.Test.YtnjandhaeojieaaGreatLa45
set_option linter.unusedVariables false
set_option linter.unusedSimpArgs false
namespace Go.Proofs.YtnjandhaeojieaaGreat
open Go.AM
theorem refStateB {h:H}{l t:T}{xs:List Int}(hx:Ints t xs)(hl:l.len≤6)(hso:∀ v∈Xaa l,Xdt v=0)(hp:Pos (Xaa l))(hr:InR (Xaa l) xs)(hz:∀ a b x y z,Xcg h a b x y z=ri (sizeV ⟨a,b,x,y,z⟩)):
  ∀ m i,i+m=l.len→∀ N (acc w:Int),m<N→0≤acc→acc<w→w*prodV ((Xaa l).drop i)≤512→Xdl.B0 h N t acc w l (l.len:Int) (i:Int)=some (lookR [(0,T.i (acc+w*Xch ((Xaa l).drop i) (xs.drop i))),(1,T.b true)])
 | 0,i,hi,N,acc,w,hN,h0,h1,h2=>by
  obtain ⟨N,rfl⟩:∃ M,N=M+1:=⟨N-1,by omega⟩
  rw[Xdl.B0_eq,List.drop_of_length_le (by rw[Xbj];omega)]
  refine Xac (decide_eq_false (by omega)) ?_
  simp[Xch]
 | m+1,i,hi,N,acc,w,hN,h0,h1,h2=>by
  obtain ⟨N,rfl⟩:∃ M,N=M+1:=⟨N-1,by omega⟩
  have hlt:i<l.len:=by omega
  have hxl:xs.length=l.len:=by rw[hr.len,Xbj]
  have hm1:i<(Xaa l).length:=by rw[Xbj];exact hlt
  have ev:(Xaa l)[i]=vaAt l i:=by
   have:=Xds l hlt
   rw[List.getElem?_eq_getElem hm1] at this
   exact Option.some.inj this
  have hmem:vaAt l i∈Xaa l:=List.mem_of_getElem? (Xds l hlt)
  obtain ⟨g1,g2⟩:=hr.get hm1 (by omega)
  rw[ev] at g1 g2
  have hsz:=hp _ hmem
  have hsr:=Xfx (vaAt l i)
  have hlr:=Xvt hsz
  have elow:(l.el i 3).int=lowV (vaAt l i):=(Xui (hso _ hmem)).symm
  have ex:(t.el i 0).int=xs[i]:=hx.el0 (by omega)
  have hP1:=Xne (hp.drop (i+1))
  have ed:(Xaa l).drop i=vaAt l i::(Xaa l).drop (i+1):=by rw[List.drop_eq_getElem_cons hm1,ev]
  rw[ed] at h2
  simp only[prodV] at h2
  rw[←Int.mul_assoc] at h2
  have w1:w*sizeV (vaAt l i)*1≤w*sizeV (vaAt l i)*prodV ((Xaa l).drop (i+1)):=Int.mul_le_mul_of_nonneg_left (by omega) (Int.mul_nonneg (by omega) (by omega))
  rw[Int.mul_one] at w1
  obtain ⟨D,hD⟩:∃ D,D=xs[i]-lowV (vaAt l i):=⟨_,rfl⟩
  have d0:0≤D*w:=Int.mul_nonneg (by omega) (by omega)
  have d1:(D+1)*w≤sizeV (vaAt l i)*w:=Int.mul_le_mul_of_nonneg_right (by omega) (by omega)
  rw[Int.add_mul,Int.one_mul,Int.mul_comm (sizeV (vaAt l i)) w] at d1
  have ih:=refStateB hx hl hso hp hr hz m (i+1) (by omega) N (acc+D*w) (w*sizeV (vaAt l i)) (by omega) (by omega) (by omega) h2
  rw[Xdl.B0_eq,Int.toNat_natCast,ex,ed,List.drop_eq_getElem_cons (show i<xs.length by omega)]
  refine if_of (decide_eq_true (by omega)) (if_of (by simp;omega) (if_of (by have:=hx.1;simp;omega) (Xac (decide_eq_false (by omega)) (Xag (hz ..) ?_))))
  simp only[Xal,int_i]
  show (bif decide (xs[i]≥IntKind.wrap .i64 ((l.el i 3).int+sizeV (vaAt l i))) then _ else _)=_
  rw[Xaq (a:=(l.el i 3).int+sizeV (vaAt l i)) (by omega) (by omega)]
  refine Xac (decide_eq_false (by omega)) (Xag (hz ..) ?_)
  simp only[Xal,int_i]
  show Xdl.B0 h N t (IntKind.wrap .i64 (acc+IntKind.wrap .i64 (IntKind.wrap .i64 (xs[i]-(l.el i 3).int)*w))) (IntKind.wrap .i64 (w*sizeV (vaAt l i))) l _ (IntKind.wrap .i64 ((i:Int)+1))=_
  rw[elow,←hD,Xaq (a:=D) (by omega) (by omega),Xaq (a:=D*w) (by omega) (by omega),Xaq (a:=acc+D*w) (by omega) (by omega),Xaq (a:=w*sizeV (vaAt l i)) (by omega) (by omega),Xaq (a:=(i:Int)+1) (by omega) (by omega)]
  refine ih.trans ?_
  simp only[Xch]
  rw[←hD,Int.mul_add,Int.mul_comm D w,Int.mul_assoc,Int.add_assoc]
theorem refState_sp (l:T)(hl:l.len≤9223372036854775807)(hm:mayV (Xaa l)=0):Ev fun N=>∀ t xs,Ints t xs→InR (Xaa l) xs→Xjo (K N) l t=some (lookR [(0,T.i (Xch (Xaa l) xs)),(1,T.b true)]):=by
 have h6:=Xhl (Xfa hm)
 rw[Xbj] at h6
 obtain ⟨ht,hp,hP⟩:=Xcp hm
 refine Ev.step (Ev.imp3 (Xkx l hl) Xmz (Ev.ge 10) fun N h1 h2 hN t xs hx hr=> ?_)
 have hxl:xs.length=l.len:=by rw[hr.len,Xbj]
 rw[Xuv]
 refine Xag h1 (Xac (by simp[Xal,int_i,hm]) (Xac (by rw[hx.1,hxl];simp) ?_))
 have:=refStateB hx (by omega) (fun v hv=>(Xkq (Xfa hm) v hv).1) hp hr h2 l.len 0 (by omega) N 0 1 (by omega) (by omega) (by omega) (by rw[List.drop_zero,Int.one_mul];exact hP)
 rw[List.drop_zero,List.drop_zero,Int.zero_add,Int.one_mul] at this
 exact this
theorem refPartB {h:H}{l:T}{env:Bool}{xs:List Int}(hl:l.len≤6)(hso:∀ v∈Xaa l,Xdt v=0)(hp:Pos (Xaa l))(hr:InR (Xaa l) xs)
  (hs:∀ t xs,Ints t xs→InR (Xaa l) xs→Xjo h l t=some (lookR [(0,T.i (Xch (Xaa l) xs)),(1,T.b true)])):
  ∀ m i,i+m=l.len→∀ N,2*m<N→∀ g:Nat→Nat→T,(∀ j (hj:j<xs.length),(g j 0).int=if j<i∧(vaAt l j).env≠env then lowV (vaAt l j) else xs[j])→
   Xbz.B0 h N l.len l env l (l.len:Int) (i:Int) g=ri (Xch (Xaa l) (maskE env (Xaa l) xs))
 | 0,i,hi,N,hN,g,hg=>by
  obtain ⟨N,rfl⟩:∃ M,N=M+1:=⟨N-1,by omega⟩
  have hxl:xs.length=l.len:=by rw[hr.len,Xbj]
  rw[Xbz.B0_eq]
  refine Xac (decide_eq_false (by omega)) (Xag (hs _ (maskE env (Xaa l) xs) ⟨?_,fun j v hj=> ?_⟩ (Xmv hp hr)) (by simp[Xal,int_i];rfl))
  ·rw[Xnh hr.len,Xbj];rfl
  ·have hj':j<l.len:=by
    have:=(List.getElem?_eq_some_iff.1 hj).1
    rwa [Xnh hr.len,Xbj] at this
   have hj1:j<(Xaa l).length:=by rw[Xbj];exact hj'
   rw[maskE_get hj1 (by omega)] at hj
   have ev:(Xaa l)[j]=vaAt l j:=by
    have:=Xds l hj'
    rw[List.getElem?_eq_getElem hj1] at this
    exact Option.some.inj this
   rw[ev] at hj
   rw[←Option.some.inj hj]
   show (g (0+j) 0).int=_
   rw[Nat.zero_add,hg j (by omega)]
   by_cases c:(vaAt l j).env=env
   ·rw[if_pos c,if_neg (fun q=>q.2 c)]
   ·rw[if_neg c,if_pos ⟨by omega,c⟩]
 | m+1,i,hi,N,hN,g,hg=>by
  obtain ⟨N,rfl⟩:∃ M,N=M+1+1:=⟨N-2,by omega⟩
  have hlt:i<l.len:=by omega
  have hxl:xs.length=l.len:=by rw[hr.len,Xbj]
  have hmem:vaAt l i∈Xaa l:=List.mem_of_getElem? (Xds l hlt)
  have elow:(l.el i 3).int=lowV (vaAt l i):=(Xui (hso _ hmem)).symm
  rw[Xbz.B0_eq,Int.toNat_natCast]
  refine if_of (decide_eq_true (by omega)) (if_of (by simp;omega) ?_)
  by_cases c:(l.el i 1).bool=env
  ·refine Xac (by rw[c];simp) ?_
   rw[Xbz.B1_eq,Xaq (a:=(i:Int)+1) (by omega) (by omega)]
   refine refPartB hl hso hp hr hs m (i+1) (by omega) N (by omega) g fun j hj=> ?_
   rw[hg j hj]
   by_cases d:j<i∧(vaAt l j).env≠env
   ·rw[if_pos d,if_pos ⟨by omega,d.2⟩]
   ·rw[if_neg d,if_neg]
    rintro ⟨q1,q2⟩
    by_cases e:j=i
    ·subst e;exact q2 c
    ·exact d ⟨by omega,q2⟩
  ·refine if_of (by simpa using c) (if_of (by simp;omega) (if_of (decide_eq_true (by omega)) ?_))
   rw[Xbz.B1_eq,Xaq (a:=(i:Int)+1) (by omega) (by omega)]
   refine refPartB hl hso hp hr hs m (i+1) (by omega) N (by omega) _ fun j hj=> ?_
   by_cases e:j=i
   ·subst e
    rw[if_pos ⟨by omega,c⟩]
    show (bif j==0+j&&Nat.ble 0 0&&Nat.blt 0 1 then _ else _:T).int=_
    rw[show (j==0+j)=true by simp]
    exact elow
   ·show (bif j==0+i&&Nat.ble 0 0&&Nat.blt 0 1 then _ else _:T).int=_
    rw[show (j==0+i)=false by simpa using e]
    show (g j 0).int=_
    rw[hg j hj]
    by_cases d:j<i∧(vaAt l j).env≠env
    ·rw[if_pos d,if_pos ⟨by omega,d.2⟩]
    ·rw[if_neg d,if_neg (fun q=>d ⟨by omega,q.2⟩)]
theorem refPart_sp (l:T)(hl:l.len≤9223372036854775807)(hm:mayV (Xaa l)=0):Ev fun N=>∀ s env,Xin (K N) l s env=ri (partE (Xaa l) s env):=by
 have h6:=Xhl (Xfa hm)
 rw[Xbj] at h6
 obtain ⟨ht,hp,hP⟩:=Xcp hm
 refine Ev.step (Ev.imp3 (Xrn l hl) (refState_sp l hl hm) (Ev.ge 20) fun N h1 h3 hN s env=> ?_)
 obtain ⟨t,e,ev⟩:=h1 s
 rw[Xwr]
 unfold partE
 cases c:Xcc (Xaa l) s with
 | false=>
  rw[c] at e
  exact Xag e (if_of rfl rfl)
 | true=>
  rw[c] at e
  have hx:=ev c
  obtain ⟨_,s0,s1⟩:=valuesOk_iff.1 c
  have hr:=Xcx hp s0
  refine Xag e (Xac rfl ?_)
  have hlen:t.len=l.len:=by rw[hx.1,hr.len,Xbj]
  show Xbz.B0 (K N) N t.len l env l (l.len:Int) 0 (fun i j=>t.el i j)=_
  rw[hlen,if_pos rfl]
  refine refPartB (by omega) (fun v hv=>(Xkq (Xfa hm) v hv).1) hp hr h3 l.len 0 (by omega) N (by omega) _ fun j hj=> ?_
  rw[if_neg (fun q=>absurd q.1 (Nat.not_lt_zero _))]
  exact hx.el0 hj
theorem Xtd (l:T)(hl:l.len≤9223372036854775807)(hm:mayV (Xaa l)=0):Ev fun N=>∀ s,Xgv (K N) l s=rb (pickE (Xaa l) s):=by
 refine Ev.step ((refPart_sp l hl hm).imp fun N h1 s=> ?_)
 rw[Xwl]
 by_cases c:0≤s
 ·have e:pickE (Xaa l) s=(partE (Xaa l) s true==s):=by unfold pickE;rw[decide_eq_true c,Bool.true_and]
  rw[e]
  exact if_of (decide_eq_true c) (Xag (h1 s true) (by rw[Xal];rfl))
 ·have e:pickE (Xaa l) s=false:=by unfold pickE;rw[decide_eq_false c,Bool.false_and]
  rw[e]
  exact Xac (decide_eq_false c) rfl
section
variable (l k1 k2 te ts ta tn tp:T)(hl:l.len≤9223372036854775807)(h1:KW k1)(h2:KW k2)(he:KC te)(hs:KC ts)(ha:KW ta)(hn:KW tn)(hp:KW tp)
include hl h1 h2 he hs ha hn hp
theorem refInitEnv_sp (o1 n1 o2 n2:Int):Ev fun N=>Gives (Xek ⟨Xaa l,.mk o1 n1 (Xad k1),.mk o2 n2 (Xad k2),Xca te,Xca ts,Xad ta,Xad tn,Xad tp⟩) (Xif (K N) l o1 n1 k1 o2 n2 k2 te ts ta tn tp):=by
 by_cases c:mayM ⟨Xaa l,.mk o1 n1 (Xad k1),.mk o2 n2 (Xad k2),Xca te,Xca ts,Xad ta,Xad tn,Xad tp⟩=0
 case neg=>
  refine Ev.step ((Xgf l hl k1 k2 te ts ta tn tp h1 h2 he hs ha hn hp).imp fun N b1=> ?_)
  rw[Xmi]
  unfold Xek
  rw[if_pos c]
  exact Gives.bind (b1 ..) (Gives.of (by rw[Xal];show (mayM _ != 0)=true;simpa using c) Xfn)
 have cm:=(Xfe c).1
 simp only at cm
 obtain ⟨ht,hpos,hP⟩:=Xcp cm
 have hr:=Xgy (Xaa l)
 obtain ⟨tot,htot⟩:∃ tot:Nat,Xcz (Xaa l)=(tot:Int):=⟨(Xcz (Xaa l)).toNat,by omega⟩
 refine Ev.step (Ev.imp4 (Xgf l hl k1 k2 te ts ta tn tp h1 h2 he hs ha hn hp) (Xkk l hl cm) (Ev.and (Xtd l hl cm) (Xtb l hl k1 h1)) (Ev.ge 2000) fun N b1 b2 b34 hN=> ?_)
 obtain ⟨b3,b4⟩:=b34
 have b1:=b1 o1 n1 o2 n2
 rw[c] at b1
 rw[Xmi]
 unfold Xek
 rw[if_neg (by simpa using c)]
 simp only[htot,Int.toNat_natCast] at b2 hr ⊢
 refine Gives.bind b1 (Gives.not (by rw[Xal];rfl) (Gives.bind b2 ?_))
 rw[Xal,int_i]
 have:=someB (B:=fun M n i g=>Xbq.B0 (K N) M n (tot:Int) i l o1 n1 k1 o2 n2 k2 te ts ta tn tp g) (f:=fun s=>pickE (Xaa l) s&&trueE (Xaa l) (.mk o1 n1 (Xad k1)) s s) (tot:=tot) (by omega) (fun M n i g hi=> ?_) (fun M n g=> ?_) tot 0 (by omega) N 0 (fun _ _=> .b false) (by omega) (Nat.le_refl _)
 ·obtain ⟨n',g',e1,e2⟩:=this
  exact ⟨_,e1,Xgu (by rw[e2];rfl)⟩
 ·rw[Xbq.B0_eq]
  refine if_of (decide_eq_true (by omega)) (Xag (b3 i) ?_)
  rw[Xal,Xbq.B1_eq,Xbq.B1_eq,Xaq (a:=(i:Int)+1) (by omega) (by omega)]
  show (bif pickE (Xaa l) i then _ else _)=_
  cases d:pickE (Xaa l) (i:Int) with
  | true=>
   refine if_of rfl (Xag (b4 o1 n1 i i) ?_)
   rw[Xal]
   rfl
  | false=>rfl
 ·rw[Xbq.B0_eq]
  exact Xac (decide_eq_false (by omega)) rfl
theorem refInitSys_sp (o1 n1 o2 n2 p:Int):Ev fun N=>Gives (Xft ⟨Xaa l,.mk o1 n1 (Xad k1),.mk o2 n2 (Xad k2),Xca te,Xca ts,Xad ta,Xad tn,Xad tp⟩ p) (Xgo (K N) l o1 n1 k1 o2 n2 k2 te ts ta tn tp p):=by
 by_cases c:mayM ⟨Xaa l,.mk o1 n1 (Xad k1),.mk o2 n2 (Xad k2),Xca te,Xca ts,Xad ta,Xad tn,Xad tp⟩=0
 case neg=>
  refine Ev.step ((Xgf l hl k1 k2 te ts ta tn tp h1 h2 he hs ha hn hp).imp fun N b1=> ?_)
  rw[Xmh]
  unfold Xft
  rw[if_pos c]
  exact Gives.bind (b1 ..) (Gives.of (by rw[Xal];show (mayM _ != 0)=true;simpa using c) Xfn)
 have cm:=(Xfe c).1
 simp only at cm
 obtain ⟨ht,hpos,hP⟩:=Xcp cm
 have hr:=Xgy (Xaa l)
 obtain ⟨tot,htot⟩:∃ tot:Nat,Xcz (Xaa l)=(tot:Int):=⟨(Xcz (Xaa l)).toNat,by omega⟩
 refine Ev.step (Ev.imp4 (Xgf l hl k1 k2 te ts ta tn tp h1 h2 he hs ha hn hp) (Xkk l hl cm) (Ev.and (Xtd l hl cm) (Ev.and (refPart_sp l hl cm) (Xtb l hl k2 h2))) (Ev.ge 2000) fun N b1 b2 b34 hN=> ?_)
 obtain ⟨b3,b5,b4⟩:=b34
 have b1:=b1 o1 n1 o2 n2
 rw[c] at b1
 rw[Xmh]
 unfold Xft
 rw[if_neg (by simpa using c)]
 simp only[htot,Int.toNat_natCast] at b2 hr ⊢
 refine Gives.bind b1 (Gives.not (by rw[Xal];rfl) (Gives.bind (b3 p) ?_))
 rw[Xal]
 show Gives _ (bif !(pickE (Xaa l) p) then _ else _)
 cases hpk:pickE (Xaa l) p with
 | false=>rw[if_pos rfl];exact Gives.of rfl Xfn
 | true=>
 rw[if_neg (by simp)]
 refine Gives.not rfl (Gives.bind b2 ?_)
 rw[Xal,int_i]
 have:=someB (B:=fun M n i g=>Xbp.B0 (K N) M n p (tot:Int) i l o1 n1 k1 o2 n2 k2 te ts ta tn tp g) (f:=fun s=>(partE (Xaa l) s true==p)&&trueE (Xaa l) (.mk o2 n2 (Xad k2)) s s) (tot:=tot) (by omega) (fun M n i g hi=> ?_) (fun M n g=> ?_) tot 0 (by omega) N 0 (fun _ _=> .b false) (by omega) (Nat.le_refl _)
 ·obtain ⟨n',g',e1,e2⟩:=this
  exact ⟨_,e1,Xgu (by rw[e2];rfl)⟩
 ·rw[Xbp.B0_eq]
  refine if_of (decide_eq_true (by omega)) (Xag (b5 i true) ?_)
  rw[Xal,int_i,Xbp.B1_eq,Xbp.B1_eq,Xaq (a:=(i:Int)+1) (by omega) (by omega)]
  cases d:(partE (Xaa l) (i:Int) true==p) with
  | true=>
   refine if_of rfl (Xag (b4 o2 n2 i i) ?_)
   rw[Xal]
   rfl
  | false=>rfl
 ·rw[Xbp.B0_eq]
  exact Xac (decide_eq_false (by omega)) rfl
end
end Go.Proofs.YtnjandhaeojieaaGreat
