/- What may be chosen: choice.Env, choice.Sys. -/
import Derived.Test.YtnjandhaeojieaaGreatLa40
import Derived.Test.YtnjandhaeojieaaGreatLa27
set_option linter.unusedVariables false
set_option linter.unusedSimpArgs false
namespace Go.AM
open Go.Proofs.YtnjandhaeojieaaGreat
theorem Xpi {l:List Va}{env:Bool}{c:Cm}(h:Xff l env c=0):Xwd l c.sets∧c.sets.length≤6:=by
 obtain ⟨h1,h2,h3,h4⟩:=mayCmd_zero h
 have:=(setsGo_ok h4).1
 exact ⟨fun s hs=>⟨(this s hs).1,(this s hs).2.1⟩,h3⟩
theorem InR_mix:∀ {l:List Va} {xs ys:List Int},InR l xs→InR l ys→InR l (mixE l xs ys)
 | [],[],[],_,_=>trivial
 | [],_::_,_,h,_=>h.elim
 | [],[],_::_,_,h=>h.elim
 | _::_,[],_,h,_=>h.elim
 | _::_,_::_,[],_,h=>h.elim
 | v::r,x::xs,y::ys,h,k=>by
  refine ⟨?_,InR_mix h.2 k.2⟩
  have:=h.1
  have:=k.1
  show lowV v≤(if v.env=true then y else x)∧(if v.env=true then y else x)<lowV v+sizeV v
  split<;>omega
theorem mixE_len:∀ {l:List Va} {xs ys:List Int},xs.length=l.length→ys.length=l.length→(mixE l xs ys).length=l.length
 | [],_,_,_,_=>by simp[mixE]
 | _::_,[],_,h,_=>by simp at h
 | _::_,_::_,[],_,h=>by simp at h
 | v::r,x::xs,y::ys,h,k=>by
  simp only[mixE,List.length_cons]
  rw[mixE_len (by simpa using h) (by simpa using k)]
theorem mixE_get:∀ {l:List Va} {xs ys:List Int} {i:Nat} (h1:i<l.length) (h2:i<xs.length) (h3:i<ys.length),(mixE l xs ys)[i]? =some (if l[i].env=true then ys[i] else xs[i])
 | [],_,_,i,h,_,_=>absurd h (Nat.not_lt_zero _)
 | _::_,[],_,i,_,h,_=>absurd h (Nat.not_lt_zero _)
 | _::_,_::_,[],i,_,_,h=>absurd h (Nat.not_lt_zero _)
 | v::r,x::xs,y::ys,0,_,_,_=>by simp[mixE]
 | v::r,x::xs,y::ys,i+1,h1,h2,h3=>by
  simp only[mixE,List.getElem?_cons_succ,List.getElem_cons_succ]
  exact mixE_get (by simpa using h1) (by simpa using h2) (by simpa using h3)
theorem Xvo {m:Md}(h:mayM m=0):fullM m=false:=by
 unfold mayM at h
 by_cases c1:mayV m.vars=0
 case neg=>rw[if_pos c1] at h;exact absurd h c1
 rw[if_neg (by simpa using c1)] at h
 by_cases c2:Xcu m.vars m.ie 1 false false false=0
 case neg=>rw[if_pos c2] at h;exact absurd h c2
 rw[if_neg (by simpa using c2)] at h
 by_cases c3:Xcu m.vars m.is 1 true false false=0
 case neg=>rw[if_pos c3] at h;exact absurd h c3
 rw[if_neg (by simpa using c3)] at h
 cases c4:fullM m with
 | false=>rfl
 | true=>rw[if_pos c4] at h;exact absurd h (by omega)
end Go.AM
namespace Go.Proofs.YtnjandhaeojieaaGreat
open Go.AM
theorem intsR_cat (n:Nat)(g:Nat→Nat→T){t:T}{xs:List Int}(h:Ints t xs):intsR (n+t.len) (fun i j=>(bif Nat.blt i n then (g i j) else (t.el (0+(i-n)) j)))=intsR n g++xs:=by
 apply List.ext_getElem
 ·rw[Xdc,List.length_append,Xdc,h.1]
 ·intro i h1 h2
  rw[Xdc] at h1
  rw[Xob]
  by_cases c:i<n
  ·rw[List.getElem_append_left (by rw[Xdc];exact c),Xob,show Nat.blt i n=true by rw[Nat.blt_eq];exact c];rfl
  ·have hb:Nat.blt i n=false:=by
    cases hc:Nat.blt i n with
    | false=>rfl
    | true=>rw[Nat.blt_eq] at hc;omega
   rw[List.getElem_append_right (by rw[Xdc];omega),hb]
   simp only[Xdc]
   show (t.el (0+(i-n)) 0).int=_
   rw[Nat.zero_add]
   exact h.el0 (by rw[←h.1];omega)
section
variable {h:H}{l t:T}{keeps now next:Int}
theorem allB {b:Nat}(hb:b≤200000000)(ht:t.len≤12)(hc:∀ i,i<t.len→Gives (Xky (Xaa l) (cmAt t i) keeps now next) (Xmc h l (t.el i 0).int (t.el i 1).int (t.el i 2) (t.el i 3) keeps now next))(hlen:∀ i,i<t.len→(Xky (Xaa l) (cmAt t i) keeps now next).length≤b){X:List Int}{c:Nat}
  (hk:∀ M,c≤M→∀ n g,n≤12*b→intsR n g=(Xca t).flatMap (fun c=>Xky (Xaa l) c keeps now next)→Gives X ((Xgh h n g).bind fun r3690=>(Xgb h ((r3690 0).len) n (fun i3691 j3692=>((r3690 0).el i3691 j3692))).bind fun r3693=>(Xjl h (T.l ((r3693 0).len) (fun i3694 j3695=>((r3693 0).el (0+i3694) j3695)))).bind fun r3696=>some (lookR [(0,(r3696 0))]))):
  ∀ m i,i+m=t.len→∀ N n g,c+m+1≤N→n≤i*b→intsR n g=((Xca t).take i).flatMap (fun c=>Xky (Xaa l) c keeps now next)→Gives X (Xgt.B0 h N n l keeps now next t (t.len:Int) (i:Int) g)
 | 0,i,hi,N,n,g,hN,hn,hg=>by
  obtain ⟨N,rfl⟩:∃ M,N=M+1:=⟨N-1,by omega⟩
  rw[Xgt.B0_eq]
  refine Gives.not (decide_eq_false (by omega)) (hk N (by omega) n g (Nat.le_trans hn (Nat.mul_le_mul_right _ (by omega))) ?_)
  rw[hg,List.take_of_length_le (by rw[Xes];omega)]
 | m+1,i,hi,N,n,g,hN,hn,hg=>by
  obtain ⟨N,rfl⟩:∃ M,N=M+1:=⟨N-1,by omega⟩
  have hlt:i<t.len:=by omega
  obtain ⟨x,e1,e2⟩:=hc i hlt
  have hl:=hlen i hlt
  have hx:=e2.1
  have hsm:(i+1)*b=i*b+b:=Nat.succ_mul i b
  have hib:i*b≤12*b:=Nat.mul_le_mul_right _ (by omega)
  have ih:=allB hb ht hc hlen hk m (i+1) (by omega) N (n+x.len) (fun a b=>(bif Nat.blt a n then (g a b) else (x.el (0+(a-n)) b))) (by omega) (by omega) (by
   rw[intsR_cat n g e2,hg,List.take_succ_eq_append_getElem (by rw[Xes];exact hlt),List.flatMap_append,List.flatMap_singleton]
   have:(Xca t)[i]'(by rw[Xes];exact hlt)=cmAt t i:=by
    have:=Xtl t hlt
    rw[List.getElem?_eq_getElem (by rw[Xes];exact hlt)] at this
    exact Option.some.inj this
   rw[this])
  rw[Xgt.B0_eq,Int.toNat_natCast,Xaq (a:=(i:Int)+1) (by omega) (by omega)]
  refine Gives.of (decide_eq_true (by omega)) (Gives.of (by simp;omega) (Gives.bind e1 ?_))
  simp only[Xal]
  exact Gives.of (decide_eq_true (by omega)) ih
end
theorem call_sp (l:T)(hl:l.len≤9223372036854775807)(hm:mayV (Xaa l)=0)(hP:prodV (Xaa l)≤24)(t:T)(ht:KC t)(h12:t.len≤12)(hin:∀ c∈Xca t,Xwd (Xaa l) c.sets∧c.sets.length≤6):Ev fun N=>∀ keeps now next,0≤keeps→keeps<prodV (Xaa l)→Gives (allE (Xaa l) (Xca t) keeps now next) (Xom (K N) l t keeps now next):=by
 obtain ⟨_,hp,_⟩:=Xcp hm
 have hci:∀ i,i<t.len→Xwd (Xaa l) (Xhy (t.el i 3))∧(t.el i 3).len≤6:=fun i hi=>by
  have:=hin _ (List.mem_of_getElem? (Xtl t hi))
  refine ⟨this.1,?_⟩
  rw[←Xhm];exact this.2
 refine Ev.step (Ev.step (Ev.imp (Ev.and ((Ev.all (k:=t.len) fun i hi=>cleads_sp l hl hm hP (t.el i 2) (t.el i 3) (ht.2 i hi).1 (ht.2 i hi).2 (hci i hi).2 (hci i hi).1).up 1) (Ev.ge 100)) fun N hb keeps now next k0 k1=> ?_))
 obtain ⟨h1,hN⟩:=hb
 rw[C_choice_all_K]
 refine allB (b:=191102976) (c:=5) (by omega) h12 (fun i hi=>h1 i hi _ _ _ _ _ k0 k1) (fun i hi=> ?_) (fun M hM n g hn hg=> ?_) t.len 0 (by omega) (N+1) 0 (fun _ _=> .b false) (by omega) (by omega) (by rfl)
 ·unfold Xky
  split
  ·have:=leads_len (now:=now) (next:=next) (out:=[keeps]) hp hP (hci i hi).1
   rw[Xhm] at this
   have h2:24 ^ (t.el i 3).len≤24 ^ 6:=Nat.pow_le_pow_right (by omega) (hci i hi).2
   simp only[List.length_singleton,Nat.one_mul] at this
   refine Nat.le_trans this (Nat.le_trans h2 ?_)
   decide
  ·simp
 ·rw[sort_call N n g (by omega)]
  refine Gives.bind rfl ?_
  simp only[Xal]
  have hlen:(Xgz ((intsR n g).mergeSort fun x y=>decide (x≤y))).len=n:=by
   show ((intsR n g).mergeSort fun x y=>decide (x≤y)).length=n
   rw[List.length_mergeSort,Xdc]
  rw[hlen,compact_call N n n _ rfl]
  refine Gives.bind rfl (Gives.bind (clip_call N _) ?_)
  simp only[Xal]
  refine ⟨_,rfl,?_⟩
  have e:intsR n (fun i j=>(Xgz ((intsR n g).mergeSort fun x y=>decide (x≤y))).el i j)=(intsR n g).mergeSort fun x y=>decide (x≤y):=by
   apply List.ext_getElem
   ·rw[Xdc,List.length_mergeSort,Xdc]
   ·intro a h1 h2
    rw[Xob]
    show (T.i (((intsR n g).mergeSort fun x y=>decide (x≤y)).getD a 0)).int=_
    rw[List.getD_eq_getElem?_getD,List.getElem?_eq_getElem h2]
    rfl
  rw[e,hg]
  exact Ints_of _
theorem mixB {h:H}{l:T}{xs ys:List Int}{gB:Nat→Nat→T}(hl:l.len≤6)(hx:InR (Xaa l) xs)(hy:InR (Xaa l) ys)(hB:∀ j (hj:j<ys.length),(gB j 0).int=ys[j])
  (hs:∀ t xs,Ints t xs→InR (Xaa l) xs→Xlv h l t=some (lookR [(0,T.i (Xch (Xaa l) xs)),(1,T.b true)])):
  ∀ m i,i+m=l.len→∀ N,2*m<N→∀ g:Nat→Nat→T,(∀ j (h1:j<xs.length) (h2:j<ys.length),(g j 0).int=if j<i∧(vaAt l j).env=true then ys[j] else xs[j])→
   Xck.B0 h N l.len l.len l l (l.len:Int) (i:Int) g gB=ri (Xch (Xaa l) (mixE (Xaa l) xs ys))
 | 0,i,hi,N,hN,g,hg=>by
  obtain ⟨N,rfl⟩:∃ M,N=M+1:=⟨N-1,by omega⟩
  have hxl:xs.length=l.len:=by rw[hx.len,Xbj]
  have hyl:ys.length=l.len:=by rw[hy.len,Xbj]
  rw[Xck.B0_eq]
  refine Xac (decide_eq_false (by omega)) (Xag (hs _ (mixE (Xaa l) xs ys) ⟨?_,fun j v hj=> ?_⟩ (InR_mix hx hy)) (by simp[Xal,int_i];rfl))
  ·rw[mixE_len hx.len hy.len,Xbj];rfl
  ·have hj':j<l.len:=by
    have:=(List.getElem?_eq_some_iff.1 hj).1
    rwa [mixE_len hx.len hy.len,Xbj] at this
   have hj1:j<(Xaa l).length:=by rw[Xbj];exact hj'
   rw[mixE_get hj1 (by omega) (by omega)] at hj
   have ev:(Xaa l)[j]=vaAt l j:=by
    have:=Xds l hj'
    rw[List.getElem?_eq_getElem hj1] at this
    exact Option.some.inj this
   rw[ev] at hj
   rw[←Option.some.inj hj]
   show (g (0+j) 0).int=_
   rw[Nat.zero_add,hg j (by omega) (by omega)]
   by_cases c:(vaAt l j).env=true
   ·rw[if_pos c,if_pos ⟨by omega,c⟩]
   ·rw[if_neg c,if_neg (fun q=>c q.2)]
 | m+1,i,hi,N,hN,g,hg=>by
  obtain ⟨N,rfl⟩:∃ M,N=M+1+1:=⟨N-2,by omega⟩
  have hlt:i<l.len:=by omega
  have hxl:xs.length=l.len:=by rw[hx.len,Xbj]
  have hyl:ys.length=l.len:=by rw[hy.len,Xbj]
  rw[Xck.B0_eq,Int.toNat_natCast]
  have d1:(decide ((0:Int)≤(i:Int))&&decide ((i:Int)<((l.len:Nat):Int)))=true:=by simp;omega
  refine if_of (decide_eq_true (by omega)) (if_of d1 ?_)
  cases c:(l.el i 1).bool with
  | false=>
   refine Xac rfl ?_
   rw[Xck.B1_eq,Xaq (a:=(i:Int)+1) (by omega) (by omega)]
   refine mixB hl hx hy hB hs m (i+1) (by omega) N (by omega) g fun j h1 h2=> ?_
   rw[hg j h1 h2]
   by_cases d:j<i∧(vaAt l j).env=true
   ·rw[if_pos d,if_pos ⟨by omega,d.2⟩]
   ·rw[if_neg d,if_neg]
    rintro ⟨q1,q2⟩
    by_cases e:j=i
    ·subst e
     have:(l.el j 1).bool=true:=q2
     rw[c] at this
     cases this
    ·exact d ⟨by omega,q2⟩
  | true=>
   refine if_of rfl (if_of d1 (if_of (decide_eq_true (by omega)) (if_of d1 (if_of (decide_eq_true (by omega)) ?_))))
   rw[Xck.B1_eq,Xaq (a:=(i:Int)+1) (by omega) (by omega)]
   refine mixB hl hx hy hB hs m (i+1) (by omega) N (by omega) _ fun j h1 h2=> ?_
   by_cases e:j=i
   ·subst e
    rw[if_pos ⟨by omega,c⟩]
    show (bif j==0+j&&Nat.ble 0 0&&Nat.blt 0 1 then _ else _:T).int=_
    rw[show (j==0+j)=true by simp]
    show (gB (0+j) 0).int=_
    rw[Nat.zero_add]
    exact hB j h2
   ·show (bif j==0+i&&Nat.ble 0 0&&Nat.blt 0 1 then _ else _:T).int=_
    rw[show (j==0+i)=false by simpa using e]
    show (g j 0).int=_
    rw[hg j h1 h2]
    by_cases d:j<i∧(vaAt l j).env=true
    ·rw[if_pos d,if_pos ⟨by omega,d.2⟩]
    ·rw[if_neg d,if_neg (fun q=>d ⟨by omega,q.2⟩)]
theorem cmixed_sp (l:T)(hl:l.len≤9223372036854775807)(hm:mayV (Xaa l)=0):Ev fun N=>∀ s p,Xcc (Xaa l) s=true→Xcc (Xaa l) p=true→Xow (K N) l s p=ri (Xru (Xaa l) s p):=by
 have h6:=Xhl (Xfa hm)
 rw[Xbj] at h6
 obtain ⟨ht,hp,hP⟩:=Xcp hm
 refine Ev.step (Ev.imp3 (Xwc l hl) (State_sp l hl hm) (Ev.ge 20) fun N h1 h3 hN s p cs cp=> ?_)
 obtain ⟨t,e,ev⟩:=h1 s
 obtain ⟨t',e',ev'⟩:=h1 p
 rw[cs] at e
 rw[cp] at e'
 have hx:=ev cs
 have hx':=ev' cp
 have hr:=Xcx hp (valuesOk_iff.1 cs).2.1
 have hr':=Xcx hp (valuesOk_iff.1 cp).2.1
 rw[C_choice_mixed_K]
 refine Xag e (Xag e' ?_)
 have hlen:t.len=l.len:=by rw[hx.1,hr.len,Xbj]
 have hlen':t'.len=l.len:=by rw[hx'.1,hr'.len,Xbj]
 show Xck.B0 (K N) N t.len t'.len l l (l.len:Int) 0 (fun i j=>t.el i j) (fun i j=>t'.el i j)=_
 rw[hlen,hlen']
 refine mixB (by omega) hr hr' (fun j hj=>hx'.el0 hj) h3 l.len 0 (by omega) N (by omega) _ fun j a b=> ?_
 rw[if_neg (fun q=>absurd q.1 (Nat.not_lt_zero _))]
 exact hx.el0 a
theorem pick_ok {l:List Va}{p:Int}(h:pickE l p=true):Xcc l p=true:=by
 cases c:Xcc l p with
 | true=>rfl
 | false=>
  unfold pickE partE at h
  rw[c] at h
  simp at h
  omega
theorem mixed_range {l:List Va}{s p:Int}(hm:mayV l=0)(h:Xcc l s=true)(k:Xcc l p=true):0≤Xru l s p∧Xru l s p<prodV l:=by
 obtain ⟨ht,hp,hP⟩:=Xcp hm
 exact Xkj hp (InR_mix (Xcx hp (valuesOk_iff.1 h).2.1) (Xcx hp (valuesOk_iff.1 k).2.1))
section
variable (l k1 k2 te ts ta tn tp:T)(hl:l.len≤9223372036854775807)(h1:KW k1)(h2:KW k2)(he:KC te)(hs:KC ts)(ha:KW ta)(hn:KW tn)(hp:KW tp)(hT:mayV (Xaa l)=0→prodV (Xaa l)≤24)
include hl h1 h2 he hs ha hn hp hT
theorem cEnv_sp (o1 n1 o2 n2:Int):Ev fun N=>∀ s,Gives (envE ⟨Xaa l,.mk o1 n1 (Xad k1),.mk o2 n2 (Xad k2),Xca te,Xca ts,Xad ta,Xad tn,Xad tp⟩ s) (Xoq (K N) l o1 n1 k1 o2 n2 k2 te ts ta tn tp s):=by
 have base:=Ev.and (may_sp l k1 k2 te ts ta tn tp hl h1 h2 he hs ha hn hp) (Part_sp l hl)
 by_cases c:mayM ⟨Xaa l,.mk o1 n1 (Xad k1),.mk o2 n2 (Xad k2),Xca te,Xca ts,Xad ta,Xad tn,Xad tp⟩=0
 case neg=>
  refine Ev.step (base.imp fun N hb s=> ?_)
  rw[Xuf]
  unfold envE
  rw[if_pos c]
  refine Gives.bind (hb.1 ..) (Gives.of ?_ Xwh)
  rw[Xal]
  show (!(mayM _==0))=true
  simpa using c
 obtain ⟨cm,_,_,ce,_,_⟩:=Xfe c
 simp only at cm ce
 have hf:te.len≤12:=by
  have d:=Xvo c
  unfold fullM at d
  simp only[Xes,Bool.or_eq_false_iff,decide_eq_false_iff_not] at d
  omega
 refine Ev.step (Ev.imp (Ev.and base (call_sp l hl cm (hT cm) te he hf fun x hx=>Xpi (firstE_zero.1 ce x hx))) fun N hb s=> ?_)
 obtain ⟨⟨b1,b2⟩,b3⟩:=hb
 have b1:=b1 o1 n1 o2 n2
 rw[c] at b1
 rw[Xuf]
 unfold envE
 rw[if_neg (by simpa using c)]
 simp only
 refine Gives.bind b1 (Gives.not (by rw[Xal];rfl) (Gives.bind (b2 s true) ?_))
 simp only[Xal,int_i]
 by_cases d:partE (Xaa l) s true<0
 ·rw[if_pos d]
  exact Gives.of (decide_eq_true d) Xwh
 rw[if_neg d]
 refine Gives.not (decide_eq_false d) ?_
 have hok:Xcc (Xaa l) s=true:=by
  cases q:Xcc (Xaa l) s with
  | true=>rfl
  | false=>unfold partE at d;rw[q] at d;exact absurd d (by simp)
 obtain ⟨r0,r1⟩:=part_range (env:=true) cm hok
 rw[(Xcp cm).1] at r1
 obtain ⟨t,e,i⟩:=b3 (partE (Xaa l) s true) s s r0 r1
 exact ⟨t,Xag e rfl,i⟩
theorem cSys_sp (o1 n1 o2 n2:Int):Ev fun N=>∀ s p,Gives (sysE ⟨Xaa l,.mk o1 n1 (Xad k1),.mk o2 n2 (Xad k2),Xca te,Xca ts,Xad ta,Xad tn,Xad tp⟩ s p) (Xon (K N) l o1 n1 k1 o2 n2 k2 te ts ta tn tp s p):=by
 have base:=Ev.imp3 (may_sp l k1 k2 te ts ta tn tp hl h1 h2 he hs ha hn hp) (Part_sp l hl) (pick_sp l hl) fun N a b c=>(⟨a,b,c⟩:_∧_∧_)
 by_cases c:mayM ⟨Xaa l,.mk o1 n1 (Xad k1),.mk o2 n2 (Xad k2),Xca te,Xca ts,Xad ta,Xad tn,Xad tp⟩=0
 case neg=>
  refine Ev.step (base.imp fun N hb s p=> ?_)
  rw[Xue]
  unfold sysE
  rw[if_pos c]
  refine Gives.bind (hb.1 ..) (Gives.of ?_ Xwh)
  rw[Xal]
  show (!(mayM _==0))=true
  simpa using c
 obtain ⟨cm,_,_,_,ce,_⟩:=Xfe c
 simp only at cm ce
 have hf:ts.len≤12:=by
  have d:=Xvo c
  unfold fullM at d
  simp only[Xes,Bool.or_eq_false_iff,decide_eq_false_iff_not] at d
  omega
 refine Ev.step (Ev.imp3 base (call_sp l hl cm (hT cm) ts hs hf fun x hx=>Xpi (firstE_zero.1 ce x hx)) (cmixed_sp l hl cm) fun N hb b4 b5 s p=> ?_)
 obtain ⟨b1,b2,b3⟩:=hb
 have b1:=b1 o1 n1 o2 n2
 rw[c] at b1
 rw[Xue]
 unfold sysE
 rw[if_neg (by simpa using c)]
 simp only
 refine Gives.bind b1 (Gives.not (by rw[Xal];rfl) (Gives.bind (b2 s true) ?_))
 simp only[Xal,int_i]
 by_cases d:partE (Xaa l) s true<0
 ·rw[if_pos d]
  exact Gives.of (decide_eq_true d) Xwh
 rw[if_neg d]
 refine Gives.not (decide_eq_false d) (Gives.bind (b3 ..) ?_)
 simp only[Xal]
 show Gives _ (bif !(pickE (Xaa l) p) then _ else _)
 have hok:Xcc (Xaa l) s=true:=by
  cases q:Xcc (Xaa l) s with
  | true=>rfl
  | false=>unfold partE at d;rw[q] at d;exact absurd d (by simp)
 cases hpk:pickE (Xaa l) p with
 | false=>rw[if_pos rfl];exact Gives.of rfl Xwh
 | true=>
  rw[if_neg (by simp)]
  have hok':=pick_ok hpk
  obtain ⟨r0,r1⟩:=mixed_range cm hok hok'
  refine Gives.not rfl (Gives.bind (b5 s p hok hok') ?_)
  simp only[Xal,int_i]
  obtain ⟨t,e,i⟩:=b4 (Xru (Xaa l) s p) s p r0 r1
  exact ⟨t,Xag e rfl,i⟩
end
end Go.Proofs.YtnjandhaeojieaaGreat
set_option linter.unusedVariables false
set_option linter.unusedSimpArgs false
set_option maxRecDepth 100000
namespace Go.Proofs.YtnjandhaeojieaaGreat
open Go.AM
theorem totalAnyB {h:H}{l:T}(hl:l.len≤6)(hz:∀ a b x y z,Xcg h a b x y z=ri (sizeV ⟨a,b,x,y,z⟩)){t:Int}(hq:Xed h l=ri t):
  ∀ (m i:Nat),i+m=l.len→∀ N,2*m<N→∃ x,Xbb.B1 h N l l (l.len:Int) (i:Int)=ri x
 | 0,i,hi,N,hN=>by
  obtain ⟨N,rfl⟩:∃ M,N=M+1:=⟨N-1,by omega⟩
  rw[Xbb.B1_eq]
  exact ⟨t,Xac (decide_eq_false (by omega)) (Xag hq rfl)⟩
 | m+1,i,hi,N,hN=>by
  obtain ⟨N,rfl⟩:∃ M,N=M+1+1:=⟨N-2,by omega⟩
  have hlt:i<l.len:=by omega
  obtain ⟨x,ih⟩:=totalAnyB hl hz hq m (i+1) (by omega) N (by omega)
  have b2:Xbb.B2 h (N+1) l l (l.len:Int) (i:Int)=ri x:=by
   rw[Xbb.B2_eq,Xaq (a:=(i:Int)+1) (by omega) (by omega)];exact ih
  rw[Xbb.B1_eq,Int.toNat_natCast]
  by_cases c1:sizeV (vaAt l i)=0
  ·exact ⟨0,if_of (decide_eq_true (by omega)) (if_of (by simp;omega) (Xag (hz _ _ _ _ _) (if_of (by show (sizeV (vaAt l i)==0)=true;simpa using c1) rfl)))⟩
  have c1':(sizeV (vaAt l i)==0)=false:=by simpa using c1
  by_cases c2:(l.el i 2).int=1
  ·by_cases c3:(l.el i 3).int=0
   ·by_cases c4:(l.el i 4).int=0
    ·exact ⟨x,if_of (decide_eq_true (by omega)) (if_of (by simp;omega) (Xag (hz _ _ _ _ _) (Xac c1' (if_of (by simpa using c2) (Xac (by simpa using c3) (Xac (by simpa using c4) b2))))))⟩
    ·exact ⟨0,if_of (decide_eq_true (by omega)) (if_of (by simp;omega) (Xag (hz _ _ _ _ _) (Xac c1' (if_of (by simpa using c2) (Xac (by simpa using c3) (if_of (by simpa using c4) rfl))))))⟩
   ·exact ⟨0,if_of (decide_eq_true (by omega)) (if_of (by simp;omega) (Xag (hz _ _ _ _ _) (Xac c1' (if_of (by simpa using c2) (if_of (by simpa using c3) rfl)))))⟩
  ·exact ⟨x,if_of (decide_eq_true (by omega)) (if_of (by simp;omega) (Xag (hz _ _ _ _ _) (Xac c1' (Xac (by simpa using c2) b2))))⟩
theorem totalAny_sp (l:T)(hl:l.len≤9223372036854775807):Ev fun N=>∃ x,Xcy (K N) l=ri x:=by
 refine Ev.step (Ev.imp4 (Xkx l hl) Xmz (refProd_sp l hl) (Ev.ge 100) fun N h1 h2 h3 hN=> ?_)
 obtain ⟨N,rfl⟩:∃ M,N=M+1:=⟨N-1,by omega⟩
 have b0:∃ x,Xbb.B0 (K (N+1)) (N+1) l=ri x:=by
  rw[Xbb.B0_eq]
  by_cases c1:6<l.len
  ·exact ⟨0,if_of (decide_eq_true (by omega)) rfl⟩
  by_cases c2:Xia (Xaa l) 1>512
  ·exact ⟨0,Xac (decide_eq_false (by omega)) (Xag h3 (if_of (decide_eq_true (by rw[Xal,int_i];exact c2)) rfl))⟩
  ·obtain ⟨x,e⟩:=totalAnyB (by omega) h2 h3 l.len 0 (by omega) N (by omega)
   exact ⟨x,Xac (decide_eq_false (by omega)) (Xag h3 (Xac (decide_eq_false (by rw[Xal,int_i];exact c2)) e))⟩
 obtain ⟨x,e⟩:=b0
 rw[Xnt]
 by_cases c:mayV (Xaa l)=0
 ·exact ⟨x,Xag h1 (Xac (by simpa [Xal,int_i] using c) e)⟩
 ·by_cases d:mayV (Xaa l)=3
  ·exact ⟨x,Xag h1 (if_of (by simpa [Xal,int_i] using c) (Xac (by simpa [Xal,int_i] using d) e))⟩
  ·exact ⟨0,Xag h1 (if_of (by simpa [Xal,int_i] using c) (if_of (by simpa [Xal,int_i] using d) rfl))⟩
def s6V:T:=T.l 2 (fun i j=>((([[(T.s (ByteArray.mk #[120])),(T.b true),(T.i 1),(T.i 0),(T.i 0)],[(T.s (ByteArray.mk #[121])),(T.b false),(T.i 1),(T.i 0),(T.i 0)]]:List (List T)).getD (0+i) []).getD j (.b false)))
def s6E:T:=T.l 1 (fun i j=>((([[(T.i 2),(T.i 1),noT,(T.l 1 (fun i j=>((([[(T.i 0),(T.b true),(T.i 0),(T.i 0),noT]]:List (List T)).getD (0+i) []).getD j (.b false))))]]:List (List T)).getD (0+i) []).getD j (.b false)))
def s6S:T:=T.l 1 (fun i j=>((([[(T.i 2),(T.i 1),noT,(T.l 1 (fun i j=>((([[(T.i 1),(T.b false),(T.i 4),(T.i 0),noT]]:List (List T)).getD (0+i) []).getD j (.b false))))]]:List (List T)).getD (0+i) []).getD j (.b false)))
def sm6R:R:=lookR [(0,s6V),(1,(T.i 2)),(2,(T.i 1)),(3,noT),(4,(T.i 2)),(5,(T.i 1)),(6,noT),(7,s6E),(8,s6S),(9,noT),(10,noT),(11,noT)]
theorem sort2 {a b:Int}(h:a≤b):([a,b].mergeSort fun x y=>decide (x≤y))=[a,b]:=List.mergeSort_of_pairwise (by simpa using h)
theorem initEnv_sm:Xek smM=[0,1]:=by
 unfold Xek
 rw[if_neg (by rw[mayM_sm];decide)]
 decide +kernel
end Go.Proofs.YtnjandhaeojieaaGreat
