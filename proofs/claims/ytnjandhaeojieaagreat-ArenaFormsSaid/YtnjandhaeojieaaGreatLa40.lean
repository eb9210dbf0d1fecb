/- States and their valuations: what dom.State and dom.Part reckon. -/
import Derived.Test.YtnjandhaeojieaaGreatLa35
set_option linter.unusedVariables false
set_option linter.unusedSimpArgs false
namespace Go.AM
open Go.Proofs.YtnjandhaeojieaaGreat
def prodV:List Va→Int
 | []=>1
 | v::r=>sizeV v*prodV r
def Xch:List Va→List Int→Int
 | v::r,x::xs=>(x-lowV v)+sizeV v*Xch r xs
 | _,_=>0
def InR:List Va→List Int→Prop
 | [],[]=>True
 | v::r,x::xs=>(lowV v≤x∧x<lowV v+sizeV v)∧InR r xs
 | _,_=>False
def Pos (l:List Va):Prop:=∀ v∈l,0<sizeV v
def maskE (env:Bool)(l:List Va)(xs:List Int):List Int:=List.zipWith (fun v x=>if v.env=env then x else lowV v) l xs
def partE (l:List Va)(s:Int)(env:Bool):Int:=if Xcc l s=true then Xch l (maskE env l (Xap l s)) else -1
theorem Pos.tail {v:Va}{r:List Va}(h:Pos (v::r)):Pos r:=fun w hw=>h w (List.mem_cons_of_mem _ hw)
theorem Pos.head {v:Va}{r:List Va}(h:Pos (v::r)):0<sizeV v:=h v (List.mem_cons_self ..)
theorem Xne:∀ {l:List Va},Pos l→0<prodV l
 | [],_=>by simp[prodV]
 | v::r,h=>Int.mul_pos h.head (Xne h.tail)
theorem Xtx:∀ (l:List Va) (n:Int),Xfk l n≠0→Xfk l n=n*prodV l
 | [],n,_=>by simp[Xfk,prodV]
 | v::r,n,h=>by
  simp only[Xfk] at h ⊢
  by_cases c1:Xdt v=0
  case neg=>rw[if_pos c1] at h;exact absurd rfl h
  rw[if_neg (by simpa using c1)] at h ⊢
  by_cases c2:512<n*sizeV v
  ·rw[if_pos c2] at h;exact absurd rfl h
  rw[if_neg c2] at h ⊢
  rw[Xtx r _ h,prodV,Int.mul_assoc]
theorem Xcp {l:List Va}(h:mayV l=0):Xcz l=prodV l∧Pos l∧prodV l≤512:=by
 have ht:=Xfa h
 have e:Xcz l=prodV l:=by
  have:=ht
  unfold Xcz at this ⊢
  by_cases c:6<(l.length:Int)
  ·rw[if_pos c] at this;exact absurd rfl this
  ·rw[if_neg c] at this ⊢
   rw[Xtx l 1 this,Int.one_mul]
 exact ⟨e,fun v hv=>(Xkq ht v hv).2,by rw[←e];exact (Xgy l).2⟩
theorem InR.len:∀ {l:List Va} {xs:List Int},InR l xs→xs.length=l.length
 | [],[],_=>rfl
 | [],_::_,h=>h.elim
 | _::_,[],h=>h.elim
 | v::r,x::xs,h=>by simp only[List.length_cons];rw[InR.len h.2]
theorem InR.drop:∀ {l:List Va} {xs:List Int},InR l xs→∀ i,InR (l.drop i) (xs.drop i)
 | l,xs,h,0=>by simpa using h
 | [],[],h,i+1=>by simp[InR]
 | [],_::_,h,_=>h.elim
 | _::_,[],h,_=>h.elim
 | v::r,x::xs,h,i+1=>by simpa using InR.drop h.2 i
theorem InR.get:∀ {l:List Va} {xs:List Int},InR l xs→∀ {i:Nat} (h1:i<l.length) (h2:i<xs.length),lowV l[i]≤xs[i]∧xs[i]<lowV l[i]+sizeV l[i]
 | [],_,_,i,h1,_=>absurd h1 (Nat.not_lt_zero _)
 | _::_,[],_,i,_,h2=>absurd h2 (Nat.not_lt_zero _)
 | v::r,x::xs,h,0,_,_=>h.1
 | v::r,x::xs,h,i+1,h1,h2=>InR.get h.2 (by simpa using h1) (by simpa using h2)
theorem InR_of:∀ {l:List Va} {xs:List Int},xs.length=l.length→(∀ i (h1:i<l.length) (h2:i<xs.length),lowV l[i]≤xs[i]∧xs[i]<lowV l[i]+sizeV l[i])→InR l xs
 | [],[],_,_=>trivial
 | [],_::_,h,_=>by simp at h
 | _::_,[],h,_=>by simp at h
 | v::r,x::xs,h,k=>⟨k 0 (by simp) (by simp),InR_of (by simpa using h) fun i h1 h2=>by
   have:=k (i+1) (by simpa using h1) (by simpa using h2)
   simpa only[List.getElem_cons_succ] using this⟩
theorem Xcx:∀ {l:List Va} {s:Int},Pos l→0≤s→InR l (Xap l s)
 | [],_,_,_=>trivial
 | v::r,s,h,h0=>by
  have hp:=h.head
  have a:=Int.tmod_nonneg (sizeV v) h0
  have b:=Int.tmod_lt_of_pos s hp
  exact ⟨by omega,Xcx h.tail (Int.tdiv_nonneg h0 (Int.le_of_lt hp))⟩
theorem Xmv {env:Bool}:∀ {l:List Va} {xs:List Int},Pos l→InR l xs→InR l (maskE env l xs)
 | [],[],_,_=>trivial
 | [],_::_,_,h=>h.elim
 | _::_,[],_,h=>h.elim
 | v::r,x::xs,hp,h=>by
  refine ⟨?_,Xmv hp.tail h.2⟩
  have:=hp.head
  have:=h.1
  show lowV v≤(if v.env=env then x else lowV v)∧(if v.env=env then x else lowV v)<lowV v+sizeV v
  split<;>omega
theorem Xkj:∀ {l:List Va} {xs:List Int},Pos l→InR l xs→0≤Xch l xs∧Xch l xs<prodV l
 | [],[],_,_=>by simp[Xch,prodV]
 | [],_::_,_,h=>h.elim
 | _::_,[],_,h=>h.elim
 | v::r,x::xs,hp,h=>by
  obtain ⟨a,b⟩:=Xkj hp.tail h.2
  have hv:=hp.head
  have hx:=h.1
  simp only[Xch,prodV]
  have h1:0≤sizeV v*Xch r xs:=Int.mul_nonneg (Int.le_of_lt hv) a
  have h2:sizeV v*(Xch r xs+1)≤sizeV v*prodV r:=Int.mul_le_mul_of_nonneg_left (by omega) (Int.le_of_lt hv)
  rw[Int.mul_add,Int.mul_one] at h2
  omega
theorem Xkr:∀ {l:List Va} {s:Int},Pos l→0≤s→s<prodV l→Xch l (Xap l s)=s
 | [],s,_,h0,h1=>by simp only[prodV] at h1;simp only[Xch,Xap];omega
 | v::r,s,hp,h0,h1=>by
  have hv:=hp.head
  simp only[Xch,Xap,prodV] at h1 ⊢
  rw[Int.tdiv_eq_ediv_of_nonneg h0,Int.tmod_eq_emod_of_nonneg h0]
  rw[Xkr hp.tail (Int.ediv_nonneg h0 (Int.le_of_lt hv)) (Int.ediv_lt_of_lt_mul hv (by rw[Int.mul_comm];exact h1))]
  have:=Int.emod_add_mul_ediv s (sizeV v)
  omega
theorem Xej:∀ {l:List Va} {xs:List Int},Pos l→InR l xs→Xap l (Xch l xs)=xs
 | [],[],_,_=>rfl
 | [],_::_,_,h=>h.elim
 | _::_,[],_,h=>h.elim
 | v::r,x::xs,hp,h=>by
  obtain ⟨a,b⟩:=Xkj hp.tail h.2
  have hv:=hp.head
  have hx:=h.1
  have h1:0≤sizeV v*Xch r xs:=Int.mul_nonneg (Int.le_of_lt hv) a
  have h0:0≤(x-lowV v)+sizeV v*Xch r xs:=by omega
  simp only[Xch,Xap]
  rw[Int.tdiv_eq_ediv_of_nonneg h0,Int.tmod_eq_emod_of_nonneg h0,Int.add_mul_emod_self_left,Int.emod_eq_of_lt (by omega) (by omega),Int.add_mul_ediv_left _ _ (by omega),Int.ediv_eq_zero_of_lt (by omega) (by omega),Int.zero_add,Xej hp.tail h.2]
  congr 1
  omega
theorem Xvt {v:Va}(h:0<sizeV v): -1000≤lowV v∧lowV v≤1000:=by
 unfold sizeV at h
 unfold lowV
 split
 ·omega
 ·rename_i c
  rw[if_neg c] at h
  split at h<;>omega
theorem prodV_drop:∀ {l:List Va},Pos l→∀ i,prodV (l.drop i)≤prodV l
 | [],_,i=>by simp
 | v::r,hp,0=>by simp
 | v::r,hp,i+1=>by
  have:=prodV_drop hp.tail i
  have h1:=hp.head
  have h2:=Xne hp.tail
  have:1*prodV r≤sizeV v*prodV r:=Int.mul_le_mul_of_nonneg_right (by omega) (by omega)
  simp only[List.drop_succ_cons,prodV]
  omega
theorem Pos.drop {l:List Va}(h:Pos l)(i:Nat):Pos (l.drop i):=fun v hv=>h v (List.mem_of_mem_drop hv)
theorem valuesOk_iff {l:List Va}{s:Int}:Xcc l s=true↔mayV l=0∧0≤s∧s<Xcz l:=by unfold Xcc;rw[decide_eq_true_eq]
end Go.AM
namespace Go.Proofs.YtnjandhaeojieaaGreat
open Go.AM
theorem stateB {h:H}{l t:T}{xs:List Int}(hx:Ints t xs)(hl:l.len≤6)(hp:Pos (Xaa l))(hP:prodV (Xaa l)≤512)(hr:InR (Xaa l) xs)(hz:∀ a b x y z,Xeu h a b x y z=ri (sizeV ⟨a,b,x,y,z⟩))(hw:∀ a b x y z,Xka h a b x y z=ri (lowV ⟨a,b,x,y,z⟩)):
  ∀ m,m≤l.len→∀ N,m<N→Xho.B0 h N l t (Xch ((Xaa l).drop m) (xs.drop m)) ((m:Int)-1)=some (lookR [(0,T.i (Xch (Xaa l) xs)),(1,T.b true)])
 | 0,hm,N,hN=>by
  obtain ⟨N,rfl⟩:∃ M,N=M+1:=⟨N-1,by omega⟩
  rw[Xho.B0_eq]
  exact Xac (decide_eq_false (by omega)) (by simp)
 | m+1,hm,N,hN=>by
  obtain ⟨N,rfl⟩:∃ M,N=M+1:=⟨N-1,by omega⟩
  have ih:=stateB hx hl hp hP hr hz hw m (by omega) N (by omega)
  have hlt:m<l.len:=by omega
  have hxl:xs.length=l.len:=by rw[hr.len,Xbj]
  have hm1:m<(Xaa l).length:=by rw[Xbj];exact hlt
  have ev:(Xaa l)[m]=vaAt l m:=by
   have:=Xds l hlt
   rw[List.getElem?_eq_getElem hm1] at this
   exact Option.some.inj this
  obtain ⟨g1,g2⟩:=hr.get hm1 (by omega)
  rw[ev] at g1 g2
  have hsz:=hp (vaAt l m) (List.mem_of_getElem? (Xds l hlt))
  have hsr:=Xfx (vaAt l m)
  have hlr:=Xvt hsz
  have ex:(t.el m 0).int=xs[m]:=hx.el0 (by omega)
  obtain ⟨a0,a1⟩:=Xkj (hp.drop (m+1)) (hr.drop (m+1))
  have a2:=prodV_drop hp (m+1)
  have e1:(((m+1:Nat):Int)-1)=(m:Int):=by omega
  rw[List.drop_eq_getElem_cons hm1,List.drop_eq_getElem_cons (show m<xs.length by omega),ev] at ih
  simp only[Xch] at ih
  obtain ⟨A,hA⟩:∃ A,A=Xch ((Xaa l).drop (m+1)) (xs.drop (m+1)):=⟨_,rfl⟩
  rw[←hA] at ih a0 a1 ⊢
  have b1:0≤A*sizeV (vaAt l m):=Int.mul_nonneg a0 hsr.1
  have b2:A*sizeV (vaAt l m)≤512*2001:=Int.mul_le_mul (by omega) hsr.2 hsr.1 (by omega)
  rw[Int.mul_comm] at ih
  rw[Xho.B0_eq,e1,Int.toNat_natCast,ex]
  have d1:(decide ((0:Int)≤(m:Int))&&decide ((m:Int)<((l.len:Nat):Int)))=true:=by simp;omega
  have d2:(decide ((0:Int)≤(m:Int))&&decide ((m:Int)<((t.len:Nat):Int)))=true:=by rw[hx.1,hxl];exact d1
  refine if_of (decide_eq_true (by omega)) (if_of d1 (Xag (hz ..) (if_of d2 (if_of d1 (Xag (hw ..) ?_)))))
  simp only[Xal,int_i]
  refine Xac (decide_eq_false (by show ¬xs[m]<lowV (vaAt l m);omega)) (if_of d2 (if_of d1 (Xag (hw ..) ?_)))
  simp only[Xal,int_i]
  show (bif decide (xs[m]>IntKind.wrap .i64 (IntKind.wrap .i64 (lowV (vaAt l m)+sizeV (vaAt l m))-1)) then _ else _)=_
  rw[Xaq (a:=lowV (vaAt l m)+sizeV (vaAt l m)) (by omega) (by omega),Xaq (a:=lowV (vaAt l m)+sizeV (vaAt l m)-1) (by omega) (by omega)]
  refine Xac (decide_eq_false (by omega)) (if_of d2 (if_of d1 (Xag (hw ..) ?_)))
  simp only[Xal,int_i]
  show Xho.B0 h N l t (IntKind.wrap .i64 (IntKind.wrap .i64 (IntKind.wrap .i64 (A*sizeV (vaAt l m))+xs[m])-lowV (vaAt l m))) (IntKind.wrap .i64 ((m:Int)-1))=_
  rw[Xaq (a:=A*sizeV (vaAt l m)) (by omega) (by omega),Xaq (a:=A*sizeV (vaAt l m)+xs[m]) (by omega) (by omega),Xaq (a:=A*sizeV (vaAt l m)+xs[m]-lowV (vaAt l m)) (by omega) (by omega),Xaq (a:=(m:Int)-1) (by omega) (by omega)]
  rw[←ih]
  congr 1
  omega
theorem State_sp (l:T)(hl:l.len≤9223372036854775807)(hm:mayV (Xaa l)=0):Ev fun N=>∀ t xs,Ints t xs→InR (Xaa l) xs→Xlv (K N) l t=some (lookR [(0,T.i (Xch (Xaa l) xs)),(1,T.b true)]):=by
 have h6:=Xhl (Xfa hm)
 rw[Xbj] at h6
 obtain ⟨ht,hp,hP⟩:=Xcp hm
 refine Ev.step (Ev.imp4 (MayV_sp l hl) Size_sp low_sp (Ev.ge 10) fun N h1 h2 h3 hN t xs hx hr=> ?_)
 have hxl:xs.length=l.len:=by rw[hr.len,Xbj]
 rw[C_dom_State_K]
 refine Xag h1 (Xac (by simp[Xal,int_i,hm]) (Xac (by rw[hx.1,hxl];simp) ?_))
 rw[Xaq (a:=(l.len:Int)-1) (by omega) (by omega)]
 have:=stateB hx (by omega) hp hP hr h2 h3 l.len (Nat.le_refl _) N (by omega)
 rw[List.drop_of_length_le (by rw[Xbj];omega)] at this
 exact this
end Go.Proofs.YtnjandhaeojieaaGreat
set_option linter.unusedVariables false
set_option linter.unusedSimpArgs false
namespace Go.AM
theorem Xnh {env:Bool}{l:List Va}{xs:List Int}(h:xs.length=l.length):(maskE env l xs).length=l.length:=by simp[maskE,h]
theorem maskE_get {env:Bool}{l:List Va}{xs:List Int}{i:Nat}(h1:i<l.length)(h2:i<xs.length):(maskE env l xs)[i]? =some (if l[i].env=env then xs[i] else lowV l[i]):=by
 unfold maskE
 rw[List.getElem?_zipWith,List.getElem?_eq_getElem h1,List.getElem?_eq_getElem h2]
end Go.AM
namespace Go.Proofs.YtnjandhaeojieaaGreat
open Go.AM
theorem partB {h:H}{l:T}{env:Bool}{xs:List Int}(hl:l.len≤6)(hp:Pos (Xaa l))(hr:InR (Xaa l) xs)(hw:∀ a b x y z,Xka h a b x y z=ri (lowV ⟨a,b,x,y,z⟩))
  (hs:∀ t xs,Ints t xs→InR (Xaa l) xs→Xlv h l t=some (lookR [(0,T.i (Xch (Xaa l) xs)),(1,T.b true)])):
  ∀ m i,i+m=l.len→∀ N,2*m<N→∀ g:Nat→Nat→T,(∀ j (hj:j<xs.length),(g j 0).int=if j<i∧(vaAt l j).env≠env then lowV (vaAt l j) else xs[j])→
   Xev.B0 h N l.len l env l (l.len:Int) (i:Int) g=ri (Xch (Xaa l) (maskE env (Xaa l) xs))
 | 0,i,hi,N,hN,g,hg=>by
  obtain ⟨N,rfl⟩:∃ M,N=M+1:=⟨N-1,by omega⟩
  have hxl:xs.length=l.len:=by rw[hr.len,Xbj]
  rw[Xev.B0_eq]
  refine Xac (decide_eq_false (by omega)) (Xag (hs _ (maskE env (Xaa l) xs) ⟨?_,fun j v hj=> ?_⟩ (Xmv hp hr)) (by simp[Xal,int_i];rfl))
  ·rw[Xnh hr.len,Xbj];rfl
  ·have hj':j<l.len:=by
    have:=(List.getElem?_eq_some_iff.1 hj).1
    rwa [Xnh hr.len,Xbj] at this
   have hj1:j<(Xaa l).length:=by rw[Xbj];exact hj'
   rw[maskE_get hj1 (by omega)] at hj
   have ev:(Xaa l)[j]=vaAt l j:=by
    have:=Xds l hj'
    rw[List.getElem?_eq_getElem hj1] at this
    exact Option.some.inj this
   rw[ev] at hj
   rw[←Option.some.inj hj]
   show (g (0+j) 0).int=_
   rw[Nat.zero_add,hg j (by omega)]
   by_cases c:(vaAt l j).env=env
   ·rw[if_pos c,if_neg (fun q=>q.2 c)]
   ·rw[if_neg c,if_pos ⟨by omega,c⟩]
 | m+1,i,hi,N,hN,g,hg=>by
  obtain ⟨N,rfl⟩:∃ M,N=M+1+1:=⟨N-2,by omega⟩
  have hlt:i<l.len:=by omega
  have hxl:xs.length=l.len:=by rw[hr.len,Xbj]
  rw[Xev.B0_eq,Int.toNat_natCast]
  refine if_of (decide_eq_true (by omega)) (if_of (by simp;omega) ?_)
  by_cases c:(l.el i 1).bool=env
  ·refine Xac (by rw[c];simp) ?_
   rw[Xev.B1_eq,Xaq (a:=(i:Int)+1) (by omega) (by omega)]
   refine partB hl hp hr hw hs m (i+1) (by omega) N (by omega) g fun j hj=> ?_
   rw[hg j hj]
   by_cases d:j<i∧(vaAt l j).env≠env
   ·rw[if_pos d,if_pos ⟨by omega,d.2⟩]
   ·rw[if_neg d,if_neg]
    rintro ⟨q1,q2⟩
    by_cases e:j=i
    ·subst e;exact q2 c
    ·exact d ⟨by omega,q2⟩
  ·refine if_of (by simpa using c) (Xag (hw ..) (if_of (by simp;omega) (if_of (decide_eq_true (by omega)) ?_)))
   rw[Xev.B1_eq,Xaq (a:=(i:Int)+1) (by omega) (by omega)]
   refine partB hl hp hr hw hs m (i+1) (by omega) N (by omega) _ fun j hj=> ?_
   by_cases e:j=i
   ·subst e
    rw[if_pos ⟨by omega,c⟩]
    show (bif j==0+j&&Nat.ble 0 0&&Nat.blt 0 1 then _ else _:T).int=_
    rw[show (j==0+j)=true by simp]
    rfl
   ·show (bif j==0+i&&Nat.ble 0 0&&Nat.blt 0 1 then _ else _:T).int=_
    rw[show (j==0+i)=false by simpa using e]
    show (g j 0).int=_
    rw[hg j hj]
    by_cases d:j<i∧(vaAt l j).env≠env
    ·rw[if_pos d,if_pos ⟨by omega,d.2⟩]
    ·rw[if_neg d,if_neg (fun q=>d ⟨by omega,q.2⟩)]
theorem Part_sp (l:T)(hl:l.len≤9223372036854775807):Ev fun N=>∀ s env,Xlw (K N) l s env=ri (partE (Xaa l) s env):=by
 by_cases hm:mayV (Xaa l)=0
 case neg=>
  refine Ev.step ((Xwc l hl).imp fun N h1 s env=> ?_)
  obtain ⟨t,e,_⟩:=h1 s
  have c:Xcc (Xaa l) s=false:=by
   cases c:Xcc (Xaa l) s with
   | false=>rfl
   | true=>exact absurd (valuesOk_iff.1 c).1 hm
  rw[C_dom_Part_K]
  unfold partE
  rw[c]
  rw[c] at e
  exact Xag e (if_of rfl rfl)
 have h6:=Xhl (Xfa hm)
 rw[Xbj] at h6
 obtain ⟨ht,hp,hP⟩:=Xcp hm
 refine Ev.step (Ev.imp4 (Xwc l hl) low_sp (State_sp l hl hm) (Ev.ge 20) fun N h1 h2 h3 hN s env=> ?_)
 obtain ⟨t,e,ev⟩:=h1 s
 rw[C_dom_Part_K]
 unfold partE
 cases c:Xcc (Xaa l) s with
 | false=>
  rw[c] at e
  exact Xag e (if_of rfl rfl)
 | true=>
  rw[c] at e
  have hx:=ev c
  obtain ⟨_,s0,s1⟩:=valuesOk_iff.1 c
  have hr:=Xcx hp s0
  refine Xag e (Xac rfl ?_)
  have hlen:t.len=l.len:=by rw[hx.1,hr.len,Xbj]
  show Xev.B0 (K N) N t.len l env l (l.len:Int) 0 (fun i j=>t.el i j)=_
  rw[hlen,if_pos rfl]
  refine partB (by omega) hp hr h2 h3 l.len 0 (by omega) N (by omega) _ fun j hj=> ?_
  rw[if_neg (fun q=>absurd q.1 (Nat.not_lt_zero _))]
  exact hx.el0 hj
theorem part_range {l:List Va}{s:Int}{env:Bool}(hm:mayV l=0)(h:Xcc l s=true):0≤partE l s env∧partE l s env<Xcz l:=by
 obtain ⟨ht,hp,hP⟩:=Xcp hm
 unfold partE
 rw[if_pos h,ht]
 exact Xkj hp (Xmv hp (Xcx hp (valuesOk_iff.1 h).2.1))
end Go.Proofs.YtnjandhaeojieaaGreat
set_option linter.unusedVariables false
set_option linter.unusedSimpArgs false
namespace Go.AM
open Go.Proofs.YtnjandhaeojieaaGreat
def Xgd:Int→Nat→List Int
 | _,0=>[]
 | i,m+1=>i::Xgd (i+1) m
theorem upFrom_mem:∀ {m:Nat} {i x:Int},x∈Xgd i m↔i≤x∧x<i+(m:Int)
 | 0,i,x=>by simp only[Xgd,List.not_mem_nil,false_iff];omega
 | m+1,i,x=>by
  simp only[Xgd,List.mem_cons,upFrom_mem (m:=m)]
  omega
theorem Xsv:∀ (m:Nat) (i:Int),(Xgd i m).length=m
 | 0,_=>rfl
 | m+1,i=>by simp[Xgd,Xsv m]
def pickE (l:List Va)(s:Int):Bool:=decide (0≤s)&&(partE l s true==s)
def Xek (m:Md):List Int:=if mayM m≠0 then [] else (Xgd 0 (Xcz m.vars).toNat).filter fun s=>pickE m.vars s&&trueE m.vars m.ie s s
def Xft (m:Md)(p:Int):List Int:=if mayM m≠0 then [] else if pickE m.vars p=false then [] else (Xgd 0 (Xcz m.vars).toNat).filter fun s=>(partE m.vars s true==p)&&trueE m.vars m.is s s
def Gives (xs:List Int)(r:Option R):Prop:=∃ t,r=some (lookR [(0,t)])∧Ints t xs
end Go.AM
namespace Go.Proofs.YtnjandhaeojieaaGreat
open Go.AM
theorem pick_sp (l:T)(hl:l.len≤9223372036854775807):Ev fun N=>∀ o1 n1 k1 o2 n2 k2 te ts ta tn tp s,Xjs (K N) l o1 n1 k1 o2 n2 k2 te ts ta tn tp s=rb (pickE (Xaa l) s):=by
 refine Ev.step ((Part_sp l hl).imp fun N h1 o1 n1 k1 o2 n2 k2 te ts ta tn tp s=> ?_)
 rw[C_choice_pick_K]
 by_cases c:0≤s
 ·have e:pickE (Xaa l) s=(partE (Xaa l) s true==s):=by unfold pickE;rw[decide_eq_true c,Bool.true_and]
  rw[e]
  exact if_of (decide_eq_true c) (Xag (h1 s true) (by rw[Xal];rfl))
 ·have e:pickE (Xaa l) s=false:=by unfold pickE;rw[decide_eq_false c,Bool.false_and]
  rw[e]
  exact Xac (decide_eq_false c) rfl
theorem someB {B:Nat→Nat→Int→(Nat→Nat→T)→Option R}{f:Int→Bool}{tot:Nat}(ht:tot≤512)
  (hB:∀ M n (i:Nat) g,i<tot→B (M+2) n (i:Int) g=(bif f i then (bif decide ((n+1)*8≤140737488355328) then B M (n+1) ((i+1:Nat):Int) (pushG n g i) else none) else B M n ((i+1:Nat):Int) g))
  (hE:∀ M n g,B (M+1) n (tot:Int) g=some (lookR [(0,T.l n g)])):
  ∀ m i,i+m=tot→∀ N n g,2*m+1≤N→n≤i→∃ n' g',B N n (i:Int) g=some (lookR [(0,T.l n' g')])∧intsR n' g'=intsR n g++(Xgd (i:Int) m).filter f
 | 0,i,hi,N,n,g,hN,hn=>by
  obtain ⟨N,rfl⟩:∃ M,N=M+1:=⟨N-1,by omega⟩
  obtain rfl:i=tot:=by omega
  exact ⟨n,g,hE N n g,by simp[Xgd]⟩
 | m+1,i,hi,N,n,g,hN,hn=>by
  obtain ⟨N,rfl⟩:∃ M,N=M+2:=⟨N-2,by omega⟩
  rw[hB N n i g (by omega)]
  simp only[Xgd]
  cases c:f (i:Int) with
  | true=>
   obtain ⟨n',g',e1,e2⟩:=someB ht hB hE m (i+1) (by omega) N (n+1) (pushG n g i) (by omega) (by omega)
   refine ⟨n',g',if_of rfl (if_of (decide_eq_true (by omega)) e1),?_⟩
   rw[e2,Xib,List.filter_cons_of_pos c,List.append_assoc]
   rfl
  | false=>
   obtain ⟨n',g',e1,e2⟩:=someB ht hB hE m (i+1) (by omega) N n g (by omega) (by omega)
   refine ⟨n',g',Xac rfl e1,?_⟩
   rw[e2,List.filter_cons_of_neg (by simp[c])]
   rfl
theorem Gives.cut {xs:List Int}{x:Option R}(h:Gives xs x):Gives xs (x.bind fun r=>some (lookR [(0,(T.l ((r 0).len) (fun i j=>((r 0).el i j))))])):=by
 obtain ⟨t,rfl,h1,h2⟩:=h
 exact ⟨_,rfl,h1,h2⟩
theorem Gives.bind {xs:List Int}{x:Option R}{r:R}{f:R→Option R}(h:x=some r)(k:Gives xs (f r)):Gives xs (x.bind f):=by rw[h];exact k
theorem Gives.of {xs:List Int}{c:Bool}{x y:Option R}(h:c=true)(k:Gives xs x):Gives xs (bif c then x else y):=by rw[h];exact k
theorem Gives.not {xs:List Int}{c:Bool}{x y:Option R}(h:c=false)(k:Gives xs y):Gives xs (bif c then x else y):=by rw[h];exact k
theorem Xfn:Gives [] (some (lookR [(0,(T.l 0 (fun _ _=> .b false)))])):=⟨_,rfl,rfl,fun i v h=>by simp at h⟩
theorem Xwh:Gives [] (some (lookR [(0,noT)])):=⟨_,rfl,Ints_noT⟩
section
variable (l k1 k2 te ts ta tn tp:T)(hl:l.len≤9223372036854775807)(h1:KW k1)(h2:KW k2)(he:KC te)(hs:KC ts)(ha:KW ta)(hn:KW tn)(hp:KW tp)
include hl h1 h2 he hs ha hn hp
theorem may_sp:Ev fun N=>∀ o1 n1 o2 n2,Xkv (K N) l o1 n1 k1 o2 n2 k2 te ts ta tn tp=rb (mayM ⟨Xaa l,.mk o1 n1 (Xad k1),.mk o2 n2 (Xad k2),Xca te,Xca ts,Xad ta,Xad tn,Xad tp⟩==0):=by
 refine Ev.step ((MayM_sp l hl k1 k2 te ts ta tn tp h1 h2 he hs ha hn hp).imp fun N h o1 n1 o2 n2=> ?_)
 rw[C_choice_may_K]
 exact Xag (h o1 n1 o2 n2) rfl
theorem InitEnv_sp:Ev fun N=>∀ o1 n1 o2 n2,Gives (Xek ⟨Xaa l,.mk o1 n1 (Xad k1),.mk o2 n2 (Xad k2),Xca te,Xca ts,Xad ta,Xad tn,Xad tp⟩) (Xki (K N) l o1 n1 k1 o2 n2 k2 te ts ta tn tp):=by
 have base:=Ev.imp4 ((may_sp l k1 k2 te ts ta tn tp hl h1 h2 he hs ha hn hp).up 2) ((Total_sp l hl).up 1) (Ev.and ((pick_sp l hl)) ((True_sp l hl k1 h1))) (Ev.ge 2000) fun N a b c d=>(⟨a,b,c,d⟩:_∧_∧_∧_)
 refine Ev.step (Ev.step (Ev.step (base.imp fun N hb o1 n1 o2 n2=> ?_)))
 obtain ⟨b1,b2,⟨b3,b4⟩,hN⟩:=hb
 rw[Xwz]
 unfold Xek
 by_cases c:mayM ⟨Xaa l,.mk o1 n1 (Xad k1),.mk o2 n2 (Xad k2),Xca te,Xca ts,Xad ta,Xad tn,Xad tp⟩=0
 case neg=>
  rw[if_pos c]
  obtain ⟨t,e,i⟩:=Xfn
  refine ⟨t,Xag (b1 o1 n1 o2 n2) (if_of ?_ e),i⟩
  rw[Xal]
  show (!(mayM _==0))=true
  simpa using c
 rw[if_neg (by simpa using c)]
 have cm:=(Xfe c).1
 simp only at cm
 obtain ⟨ht,hpos,hP⟩:=Xcp cm
 have hr:=Xgy (Xaa l)
 obtain ⟨tot,htot⟩:∃ tot:Nat,Xcz (Xaa l)=(tot:Int):=⟨(Xcz (Xaa l)).toNat,by omega⟩
 have b1:=b1 o1 n1 o2 n2
 rw[c] at b1
 simp only[htot,Int.toNat_natCast] at b2 hr ⊢
 refine Gives.bind b1 (Gives.not (by rw[Xal];rfl) (Gives.cut ?_))
 rw[Xkp,b2]
 have:=someB (B:=fun M n i g=>Xao.B0 (K (N+1)) M n (fun j2765=>(([l,(T.i o1),(T.i n1),k1,(T.i o2),(T.i n2),k2,te,ts,ta,tn,tp]:List T).getD j2765 (.b false))) (tot:Int) i g) (f:=fun s=>pickE (Xaa l) s&&trueE (Xaa l) (.mk o1 n1 (Xad k1)) s s) (tot:=tot) (by omega) (fun M n i g hi=> ?_) (fun M n g=> ?_) tot 0 (by omega) (N+1) 0 (fun _ _=> .b false) (by omega) (Nat.le_refl _)
 ·obtain ⟨n',g',e1,e2⟩:=this
  exact ⟨_,e1,Xgu (by rw[e2];rfl)⟩
 ·rw[Xao.B0_eq]
  refine (if_of (decide_eq_true (by omega)) ?_)
  rw[Xtv]
  have e:((Xjs (K N) l o1 n1 k1 o2 n2 k2 te ts ta tn tp (i:Int)).bind fun r=>(bif (r 0).bool then (Xii (K N) l o1 n1 k1 (i:Int) (i:Int)).bind fun r=>some (lookR [(0,(T.b ((r 0).bool)))]) else some (lookR [(0,(T.b false))])))=rb (pickE (Xaa l) i&&trueE (Xaa l) (.mk o1 n1 (Xad k1)) i i):=by
   rw[b3]
   cases d:pickE (Xaa l) (i:Int) with
   | true=>exact Xag rfl (if_of rfl (Xag (b4 o1 n1 i i) rfl))
   | false=>rfl
  refine Xag e ?_
  rw[Xal]
  show (bif (pickE (Xaa l) i&&trueE (Xaa l) (.mk o1 n1 (Xad k1)) i i) then _ else _)=_
  rw[Xao.B1_eq,Xao.B1_eq,Xaq (a:=(i:Int)+1) (by omega) (by omega)]
  rfl
 ·rw[Xao.B0_eq]
  exact Xac (decide_eq_false (by omega)) rfl
theorem InitSys_sp:Ev fun N=>∀ o1 n1 o2 n2 p,Gives (Xft ⟨Xaa l,.mk o1 n1 (Xad k1),.mk o2 n2 (Xad k2),Xca te,Xca ts,Xad ta,Xad tn,Xad tp⟩ p) (Xkh (K N) l o1 n1 k1 o2 n2 k2 te ts ta tn tp p):=by
 have base:=Ev.imp4 ((may_sp l k1 k2 te ts ta tn tp hl h1 h2 he hs ha hn hp).up 2) ((Total_sp l hl).up 1) (Ev.and ((pick_sp l hl).up 2) (Ev.and (Part_sp l hl) (True_sp l hl k2 h2))) (Ev.ge 2000) fun N a b c d=>(⟨a,b,c,d⟩:_∧_∧_∧_)
 refine Ev.step (Ev.step (Ev.step (base.imp fun N hb o1 n1 o2 n2 p=> ?_)))
 obtain ⟨b1,b2,⟨b3,b5,b4⟩,hN⟩:=hb
 rw[Xwy]
 unfold Xft
 by_cases c:mayM ⟨Xaa l,.mk o1 n1 (Xad k1),.mk o2 n2 (Xad k2),Xca te,Xca ts,Xad ta,Xad tn,Xad tp⟩=0
 case neg=>
  rw[if_pos c]
  obtain ⟨t,e,i⟩:=Xfn
  refine ⟨t,Xag (b1 o1 n1 o2 n2) (if_of ?_ e),i⟩
  rw[Xal]
  show (!(mayM _==0))=true
  simpa using c
 rw[if_neg (by simpa using c)]
 have cm:=(Xfe c).1
 simp only at cm
 obtain ⟨ht,hpos,hP⟩:=Xcp cm
 have hr:=Xgy (Xaa l)
 obtain ⟨tot,htot⟩:∃ tot:Nat,Xcz (Xaa l)=(tot:Int):=⟨(Xcz (Xaa l)).toNat,by omega⟩
 have b1:=b1 o1 n1 o2 n2
 rw[c] at b1
 simp only[htot,Int.toNat_natCast] at b2 hr ⊢
 refine Gives.bind b1 (Gives.not (by rw[Xal];rfl) (Gives.bind (b3 ..) ?_))
 rw[Xal]
 show Gives _ (bif !(pickE (Xaa l) p) then _ else _)
 cases hpk:pickE (Xaa l) p with
 | false=>rw[if_pos rfl];exact Xfn
 | true=>
 rw[if_neg (by simp)]
 refine Gives.not rfl (Gives.cut ?_)
 rw[Xko,b2]
 have:=someB (B:=fun M n i g=>Xan.B0 (K (N+1)) M n (fun j2765=>(([l,(T.i o1),(T.i n1),k1,(T.i o2),(T.i n2),k2,te,ts,ta,tn,tp]:List T).getD j2765 (.b false))) (fun j2834=>(([(T.i p)]:List T).getD j2834 (.b false))) (tot:Int) i g) (f:=fun s=>(partE (Xaa l) s true==p)&&trueE (Xaa l) (.mk o2 n2 (Xad k2)) s s) (tot:=tot) (by omega) (fun M n i g hi=> ?_) (fun M n g=> ?_) tot 0 (by omega) (N+1) 0 (fun _ _=> .b false) (by omega) (Nat.le_refl _)
 ·obtain ⟨n',g',e1,e2⟩:=this
  exact ⟨_,e1,Xgu (by rw[e2];rfl)⟩
 ·rw[Xan.B0_eq]
  refine (if_of (decide_eq_true (by omega)) ?_)
  rw[Xtu]
  have e:((Xlw (K N) l (i:Int) true).bind fun r=>(bif (((r 0).int)==p) then (Xii (K N) l o2 n2 k2 (i:Int) (i:Int)).bind fun r=>some (lookR [(0,(T.b ((r 0).bool)))]) else some (lookR [(0,(T.b false))])))=rb ((partE (Xaa l) i true==p)&&trueE (Xaa l) (.mk o2 n2 (Xad k2)) i i):=by
   rw[b5]
   show (bif partE (Xaa l) i true==p then _ else _)=_
   cases d:(partE (Xaa l) (i:Int) true==p) with
   | true=>exact Xag (b4 o2 n2 i i) rfl
   | false=>rfl
  refine Xag e ?_
  rw[Xal]
  show (bif ((partE (Xaa l) i true==p)&&trueE (Xaa l) (.mk o2 n2 (Xad k2)) i i) then _ else _)=_
  rw[Xan.B1_eq,Xan.B1_eq,Xaq (a:=(i:Int)+1) (by omega) (by omega)]
  rfl
 ·rw[Xan.B0_eq]
  exact Xac (decide_eq_false (by omega)) rfl
end
end Go.Proofs.YtnjandhaeojieaaGreat
set_option linter.unusedVariables false
set_option linter.unusedSimpArgs false
namespace Go.AM
open Go.Proofs.YtnjandhaeojieaaGreat
def vaOf (l:List Va)(v:Int):Va:=(l[v.toNat]?).getD ⟨ByteArray.empty,false,0,0,0⟩
def Xiy (l:List Va)(s:Se)(now next:Int):List Int:=
 if s.any=true then Xgd (lowV (vaOf l s.var)) (sizeV (vaOf l s.var)).toNat
 else if (Xfq l s.e now next).2≠0∨(Xfq l s.e now next).1<lowV (vaOf l s.var)∨lowV (vaOf l s.var)+sizeV (vaOf l s.var)≤(Xfq l s.e now next).1 then [] else [(Xfq l s.e now next).1]
def withE (l:List Va)(st v x:Int):Int:=Xch l ((Xap l st).set v.toNat x)
def stepE (l:List Va)(now next:Int)(out:List Int)(s:Se):List Int:=(Xiy l s now next).flatMap fun x=>out.map fun st=>withE l st s.var x
def Xky (l:List Va)(c:Cm)(keeps now next:Int):List Int:=if trueE l c.guard now next=true then c.sets.foldl (stepE l now next) [keeps] else []
def allE (l:List Va)(cs:List Cm)(keeps now next:Int):List Int:=Lib.compact ((cs.flatMap fun c=>Xky l c keeps now next).mergeSort fun x y=>decide (x≤y))
def mixE:List Va→List Int→List Int→List Int
 | v::r,x::xs,y::ys=>(if v.env=true then y else x)::mixE r xs ys
 | _,_,_=>[]
def Xru (l:List Va)(state pick:Int):Int:=Xch l (mixE l (Xap l state) (Xap l pick))
def envE (m:Md)(state:Int):List Int:=if mayM m≠0 then [] else if partE m.vars state true<0 then [] else allE m.vars m.env (partE m.vars state true) state state
def sysE (m:Md)(state p:Int):List Int:=if mayM m≠0 then [] else if partE m.vars state true<0 then [] else if pickE m.vars p=false then [] else allE m.vars m.sys (Xru m.vars state p) state p
theorem with_eq:∀ {l:List Va} {v:Nat} {s x:Int},Pos l→0≤s→s<prodV l→(hv:v<l.length)→s+((x-lowV l[v])-Int.emod (Int.ediv s (prodV (l.take v))) (sizeV l[v]))*prodV (l.take v)=Xch l ((Xap l s).set v x)
 | u::r,0,s,x,hp,h0,h1,hv=>by
  have hu:=hp.head
  simp only[prodV] at h1
  have hd:=Int.ediv_nonneg h0 (Int.le_of_lt hu)
  have hl:s / sizeV u<prodV r:=Int.ediv_lt_of_lt_mul hu (by rw[Int.mul_comm];exact h1)
  simp only[Xap,List.set_cons_zero,Xch,List.take_zero,prodV,List.getElem_cons_zero,Int.mul_one]
  rw[Int.tdiv_eq_ediv_of_nonneg h0,Xkr hp.tail hd hl]
  have:=Int.emod_add_mul_ediv s (sizeV u)
  show s+(x-lowV u-(s / 1) % sizeV u)=_
  rw[Int.ediv_one]
  omega
 | u::r,v+1,s,x,hp,h0,h1,hv=>by
  have hu:=hp.head
  simp only[prodV] at h1
  have hd:=Int.ediv_nonneg h0 (Int.le_of_lt hu)
  have hl:s / sizeV u<prodV r:=Int.ediv_lt_of_lt_mul hu (by rw[Int.mul_comm];exact h1)
  have ih:=with_eq (x:=x) hp.tail hd hl (by simpa using hv:v<r.length)
  simp only[Xap,List.set_cons_succ,Xch,List.take_succ_cons,prodV,List.getElem_cons_succ]
  rw[Int.tdiv_eq_ediv_of_nonneg h0,Int.tmod_eq_emod_of_nonneg h0,←ih]
  have e:Int.ediv s (sizeV u*prodV (List.take v r))=Int.ediv (s / sizeV u) (prodV (List.take v r)):=(Int.ediv_ediv_of_nonneg (Int.le_of_lt hu)).symm
  rw[e,Int.mul_add]
  have:=Int.emod_add_mul_ediv s (sizeV u)
  have e2:∀ D:Int,D*(sizeV u*prodV (List.take v r))=sizeV u*(D*prodV (List.take v r)):=fun D=>Int.mul_left_comm ..
  rw[e2]
  omega
theorem Xsr {l:List Va}{s v x:Int}(hp:Pos l)(h0:0≤s)(hv0:0≤v)(hv:v<(l.length:Int))(hx:lowV (vaOf l v)≤x∧x<lowV (vaOf l v)+sizeV (vaOf l v)):InR l ((Xap l s).set v.toNat x):=by
 have hr:=Xcx hp h0
 refine InR_of (by rw[List.length_set];exact hr.len) fun i h1 h2=> ?_
 rw[List.length_set] at h2
 by_cases c:v.toNat=i
 ·subst c
  rw[List.getElem_set_self]
  unfold vaOf at hx
  rw[List.getElem?_eq_getElem h1] at hx
  exact hx
 ·rw[List.getElem_set_ne c]
  exact hr.get h1 h2
theorem Xox {l:List Va}{s:Se}{now next x:Int}(h:x∈Xiy l s now next):lowV (vaOf l s.var)≤x∧x<lowV (vaOf l s.var)+sizeV (vaOf l s.var):=by
 unfold Xiy at h
 split at h
 ·have:=upFrom_mem.1 h
  have:=Xfx (vaOf l s.var)
  omega
 ·split at h
  ·cases h
  ·rename_i c
   rw[List.mem_singleton] at h
   subst h
   omega
theorem valuesS_len {l:List Va}{s:Se}{now next:Int}(h:0<sizeV (vaOf l s.var)):((Xiy l s now next).length:Int)≤sizeV (vaOf l s.var):=by
 unfold Xiy
 split
 ·rw[Xsv];omega
 ·split<;>simp<;>omega
theorem prodV_take {l:List Va}(hp:Pos l):∀ v,0<prodV (l.take v)∧prodV (l.take v)≤prodV l:=by
 intro v
 induction l generalizing v with
 | nil=>simp[prodV]
 | cons u r ih=>
  cases v with
  | zero=>
   simp only[List.take_zero,prodV]
   have:=Int.mul_pos hp.head (Xne hp.tail)
   omega
  | succ v=>
   obtain ⟨a,b⟩:=ih hp.tail v
   simp only[List.take_succ_cons,prodV]
   exact ⟨Int.mul_pos hp.head a,Int.mul_le_mul_of_nonneg_left b (Int.le_of_lt hp.head)⟩
theorem size_prod:∀ {l:List Va},Pos l→∀ v∈l,sizeV v≤prodV l
 | u::r,hp,v,hv=>by
  have h1:=Xne hp.tail
  have hu:=hp.head
  simp only[prodV]
  rcases List.mem_cons.1 hv with rfl|hv
  ·have:sizeV v*1≤sizeV v*prodV r:=Int.mul_le_mul_of_nonneg_left (by omega) (by omega)
   omega
  ·have h2:=size_prod hp.tail v hv
   have:1*prodV r≤sizeV u*prodV r:=Int.mul_le_mul_of_nonneg_right (by omega) (by omega)
   omega
end Go.AM
namespace Go.Proofs.YtnjandhaeojieaaGreat
open Go.AM
theorem vaOf_at {l:T}{v:Int}(h0:0≤v)(h1:v<(l.len:Int)):vaOf (Xaa l) v=vaAt l v.toNat:=by
 unfold vaOf
 rw[Xds l (by omega)];rfl
theorem clow_sp (N:Nat)(a:ByteArray)(b:Bool)(x y z:Int):Xmj (K (N+1)) a b x y z=ri (lowV ⟨a,b,x,y,z⟩):=by
 rw[C_choice_low_K]
 unfold lowV
 by_cases c:x=1
 ·rw[if_pos c];exact if_of (by simpa using c) rfl
 ·rw[if_neg c];exact Xac (by simpa using c) rfl
theorem cvaluesB {h:H}{low sz:Int}(hl: -1000≤low∧low≤1000)(hs:sz≤2001):∀ (m:Nat) (i:Nat),(i:Int)+m=sz→∀ N g,m<N→∃ n' g',Xeh.B0 h N i low sz (i:Int) g=some (lookR [(0,T.l n' g')])∧intsR n' g'=intsR i g++Xgd (low+i) m
 | 0,i,hi,N,g,hN=>by
  obtain ⟨N,rfl⟩:∃ M,N=M+1:=⟨N-1,by omega⟩
  rw[Xeh.B0_eq]
  exact ⟨i,g,Xac (decide_eq_false (by omega)) rfl,by simp[Xgd]⟩
 | m+1,i,hi,N,g,hN=>by
  obtain ⟨N,rfl⟩:∃ M,N=M+1:=⟨N-1,by omega⟩
  obtain ⟨n',g',e1,e2⟩:=cvaluesB (h:=h) hl hs m (i+1) (by omega) N (pushG i g (low+i)) (by omega)
  rw[Xeh.B0_eq,Xaq (a:=low+i) (by omega) (by omega),Xaq (a:=(i:Int)+1) (by omega) (by omega)]
  refine ⟨n',g',if_of (decide_eq_true (by omega)) (if_of (decide_eq_true (by omega)) e1),?_⟩
  rw[e2,Xib,List.append_assoc]
  simp only[Xgd,List.singleton_append]
  congr 3
  omega
theorem cvalues_sp (l:T)(hl:l.len≤9223372036854775807)(hm:mayV (Xaa l)=0)(k:T)(hk:KW k):Ev fun N=>∀ v any o n now next,0≤v→v<(l.len:Int)→Gives (Xiy (Xaa l) ⟨v,any,.mk o n (Xad k)⟩ now next) (Xlg (K N) l v any o n k now next):=by
 obtain ⟨ht,hp,hP⟩:=Xcp hm
 refine Ev.step (Ev.step (Ev.imp3 (Size_sp.up 1) ((Value_sp l hl k hk).up 1) (Ev.ge 3000) fun N h1 h2 hN v any o n now next v0 v1=> ?_))
 have hmem:vaAt l v.toNat∈Xaa l:=List.mem_of_getElem? (Xds l (by omega))
 have hpos:=hp _ hmem
 have hlr:=Xvt hpos
 have hsr:=Xfx (vaAt l v.toNat)
 rw[C_choice_values_K]
 unfold Xiy
 simp only[vaOf_at v0 v1]
 have d1:(decide ((0:Int)≤v)&&decide (v<((l.len:Nat):Int)))=true:=by simp;omega
 refine Gives.of d1 (Gives.bind (clow_sp ..) ?_)
 cases any with
 | true=>
  rw[if_pos rfl]
  refine Gives.of rfl (Gives.bind (h1 ..) ?_)
  obtain ⟨n',g',e1,e2⟩:=cvaluesB (h:=K (N+1)) (low:=lowV (vaAt l v.toNat)) (sz:=sizeV (vaAt l v.toNat)) hlr hsr.2 (sizeV (vaAt l v.toNat)).toNat 0 (by omega) (N+1) (fun _ _=> .b false) (by omega)
  refine ⟨_,e1,Xgu ?_⟩
  rw[e2]
  simp[intsR]
 | false=>
  rw[if_neg (by simp)]
  refine Gives.not rfl (Gives.bind (h2 o n now next) ?_)
  obtain ⟨X,hX⟩:∃ X,X=Xfq (Xaa l) (.mk o n (Xad k)) now next:=⟨_,rfl⟩
  rw[←hX]
  by_cases c1:X.2=0
  case neg=>
   rw[if_pos (.inl c1)]
   exact Gives.of (by show (X.2 != 0)=true;simpa using c1) Xfn
  refine Gives.not (by show (X.2 != 0)=false;simpa using c1) ?_
  by_cases c2:X.1<lowV (vaAt l v.toNat)
  ·rw[if_pos (.inr (.inl c2))]
   exact Gives.of (decide_eq_true c2) Xfn
  refine Gives.not (decide_eq_false c2) (Gives.bind (h1 ..) ?_)
  simp only[Xal,int_i]
  show Gives _ (bif decide (X.1≥IntKind.wrap .i64 (lowV (vaAt l v.toNat)+sizeV (vaAt l v.toNat))) then _ else _)
  rw[Xaq (by omega) (by omega)]
  by_cases c3:lowV (vaAt l v.toNat)+sizeV (vaAt l v.toNat)≤X.1
  ·rw[if_pos (.inr (.inr c3))]
   exact Gives.of (decide_eq_true c3) Xfn
  ·rw[if_neg (by omega)]
   refine Gives.not (decide_eq_false c3) ⟨_,rfl,Xgu ?_⟩
   rfl
theorem cwithB {h:H}{l:T}{s v x:Int}(hl:l.len≤6)(hp:Pos (Xaa l))(hP:prodV (Xaa l)≤512)(v0:0≤v)(v1:v<(l.len:Int))(s0:0≤s)(s1:s<prodV (Xaa l))(hx:lowV (vaOf (Xaa l) v)≤x∧x<lowV (vaOf (Xaa l) v)+sizeV (vaOf (Xaa l) v))
  (hz:∀ a b x y z,Xeu h a b x y z=ri (sizeV ⟨a,b,x,y,z⟩)) (hw:∀ a b x y z,Xmj h a b x y z=ri (lowV ⟨a,b,x,y,z⟩)):
  ∀ m i,i+m=v.toNat→∀ N,m<N→Xfh.B0 h N l s v x (prodV ((Xaa l).take i)) (T.l v.toNat (fun i j=>(l.el (0+i) j))) ((v.toNat:Nat):Int) (i:Int)=ri (withE (Xaa l) s v x)
 | 0,i,hi,N,hN=>by
  obtain ⟨N,rfl⟩:∃ M,N=M+1:=⟨N-1,by omega⟩
  obtain rfl:i=v.toNat:=by omega
  have hv:v.toNat<(Xaa l).length:=by rw[Xbj];omega
  have ev:(Xaa l)[v.toNat]=vaAt l v.toNat:=by
   have:=Xds l (i:=v.toNat) (by omega)
   rw[List.getElem?_eq_getElem hv] at this
   exact Option.some.inj this
  have hpos:=hp _ (List.getElem_mem hv)
  have e:=with_eq (x:=x) hp s0 s1 hv
  obtain ⟨W0,W1⟩:=prodV_take hp v.toNat
  rw[vaOf_at v0 v1] at hx
  rw[ev] at e hpos
  have hlr:=Xvt hpos
  have hsr:=Xfx (vaAt l v.toNat)
  obtain ⟨W,hW⟩:∃ W,W=prodV ((Xaa l).take v.toNat):=⟨_,rfl⟩
  rw[←hW] at e W0 W1 ⊢
  have d1:(decide ((0:Int)≤v)&&decide (v<((l.len:Nat):Int)))=true:=by simp;omega
  rw[Xfh.B0_eq]
  refine Xac (decide_eq_false (by omega)) (if_of (by simp;omega) (if_of d1 (Xag (hz ..) (if_of ?_ (if_of d1 (Xag (hw ..) ?_))))))
  ·simp only[Xal,int_i]
   show (!(sizeV (vaAt l v.toNat)==0))=true
   simp;omega
  ·simp only[Xal,int_i]
   show some (lookR [(0,T.i (IntKind.wrap .i64 (s+IntKind.wrap .i64 (IntKind.wrap .i64 (IntKind.wrap .i64 (x-lowV (vaAt l v.toNat))-Int.tmod (IntKind.wrap .i64 (Int.tdiv s W)) (sizeV (vaAt l v.toNat)))*W))))])=ri (withE (Xaa l) s v x)
   have q0:0≤s / W:=Int.ediv_nonneg s0 (by omega)
   have q1:s / W≤s:=Int.ediv_le_self _ s0
   rw[Int.tdiv_eq_ediv_of_nonneg s0,Xaq (a:=s / W) (by omega) (by omega),Int.tmod_eq_emod_of_nonneg q0]
   have r0:=Int.emod_nonneg (s / W) (show sizeV (vaAt l v.toNat)≠0 by omega)
   have r1:=Int.emod_lt_of_pos (s / W) hpos
   rw[Xaq (a:=x-lowV (vaAt l v.toNat)) (by omega) (by omega)]
   have e':s+(x-lowV (vaAt l v.toNat)-s / W % sizeV (vaAt l v.toNat))*W=withE (Xaa l) s v x:=e
   obtain ⟨D,hD⟩:∃ D,D=x-lowV (vaAt l v.toNat)-s / W % sizeV (vaAt l v.toNat):=⟨_,rfl⟩
   rw[←hD] at e' ⊢
   have f1:D*W≤2001*512:=by
    by_cases c:0≤D
    ·exact Int.mul_le_mul (by omega) (by omega) (by omega) (by omega)
    ·have:D*W≤0:=Int.mul_nonpos_of_nonpos_of_nonneg (by omega) (by omega)
     omega
   have f2: -(2001*512)≤D*W:=by
    by_cases c:0≤D
    ·have:0≤D*W:=Int.mul_nonneg c (by omega)
     omega
    ·have:(-D)*W≤2001*512:=Int.mul_le_mul (by omega) (by omega) (by omega) (by omega)
     rw[Int.neg_mul] at this
     omega
   rw[Xaq (a:=D) (by omega) (by omega),Xaq (a:=D*W) (by omega) (by omega),Xaq (a:=s+D*W) (by omega) (by omega),e']
   rfl
 | m+1,i,hi,N,hN=>by
  obtain ⟨N,rfl⟩:∃ M,N=M+1:=⟨N-1,by omega⟩
  have hlt:i<l.len:=by omega
  have hi1:i<(Xaa l).length:=by rw[Xbj];exact hlt
  have ev:(Xaa l)[i]=vaAt l i:=by
   have:=Xds l hlt
   rw[List.getElem?_eq_getElem hi1] at this
   exact Option.some.inj this
  have ih:=cwithB (h:=h) hl hp hP v0 v1 s0 s1 hx hz hw m (i+1) (by omega) N (by omega)
  have et:prodV ((Xaa l).take (i+1))=prodV ((Xaa l).take i)*sizeV (vaAt l i):=by
   rw[List.take_succ_eq_append_getElem hi1,ev]
   have:∀ (a:List Va) (v:Va),prodV (a++[v])=prodV a*sizeV v:=by
    intro a v
    induction a with
    | nil=>simp[prodV]
    | cons u r ih=>simp only[List.cons_append,prodV,ih,Int.mul_assoc]
   exact this _ _
  obtain ⟨W0,W1⟩:=prodV_take hp (i+1)
  rw[Xfh.B0_eq,Int.toNat_natCast]
  refine if_of (decide_eq_true (by omega)) (if_of (by show (decide _&&decide ((i:Int)<((v.toNat:Nat):Int)))=true;simp;omega) (Xag (hz ..) ?_))
  simp only[Xal,int_i]
  show Xfh.B0 h N l s v x (IntKind.wrap .i64 (prodV ((Xaa l).take i)*sizeV (vaAt l (0+i)))) _ _ _=_
  rw[Nat.zero_add,←et,Xaq (a:=prodV ((Xaa l).take (i+1))) (by omega) (by omega),Xaq (a:=(i:Int)+1) (by omega) (by omega)]
  exact ih
theorem cwith_sp (l:T)(hl:l.len≤9223372036854775807)(hm:mayV (Xaa l)=0):Ev fun N=>∀ s v x,0≤s→s<prodV (Xaa l)→0≤v→v<(l.len:Int)→lowV (vaOf (Xaa l) v)≤x→x<lowV (vaOf (Xaa l) v)+sizeV (vaOf (Xaa l) v)→Xjr (K N) l s v x=ri (withE (Xaa l) s v x):=by
 have h6:=Xhl (Xfa hm)
 rw[Xbj] at h6
 obtain ⟨ht,hp,hP⟩:=Xcp hm
 refine Ev.step (Ev.step (Ev.imp (Ev.and (Size_sp.up 1) (Ev.ge 20)) fun N hb s v x s0 s1 v0 v1 x0 x1=> ?_))
 obtain ⟨h1,hN⟩:=hb
 rw[C_choice_with_K]
 refine if_of (by simp;omega) ?_
 exact cwithB (by omega) hp hP v0 v1 s0 s1 ⟨x0,x1⟩ h1 (fun a b x y z=>clow_sp N a b x y z) v.toNat 0 (by omega) (N+1) (by omega)
end Go.Proofs.YtnjandhaeojieaaGreat
set_option linter.unusedVariables false
set_option linter.unusedSimpArgs false
namespace Go.AM
open Go.Proofs.YtnjandhaeojieaaGreat
def Xwd (l:List Va)(ss:List Se):Prop:=∀ s∈ss,0≤s.var∧s.var<(l.length:Int)
def Sts (l:List Va)(xs:List Int):Prop:=∀ x∈xs,0≤x∧x<prodV l
theorem sts_step {l:List Va}{now next:Int}{out:List Int}{s:Se}(hp:Pos l)(ho:Sts l out)(hs:0≤s.var∧s.var<(l.length:Int)):Sts l (stepE l now next out s):=by
 intro x hx
 unfold stepE at hx
 obtain ⟨y,hy,hx⟩:=List.mem_flatMap.1 hx
 obtain ⟨st,hst,rfl⟩:=List.mem_map.1 hx
 exact Xkj hp (Xsr hp (ho st hst).1 hs.1 hs.2 (Xox hy))
theorem Xum {α β:Type}{f:α→List β}{k:Nat}(h:∀ x,(f x).length=k):∀ l:List α,(l.flatMap f).length=l.length*k
 | []=>by simp
 | x::l=>by rw[List.flatMap_cons,List.length_append,h,Xum h l,List.length_cons,Nat.succ_mul,Nat.add_comm]
theorem step_len {l:List Va}{now next:Int}{out:List Int}{s:Se}(hp:Pos l)(hP:prodV l≤24)(hs:0≤s.var∧s.var<(l.length:Int)):(stepE l now next out s).length≤24*out.length∧(Xiy l s now next).length≤24:=by
 have hv:s.var.toNat<l.length:=by omega
 have e:vaOf l s.var=l[s.var.toNat]:=by unfold vaOf;rw[List.getElem?_eq_getElem hv];rfl
 have h1:=hp _ (List.getElem_mem hv)
 have h2:=size_prod hp _ (List.getElem_mem hv)
 have h3:=valuesS_len (l:=l) (s:=s) (now:=now) (next:=next) (by rw[e];exact h1)
 rw[e] at h3
 have h4:(Xiy l s now next).length≤24:=by omega
 refine ⟨?_,h4⟩
 unfold stepE
 rw[Xum (k:=out.length) fun x=>by simp]
 exact Nat.mul_le_mul_right _ h4
theorem sts_leads {l:List Va}{now next:Int}(hp:Pos l):∀ {ss:List Se} {out:List Int},Sts l out→Xwd l ss→Sts l (ss.foldl (stepE l now next) out)
 | [],out,h,_=>h
 | s::ss,out,h,hs=>by
  rw[List.foldl_cons]
  exact sts_leads hp (sts_step hp h (hs s (List.mem_cons_self ..))) fun x hx=>hs x (List.mem_cons_of_mem _ hx)
theorem leads_len {l:List Va}{now next:Int}(hp:Pos l)(hP:prodV l≤24):∀ {ss:List Se} {out:List Int},Xwd l ss→(ss.foldl (stepE l now next) out).length≤out.length*24 ^ ss.length
 | [],out,_=>by simp
 | s::ss,out,hs=>by
  have h1:=leads_len (now:=now) (next:=next) hp hP (ss:=ss) (out:=stepE l now next out s) fun x hx=>hs x (List.mem_cons_of_mem _ hx)
  have h2:=(step_len (now:=now) (next:=next) (out:=out) hp hP (hs s (List.mem_cons_self ..))).1
  simp only[List.foldl_cons,List.length_cons,Nat.pow_succ]
  refine Nat.le_trans h1 ?_
  rw[Nat.mul_comm (24 ^ ss.length) 24,←Nat.mul_assoc]
  exact Nat.mul_le_mul_right _ (by rw[Nat.mul_comm];exact h2)
end Go.AM
namespace Go.Proofs.YtnjandhaeojieaaGreat
open Go.AM
theorem Xob {n:Nat}{g:Nat→Nat→T}{i:Nat}(h:i<(intsR n g).length):(intsR n g)[i]=(g i 0).int:=by simp[intsR]
section
variable {h:H}{l t:T}{now next tlen:Int}{X:List Int}
theorem leadB2 {p0 p2:Nat}{x i vlen j v o n:Int}{any:Bool}{k:T}{gOut gVals:Nat→Nat→T}{A:List Int}(h0:p0≤200000000)(hA:A.length+p0≤10000000000)(hO:Sts (Xaa l) (intsR p0 gOut))(v0:0≤v)(v1:v<(l.len:Int))(x0:lowV (vaOf (Xaa l) v)≤x)(x1:x<lowV (vaOf (Xaa l) v)+sizeV (vaOf (Xaa l) v))
  (hw:∀ s v x,0≤s→s<prodV (Xaa l)→0≤v→v<(l.len:Int)→lowV (vaOf (Xaa l) v)≤x→x<lowV (vaOf (Xaa l) v)+sizeV (vaOf (Xaa l) v)→Xjr h l s v x=ri (withE (Xaa l) s v x)) {c:Nat}
  (hk:∀ M,c≤M→∀ n' g',intsR n' g'=A++(intsR p0 gOut).map (fun st=>withE (Xaa l) st v x)→Gives X (Xbm.B1 h M p0 n' p2 l now next t tlen i vlen (IntKind.wrap .i64 (j+(1:Int))) gOut v any o n k g' gVals)):
  ∀ m q,q+m=p0→∀ N n1 g1,c+m+1≤N→intsR n1 g1=A++((intsR p0 gOut).take q).map (fun st=>withE (Xaa l) st v x)→Gives X (Xbm.B2 h N p0 n1 p2 l now next x t tlen i vlen j (p0:Int) (q:Int) gOut v any o n k g1 gVals)
 | 0,q,hq,N,n1,g1,hN,hg=>by
  obtain ⟨N,rfl⟩:∃ M,N=M+1:=⟨N-1,by omega⟩
  rw[Xbm.B2_eq]
  refine Gives.not (decide_eq_false (by omega)) (hk N (by omega) n1 g1 ?_)
  rw[hg,List.take_of_length_le (by rw[Xdc];omega)]
 | m+1,q,hq,N,n1,g1,hN,hg=>by
  obtain ⟨N,rfl⟩:∃ M,N=M+1:=⟨N-1,by omega⟩
  have hql:q<(intsR p0 gOut).length:=by rw[Xdc];omega
  have hst:=hO _ (List.getElem_mem hql)
  rw[Xob hql] at hst
  have hn1:n1=A.length+q:=by
   have:=congrArg List.length hg
   rw[Xdc,List.length_append,List.length_map,List.length_take] at this
   omega
  have ih:=leadB2 (x:=x) (p2:=p2) (gVals:=gVals) h0 hA hO v0 v1 x0 x1 hw hk m (q+1) (by omega) N (n1+1) (pushG n1 g1 (withE (Xaa l) (gOut q 0).int v x)) (by omega) (by
   rw[Xib,hg,List.take_succ_eq_append_getElem hql,List.map_append,Xob hql,List.append_assoc]
   rfl)
  rw[Xbm.B2_eq,Int.toNat_natCast,Nat.zero_add,Xaq (a:=(q:Int)+1) (by omega) (by omega)]
  refine Gives.of (decide_eq_true (by omega)) (Gives.of (by simp;omega) (Gives.of (decide_eq_true (by omega)) (Gives.bind (hw _ _ _ hst.1 hst.2 v0 v1 x0 x1) (Gives.of (decide_eq_true (by omega)) ih))))
theorem leadB1 {p0:Nat}{i o n:Int}{any:Bool}{k:T}{gOut gVals:Nat→Nat→T}{s:Se}{p2 c1:Nat}(hc1:p0+10≤c1)(h0:p0≤200000000)(hO:Sts (Xaa l) (intsR p0 gOut))(v0:0≤s.var)(v1:s.var<(l.len:Int))(hv:∀ x∈intsR p2 gVals,lowV (vaOf (Xaa l) s.var)≤x∧x<lowV (vaOf (Xaa l) s.var)+sizeV (vaOf (Xaa l) s.var))(h24:p2≤24)
  (hw:∀ s v x,0≤s→s<prodV (Xaa l)→0≤v→v<(l.len:Int)→lowV (vaOf (Xaa l) v)≤x→x<lowV (vaOf (Xaa l) v)+sizeV (vaOf (Xaa l) v)→Xjr h l s v x=ri (withE (Xaa l) s v x)) {c:Nat}
  (hk:∀ M,c≤M→∀ n' g',intsR n' g'=(intsR p2 gVals).flatMap (fun x=>(intsR p0 gOut).map fun st=>withE (Xaa l) st s.var x)→Gives X (Xbm.B0 h M n' l now next t tlen (IntKind.wrap .i64 (i+(1:Int))) g')):
  ∀ m j,j+m=p2→∀ N n1 g1,c+m*c1+1≤N→intsR n1 g1=((intsR p2 gVals).take j).flatMap (fun x=>(intsR p0 gOut).map fun st=>withE (Xaa l) st s.var x)→Gives X (Xbm.B1 h N p0 n1 p2 l now next t tlen i (p2:Int) (j:Int) gOut s.var any o n k g1 gVals)
 | 0,j,hj,N,n1,g1,hN,hg=>by
  obtain ⟨N,rfl⟩:∃ M,N=M+1:=⟨N-1,by omega⟩
  rw[Xbm.B1_eq]
  refine Gives.not (decide_eq_false (by omega)) (hk N (by omega) n1 g1 ?_)
  rw[hg,List.take_of_length_le (by rw[Xdc];omega)]
 | m+1,j,hj,N,n1,g1,hN,hg=>by
  obtain ⟨N,rfl⟩:∃ M,N=M+1:=⟨N-1,by omega⟩
  have hjl:j<(intsR p2 gVals).length:=by rw[Xdc];omega
  have hsm:(m+1)*c1=m*c1+c1:=Nat.succ_mul m c1
  have hx:=hv _ (List.getElem_mem hjl)
  rw[Xob hjl] at hx
  have hn1:(intsR n1 g1).length=j*p0:=by
   rw[hg,Xum (k:=p0) fun x=>by rw[List.length_map,Xdc],List.length_take,Xdc,Nat.min_eq_left (by omega)]
  have hb:j*p0≤24*200000000:=Nat.mul_le_mul (by omega) h0
  rw[Xbm.B1_eq,Int.toNat_natCast,Nat.zero_add]
  refine Gives.of (decide_eq_true (by omega)) (Gives.of (by simp;omega) (Gives.of (decide_eq_true (by omega)) ?_))
  refine leadB2 (A:=intsR n1 g1) (c:=c+m*c1+1) h0 (by omega) hO v0 v1 hx.1 hx.2 hw (fun M hM n' g' hg'=> ?_) p0 0 (by omega) N n1 g1 (by omega) (by simp)
  rw[Xaq (a:=(j:Int)+1) (by omega) (by omega)]
  refine leadB1 hc1 h0 hO v0 v1 hv h24 hw hk m (j+1) (by omega) M n' g' (by omega) ?_
  rw[hg',hg,List.take_succ_eq_append_getElem hjl,List.flatMap_append,List.flatMap_singleton,Xob hjl]
theorem leadB0 {c1 c2:Nat}(hc1:191102976+10≤c1)(hc2:24*c1+10≤c2)(hl:Pos (Xaa l))(hP:prodV (Xaa l)≤24)(ht:t.len≤6)(hin:Xwd (Xaa l) (Xhy t))
  (hw:∀ s v x,0≤s→s<prodV (Xaa l)→0≤v→v<(l.len:Int)→lowV (vaOf (Xaa l) v)≤x→x<lowV (vaOf (Xaa l) v)+sizeV (vaOf (Xaa l) v)→Xjr h l s v x=ri (withE (Xaa l) s v x))
  (hv:∀ i,i<t.len→∀ v any o n now next,0≤v→v<(l.len:Int)→Gives (Xiy (Xaa l) ⟨v,any,.mk o n (Xad (t.el i 4))⟩ now next) (Xlg h l v any o n (t.el i 4) now next)):
  ∀ m i,i+m=t.len→∀ N p0 g,m*c2+1≤N→Sts (Xaa l) (intsR p0 g)→p0*24 ^ m≤191102976→Gives (((Xhy t).drop i).foldl (stepE (Xaa l) now next) (intsR p0 g)) (Xbm.B0 h N p0 l now next t (t.len:Int) (i:Int) g)
 | 0,i,hi,N,p0,g,hN,hs,hb=>by
  obtain ⟨N,rfl⟩:∃ M,N=M+1:=⟨N-1,by omega⟩
  rw[Xbm.B0_eq,List.drop_of_length_le (by rw[Xhm];omega)]
  exact Gives.not (decide_eq_false (by omega)) ⟨_,rfl,Xgu rfl⟩
 | m+1,i,hi,N,p0,g,hN,hs,hb=>by
  obtain ⟨N,rfl⟩:∃ M,N=M+1:=⟨N-1,by omega⟩
  have hlt:i<t.len:=by omega
  have hsm:(m+1)*c2=m*c2+c2:=Nat.succ_mul m c2
  have hmem:seAt t i∈Xhy t:=List.mem_of_getElem? (setsOf_get t hlt)
  have hsi:=hin _ hmem
  have hlen:=Xbj l
  have v0:0≤(t.el i 0).int:=hsi.1
  have v1:(t.el i 0).int<(l.len:Int):=by have:=hsi.2;rw[hlen] at this;exact this
  have hp0:p0≤191102976:=Nat.le_trans (Nat.le_mul_of_pos_right p0 (Nat.pow_pos (by omega))) hb
  obtain ⟨vt,ve,vi⟩:=hv i hlt (t.el i 0).int (t.el i 1).bool (t.el i 2).int (t.el i 3).int now next v0 v1
  have vs:Xiy (Xaa l) ⟨(t.el i 0).int,(t.el i 1).bool,.mk (t.el i 2).int (t.el i 3).int (Xad (t.el i 4))⟩ now next=Xiy (Xaa l) (seAt t i) now next:=rfl
  rw[vs] at vi
  have hvals:intsR vt.len (fun a b=>vt.el a b)=Xiy (Xaa l) (seAt t i) now next:=by
   apply List.ext_getElem
   ·rw[Xdc];exact vi.1
   ·intro a h1 h2
    rw[Xob h1]
    exact vi.el0 h2
  obtain ⟨sl,vl⟩:=step_len (now:=now) (next:=next) (out:=intsR p0 g) hl hP hsi
  rw[Xdc] at sl
  rw[Xbm.B0_eq,Int.toNat_natCast,Xqd t hlt,List.foldl_cons]
  refine Gives.of (decide_eq_true (by omega)) (Gives.of (by simp;omega) (Gives.bind ve ?_))
  simp only[Xal]
  refine leadB1 (s:=seAt t i) (p2:=vt.len) (gVals:=fun a b=>vt.el a b) (c1:=c1) (c:=m*c2+1) (by omega) (by omega) hs v0 v1 (fun x hx=> ?_) (by rw[vi.1];exact vl) hw (fun M hM n' g' hg'=> ?_) vt.len 0 (by omega) N 0 (fun _ _=> .b false) (by
   have:=vi.1
   have:vt.len*c1≤24*c1:=Nat.mul_le_mul_right _ (by omega)
   omega) (by rfl)
  ·rw[hvals] at hx
   exact Xox hx
  ·rw[Xaq (a:=(i:Int)+1) (by omega) (by omega)]
   have e:intsR n' g'=stepE (Xaa l) now next (intsR p0 g) (seAt t i):=by rw[hg',hvals];rfl
   have hn':n'=(stepE (Xaa l) now next (intsR p0 g) (seAt t i)).length:=by rw[←e,Xdc]
   rw[←e]
   refine leadB0 hc1 hc2 hl hP ht hin hw hv m (i+1) (by omega) M n' g' (by omega) (by rw[e];exact sts_step hl hs hsi) ?_
   refine Nat.le_trans (Nat.mul_le_mul_right _ (show n'≤24*p0 by omega)) ?_
   rw[Nat.pow_succ] at hb
   calc 24*p0*24 ^ m=p0*(24 ^ m*24):=by rw[Nat.mul_comm 24 p0,Nat.mul_assoc,Nat.mul_comm 24 (24 ^ m)]
    _≤_:=hb
end
theorem cleads_sp (l:T)(hl:l.len≤9223372036854775807)(hm:mayV (Xaa l)=0)(hP:prodV (Xaa l)≤24)(k t:T)(hk:KW k)(ht:KS t)(h6:t.len≤6)(hin:Xwd (Xaa l) (Xhy t)):Ev fun N=>∀ o n keeps now next,0≤keeps→keeps<prodV (Xaa l)→Gives (Xky (Xaa l) ⟨.mk o n (Xad k),Xhy t⟩ keeps now next) (Xmc (K N) l o n k t keeps now next):=by
 obtain ⟨_,hp,_⟩:=Xcp hm
 refine Ev.step (Ev.imp4 (True_sp l hl k hk) (Ev.all (k:=t.len) fun i hi=>cvalues_sp l hl hm (t.el i 4) (ht.2 i hi)) (cwith_sp l hl hm) (Ev.ge 50000000000) fun N h1 h2 h3 hN o n keeps now next k0 k1=> ?_)
 rw[C_choice_leads_K]
 unfold Xky
 refine Gives.bind (h1 o n now next) ?_
 rw[Xal]
 show Gives _ (bif !(trueE (Xaa l) (.mk o n (Xad k)) now next) then _ else _)
 cases c:trueE (Xaa l) (.mk o n (Xad k)) now next with
 | false=>exact Xfn
 | true=>
  rw[if_pos rfl]
  refine Gives.not rfl ?_
  have e:intsR 1 (fun i4304 j4305=>((([[(T.i keeps)]]:List (List T)).getD i4304 []).getD j4305 (.b false)))=[keeps]:=rfl
  have:=leadB0 (h:=K N) (l:=l) (t:=t) (now:=now) (next:=next) (c1:=191102986) (c2:=5000000000) (by omega) (by omega) hp hP h6 hin h3 h2 t.len 0 (by omega) N 1 (fun i4304 j4305=>((([[(T.i keeps)]]:List (List T)).getD i4304 []).getD j4305 (.b false))) (by omega) (by rw[e];intro x hx;rw[List.mem_singleton.1 hx];exact ⟨k0,k1⟩) (by
   have:24 ^ t.len≤24 ^ 6:=Nat.pow_le_pow_right (by omega) h6
   omega)
  rw[e] at this
  exact this
end Go.Proofs.YtnjandhaeojieaaGreat
