/- The document's own answers on values; the laws EvalSame and EvalForms. -/
import Derived.Test.YtnjandhaeojieaaGreatLa26
set_option linter.unusedVariables false
set_option linter.unusedSimpArgs false
namespace Go.AM
theorem sortedV_bool {v:Va}(h:Xdt v=0)(h1:v.sort=1):v.lo=0∧v.hi=0:=by
 unfold Xdt at h
 rw[if_neg (by omega)] at h
 split at h
 ·cases h
 ·omega
theorem Xui {v:Va}(h:Xdt v=0):lowV v=v.lo:=by
 unfold lowV
 split
 ·rename_i h1;exact (sortedV_bool h h1).1.symm
 ·rfl
theorem nodeV_err {now next:List Int}{op n:Int}{vs:List (Int×Int)}(h:∀ v∈vs,v.2=0∨v.2=6):(nodeV now next op n vs).2=0∨(nodeV now next op n vs).2=6:=by
 have g:∀ j,(vs.getD j (0,0)).2=0∨(vs.getD j (0,0)).2=6:=by
  intro j
  rw[List.getD_eq_getElem?_getD]
  cases c:vs[j]? with
  | none=>exact .inl rfl
  | some v=>exact h v (List.mem_of_getElem? c)
 unfold nodeV
 repeat' split
 all_goals first|exact .inl rfl|exact .inr rfl|exact g _
mutual
theorem valE_err (now next:List Int):∀ e:Ex,(valE now next e).2=0∨(valE now next e).2=6
 | .mk op n ks=>by
  simp only[valE]
  exact nodeV_err (valL_err now next ks)
theorem valL_err (now next:List Int):∀ ks:List Ex,∀ v∈valL now next ks,v.2=0∨v.2=6
 | [],v,h=>by simp[valL] at h
 | k::ks,v,h=>by
  simp only[valL,List.mem_cons] at h
  rcases h with rfl|h
  ·exact valE_err now next k
  ·exact valL_err now next ks v h
end
mutual
theorem valE_zero (now next:List Int):∀ e:Ex,(valE now next e).2≠0→(valE now next e).1=0
 | .mk op n ks=>by
  simp only[valE]
  have hz:=valL_zero now next ks
  have g:∀ j,((valL now next ks).getD j (0,0)).2≠0→((valL now next ks).getD j (0,0)).1=0:=by
   intro j
   rw[List.getD_eq_getElem?_getD]
   cases c:(valL now next ks)[j]? with
   | none=>intro _;rfl
   | some v=>exact hz v (List.mem_of_getElem? c)
  unfold nodeV
  repeat' split
  all_goals first|(intro h;exact absurd rfl h)|(intro _;rfl)|exact g _
theorem valL_zero (now next:List Int):∀ ks:List Ex,∀ v∈valL now next ks,v.2≠0→v.1=0
 | [],v,h=>by simp[valL] at h
 | k::ks,v,h=>by
  simp only[valL,List.mem_cons] at h
  rcases h with rfl|h
  ·exact valE_zero now next k
  ·exact valL_zero now next ks v h
end
end Go.AM
namespace Go.Proofs.YtnjandhaeojieaaGreat
open Go.AM
theorem totalB1 {h:H}{l:T}(hl:l.len≤9223372036854775807)(hz:∀ a b x y z,Xcg h a b x y z=ri (sizeV ⟨a,b,x,y,z⟩))(hp:∀ v∈Xaa l,Xdt v=0∧0<sizeV v){t:Int}(hq:Xed h l=ri t):
  ∀ (m i:Nat),i+m=l.len→∀ N,2*m<N→Xbb.B1 h N l l (l.len:Int) (i:Int)=ri t
 | 0,i,hi,N,hN=>by
  obtain ⟨N,rfl⟩:∃ M,N=M+1:=⟨N-1,by omega⟩
  rw[Xbb.B1_eq]
  exact Xac (decide_eq_false (by omega)) (Xag hq rfl)
 | m+1,i,hi,N,hN=>by
  obtain ⟨N,rfl⟩:∃ M,N=M+1+1:=⟨N-2,by omega⟩
  have hlt:i<l.len:=by omega
  have hmem:vaAt l i∈Xaa l:=List.mem_of_getElem? (Xds l hlt)
  obtain ⟨hso,hpos⟩:=hp _ hmem
  have ih:=totalB1 hl hz hp hq m (i+1) (by omega) N (by omega)
  have b2:Xbb.B2 h (N+1) l l (l.len:Int) (i:Int)=ri t:=by
   rw[Xbb.B2_eq,Xaq (a:=(i:Int)+1) (by omega) (by omega)];exact ih
  rw[Xbb.B1_eq,Int.toNat_natCast]
  refine if_of (decide_eq_true (by omega)) (if_of (by simp;omega) (Xag (hz _ _ _ _ _) (Xac ?_ (Xnk (fun c=> ?_) fun _=>b2))))
  ·have:sizeV (vaAt l i)≠0:=by omega
   show (sizeV (vaAt l i)==0)=false
   simpa using this
  ·have c:((l.el i 2).int==1)=true:=c
   have hb:=sortedV_bool hso (show (l.el i 2).int=1 by simpa using c)
   have l0:(l.el i 3).int=0:=hb.1
   have h0:(l.el i 4).int=0:=hb.2
   exact Xac (by rw[l0];rfl) (Xac (by rw[h0];rfl) b2)
theorem Xkk (l:T)(hl:l.len≤9223372036854775807)(hm:mayV (Xaa l)=0):Ev fun N=>Xcy (K N) l=ri (Xcz (Xaa l)):=by
 refine Ev.step (Ev.imp4 (Xkx l hl) Xmz (refProd_sp l hl) (Ev.ge (2*l.len+9)) fun N h1 h2 h3 hN=> ?_)
 have htot:=Xfa hm
 have hp:=Xkq htot
 have hlen:=Xhl htot
 rw[Xbj] at hlen
 have hpt:Xia (Xaa l) 1≤512∧Xcz (Xaa l)=Xia (Xaa l) 1:=by
  have e:Xcz (Xaa l)=Xfk (Xaa l) 1:=by unfold Xcz;rw[if_neg (by rw[Xbj];omega)]
  rcases prod_total (Xaa l) 1 (by omega) (by omega) (fun v hv=>(hp v hv).1) with h|h
  ·exact absurd (e.trans h.2) htot
  ·exact ⟨h.1,e.trans h.2.2⟩
 obtain ⟨N,rfl⟩:∃ M,N=M+1:=⟨N-1,by omega⟩
 rw[Xnt]
 refine Xag h1 (Xac (by simp[Xal,int_i,hm]) ?_)
 rw[Xbb.B0_eq]
 refine Xac (decide_eq_false (by omega)) (Xag h3 (Xac (decide_eq_false (by rw[Xal,int_i];omega)) ?_))
 rw[hpt.2]
 exact totalB1 hl h2 hp h3 l.len 0 (by omega) N (by omega)
theorem refValuesB {h:H}{l:T}(hl:l.len≤6)(hz:∀ a b x y z,Xcg h a b x y z=ri (sizeV ⟨a,b,x,y,z⟩))(hp:∀ v∈Xaa l,Xdt v=0∧0<sizeV v):
  ∀ (m i:Nat),i+m=l.len→∀ N s g,m<N→0≤s→s≤512→∃ g',Xdj.B0 h N i s l (l.len:Int) (i:Int) g=some (lookR [(0,T.l l.len g'),(1,.b true)])∧intsR l.len g'=intsR i g++Xap ((Xaa l).drop i) s
 | 0,i,hi,N,s,g,hN,h0,h1=>by
  obtain ⟨N,rfl⟩:∃ M,N=M+1:=⟨N-1,by omega⟩
  have e:(Xaa l).drop i=[]:=by unfold Xaa;exact Xjy _ (by omega)
  obtain rfl:i=l.len:=by omega
  refine ⟨g,?_,by rw[e];simp[Xap]⟩
  rw[Xdj.B0_eq]
  exact Xac (decide_eq_false (by omega)) rfl
 | m+1,i,hi,N,s,g,hN,h0,h1=>by
  obtain ⟨N,rfl⟩:∃ M,N=M+1:=⟨N-1,by omega⟩
  have hlt:i<l.len:=by omega
  have e:(Xaa l).drop i=vaAt l i::(Xaa l).drop (i+1):=by unfold Xaa;exact Xgg _ hlt
  have hmem:vaAt l i∈Xaa l:=List.mem_of_getElem? (Xds l hlt)
  obtain ⟨hso,hpos⟩:=hp _ hmem
  have hsz:=Xfx (vaAt l i)
  have elow:=Xui hso
  have hlow: -1000≤lowV (vaAt l i)∧lowV (vaAt l i)≤1000:=by
   unfold lowV
   split
   ·omega
   ·rename_i h2
    unfold sizeV at hpos
    rw[if_neg h2] at hpos
    split at hpos
    ·omega
    ·omega
  have hmod0:0≤Int.tmod s (sizeV (vaAt l i)):=Int.tmod_nonneg _ h0
  have hmod1:Int.tmod s (sizeV (vaAt l i))<sizeV (vaAt l i):=Int.tmod_lt_of_pos _ hpos
  have hdiv0:0≤Int.tdiv s (sizeV (vaAt l i)):=Int.tdiv_nonneg h0 (by omega)
  have hdiv1:Int.tdiv s (sizeV (vaAt l i))≤s:=by
   rw[Int.tdiv_eq_ediv_of_nonneg h0]
   exact Int.ediv_le_self _ h0
  obtain ⟨g',h2,h3⟩:=refValuesB hl hz hp m (i+1) (by omega) N (Int.tdiv s (sizeV (vaAt l i))) (pushG i g (lowV (vaAt l i)+Int.tmod s (sizeV (vaAt l i)))) (by omega) hdiv0 (by omega)
  have hne:(!(sizeV (vaAt l i)==0))=true:=by
   have:sizeV (vaAt l i)≠0:=by omega
   simpa using this
  have ew:IntKind.wrap .i64 (Int.tmod s (sizeV (vaAt l i))+(l.el i 3).int)=lowV (vaAt l i)+Int.tmod s (sizeV (vaAt l i)):=by
   have:(l.el i 3).int=lowV (vaAt l i):=elow.symm
   rw[this,Xaq (by omega) (by omega)]
   omega
  refine ⟨g',?_,?_⟩
  ·rw[Xdj.B0_eq,Int.toNat_natCast]
   refine if_of (decide_eq_true (by omega)) (if_of (by simp;omega) (Xag (hz _ _ _ _ _) (if_of hne (if_of (decide_eq_true (by omega)) (if_of hne ?_)))))
   have e1:((lookR [(0,T.i (sizeV ⟨(l.el i 0).str,(l.el i 1).bool,(l.el i 2).int,(l.el i 3).int,(l.el i 4).int⟩))]) 0).int=sizeV (vaAt l i):=rfl
   rw[e1,ew,Xaq (a:=(i:Int)+1) (by omega) (by omega),Xaq (a:=Int.tdiv s (sizeV (vaAt l i))) (by omega) (by omega)]
   exact h2
  ·rw[h3,Xib,e,List.append_assoc]
   simp only[Xap]
   rfl
theorem Xrn (l:T)(hl:l.len≤9223372036854775807):Ev fun N=>∀ s,∃ t,Xex (K N) l s=some (lookR [(0,t),(1,.b (Xcc (Xaa l) s))])∧(Xcc (Xaa l) s=true→Ints t (Xap (Xaa l) s)):=by
 by_cases c1:mayV (Xaa l)=0
 ·refine Ev.step (Ev.imp4 (Xkx l hl) (Xkk l hl c1) Xmz (Ev.ge (l.len+9)) fun N h1 h2 h3 hN s=> ?_)
  have htot:=Xfa c1
  have hlen:=Xhl htot
  rw[Xbj] at hlen
  have hr:=Xgy (Xaa l)
  rw[Xms]
  unfold Xcc
  by_cases c2:s<0
  ·have:decide (mayV (Xaa l)=0∧0≤s∧s<Xcz (Xaa l))=false:=decide_eq_false (by omega)
   rw[this]
   exact ⟨_,Xag h1 (Xac (by simp[Xal,int_i,c1]) (if_of (decide_eq_true c2) rfl)),fun h=>by cases h⟩
  ·by_cases c3:s≥Xcz (Xaa l)
   ·have:decide (mayV (Xaa l)=0∧0≤s∧s<Xcz (Xaa l))=false:=decide_eq_false (by omega)
    rw[this]
    exact ⟨_,Xag h1 (Xac (by simp[Xal,int_i,c1]) (Xac (decide_eq_false c2) (Xag h2 (if_of (decide_eq_true c3) rfl)))),fun h=>by cases h⟩
   ·have:decide (mayV (Xaa l)=0∧0≤s∧s<Xcz (Xaa l))=true:=decide_eq_true ⟨c1,by omega,by omega⟩
    rw[this]
    obtain ⟨g',e1,e2⟩:=refValuesB (h:=K N) hlen h3 (Xkq htot) l.len 0 (by omega) N s (fun _ _=> .b false) (by omega) (by omega) (by omega)
    refine ⟨_,Xag h1 (Xac (by simp[Xal,int_i,c1]) (Xac (decide_eq_false c2) (Xag h2 (Xac (decide_eq_false c3) e1)))),fun _=>Xgu ?_⟩
    rw[e2,List.drop_zero];rfl
 ·refine Ev.step ((Xkx l hl).imp fun N h1 s=> ?_)
  rw[Xms]
  have:Xcc (Xaa l) s=false:=decide_eq_false (by intro h;exact c1 h.1)
  rw[this]
  exact ⟨_,Xag h1 (if_of (by simpa [Xal,int_i] using c1) rfl),fun h=>by cases h⟩
def VR (c:Option R)(v:Int×Int):Prop:=∃ x,c=some (lookR [(0,.i x),(1,.b (decide (v.2=0)))])∧(v.2=0→x=v.1)
theorem VR.ok {c:Option R}{v:Int×Int}(h:VR c v)(h0:v.2=0):c=some (lookR [(0,.i v.1),(1,.b true)]):=by
 obtain ⟨x,h1,h2⟩:=h
 rw[h1,h2 h0,decide_eq_true h0]
theorem VR.no {c:Option R}{v:Int×Int}(h:VR c v)(h0:v.2≠0):∃ x,c=some (lookR [(0,.i x),(1,.b false)]):=by
 obtain ⟨x,h1,h2⟩:=h
 exact ⟨x,by rw[h1,decide_eq_false h0]⟩
theorem VR.mk {c:Option R}{x:Int}(h:c=some (lookR [(0,.i x),(1,.b true)])):VR c (x,0):=⟨x,h,fun _=>rfl⟩
theorem VR.mkNo {c:Option R}{x y z:Int}(hz:z≠0)(h:c=some (lookR [(0,.i x),(1,.b false)])):VR c (y,z):=⟨x,by rw[h];show _=some (lookR [(0,.i x),(1,.b (decide (z=0)))]);rw[decide_eq_false hz],fun q=>absurd q hz⟩
theorem refB3 (h:H)(N:Nat)(x:Int):Xaf.B3 h (N+1) x=some (lookR [(0,.i x),(1,.b (decide (-1000≤x∧x≤1000)))]):=by
 rw[Xaf.B3_eq]
 by_cases c: -1000≤x
 ·refine if_of (decide_eq_true c) ?_
  have e:decide (x≤1000)=decide (-1000≤x∧x≤1000):=by rw[Bool.eq_iff_iff];simp[c]
  rw[e]
 ·refine Xac (decide_eq_false c) ?_
  rw[decide_eq_false (by omega)]
theorem refB3_in {h:H}{N:Nat}{x:Int}(h1: -1000≤x)(h2:x≤1000):VR (Xaf.B3 h (N+1) x) (x,0):= .mk (by rw[refB3,decide_eq_true ⟨h1,h2⟩])
theorem refB3_any {h:H}{N:Nat}{x:Int}:VR (Xaf.B3 h (N+1) x) (if x< -1000∨1000<x then (0,6) else (x,0)):=by
 by_cases c:x< -1000∨1000<x
 ·rw[if_pos c]
  exact .mkNo (by omega) (by rw[refB3,decide_eq_false (by omega)])
 ·rw[if_neg c]
  exact refB3_in (by omega) (by omega)
theorem refBit_sp (N:Nat)(b:Bool):Xja (K (N+1)) b=ri (bitE b):=by
 rw[C_parryref1_bit_K]
 cases b<;>rfl
theorem refB2 {N M:Nat}{tn tx k:T}{a op n:Int}{vb:Int×Int}(hk:1<k.len)(hb:VR (Xet (K (N+1)) (k.el 1 0).int (k.el 1 1).int (k.el 1 2) tn tx) vb):
  (((6≤op∧op≤8)∨op=15)→(vb.2=0→-1000≤vb.1∧vb.1≤1000)→VR (Xaf.B2 (K (N+1)) (M+2) tn tx a op n k) vb)∧
  (9≤op∧op≤14→-1000≤a∧a≤1000→(vb.2=0→-1000≤vb.1∧vb.1≤1000)→VR (Xaf.B2 (K (N+1)) (M+2) tn tx a op n k) (if vb.2≠0 then (0,vb.2) else if twoE op a vb.1< -1000∨1000<twoE op a vb.1 then (0,6) else (twoE op a vb.1,0))):=by
 have hg:(decide ((1:Int)<(k.len:Int)))=true:=decide_eq_true (by omega)
 by_cases c:vb.2=0
 ·have hb:=hb.ok c
  constructor
  ·intro ho hr
   obtain ⟨r1,r2⟩:=hr c
   have e:vb=(vb.1,0):=Prod.ext rfl c
   rw[e,Xaf.B2_eq]
   have go:=refB3_in (h:=K (N+1)) (N:=M) r1 r2
   have ho:op=6∨op=7∨op=8∨op=15:=by omega
   obtain ⟨x,g1,g2⟩:=go
   refine ⟨x,if_of hg (Xag hb (Xac rfl ?_)),g2⟩
   rcases ho with rfl|rfl|rfl|rfl<;>exact Xac rfl (Xac rfl (Xac rfl (Xac rfl (Xac rfl (Xac rfl g1)))))
  ·intro ho ha hr
   obtain ⟨r1,r2⟩:=hr c
   rw[if_neg (show ¬vb.2≠0 from fun h=>h c)]
   have go:=fun x=>refB3_any (h:=K (N+1)) (N:=M) (x:=x)
   have hm:=mul_range ha ⟨r1,r2⟩
   have ho:op=9∨op=10∨op=11∨op=12∨op=13∨op=14:=by omega
   rw[Xaf.B2_eq]
   rcases ho with rfl|rfl|rfl|rfl|rfl|rfl
   ·obtain ⟨x,g1,g2⟩:=go (twoE 9 a vb.1)
    exact ⟨x,if_of hg (Xag hb (Xac rfl (if_of rfl (Xag (refBit_sp N _) g1)))),g2⟩
   ·obtain ⟨x,g1,g2⟩:=go (twoE 10 a vb.1)
    exact ⟨x,if_of hg (Xag hb (Xac rfl (Xac rfl (if_of rfl (Xag (refBit_sp N _) g1))))),g2⟩
   ·obtain ⟨x,g1,g2⟩:=go (twoE 11 a vb.1)
    exact ⟨x,if_of hg (Xag hb (Xac rfl (Xac rfl (Xac rfl (if_of rfl (Xag (refBit_sp N _) g1)))))),g2⟩
   ·obtain ⟨x,g1,g2⟩:=go (twoE 12 a vb.1)
    refine ⟨x,if_of hg (Xag hb (Xac rfl (Xac rfl (Xac rfl (Xac rfl (if_of rfl ?_)))))),g2⟩
    rw[Xal,int_i,Xaq (a:=a+vb.1) (by omega) (by omega)];exact g1
   ·obtain ⟨x,g1,g2⟩:=go (twoE 13 a vb.1)
    refine ⟨x,if_of hg (Xag hb (Xac rfl (Xac rfl (Xac rfl (Xac rfl (Xac rfl (if_of rfl ?_))))))),g2⟩
    rw[Xal,int_i,Xaq (a:=a-vb.1) (by omega) (by omega)];exact g1
   ·obtain ⟨x,g1,g2⟩:=go (twoE 14 a vb.1)
    refine ⟨x,if_of hg (Xag hb (Xac rfl (Xac rfl (Xac rfl (Xac rfl (Xac rfl (Xac rfl (if_of rfl ?_)))))))),g2⟩
    rw[Xal,int_i,Xaq (a:=a*vb.1) (by omega) (by omega)];exact g1
 ·obtain ⟨x,hb⟩:=hb.no c
  have go:Xaf.B2 (K (N+1)) (M+2) tn tx a op n k=some (lookR [(0,.i 0),(1,.b false)]):=by
   rw[Xaf.B2_eq]
   exact if_of hg (Xag hb (if_of rfl rfl))
  constructor
  ·intro _ _
   exact VR.mkNo (y:=vb.1) c go
  ·intro _ _ _
   rw[if_pos c]
   exact .mkNo c go
theorem refValue1_sp {l:List Va}(hs:Sorts l):∀ k,KW k→Ev fun N=>∀ tn tx now next op n s,Ints tn now→Ints tx next→Typed l (.mk op n (Xad k)) s→rdOk l now next (.mk op n (Xad k))→
  VR (Xet (K N) op n k tn tx) (valE now next (.mk op n (Xad k))):=by
 refine Xkc fun k ih hk=> ?_
 refine Ev.step (Ev.imp2 (Ev.ge 9) (Ev.all (k:=k.len) fun i hi=>ih i hi (hk.el hi)) fun N hN hc tn tx now next op n s hn hx ht hr=> ?_)
 obtain ⟨N,rfl⟩:∃ M,N=M+8:=⟨N-8,by omega⟩
 have kid:∀ i e s',i<k.len→exAt k i=e→Typed l e s'→rdOk l now next e→VR (Xet (K (N+8)) (k.el i 0).int (k.el i 1).int (k.el i 2) tn tx) (valE now next e):=by
  intro i e s' hi he ht hr
  subst he
  exact hc i hi tn tx now next _ _ s' hn hx ht hr
 rw[Xur]
 generalize hks:Xad k=ks at ht hr
 have first:∀ (a:Ex) (r:List Ex),ks=a::r→∀ s',Typed l a s'→rdOk l now next a→∀ (op:Int),5≤op→∀ v:Int×Int,
   ((valE now next a).2≠0→v.2≠0)→((valE now next a).2=0→∀ c:Option R,c=(bif (op==(5:Int)) then some (lookR [(0,(T.i (IntKind.wrap .i64 ((1:Int)-(valE now next a).1)))),(1,(T.b true))]) else (bif (op==(6:Int)) then (bif ((valE now next a).1==(0:Int)) then some (lookR [(0,(T.i 0)),(1,(T.b true))]) else Xaf.B1 (K (N+8)) (N+7) tn tx (valE now next a).1 false op n k) else (bif (op==(7:Int)) then (bif ((valE now next a).1==(1:Int)) then Xaf.B1 (K (N+8)) (N+7) tn tx (valE now next a).1 true op n k else Xaf.B1 (K (N+8)) (N+7) tn tx (valE now next a).1 false op n k) else (bif (op==(8:Int)) then Xaf.B1 (K (N+8)) (N+7) tn tx (valE now next a).1 ((valE now next a).1==(0:Int)) op n k else Xaf.B1 (K (N+8)) (N+7) tn tx (valE now next a).1 false op n k))))→VR c v)→
   VR (bif (op==(1:Int)) then Xaf.B0 (K (N+8)) (N+8) tn tx op (op==(1:Int)) op n k else Xaf.B0 (K (N+8)) (N+8) tn tx op (op==(2:Int)) op n k) v:=by
  intro a r hks2 s' hta hra op ho v hno hyes
  obtain ⟨hl0,he0⟩:=Xnj (hks.trans hks2)
  have h1:=kid 0 a s' hl0 he0 hta hra
  have n1:(op==(1:Int))=false:=by simp;omega
  have n2:(op==(2:Int))=false:=by simp;omega
  have n3:(op==(3:Int))=false:=by simp;omega
  have n4:(op==(4:Int))=false:=by simp;omega
  rw[n1,n2,cond_false,Xaf.B0_eq,n3,n4]
  have hg:(decide ((0:Int)<(k.len:Int)))=true:=decide_eq_true (by omega)
  by_cases c:(valE now next a).2=0
  ·have h1:=h1.ok c
   refine hyes c _ ?_
   refine Xac rfl (Xac rfl (Xac rfl (if_of hg ?_)))
   rw[h1,Xrk,Xal,Xer,int_i,Xmq]
   refine Xac rfl ?_
   generalize (valE now next a).1=x at *
   have ho2:op=5∨op=6∨op=7∨op=8∨8<op:=by omega
   rcases ho2 with rfl|rfl|rfl|rfl|h8
   ·rw[if_of (c:=((5:Int)==5)) rfl rfl,if_of (c:=((5:Int)==5)) rfl rfl]
   ·rw[Xac (c:=((6:Int)==5)) rfl rfl,Xac (c:=((6:Int)==5)) rfl rfl,if_of (c:=((6:Int)==6)) rfl rfl,if_of (c:=((6:Int)==6)) rfl rfl]
    cases (x==0) with
    | true=>exact if_of rfl (Eq.symm (if_of rfl rfl))
    | false=>exact Xac rfl (Xac rfl (Xac rfl (Eq.symm (Xac rfl rfl))))
   ·refine Xac rfl (Xac rfl (if_of rfl (Eq.symm (Xac rfl (Xac rfl (if_of rfl ?_))))))
    cases (x==1) with
    | true=>exact if_of rfl (Eq.symm (if_of rfl rfl))
    | false=>exact Xac rfl (Eq.symm (Xac rfl (Xac rfl rfl)))
   ·exact Xac rfl (Xac rfl (Xac rfl (if_of rfl (Eq.symm (Xac rfl (Xac rfl (Xac rfl (if_of rfl rfl))))))))
   ·have n5:(op==(5:Int))=false:=by simp;omega
    have n6:(op==(6:Int))=false:=by simp;omega
    have n7:(op==(7:Int))=false:=by simp;omega
    have n8:(op==(8:Int))=false:=by simp;omega
    rw[n5,n6,n7,n8]
    exact Xac rfl (Xac rfl (Xac rfl (Xac rfl (Eq.symm (Xac rfl (Xac rfl (Xac rfl (Xac rfl rfl))))))))
  ·obtain ⟨x,h1⟩:=h1.no c
   have:v=(v.1,v.2):=rfl
   rw[this]
   exact .mkNo (hno c) (Xac rfl (Xac rfl (Xac rfl (if_of hg (Xag h1 (if_of rfl rfl))))))
 have rng:∀ {e:Ex} {s':Int},Typed l e s'→rdOk l now next e→(valE now next e).2=0→-1000≤(valE now next e).1∧(valE now next e).1≤1000∧(s'=1→(valE now next e).1=0∨(valE now next e).1=1):=fun ht hr h0=>Xhk ht hr h0
 cases ht with
 | num h1 h2=>
  rw[Xss _ _ (.inl rfl)]
  refine .mk ?_
  refine if_of rfl ?_
  show Xaf.B0 (K (N+8)) (N+7+1) tn tx 1 _ 1 n k=_
  rw[Xaf.B0_eq]
  exact if_of rfl rfl
 | bool h=>
  rw[Xss _ _ (.inr rfl)]
  refine .mk (Xac rfl ?_)
  show Xaf.B0 (K (N+8)) (N+7+1) tn tx 2 _ 2 n k=_
  rw[Xaf.B0_eq]
  exact if_of rfl rfl
 | @var op i v ho h hi=>
  simp only[rdOk] at hr
  rcases ho with rfl|rfl
  ·obtain ⟨x,h1,h2,h3,h4⟩:=hr.1 rfl v (by simpa using h)
   have e:valE now next (.mk 3 i [])=(x,0):=by rw[valE_now,List.getD_eq_getElem?_getD,h1];rfl
   rw[e]
   obtain ⟨b1,b2⟩:=hn.at (n:=(i:Int)) (by omega) h1
   refine .mk (Xac rfl ?_)
   show Xaf.B0 (K (N+8)) (N+7+1) tn tx 3 _ 3 i k=_
   rw[Xaf.B0_eq,b2]
   exact Xac rfl (if_of rfl (if_of (by simp;omega) rfl))
  ·obtain ⟨x,h1,h2,h3,h4⟩:=hr.2.1 rfl v (by simpa using h)
   have e:valE now next (.mk 4 i [])=(x,0):=by rw[valE_next,List.getD_eq_getElem?_getD,h1];rfl
   rw[e]
   obtain ⟨b1,b2⟩:=hx.at (n:=(i:Int)) (by omega) h1
   refine .mk (Xac rfl ?_)
   show Xaf.B0 (K (N+8)) (N+7+1) tn tx 4 _ 4 i k=_
   rw[Xaf.B0_eq,b2]
   exact Xac rfl (Xac rfl (if_of rfl (if_of (by simp;omega) rfl)))
 | @not a ha=>
  simp only[rdOk,rdOkL] at hr
  refine first a [] rfl 1 ha hr.2.2.1 5 (by omega) _ (fun c=>by rw[valE_not,if_pos c];exact c) (fun c q hq=> ?_)
  rw[valE_not,if_neg (show ¬(valE now next a).2≠0 from fun h=>h c),hq]
  have:=(rng ha hr.2.2.1 c).2.2 rfl
  refine .mk ?_
  show some (lookR [(0,T.i (IntKind.wrap .i64 (1-(valE now next a).1))),_])=_
  rw[Xaq (by omega) (by omega)]
 | @logic op a b ho ha hb=>
  simp only[rdOk,rdOkL] at hr
  obtain ⟨hl1,he1⟩:=Xiq hks
  have h2:=kid 1 b 1 hl1 he1 hb hr.2.2.2.1
  have b2:=fun x=>(refB2 (N:=N+7) (M:=N+4) (a:=x) (op:=op) (n:=0) hl1 h2).1 (by omega) (fun c=>by have:=rng hb hr.2.2.2.1 c;omega)
  refine first a [b] rfl 1 ha hr.2.2.1 op (by omega) _ (fun c=>by rw[Xst _ _ ho,if_pos c];exact c) (fun c q hq=> ?_)
  rw[Xst _ _ ho,if_neg (show ¬(valE now next a).2≠0 from fun h=>h c)]
  have hv:=(rng ha hr.2.2.1 c).2.2 rfl
  have B1f:∀ x,Xaf.B1 (K (N+8)) (N+7) tn tx x false op 0 k=Xaf.B2 (K (N+8)) (N+6) tn tx x op 0 k:=by
   intro x
   show Xaf.B1 (K (N+8)) (N+6+1) tn tx x false op 0 k=_
   rw[Xaf.B1_eq]
   exact Xac rfl (Xac (by simp;omega) rfl)
  have B1t:∀ x,Xaf.B1 (K (N+8)) (N+7) tn tx x true op 0 k=some (lookR [(0,.i 1),(1,.b true)]):=by
   intro x
   show Xaf.B1 (K (N+8)) (N+6+1) tn tx x true op 0 k=_
   rw[Xaf.B1_eq]
   exact if_of rfl rfl
  generalize (valE now next a).1=x at *
  have ho2:op=6∨op=7∨op=8:=by omega
  rcases ho2 with rfl|rfl|rfl
  ·rcases hv with rfl|rfl
   ·rw[hq.trans (Xac rfl (if_of rfl (if_of rfl rfl)))];exact .mk rfl
   ·rw[hq.trans (Xac rfl (if_of rfl (Xac rfl (B1f 1))))];exact b2 1
  ·rcases hv with rfl|rfl
   ·rw[hq.trans (Xac rfl (Xac rfl (if_of rfl (Xac rfl (B1f 0)))))];exact b2 0
   ·rw[hq.trans (Xac rfl (Xac rfl (if_of rfl (if_of rfl (B1t 1)))))];exact .mk rfl
  ·rcases hv with rfl|rfl
   ·rw[hq.trans (Xac rfl (Xac rfl (Xac rfl (if_of rfl (B1t 0)))))];exact .mk rfl
   ·rw[hq.trans (Xac rfl (Xac rfl (Xac rfl (if_of rfl (B1f 1)))))];exact b2 1
 | @same s' a b ha hb=>
  simp only[rdOk,rdOkL] at hr
  obtain ⟨hl1,he1⟩:=Xiq hks
  have h2:=kid 1 b s' hl1 he1 hb hr.2.2.2.1
  refine first a [b] rfl s' ha hr.2.2.1 9 (by omega) _ (fun c=>by rw[Xkb _ _ (by omega),if_pos c];exact c) (fun c q hq=> ?_)
  rw[Xkb _ _ (by omega),if_neg (show ¬(valE now next a).2≠0 from fun h=>h c)]
  have ra:=rng ha hr.2.2.1 c
  have b2:=(refB2 (N:=N+7) (M:=N+4) (a:=(valE now next a).1) (op:=9) (n:=0) hl1 h2).2 (by omega) ⟨ra.1,ra.2.1⟩ (fun c=>by have:=rng hb hr.2.2.2.1 c;omega)
  have e1:Xaf.B1 (K (N+8)) (N+6+1) tn tx (valE now next a).1 false 9 0 k=Xaf.B2 (K (N+8)) (N+6) tn tx (valE now next a).1 9 0 k:=by
   rw[Xaf.B1_eq]
   exact Xac rfl (Xac rfl rfl)
  rw[hq.trans (Xac rfl (Xac rfl (Xac rfl (Xac rfl e1))))]
  exact b2
 | @less op a b ho ha hb=>
  simp only[rdOk,rdOkL] at hr
  obtain ⟨hl1,he1⟩:=Xiq hks
  have h2:=kid 1 b 2 hl1 he1 hb hr.2.2.2.1
  refine first a [b] rfl 2 ha hr.2.2.1 op (by omega) _ (fun c=>by rw[Xkb _ _ (by omega),if_pos c];exact c) (fun c q hq=> ?_)
  rw[Xkb _ _ (by omega),if_neg (show ¬(valE now next a).2≠0 from fun h=>h c)]
  have ra:=rng ha hr.2.2.1 c
  have b2:=(refB2 (N:=N+7) (M:=N+4) (a:=(valE now next a).1) (op:=op) (n:=0) hl1 h2).2 (by omega) ⟨ra.1,ra.2.1⟩ (fun c=>by have:=rng hb hr.2.2.2.1 c;omega)
  have e1:Xaf.B1 (K (N+8)) (N+6+1) tn tx (valE now next a).1 false op 0 k=Xaf.B2 (K (N+8)) (N+6) tn tx (valE now next a).1 op 0 k:=by
   rw[Xaf.B1_eq]
   exact Xac rfl (Xac (by simp;omega) rfl)
  rw[hq.trans (Xac (by simp;omega) (Xac (by simp;omega) (Xac (by simp;omega) (Xac (by simp;omega) e1))))]
  exact b2
 | @sum op a b ho ha hb=>
  simp only[rdOk,rdOkL] at hr
  obtain ⟨hl1,he1⟩:=Xiq hks
  have h2:=kid 1 b 2 hl1 he1 hb hr.2.2.2.1
  refine first a [b] rfl 2 ha hr.2.2.1 op (by omega) _ (fun c=>by rw[Xkb _ _ (by omega),if_pos c];exact c) (fun c q hq=> ?_)
  rw[Xkb _ _ (by omega),if_neg (show ¬(valE now next a).2≠0 from fun h=>h c)]
  have ra:=rng ha hr.2.2.1 c
  have b2:=(refB2 (N:=N+7) (M:=N+4) (a:=(valE now next a).1) (op:=op) (n:=0) hl1 h2).2 (by omega) ⟨ra.1,ra.2.1⟩ (fun c=>by have:=rng hb hr.2.2.2.1 c;omega)
  have e1:Xaf.B1 (K (N+8)) (N+6+1) tn tx (valE now next a).1 false op 0 k=Xaf.B2 (K (N+8)) (N+6) tn tx (valE now next a).1 op 0 k:=by
   rw[Xaf.B1_eq]
   exact Xac rfl (Xac (by simp;omega) rfl)
  rw[hq.trans (Xac (by simp;omega) (Xac (by simp;omega) (Xac (by simp;omega) (Xac (by simp;omega) e1))))]
  exact b2
 | @ite s' a b c ha hb hc'=>
  simp only[rdOk,rdOkL] at hr
  obtain ⟨hl1,he1⟩:=Xiq hks
  obtain ⟨hl2,he2⟩:=kids_cons3 hks
  have h2:=kid 1 b s hl1 he1 hb hr.2.2.2.1
  have h3:=kid 2 c s hl2 he2 hc' hr.2.2.2.2.1
  refine first a [b,c] rfl 1 ha hr.2.2.1 15 (by omega) _ (fun c=>by rw[valE_ite,if_pos c];exact c) (fun q0 q hq=> ?_)
  have hv:=(rng ha hr.2.2.1 q0).2.2 rfl
  rw[valE_ite,if_neg (show ¬(valE now next a).2≠0 from fun h=>h q0),if_neg (by omega)]
  have hq:=hq.trans (Xac rfl (Xac rfl (Xac rfl (Xac rfl rfl))))
  have b2:=(refB2 (N:=N+7) (M:=N+4) (a:=(1:Int)) (op:=15) (n:=0) hl1 h2).1 (by omega) (fun c=>by have:=rng hb hr.2.2.2.1 c;omega)
  rcases hv with hv|hv<;>rw[hv] at hq ⊢
  ·show VR q (valE now next c)
   rw[hq,Xaf.B1_eq]
   obtain ⟨x,x1,x2⟩:=h3
   exact ⟨x,Xac rfl (if_of rfl (if_of rfl (if_of (decide_eq_true (by omega)) (Xag x1 rfl)))),x2⟩
  ·show VR q (valE now next b)
   have e1:Xaf.B1 (K (N+8)) (N+6+1) tn tx 1 false 15 0 k=Xaf.B2 (K (N+8)) (N+6) tn tx 1 15 0 k:=by
    rw[Xaf.B1_eq]
    exact Xac rfl (if_of rfl (Xac rfl rfl))
   rw[hq.trans e1]
   exact b2
theorem refValue_sp (l:T)(hl:l.len≤9223372036854775807)(k:T)(hk:KW k):Ev fun N=>∀ op n now next,Xgj (K N) l op n k now next=rii (Xfq (Xaa l) (.mk op n (Xad k)) now next).1 (Xfq (Xaa l) (.mk op n (Xad k)) now next).2:=by
 by_cases c0:mayV (Xaa l)=0
 ·refine Ev.step (Ev.imp3 (Xtc l hl k hk) (Xrn l hl) (refValue1_sp (l:=Xaa l) (Xtg c0) k hk) fun N h1 h2 h3 op n now next=> ?_)
  rw[Xns]
  unfold Xfq
  refine Xag (h1 op n) ?_
  by_cases c1:(sortE (Xaa l) (.mk op n (Xad k))).2=0
  ·rw[if_neg (show ¬_≠_ from fun h=>h c1)]
   refine Xac (by simp[Xer,int_i,c1]) ?_
   obtain ⟨ta,ha,ia⟩:=h2 now
   obtain ⟨tb,hb,ib⟩:=h2 next
   refine Xag ha (Xag hb ?_)
   cases ca:Xcc (Xaa l) now with
   | false=>rw[if_pos (.inl rfl)];exact if_of rfl rfl
   | true=>
    cases cb:Xcc (Xaa l) next with
    | false=>rw[if_pos (.inr rfl)];exact Xac rfl (if_of rfl rfl)
    | true=>
     rw[if_neg (by simp)]
     have ht:=(sortE_ok c1).2.2.2.2.2
     have hv:=h3 _ _ _ _ op n _ (ia ca).shift (ib cb).shift ht (Vals.rdOk (Xjh ca) (Xjh cb) _)
     refine Xac rfl (Xac rfl ?_)
     rcases valE_err (Xap (Xaa l) now) (Xap (Xaa l) next) (.mk op n (Xad k)) with e|e
     ·refine Xag (hv.ok e) (Xac rfl ?_)
      rw[e];rfl
     ·have h0:=(Xhk ht (Vals.rdOk (Xjh ca) (Xjh cb) _))
      obtain ⟨x,hx⟩:=hv.no (by omega)
      refine Xag hx (if_of rfl ?_)
      rw[e]
      have z:∀ e:Ex,∀ a b:List Int,(valE a b e).2≠0→(valE a b e).1=0:=by
       intro e a b
       exact valE_zero a b e
      rw[z _ _ _ (by omega)];rfl
  ·rw[if_pos c1]
   exact if_of (by simpa [Xer,int_i] using c1) rfl
 ·refine Ev.step ((Xtc l hl k hk).imp fun N h1 op n now next=> ?_)
  rw[Xns]
  have c1:(sortE (Xaa l) (.mk op n (Xad k))).2≠0:=by unfold sortE;rw[if_pos c0];exact c0
  unfold Xfq
  rw[if_pos c1]
  exact Xag (h1 op n) (if_of (by simpa [Xer,int_i] using c1) rfl)
theorem Xtb (l:T)(hl:l.len≤9223372036854775807)(k:T)(hk:KW k):Ev fun N=>∀ op n now next,Xfy (K N) l op n k now next=rb (trueE (Xaa l) (.mk op n (Xad k)) now next):=by
 refine Ev.step (Ev.imp2 (Xtc l hl k hk) (refValue_sp l hl k hk) fun N h1 h2 op n now next=> ?_)
 rw[Xwp]
 refine Xag (h1 op n) (Xag (h2 op n now next) ?_)
 unfold trueE
 rw[Xer,Xal,int_i,int_i,Xal,int_i]
 by_cases c0:(sortE (Xaa l) (.mk op n (Xad k))).2=0
 ·generalize Xfq (Xaa l) (.mk op n (Xad k)) now next=v
  generalize sortE (Xaa l) (.mk op n (Xad k))=s at *
  by_cases c1:v.2=0
  ·refine if_of (by simpa using c1) ?_
   by_cases c2:s.1=1
   ·refine if_of (by simpa using c2) ?_
    have:(v.1==1)=decide (s.2=0∧s.1=1∧v.2=0∧v.1=1):=by rw[Bool.eq_iff_iff];simp[c0,c1,c2]
    rw[this];rfl
   ·refine Xac (by simpa using c2) ?_
    rw[decide_eq_false (by intro h;exact c2 h.2.1)];rfl
  ·refine Xac (by simpa using c1) ?_
   rw[decide_eq_false (by intro h;exact c1 h.2.2.1)];rfl
 ·have e:Xfq (Xaa l) (.mk op n (Xad k)) now next=(0,(sortE (Xaa l) (.mk op n (Xad k))).2):=by unfold Xfq;rw[if_pos c0]
  rw[e]
  refine Xac (by simpa using c0) ?_
  rw[decide_eq_false (by intro h;exact c0 h.1)];rfl
end Go.Proofs.YtnjandhaeojieaaGreat
