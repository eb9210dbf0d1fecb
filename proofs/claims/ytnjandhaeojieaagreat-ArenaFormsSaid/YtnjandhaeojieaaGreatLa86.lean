/- Where an expression is true. -/
import Derived.Test.YtnjandhaeojieaaGreatLa80
set_option linter.unusedVariables false
set_option linter.unusedSimpArgs false
namespace Go.AM
open Go.Proofs.YtnjandhaeojieaaGreat
def Xik (l:List Va)(e:Ex)(v:Vx):Bool:=decide (v.1=3)&&trueE l e v.2.1 v.2.1
def WhOk (l:List Va)(e:Ex)(A:List Vx)(r:Option R):Prop:=∃ n g,r=some (lookR [(0,T.l n g)])∧n=A.length∧∀ i v,A[i]? =some v→(g i 0).bool=Xik l e v
def setU (g:Nat→Nat→T)(k:Nat)(x:T):Nat→Nat→T:=fun i j=>(bif i==k&&Nat.ble 0 j&&Nat.blt j (0+([x]:List T).length) then ([x]:List T).getD (j-0) (.b false) else (g i j))
theorem setU_at (g:Nat→Nat→T)(k:Nat)(x:T):setU g k x k 0=x:=by
 unfold setU
 rw[beq_self_eq_true]
 rfl
theorem setU_ne (g:Nat→Nat→T){k i:Nat}(x:T)(j:Nat)(h:i≠k):setU g k x i j=g i j:=by
 unfold setU
 rw[show (i==k)=false by simpa using h]
 rfl
theorem boolLoop {n:Nat}{w:Nat→Bool}{B:Nat→Nat→(Nat→Nat→T)→Option R}(hEnd:∀ N g,B (N+1) n g=some (lookR [(0,T.l n g)]))(hStep:∀ N i g,i<n→B (N+2) i g=B N (i+1) (setU g i (T.b (w i)))):
  ∀ (k i:Nat),i+k=n→∀ N g,(∀ j,j<i→(g j 0).bool=w j)→∃ g',B (N+2*k+1) i g=some (lookR [(0,T.l n g')])∧∀ j,j<n→(g' j 0).bool=w j
 | 0,i,hi,N,g,hg=>by
  have:i=n:=by omega
  subst this
  exact ⟨g,hEnd N g,hg⟩
 | k+1,i,hi,N,g,hg=>by
  obtain ⟨g',e,h⟩:=boolLoop hEnd hStep k (i+1) (by omega) N (setU g i (T.b (w i))) (fun j hj=>by
   by_cases c:j=i
   ·subst c;rw[setU_at];rfl
   ·rw[setU_ne _ _ _ c];exact hg j (by omega))
  refine ⟨g',?_,h⟩
  rw[show N+2*(k+1)+1=(N+2*k+1)+2 by omega,hStep _ i g (by omega)]
  exact e
end Go.AM
namespace Go.Proofs.YtnjandhaeojieaaGreat
open Go.AM
section
variable {h:H}{l:T}{o1 n1:Int}{k1:T}{o2 n2:Int}{k2 te ts ta tn tp:T}{o n:Int}{k:T}{nA:Nat}{gA:Nat→Nat→T}{A:List Vx}
theorem whereB (hT:∀ op n now next,Xii h l op n k now next=rb (trueE (Xaa l) (.mk op n (Xad k)) now next))(hv:Verts nA gA A)(hA:A.length≤3000)(N:Nat)(g:Nat→Nat→T):
  WhOk (Xaa l) (.mk o n (Xad k)) A (Xcm.B0 h (N+2*nA+1) nA (T.l nA gA) (nA:Int) 0 l o1 n1 k1 o2 n2 k2 te ts ta tn tp o n k g):=by
 have hnA:=hv.1
 obtain ⟨g',e,hg⟩:=boolLoop (n:=nA) (w:=fun i=>Xik (Xaa l) (.mk o n (Xad k)) ((A[i]?).getD (0,0,0))) (B:=fun N i g=>Xcm.B0 h N nA (T.l nA gA) (nA:Int) (i:Int) l o1 n1 k1 o2 n2 k2 te ts ta tn tp o n k g) (fun N g=>by
   show Xcm.B0 h (N+1) nA (T.l nA gA) (nA:Int) (nA:Int) l o1 n1 k1 o2 n2 k2 te ts ta tn tp o n k g=_
   rw[Xcm.B0_eq]
   exact Xac (decide_eq_false (by omega)) rfl) (fun N i g hi=>by
   obtain ⟨v,hav⟩:∃ v,A[i]? =some v:=⟨_,List.getElem?_eq_getElem (by omega)⟩
   obtain ⟨y1,y2,y3⟩:=hv.2 i v hav
   have ee:Xik (Xaa l) (.mk o n (Xad k)) ((A[i]?).getD (0,0,0))=Xik (Xaa l) (.mk o n (Xad k)) v:=by rw[hav];rfl
   show Xcm.B0 h (N+1+1) nA (T.l nA gA) (nA:Int) (i:Int) l o1 n1 k1 o2 n2 k2 te ts ta tn tp o n k g=_
   rw[ee,Xcm.B0_eq,Int.toNat_natCast,Nat.zero_add i]
   simp only[len_l,el_l]
   rw[y1,y2]
   have b1:∀ g,Xcm.B1 h (N+1) nA (T.l nA gA) (nA:Int) (i:Int) l o1 n1 k1 o2 n2 k2 te ts ta tn tp o n k g=Xcm.B0 h N nA (T.l nA gA) (nA:Int) ((i+1:Nat):Int) l o1 n1 k1 o2 n2 k2 te ts ta tn tp o n k g:=by
    intro g
    rw[Xcm.B1_eq,Xaq (a:=(i:Int)+1) (by omega) (by omega)]
    rfl
   unfold Xik
   by_cases c:v.1=3
   ·rw[decide_eq_true c,Bool.true_and]
    exact if_of (decide_eq_true (by omega)) (if_of (by simp;omega) (if_of (by simpa using c) (Xag (hT o n v.2.1 v.2.1) (if_of (by simp;omega) (if_of (decide_eq_true (by omega)) (b1 _))))))
   ·rw[decide_eq_false c,Bool.false_and]
    exact if_of (decide_eq_true (by omega)) (if_of (by simp;omega) (Xac (by simpa using c) (if_of (by simp;omega) (if_of (decide_eq_true (by omega)) (b1 _))))))
  nA 0 (by omega) N g (fun j hj=>absurd hj (Nat.not_lt_zero _))
 refine ⟨nA,g',e,hnA,fun i v hi=> ?_⟩
 have hlt:i<nA:=by have:=(List.getElem?_eq_some_iff.1 hi).1;omega
 rw[hg i hlt,hi]
 rfl
theorem where9B (hT:∀ op n now next,Xfy h l op n k now next=rb (trueE (Xaa l) (.mk op n (Xad k)) now next))(hv:Verts nA gA A)(hA:A.length≤3000)(N:Nat)(g:Nat→Nat→T):
  WhOk (Xaa l) (.mk o n (Xad k)) A (Xbs.B0 h (N+2*nA+1) nA (T.l nA gA) (nA:Int) 0 l o1 n1 k1 o2 n2 k2 te ts ta tn tp o n k g):=by
 have hnA:=hv.1
 obtain ⟨g',e,hg⟩:=boolLoop (n:=nA) (w:=fun i=>Xik (Xaa l) (.mk o n (Xad k)) ((A[i]?).getD (0,0,0))) (B:=fun N i g=>Xbs.B0 h N nA (T.l nA gA) (nA:Int) (i:Int) l o1 n1 k1 o2 n2 k2 te ts ta tn tp o n k g) (fun N g=>by
   show Xbs.B0 h (N+1) nA (T.l nA gA) (nA:Int) (nA:Int) l o1 n1 k1 o2 n2 k2 te ts ta tn tp o n k g=_
   rw[Xbs.B0_eq]
   exact Xac (decide_eq_false (by omega)) rfl) (fun N i g hi=>by
   obtain ⟨v,hav⟩:∃ v,A[i]? =some v:=⟨_,List.getElem?_eq_getElem (by omega)⟩
   obtain ⟨y1,y2,y3⟩:=hv.2 i v hav
   have ee:Xik (Xaa l) (.mk o n (Xad k)) ((A[i]?).getD (0,0,0))=Xik (Xaa l) (.mk o n (Xad k)) v:=by rw[hav];rfl
   show Xbs.B0 h (N+1+1) nA (T.l nA gA) (nA:Int) (i:Int) l o1 n1 k1 o2 n2 k2 te ts ta tn tp o n k g=_
   rw[ee,Xbs.B0_eq,Int.toNat_natCast,Nat.zero_add i]
   simp only[len_l,el_l]
   rw[y1,y2]
   have b1:∀ g,Xbs.B1 h (N+1) nA (T.l nA gA) (nA:Int) (i:Int) l o1 n1 k1 o2 n2 k2 te ts ta tn tp o n k g=Xbs.B0 h N nA (T.l nA gA) (nA:Int) ((i+1:Nat):Int) l o1 n1 k1 o2 n2 k2 te ts ta tn tp o n k g:=by
    intro g
    rw[Xbs.B1_eq,Xaq (a:=(i:Int)+1) (by omega) (by omega)]
    rfl
   unfold Xik
   by_cases c:v.1=3
   ·rw[decide_eq_true c,Bool.true_and]
    exact if_of (decide_eq_true (by omega)) (if_of (by simp;omega) (if_of (by simpa using c) (Xag (hT o n v.2.1 v.2.1) (if_of (by simp;omega) (if_of (decide_eq_true (by omega)) (b1 _))))))
   ·rw[decide_eq_false c,Bool.false_and]
    exact if_of (decide_eq_true (by omega)) (if_of (by simp;omega) (Xac (by simpa using c) (if_of (by simp;omega) (if_of (decide_eq_true (by omega)) (b1 _))))))
  nA 0 (by omega) N g (fun j hj=>absurd hj (Nat.not_lt_zero _))
 refine ⟨nA,g',e,hnA,fun i v hi=> ?_⟩
 have hlt:i<nA:=by have:=(List.getElem?_eq_some_iff.1 hi).1;omega
 rw[hg i hlt,hi]
 rfl
end
end Go.Proofs.YtnjandhaeojieaaGreat
set_option linter.unusedVariables false
set_option linter.unusedSimpArgs false
namespace Go.Proofs.YtnjandhaeojieaaGreat
open Go.AM
section
variable (l k1 k2 te ts ta tn tp:T)(hl:l.len≤9223372036854775807)(h1:KW k1)(h2:KW k2)(he:KC te)(hs:KC ts)(ha:KW ta)(hn:KW tn)(hp:KW tp)
include hl h1 h2 he hs ha hn hp
theorem Where_sp (o1 n1 o2 n2:Int)(hm:mayM ⟨Xaa l,.mk o1 n1 (Xad k1),.mk o2 n2 (Xad k2),Xca te,Xca ts,Xad ta,Xad tn,Xad tp⟩=0)(k:T)(hk:KW k):
  Ev fun N=>∀ o n tO tX nA gA A,Verts nA gA A→A.length≤3000→WhOk (Xaa l) (.mk o n (Xad k)) A (Xmw (K N) l o1 n1 k1 o2 n2 k2 te ts ta tn tp tO tX (T.l nA gA) o n k):=by
 refine Ev.step (Ev.step (Ev.imp4 ((MayM_sp l hl k1 k2 te ts ta tn tp h1 h2 he hs ha hn hp).up 1) (True_sp l hl k hk) (Ev.ge 7000) (Ev.ge 0) fun N b1 b2 hN _ o n tO tX nA gA A hv hA=> ?_))
 have b1:=b1 o1 n1 o2 n2
 rw[hm] at b1
 have hnA:=hv.1
 obtain ⟨M,hM⟩:∃ M,N=M+2*nA+1:=⟨N-2*nA-1,by omega⟩
 obtain ⟨q,g',e,hq,hg⟩:=whereB (h:=K N) (l:=l) (o1:=o1) (n1:=n1) (k1:=k1) (o2:=o2) (n2:=n2) (k2:=k2) (te:=te) (ts:=ts) (ta:=ta) (tn:=tn) (tp:=tp) (o:=o) (n:=n) (k:=k) b2 hv hA M (fun i j=>(([(T.b false)]:List T).getD j (.b false)))
 rw[←hM] at e
 refine ⟨q,g',?_,hq,hg⟩
 have e2:Xjt (K (N+1)) l o1 n1 k1 o2 n2 k2 te ts ta tn tp tO tX (T.l nA gA) o n k=some (lookR [(0,T.l q g')]):=by
  rw[Xsm]
  simp only[len_l,Int.toNat_natCast]
  exact if_of (by simp;omega) e
 rw[Xsn]
 exact Xag b1 (Xac rfl (Xag e2 rfl))
theorem Where9_sp (o1 n1 o2 n2:Int)(hm:mayM ⟨Xaa l,.mk o1 n1 (Xad k1),.mk o2 n2 (Xad k2),Xca te,Xca ts,Xad ta,Xad tn,Xad tp⟩=0)(k:T)(hk:KW k):
  Ev fun N=>∀ o n tO tX nA gA A,Verts nA gA A→A.length≤3000→WhOk (Xaa l) (.mk o n (Xad k)) A (Xfi (K N) l o1 n1 k1 o2 n2 k2 te ts ta tn tp tO tX (T.l nA gA) o n k):=by
 refine Ev.step (Ev.imp4 (Xgf l hl k1 k2 te ts ta tn tp h1 h2 he hs ha hn hp) (Xtb l hl k hk) (Ev.ge 7000) (Ev.ge 0) fun N b1 b2 hN _ o n tO tX nA gA A hv hA=> ?_)
 have b1:=b1 o1 n1 o2 n2
 rw[hm] at b1
 have hnA:=hv.1
 obtain ⟨M,hM⟩:∃ M,N=M+2*nA+1:=⟨N-2*nA-1,by omega⟩
 obtain ⟨q,g',e,hq,hg⟩:=where9B (h:=K N) (l:=l) (o1:=o1) (n1:=n1) (k1:=k1) (o2:=o2) (n2:=n2) (k2:=k2) (te:=te) (ts:=ts) (ta:=ta) (tn:=tn) (tp:=tp) (o:=o) (n:=n) (k:=k) b2 hv hA M (fun i j=>(([(T.b false)]:List T).getD j (.b false)))
 rw[←hM] at e
 refine ⟨q,g',?_,hq,hg⟩
 rw[Xnn]
 simp only[len_l,Int.toNat_natCast]
 exact Xag b1 (Xac rfl (if_of (by simp;omega) e))
end
end Go.Proofs.YtnjandhaeojieaaGreat
set_option linter.unusedVariables false
set_option linter.unusedSimpArgs false
namespace Go.AM
open Go.Proofs.YtnjandhaeojieaaGreat
theorem cmpLoop {n:Nat}{B:Nat→Int→Option R}(hEnd:∀ N,B (N+1) (n:Int)=rb true)(hStep:∀ N i,i<n→B (N+1) (i:Int)=B N ((i+1:Nat):Int)):∀ k i,i+k=n→∀ N,k<N→B N (i:Int)=rb true
 | 0,i,hi,N,hN=>by
  obtain ⟨N,rfl⟩:∃ M,N=M+1:=⟨N-1,by omega⟩
  obtain rfl:i=n:=by omega
  exact hEnd N
 | k+1,i,hi,N,hN=>by
  obtain ⟨N,rfl⟩:∃ M,N=M+1:=⟨N-1,by omega⟩
  rw[hStep N i (by omega)]
  exact cmpLoop hEnd hStep k (i+1) (by omega) N (by omega)
def Bools (t:T)(l:List Bool):Prop:=t.len=l.length∧∀ i b,l[i]? =some b→(t.el i 0).bool=b
def BRows (t:T)(L:List (List Bool)):Prop:=t.len=L.length∧∀ i r,L[i]? =some r→Bools (t.el i 0) r
theorem Bools.shift {x:T}{l:List Bool}(h:Bools x l):Bools (T.l x.len fun i j=>x.el (0+i) j) l:=⟨h.1,fun i b hb=>by show (x.el (0+i) 0).bool=b;rw[Nat.zero_add];exact h.2 i b hb⟩
theorem BRows.shift {x:T}{L:List (List Bool)}(h:BRows x L):BRows (T.l x.len fun i j=>x.el (0+i) j) L:=⟨h.1,fun i b hb=>by show Bools (x.el (0+i) 0) b;rw[Nat.zero_add];exact h.2 i b hb⟩
theorem Ints.shift {x:T}{l:List Int}(h:Ints x l):Ints (T.l x.len fun i j=>x.el (0+i) j) l:=⟨h.1,fun i b hb=>by show (x.el (0+i) 0).int=b;rw[Nat.zero_add];exact h.2 i b hb⟩
theorem WhOk.bools {l:List Va}{e:Ex}{A:List Vx}{r:Option R}(h:WhOk l e A r):∃ t,r=some (lookR [(0,t)])∧Bools t (A.map (Xik l e)):=by
 obtain ⟨n,g,h1,h2,h3⟩:=h
 refine ⟨_,h1,by show n=_;rw[List.length_map];exact h2,fun i b hb=> ?_⟩
 rw[List.getElem?_map] at hb
 cases hv:A[i]? with
 | none=>rw[hv] at hb;cases hb
 | some v=>
  rw[hv] at hb
  cases hb
  exact h3 i v hv
theorem BRows.push {i:Nat}{g:Nat→Nat→T}{L:List (List Bool)}{t:T}{r:List Bool}(h:BRows (T.l i g) L)(ht:Bools t r):BRows (T.l (i+1) (pushT i g t)) (L++[r]):=by
 have hi:i=L.length:=h.1
 refine ⟨by simp[T.len,hi],fun j u hj=> ?_⟩
 show Bools (pushT i g t j 0) u
 unfold pushT
 by_cases c:j<L.length
 ·rw[blt_lt (by omega)]
  rw[List.getElem?_append_left c] at hj
  exact h.2 j u hj
 ·have hl:=(List.getElem?_eq_some_iff.1 hj).1
  simp at hl
  obtain rfl:j=L.length:=by omega
  rw[blt_ge (by omega)]
  simp at hj
  subst hj
  rw[hi,Nat.sub_self]
  exact ht
theorem goalLoop {l:List Va}{A:List Vx}{es:List Ex}{B:Nat→Int→Nat→(Nat→Nat→T)→Option R}{Q:Nat→(Nat→Nat→T)→Option R}(hEnd:∀ N g,B (N+1) (es.length:Int) es.length g=Q N g)
  (hStep:∀ (N i:Nat) (e:Ex) (g:Nat→Nat→T),es[i]? =some e→∃ t,Bools t (A.map (Xik l e))∧B (N+1) (i:Int) i g=B N ((i+1:Nat):Int) (i+1) (pushT i g t)):
  ∀ k i,i+k=es.length→∀ N g,BRows (T.l i g) ((es.take i).map fun e=>A.map (Xik l e))→∃ g',BRows (T.l es.length g') (es.map fun e=>A.map (Xik l e))∧B (N+k+1) (i:Int) i g=Q N g'
 | 0,i,hi,N,g,hg=>by
  obtain rfl:i=es.length:=by omega
  rw[List.take_length] at hg
  exact ⟨g,hg,hEnd N g⟩
 | k+1,i,hi,N,g,hg=>by
  have hlt:i<es.length:=by omega
  obtain ⟨t,ht,hs⟩:=hStep (N+k+1) i es[i] g (List.getElem?_eq_getElem hlt)
  have hb:BRows (T.l (i+1) (pushT i g t)) ((es.take (i+1)).map fun e=>A.map (Xik l e)):=by
   rw[List.take_succ_eq_append_getElem hlt,List.map_append]
   exact hg.push ht
  obtain ⟨g',h1,h2⟩:=goalLoop hEnd hStep k (i+1) (by omega) N _ hb
  refine ⟨g',h1,?_⟩
  rw[show N+(k+1)+1=(N+k+1)+1 by omega,hs]
  exact h2
def prN (l:List Va)(es:List Ex)(v:Vx):Nat→Int
 | 0=>0
 | i+1=>match es[i]? with
  | some e=>if Xik l e v then (i:Int) else prN l es v i
  | none=>prN l es v i
section
variable {l:List Va}{A:List Vx}{es:List Ex}{O:Nat→Int→(Nat→Nat→T)→Option R}{I:Nat→Nat→Int→(Nat→Nat→T)→(Nat→Nat→T)→Option R}
theorem prInner (hIEnd:∀ (N i:Nat) (g h:Nat→Nat→T),i<es.length→I (N+1) i (A.length:Int) g h=O N ((i+1:Nat):Int) g)
  (hIStep:∀ (N i j:Nat) (g h:Nat→Nat→T),i<es.length→j<A.length→I (N+2) i (j:Int) g h=I N i ((j+1:Nat):Int) (bif (h j 0).bool then setU g j (T.i (i:Int)) else g) h)
  {i:Nat} {e:Ex} {h:Nat→Nat→T} (he:es[i]? =some e) (hh:∀ j v,A[j]? =some v→(h j 0).bool=Xik l e v):
  ∀ k j,j+k=A.length→∀ N g,(∀ a v,A[a]? =some v→(g a 0).int=if a<j then prN l es v (i+1) else prN l es v i)→∃ g',(∀ a v,A[a]? =some v→(g' a 0).int=prN l es v (i+1))∧I (N+2*k+1) i (j:Int) g h=O N ((i+1:Nat):Int) g'
 | 0,j,hj,N,g,hg=>by
  obtain rfl:j=A.length:=by omega
  refine ⟨g,fun a v ha=> ?_,hIEnd N i g h (List.getElem?_eq_some_iff.1 he).1⟩
  rw[hg a v ha,if_pos (List.getElem?_eq_some_iff.1 ha).1]
 | k+1,j,hj,N,g,hg=>by
  have hlt:j<A.length:=by omega
  have hilt:i<es.length:=(List.getElem?_eq_some_iff.1 he).1
  obtain ⟨g',h1,h2⟩:=prInner hIEnd hIStep he hh k (j+1) (by omega) N (bif (h j 0).bool then setU g j (T.i (i:Int)) else g) (fun a v ha=>by
   by_cases c:a=j
   ·subst c
    rw[if_pos (Nat.lt_succ_self _),hh a v ha]
    have h0:=hg a v ha
    rw[if_neg (Nat.lt_irrefl _)] at h0
    simp only[prN,he]
    cases Xik l e v
    ·simpa using h0
    ·simp only[cond_true,if_true]
     rw[setU_at];rfl
   ·have h0:((bif (h j 0).bool then setU g j (T.i (i:Int)) else g) a 0).int=(g a 0).int:=by
     cases (h j 0).bool
     ·rfl
     ·simp only[cond_true];rw[setU_ne _ _ _ c]
    rw[h0,hg a v ha]
    by_cases d:a<j
    ·rw[if_pos d,if_pos (by omega)]
    ·rw[if_neg d,if_neg (by omega)])
  refine ⟨g',h1,?_⟩
  rw[show N+2*(k+1)+1=(N+2*k+1)+2 by omega,hIStep _ i j g h hilt hlt]
  exact h2
theorem prLoop (hOEnd:∀ N g,O (N+1) (es.length:Int) g=some (lookR [(0,T.l A.length g)]))
  (hOStep:∀ (N i:Nat) (e:Ex) (g:Nat→Nat→T),es[i]? =some e→∃ h,(∀ j v,A[j]? =some v→(h j 0).bool=Xik l e v)∧O (N+1) (i:Int) g=I N i 0 g h)
  (hIEnd:∀ (N i:Nat) (g h:Nat→Nat→T),i<es.length→I (N+1) i (A.length:Int) g h=O N ((i+1:Nat):Int) g)
  (hIStep:∀ (N i j:Nat) (g h:Nat→Nat→T),i<es.length→j<A.length→I (N+2) i (j:Int) g h=I N i ((j+1:Nat):Int) (bif (h j 0).bool then setU g j (T.i (i:Int)) else g) h):
  ∀ k i,i+k=es.length→∀ N g,(∀ a v,A[a]? =some v→(g a 0).int=prN l es v i)→∃ g',Ints (T.l A.length g') (A.map fun v=>prN l es v es.length)∧O (N+(2*A.length+2)*k+1) (i:Int) g=some (lookR [(0,T.l A.length g')])
 | 0,i,hi,N,g,hg=>by
  obtain rfl:i=es.length:=by omega
  refine ⟨g,⟨by simp[T.len],fun a x ha=> ?_⟩,hOEnd _ g⟩
  rw[List.getElem?_map] at ha
  cases hv:A[a]? with
  | none=>rw[hv] at ha;cases ha
  | some v=>
   rw[hv] at ha
   cases ha
   exact hg a v hv
 | k+1,i,hi,N,g,hg=>by
  have hlt:i<es.length:=by omega
  have he:=List.getElem?_eq_getElem hlt
  rw[show N+(2*A.length+2)*(k+1)+1=(N+(2*A.length+2)*k+1+2*A.length+1)+1 by rw[Nat.mul_succ];omega]
  obtain ⟨h,hh,e1⟩:=hOStep (N+(2*A.length+2)*k+1+2*A.length+1) i es[i] g he
  obtain ⟨g1,hg1,e2⟩:=prInner (O:=O) (I:=I) hIEnd hIStep he hh A.length 0 (by omega) (N+(2*A.length+2)*k+1) g (fun a v ha=>by rw[if_neg (Nat.not_lt_zero _)];exact hg a v ha)
  obtain ⟨g',h1,h2⟩:=prLoop hOEnd hOStep hIEnd hIStep k (i+1) (by omega) N g1 hg1
  refine ⟨g',h1,?_⟩
  rw[e1]
  exact e2.trans h2
end
end Go.AM
namespace Go.Proofs.YtnjandhaeojieaaGreat
open Go.AM
theorem SameInts_sp:Ev fun N=>∀ s t xs,Ints s xs→Ints t xs→xs.length≤3000→Xfb (K N) s t=rb true:=by
 refine Ev.step ((Ev.ge 3002).imp fun N hN s t xs hs ht hl=> ?_)
 have h1:=hs.1
 have h2:=ht.1
 rw[Xre]
 refine Xac (by simp[h1,h2]) ?_
 refine cmpLoop (n:=s.len) (B:=fun M i=>Xcj.B0 (K N) M s t (s.len:Int) i) (fun M=> ?_) (fun M i hi=> ?_) s.len 0 (by omega) N (by omega)
 ·show Xcj.B0 (K N) (M+1) s t (s.len:Int) (s.len:Int)=_
  rw[Xcj.B0_eq]
  exact Xac (decide_eq_false (by omega)) rfl
 ·obtain ⟨x,hx⟩:∃ x,xs[i]? =some x:=⟨_,List.getElem?_eq_getElem (by omega)⟩
  show Xcj.B0 (K N) (M+1) s t (s.len:Int) (i:Int)=_
  rw[Xcj.B0_eq,Int.toNat_natCast,hs.2 i x hx,ht.2 i x hx]
  refine if_of (decide_eq_true (by omega)) (if_of (by simp;omega) (if_of (by simp;omega) (Xac (by simp) ?_)))
  rw[Xaq (a:=(i:Int)+1) (by omega) (by omega)]
  rfl
theorem SameRow_sp:Ev fun N=>∀ s t xs,Bools s xs→Bools t xs→xs.length≤3000→Xgn (K N) s t=rb true:=by
 refine Ev.step ((Ev.ge 3002).imp fun N hN s t xs hs ht hl=> ?_)
 have h1:=hs.1
 have h2:=ht.1
 rw[Xsf]
 refine Xac (by simp[h1,h2]) ?_
 refine cmpLoop (n:=s.len) (B:=fun M i=>Xcr.B0 (K N) M s t (s.len:Int) i) (fun M=> ?_) (fun M i hi=> ?_) s.len 0 (by omega) N (by omega)
 ·show Xcr.B0 (K N) (M+1) s t (s.len:Int) (s.len:Int)=_
  rw[Xcr.B0_eq]
  exact Xac (decide_eq_false (by omega)) rfl
 ·obtain ⟨x,hx⟩:∃ x,xs[i]? =some x:=⟨_,List.getElem?_eq_getElem (by omega)⟩
  show Xcr.B0 (K N) (M+1) s t (s.len:Int) (i:Int)=_
  rw[Xcr.B0_eq,Int.toNat_natCast,hs.2 i x hx,ht.2 i x hx]
  refine if_of (decide_eq_true (by omega)) (if_of (by simp;omega) (if_of (by simp;omega) (Xac (by simp) ?_)))
  rw[Xaq (a:=(i:Int)+1) (by omega) (by omega)]
  rfl
theorem sameRows_sp:Ev fun N=>∀ s t xs,BRows s xs→BRows t xs→xs.length≤3000→(∀ r∈xs,r.length≤3000)→Xfp (K N) s t=rb true:=by
 refine Ev.step (SameRow_sp.imp2 (Ev.ge 3002) fun N hr hN s t xs hs ht hl hrl=> ?_)
 have h1:=hs.1
 have h2:=ht.1
 rw[Xqp]
 refine Xac (by simp[h1,h2]) ?_
 refine cmpLoop (n:=s.len) (B:=fun M i=>Xce.B0 (K N) M s t (s.len:Int) i) (fun M=> ?_) (fun M i hi=> ?_) s.len 0 (by omega) N (by omega)
 ·show Xce.B0 (K N) (M+1) s t (s.len:Int) (s.len:Int)=_
  rw[Xce.B0_eq]
  exact Xac (decide_eq_false (by omega)) rfl
 ·obtain ⟨x,hx⟩:∃ x,xs[i]? =some x:=⟨_,List.getElem?_eq_getElem (by omega)⟩
  show Xce.B0 (K N) (M+1) s t (s.len:Int) (i:Int)=_
  rw[Xce.B0_eq,Int.toNat_natCast]
  refine if_of (decide_eq_true (by omega)) (if_of (by simp;omega) (if_of (by simp;omega) (Xag (hr _ _ x (hs.2 i x hx) (ht.2 i x hx) (hrl x (List.mem_of_getElem? hx))) (Xac rfl ?_))))
  rw[Xaq (a:=(i:Int)+1) (by omega) (by omega)]
  rfl
theorem SameNext_sp:Ev fun N=>∀ n g n' g' L,RowsT n g L→RowsT n' g' L→L.length≤3000→(∀ r∈L,r.length≤3000)→Xjw (K N) (T.l n g) (T.l n' g')=rb true:=by
 refine Ev.step (SameInts_sp.imp2 (Ev.ge 3002) fun N hr hN n g n' g' L hs ht hl hrl=> ?_)
 have h1:=hs.1
 have h2:=ht.1
 rw[Xrd]
 simp only[len_l]
 refine Xac (by simp[h1,h2]) ?_
 refine cmpLoop (n:=n) (B:=fun M i=>Xci.B0 (K N) M (T.l n g) (T.l n' g') (n:Int) i) (fun M=> ?_) (fun M i hi=> ?_) n 0 (by omega) N (by omega)
 ·show Xci.B0 (K N) (M+1) (T.l n g) (T.l n' g') (n:Int) (n:Int)=_
  rw[Xci.B0_eq]
  exact Xac (decide_eq_false (by omega)) rfl
 ·obtain ⟨x,hx⟩:∃ x,L[i]? =some x:=⟨_,List.getElem?_eq_getElem (by omega)⟩
  show Xci.B0 (K N) (M+1) (T.l n g) (T.l n' g') (n:Int) (i:Int)=_
  rw[Xci.B0_eq,Int.toNat_natCast]
  simp only[len_l,el_l]
  refine if_of (decide_eq_true (by omega)) (if_of (by simp;omega) (if_of (by simp;omega) (Xag (hr _ _ x (hs.2 i x hx) (ht.2 i x hx) (hrl x (List.mem_of_getElem? hx))) (Xac rfl ?_))))
  rw[Xaq (a:=(i:Int)+1) (by omega) (by omega)]
  rfl
theorem Same9_sp:Ev fun N=>∀ s t Ow n g n' g' L,Ints s Ow→Ints t Ow→RowsT n g L→RowsT n' g' L→Ow.length≤3000→L.length≤3000→(∀ r∈L,r.length≤3000)→Xmn (K N) s (T.l n g) t (T.l n' g')=rb true:=by
 refine Ev.step (SameInts_sp.imp2 SameNext_sp fun N a b s t Ow n g n' g' L h1 h2 h3 h4 h5 h6 h7=> ?_)
 rw[Xwj]
 exact Xag (a s t Ow h1 h2 h5) (if_of rfl (Xag (b n g n' g' L h3 h4 h6 h7) rfl))
theorem same10_sp:Ev fun N=>∀ s t Ow n g n' g' L nA gA mA hA A,Ints s Ow→Ints t Ow→RowsT n g L→RowsT n' g' L→Verts nA gA A→Verts mA hA A→Ow.length≤3000→L.length≤3000→A.length≤3000→(∀ r∈L,r.length≤3000)→
  Xjq (K N) s (T.l n g) (T.l nA gA) t (T.l n' g') (T.l mA hA)=rb true:=by
 refine Ev.step (Same9_sp.imp2 (Ev.ge 3002) fun N hr hN s t Ow n g n' g' L nA gA mA hA A h1 h2 h3 h4 hv hw h5 h6 h7 h8=> ?_)
 have v1:=hv.1
 have w1:=hw.1
 rw[Xvd]
 simp only[len_l]
 refine Xac (by simp[v1,w1]) (Xag (hr s t Ow n g n' g' L h1 h2 h3 h4 h5 h6 h8) (Xac rfl ?_))
 refine cmpLoop (n:=nA) (B:=fun M i=>Xdd.B0 (K N) M (nA:Int) i s (T.l n g) (T.l nA gA) t (T.l n' g') (T.l mA hA)) (fun M=> ?_) (fun M i hi=> ?_) nA 0 (by omega) N (by omega)
 ·show Xdd.B0 (K N) (M+1) (nA:Int) (nA:Int) s (T.l n g) (T.l nA gA) t (T.l n' g') (T.l mA hA)=_
  rw[Xdd.B0_eq]
  exact Xac (decide_eq_false (by omega)) rfl
 ·obtain ⟨v,hav⟩:∃ v,A[i]? =some v:=⟨_,List.getElem?_eq_getElem (by omega)⟩
  obtain ⟨y1,y2,y3⟩:=hv.2 i v hav
  obtain ⟨z1,z2,z3⟩:=hw.2 i v hav
  show Xdd.B0 (K N) (M+1) (nA:Int) (i:Int) s (T.l n g) (T.l nA gA) t (T.l n' g') (T.l mA hA)=_
  rw[Xdd.B0_eq,Int.toNat_natCast]
  simp only[len_l,el_l]
  rw[y1,y2,y3,z1,z2,z3]
  refine if_of (decide_eq_true (by omega)) (if_of (by simp;omega) (if_of (by simp;omega) (Xac (by simp) ?_)))
  rw[Xaq (a:=(i:Int)+1) (by omega) (by omega)]
  rfl
end Go.Proofs.YtnjandhaeojieaaGreat
set_option linter.unusedVariables false
set_option linter.unusedSimpArgs false
namespace Go.AM
open Go.Proofs.YtnjandhaeojieaaGreat
theorem Xvp {m:Md}(h:mayM m=0):m.assume.length≤4∧m.ensure.length≤4∧m.prio.length≤6:=by
 have hf:fullM m=false:=by
  cases c:fullM m with
  | false=>rfl
  | true=>
   unfold mayM at h
   rw[if_pos c] at h
   split at h
   ·rename_i c1;exact absurd h c1
   ·split at h
    ·rename_i c1;exact absurd h c1
    ·split at h
     ·rename_i c1;exact absurd h c1
     ·omega
 unfold fullM at hf
 simp only[Bool.or_eq_false_iff,decide_eq_false_iff_not] at hf
 omega
theorem kid_at {k:T}{i:Nat}{e:Ex}(h:(Xad k)[i]? =some e):i<k.len∧e= .mk (k.el i 0).int (k.el i 1).int (Xad (k.el i 2)):=by
 have hi:i<k.len:=by have:=(List.getElem?_eq_some_iff.1 h).1;rw[Xbn] at this;exact this
 rw[Xlo k hi] at h
 cases h
 exact ⟨hi,rfl⟩
end Go.AM
namespace Go.Proofs.YtnjandhaeojieaaGreat
open Go.AM
section
variable (l k1 k2 te ts ta tn tp:T)(hl:l.len≤9223372036854775807)(h1:KW k1)(h2:KW k2)(he:KC te)(hs:KC ts)(ha:KW ta)(hn:KW tn)(hp:KW tp)
theorem where_sp (hl:l.len≤9223372036854775807)(k:T)(hk:KW k):
  Ev fun N=>∀ o1 n1 o2 n2 o n tO tX nA gA A,Verts nA gA A→A.length≤3000→WhOk (Xaa l) (.mk o n (Xad k)) A (Xjt (K N) l o1 n1 k1 o2 n2 k2 te ts ta tn tp tO tX (T.l nA gA) o n k):=by
 refine Ev.step ((True_sp l hl k hk).imp2 (Ev.ge 7000) fun N b2 hN o1 n1 o2 n2 o n tO tX nA gA A hv hA=> ?_)
 have hnA:=hv.1
 obtain ⟨M,hM⟩:∃ M,N=M+2*nA+1:=⟨N-2*nA-1,by omega⟩
 obtain ⟨q,g',e,hq,hg⟩:=whereB (h:=K N) (l:=l) (o1:=o1) (n1:=n1) (k1:=k1) (o2:=o2) (n2:=n2) (k2:=k2) (te:=te) (ts:=ts) (ta:=ta) (tn:=tn) (tp:=tp) (o:=o) (n:=n) (k:=k) b2 hv hA M (fun i j=>(([(T.b false)]:List T).getD j (.b false)))
 rw[←hM] at e
 refine ⟨q,g',?_,hq,hg⟩
 rw[Xsm]
 simp only[len_l,Int.toNat_natCast]
 exact if_of (by simp;omega) e
theorem Goals1_sp (hl:l.len≤9223372036854775807)(t:T)(ht:KW t)(hf:t.len≤100):
  Ev fun N=>∀ o1 n1 o2 n2 tO tX nA gA A,Verts nA gA A→A.length≤3000→
   ∃ x,Xlh (K N) t (fun j=>(([l,(T.i o1),(T.i n1),k1,(T.i o2),(T.i n2),k2,te,ts,ta,tn,tp]:List T).getD j (.b false))) (fun j=>(([tO,tX,T.l nA gA]:List T).getD j (.b false)))=some (lookR [(0,x)])∧BRows x ((Xad t).map fun e=>A.map (Xik (Xaa l) e)):=by
 refine Ev.step ((Ev.all (k:=t.len) fun i hi=>where_sp l k1 k2 te ts ta tn tp hl (t.el i 2) (ht.el hi)).imp2 (Ev.ge 200) fun N hw hN o1 n1 o2 n2 tO tX nA gA A hv hA=> ?_)
 have hlen:=Xbn t
 rw[C_arena_Goals_1_K]
 obtain ⟨M,hM⟩:∃ M,N=M+t.len+1:=⟨N-t.len-1,by omega⟩
 obtain ⟨g',hb,e⟩:=goalLoop (l:=Xaa l) (A:=A) (es:=Xad t) (B:=fun M i n g=>Xdy.B0 (K N) M n (fun j=>(([l,(T.i o1),(T.i n1),k1,(T.i o2),(T.i n2),k2,te,ts,ta,tn,tp]:List T).getD j (.b false))) (fun j=>(([tO,tX,T.l nA gA]:List T).getD j (.b false))) t (t.len:Int) i g)
  (Q:=fun _ g=>some (lookR [(0,T.l (Xad t).length g)])) (fun M g=>by
   show Xdy.B0 (K N) (M+1) _ _ _ t (t.len:Int) ((Xad t).length:Int) g=_
   rw[Xdy.B0_eq,hlen]
   exact Xac (decide_eq_false (by omega)) rfl) (fun M i e g hi=>by
   obtain ⟨hit,rfl⟩:=kid_at hi
   obtain ⟨x,e1,hx⟩:=(hw i hit o1 n1 o2 n2 (t.el i 0).int (t.el i 1).int tO tX nA gA A hv hA).bools
   refine ⟨T.l x.len fun i j=>x.el (0+i) j,hx.shift,?_⟩
   show Xdy.B0 (K N) (M+1) _ _ _ t (t.len:Int) (i:Int) g=_
   rw[Xdy.B0_eq,Int.toNat_natCast]
   refine if_of (decide_eq_true (by omega)) (if_of (by simp;omega) (Xag e1 (if_of (decide_eq_true (by omega)) ?_)))
   rw[Xaq (a:=(i:Int)+1) (by omega) (by omega)]
   rfl) t.len 0 (by omega) M (fun _ _=> .b false) ⟨rfl,by simp⟩
 rw[hM] at e ⊢
 exact ⟨_,e,hb⟩
include hl h1 h2 he hs ha hn hp
theorem Goals_sp (o1 n1 o2 n2:Int)(hm:mayM ⟨Xaa l,.mk o1 n1 (Xad k1),.mk o2 n2 (Xad k2),Xca te,Xca ts,Xad ta,Xad tn,Xad tp⟩=0):
  Ev fun N=>∀ tO tX nA gA A,Verts nA gA A→A.length≤3000→∃ x y,Xmy (K N) l o1 n1 k1 o2 n2 k2 te ts ta tn tp tO tX (T.l nA gA)=some (lookR [(0,x),(1,y)])∧BRows x ((Xad ta).map fun e=>A.map (Xik (Xaa l) e))∧BRows y ((Xad tn).map fun e=>A.map (Xik (Xaa l) e)):=by
 obtain ⟨f1,f2,f3⟩:=Xvp hm
 simp only[Xbn] at f1 f2 f3
 refine Ev.step (Ev.imp3 (MayM_sp l hl k1 k2 te ts ta tn tp h1 h2 he hs ha hn hp) (Goals1_sp l k1 k2 te ts ta tn tp hl ta ha (by omega)) (Goals1_sp l k1 k2 te ts ta tn tp hl tn hn (by omega)) fun N b1 b2 b3 tO tX nA gA A hv hA=> ?_)
 have b1:=b1 o1 n1 o2 n2
 rw[hm] at b1
 obtain ⟨x,e1,hx⟩:=b2 o1 n1 o2 n2 tO tX nA gA A hv hA
 obtain ⟨y,e2,hy⟩:=b3 o1 n1 o2 n2 tO tX nA gA A hv hA
 rw[Xsp]
 exact ⟨T.l x.len fun i j=>x.el i j,T.l y.len fun i j=>y.el i j,Xag b1 (Xac rfl (Xag e1 (Xag e2 rfl))),⟨hx.1,hx.2⟩,⟨hy.1,hy.2⟩⟩
theorem Goals9_sp (o1 n1 o2 n2:Int)(hm:mayM ⟨Xaa l,.mk o1 n1 (Xad k1),.mk o2 n2 (Xad k2),Xca te,Xca ts,Xad ta,Xad tn,Xad tp⟩=0):
  Ev fun N=>∀ tO tX nA gA A,Verts nA gA A→A.length≤3000→∃ x y,Xjn (K N) l o1 n1 k1 o2 n2 k2 te ts ta tn tp tO tX (T.l nA gA)=some (lookR [(0,x),(1,y)])∧BRows x ((Xad ta).map fun e=>A.map (Xik (Xaa l) e))∧BRows y ((Xad tn).map fun e=>A.map (Xik (Xaa l) e)):=by
 obtain ⟨f1,f2,f3⟩:=Xvp hm
 simp only[Xbn] at f1 f2 f3
 have wsp:=Where9_sp l k1 k2 te ts ta tn tp hl h1 h2 he hs ha hn hp o1 n1 o2 n2 hm
 refine Ev.step (Ev.imp4 (Xgf l hl k1 k2 te ts ta tn tp h1 h2 he hs ha hn hp) (Ev.all (k:=ta.len) fun i hi=>wsp (ta.el i 2) (ha.el hi)) (Ev.all (k:=tn.len) fun i hi=>wsp (tn.el i 2) (hn.el hi)) (Ev.ge 500) fun N b1 b2 b3 hN tO tX nA gA A hv hA=> ?_)
 have b1:=b1 o1 n1 o2 n2
 rw[hm] at b1
 have len1:=Xbn ta
 have len2:=Xbn tn
 rw[Xnp]
 obtain ⟨M,hM⟩:∃ M,N=M+tn.len+1+ta.len+1:=⟨N-tn.len-1-ta.len-1,by omega⟩
 obtain ⟨g1,hb1,e1⟩:=goalLoop (l:=Xaa l) (A:=A) (es:=Xad ta) (B:=fun M i n g=>Xbr.B0 (K N) M n ta (ta.len:Int) i l o1 n1 k1 o2 n2 k2 te ts ta tn tp tO tX (T.l nA gA) g)
  (Q:=fun M g=>Xbr.B1 (K N) M (Xad ta).length 0 tn (tn.len:Int) 0 l o1 n1 k1 o2 n2 k2 te ts ta tn tp tO tX (T.l nA gA) g (fun _ _=> .b false)) (fun M g=>by
   show Xbr.B0 (K N) (M+1) _ ta (ta.len:Int) ((Xad ta).length:Int) l o1 n1 k1 o2 n2 k2 te ts ta tn tp tO tX (T.l nA gA) g=_
   rw[Xbr.B0_eq,len1]
   exact Xac (decide_eq_false (by omega)) rfl) (fun M i e g hi=>by
   obtain ⟨hit,rfl⟩:=kid_at hi
   obtain ⟨x,e1,hx⟩:=(b2 i hit (ta.el i 0).int (ta.el i 1).int tO tX nA gA A hv hA).bools
   refine ⟨T.l x.len fun i j=>x.el (0+i) j,hx.shift,?_⟩
   show Xbr.B0 (K N) (M+1) i ta (ta.len:Int) (i:Int) l o1 n1 k1 o2 n2 k2 te ts ta tn tp tO tX (T.l nA gA) g=_
   rw[Xbr.B0_eq,Int.toNat_natCast]
   refine if_of (decide_eq_true (by omega)) (if_of (by simp;omega) (Xag e1 (if_of (decide_eq_true (by omega)) ?_)))
   rw[Xaq (a:=(i:Int)+1) (by omega) (by omega)]
   rfl) ta.len 0 (by omega) (M+tn.len+1) (fun _ _=> .b false) ⟨rfl,by simp⟩
 obtain ⟨g2,hb2,e2⟩:=goalLoop (l:=Xaa l) (A:=A) (es:=Xad tn) (B:=fun M i n g=>Xbr.B1 (K N) M (Xad ta).length n tn (tn.len:Int) i l o1 n1 k1 o2 n2 k2 te ts ta tn tp tO tX (T.l nA gA) g1 g)
  (Q:=fun M g=>some (lookR [(0,T.l (Xad ta).length g1),(1,T.l (Xad tn).length g)])) (fun M g=>by
   show Xbr.B1 (K N) (M+1) _ _ tn (tn.len:Int) ((Xad tn).length:Int) l o1 n1 k1 o2 n2 k2 te ts ta tn tp tO tX (T.l nA gA) g1 g=_
   rw[Xbr.B1_eq,len2]
   exact Xac (decide_eq_false (by omega)) rfl) (fun M i e g hi=>by
   obtain ⟨hit,rfl⟩:=kid_at hi
   obtain ⟨x,e1,hx⟩:=(b3 i hit (tn.el i 0).int (tn.el i 1).int tO tX nA gA A hv hA).bools
   refine ⟨T.l x.len fun i j=>x.el (0+i) j,hx.shift,?_⟩
   show Xbr.B1 (K N) (M+1) _ i tn (tn.len:Int) (i:Int) l o1 n1 k1 o2 n2 k2 te ts ta tn tp tO tX (T.l nA gA) g1 g=_
   rw[Xbr.B1_eq,Int.toNat_natCast]
   refine if_of (decide_eq_true (by omega)) (if_of (by simp;omega) (Xag e1 (if_of (decide_eq_true (by omega)) ?_)))
   rw[Xaq (a:=(i:Int)+1) (by omega) (by omega)]
   rfl) tn.len 0 (by omega) M (fun _ _=> .b false) ⟨rfl,by simp⟩
 refine ⟨_,_,Xag b1 (Xac rfl ?_),hb1,hb2⟩
 have:=e1.trans e2
 rw[←hM] at this
 exact this
theorem Prios_sp (o1 n1 o2 n2:Int)(hm:mayM ⟨Xaa l,.mk o1 n1 (Xad k1),.mk o2 n2 (Xad k2),Xca te,Xca ts,Xad ta,Xad tn,Xad tp⟩=0):
  Ev fun N=>∀ tO tX nA gA A,Verts nA gA A→A.length≤3000→∃ x,Xmx (K N) l o1 n1 k1 o2 n2 k2 te ts ta tn tp tO tX (T.l nA gA)=some (lookR [(0,x)])∧Ints x (A.map fun v=>prN (Xaa l) (Xad tp) v (Xad tp).length):=by
 obtain ⟨f1,f2,f3⟩:=Xvp hm
 simp only[Xbn] at f1 f2 f3
 refine Ev.step (Ev.imp3 (MayM_sp l hl k1 k2 te ts ta tn tp h1 h2 he hs ha hn hp) (Ev.all (k:=tp.len) fun i hi=>where_sp l k1 k2 te ts ta tn tp hl (tp.el i 2) (hp.el hi)) (Ev.ge 100000) fun N b1 b2 hN tO tX nA gA A hv hA=> ?_)
 have b1:=b1 o1 n1 o2 n2
 rw[hm] at b1
 have hnA:=hv.1
 subst hnA
 have len1:=Xbn tp
 have fu:(2*A.length+2)*tp.len≤(2*3000+2)*6:=Nat.mul_le_mul (by omega) f3
 obtain ⟨M,hM⟩:∃ M,N=M+(2*A.length+2)*tp.len+1:=⟨N-(2*A.length+2)*tp.len-1,by omega⟩
 obtain ⟨g',hi,e⟩:=prLoop (l:=Xaa l) (A:=A) (es:=Xad tp) (O:=fun M i g=>Xbo.B0 (K N) M A.length tp (tp.len:Int) i l o1 n1 k1 o2 n2 k2 te ts ta tn tp tO tX (T.l A.length gA) g)
  (I:=fun M i j g h=>Xbo.B1 (K N) M A.length A.length (i:Int) tp (tp.len:Int) (i:Int) (A.length:Int) j l o1 n1 k1 o2 n2 k2 te ts ta tn tp tO tX (T.l A.length gA) g h) (fun M g=>by
   show Xbo.B0 (K N) (M+1) A.length tp (tp.len:Int) ((Xad tp).length:Int) l o1 n1 k1 o2 n2 k2 te ts ta tn tp tO tX (T.l A.length gA) g=_
   rw[Xbo.B0_eq,len1]
   exact Xac (decide_eq_false (by omega)) rfl) (fun M i e g hi=>by
   obtain ⟨hit,rfl⟩:=kid_at hi
   obtain ⟨q,r,e1,hq,hr⟩:=b2 i hit o1 n1 o2 n2 (tp.el i 0).int (tp.el i 1).int tO tX A.length gA A hv hA
   subst hq
   refine ⟨r,hr,?_⟩
   show Xbo.B0 (K N) (M+1) A.length tp (tp.len:Int) (i:Int) l o1 n1 k1 o2 n2 k2 te ts ta tn tp tO tX (T.l A.length gA) g=_
   rw[Xbo.B0_eq,Int.toNat_natCast]
   exact if_of (decide_eq_true (by omega)) (if_of (by simp;omega) (Xag e1 rfl))) (fun M i g h hi=>by
   show Xbo.B1 (K N) (M+1) A.length A.length (i:Int) tp (tp.len:Int) (i:Int) (A.length:Int) (A.length:Int) l o1 n1 k1 o2 n2 k2 te ts ta tn tp tO tX (T.l A.length gA) g h=Xbo.B0 (K N) M A.length tp (tp.len:Int) ((i+1:Nat):Int) l o1 n1 k1 o2 n2 k2 te ts ta tn tp tO tX (T.l A.length gA) g
   rw[Xbo.B1_eq]
   refine Xac (decide_eq_false (by omega)) ?_
   rw[Xaq (a:=(i:Int)+1) (by omega) (by omega)]
   rfl) (fun M i j g h hi hj=>by
   show Xbo.B1 (K N) (M+1+1) A.length A.length (i:Int) tp (tp.len:Int) (i:Int) (A.length:Int) (j:Int) l o1 n1 k1 o2 n2 k2 te ts ta tn tp tO tX (T.l A.length gA) g h=Xbo.B1 (K N) M A.length A.length (i:Int) tp (tp.len:Int) (i:Int) (A.length:Int) ((j+1:Nat):Int) l o1 n1 k1 o2 n2 k2 te ts ta tn tp tO tX (T.l A.length gA) (bif (h j 0).bool then setU g j (T.i (i:Int)) else g) h
   have b2:∀ g,Xbo.B2 (K N) (M+1) A.length A.length (i:Int) tp (tp.len:Int) (i:Int) (A.length:Int) (j:Int) l o1 n1 k1 o2 n2 k2 te ts ta tn tp tO tX (T.l A.length gA) g h=Xbo.B1 (K N) M A.length A.length (i:Int) tp (tp.len:Int) (i:Int) (A.length:Int) ((j+1:Nat):Int) l o1 n1 k1 o2 n2 k2 te ts ta tn tp tO tX (T.l A.length gA) g h:=by
    intro g
    rw[Xbo.B2_eq,Xaq (a:=(j:Int)+1) (by omega) (by omega)]
    rfl
   rw[Xbo.B1_eq,Int.toNat_natCast,Nat.zero_add]
   refine if_of (decide_eq_true (by omega)) (if_of (by simp;omega) (if_of (decide_eq_true (by omega)) ?_))
   cases c:(h j 0).bool
   ·rw[cond_false,cond_false]
    exact b2 g
   ·rw[cond_true,cond_true]
    exact if_of (by simp;omega) (if_of (decide_eq_true (by omega)) (b2 _))) tp.len 0 (by omega) M (fun i j=>(([(T.i 0)]:List T).getD j (.b false))) (fun a v _=>rfl)
 rw[←hM] at e
 refine ⟨_,?_,hi⟩
 rw[Xso]
 simp only[len_l,Int.toNat_natCast]
 have c8:(decide ((0:Int)≤((A.length:Nat):Int))&&decide ((8:Int)*((A.length:Nat):Int)≤140737488355328))=true:=by rw[Bool.and_eq_true,decide_eq_true_eq,decide_eq_true_eq];omega
 exact Xag b1 (Xac rfl (if_of c8 e))
theorem Prios9_sp (o1 n1 o2 n2:Int)(hm:mayM ⟨Xaa l,.mk o1 n1 (Xad k1),.mk o2 n2 (Xad k2),Xca te,Xca ts,Xad ta,Xad tn,Xad tp⟩=0):
  Ev fun N=>∀ tO tX nA gA A,Verts nA gA A→A.length≤3000→∃ x,Xjm (K N) l o1 n1 k1 o2 n2 k2 te ts ta tn tp tO tX (T.l nA gA)=some (lookR [(0,x)])∧Ints x (A.map fun v=>prN (Xaa l) (Xad tp) v (Xad tp).length):=by
 obtain ⟨f1,f2,f3⟩:=Xvp hm
 simp only[Xbn] at f1 f2 f3
 refine Ev.step (Ev.imp3 (Xgf l hl k1 k2 te ts ta tn tp h1 h2 he hs ha hn hp) (Ev.all (k:=tp.len) fun i hi=>Where9_sp l k1 k2 te ts ta tn tp hl h1 h2 he hs ha hn hp o1 n1 o2 n2 hm (tp.el i 2) (hp.el hi)) (Ev.ge 100000) fun N b1 b2 hN tO tX nA gA A hv hA=> ?_)
 have b1:=b1 o1 n1 o2 n2
 rw[hm] at b1
 have hnA:=hv.1
 subst hnA
 have len1:=Xbn tp
 have fu:(2*A.length+2)*tp.len≤(2*3000+2)*6:=Nat.mul_le_mul (by omega) f3
 obtain ⟨M,hM⟩:∃ M,N=M+(2*A.length+2)*tp.len+1:=⟨N-(2*A.length+2)*tp.len-1,by omega⟩
 obtain ⟨g',hi,e⟩:=prLoop (l:=Xaa l) (A:=A) (es:=Xad tp) (O:=fun M i g=>Xba.B0 (K N) M A.length tp (tp.len:Int) i l o1 n1 k1 o2 n2 k2 te ts ta tn tp tO tX (T.l A.length gA) g)
  (I:=fun M i j g h=>Xba.B1 (K N) M A.length A.length (i:Int) tp (tp.len:Int) (i:Int) (A.length:Int) j l o1 n1 k1 o2 n2 k2 te ts ta tn tp tO tX (T.l A.length gA) g h) (fun M g=>by
   show Xba.B0 (K N) (M+1) A.length tp (tp.len:Int) ((Xad tp).length:Int) l o1 n1 k1 o2 n2 k2 te ts ta tn tp tO tX (T.l A.length gA) g=_
   rw[Xba.B0_eq,len1]
   exact Xac (decide_eq_false (by omega)) rfl) (fun M i e g hi=>by
   obtain ⟨hit,rfl⟩:=kid_at hi
   obtain ⟨q,r,e1,hq,hr⟩:=b2 i hit (tp.el i 0).int (tp.el i 1).int tO tX A.length gA A hv hA
   subst hq
   refine ⟨r,hr,?_⟩
   show Xba.B0 (K N) (M+1) A.length tp (tp.len:Int) (i:Int) l o1 n1 k1 o2 n2 k2 te ts ta tn tp tO tX (T.l A.length gA) g=_
   rw[Xba.B0_eq,Int.toNat_natCast]
   exact if_of (decide_eq_true (by omega)) (if_of (by simp;omega) (Xag e1 rfl))) (fun M i g h hi=>by
   show Xba.B1 (K N) (M+1) A.length A.length (i:Int) tp (tp.len:Int) (i:Int) (A.length:Int) (A.length:Int) l o1 n1 k1 o2 n2 k2 te ts ta tn tp tO tX (T.l A.length gA) g h=Xba.B0 (K N) M A.length tp (tp.len:Int) ((i+1:Nat):Int) l o1 n1 k1 o2 n2 k2 te ts ta tn tp tO tX (T.l A.length gA) g
   rw[Xba.B1_eq]
   refine Xac (decide_eq_false (by omega)) ?_
   rw[Xaq (a:=(i:Int)+1) (by omega) (by omega)]
   rfl) (fun M i j g h hi hj=>by
   show Xba.B1 (K N) (M+1+1) A.length A.length (i:Int) tp (tp.len:Int) (i:Int) (A.length:Int) (j:Int) l o1 n1 k1 o2 n2 k2 te ts ta tn tp tO tX (T.l A.length gA) g h=Xba.B1 (K N) M A.length A.length (i:Int) tp (tp.len:Int) (i:Int) (A.length:Int) ((j+1:Nat):Int) l o1 n1 k1 o2 n2 k2 te ts ta tn tp tO tX (T.l A.length gA) (bif (h j 0).bool then setU g j (T.i (i:Int)) else g) h
   have b2:∀ g,Xba.B2 (K N) (M+1) A.length A.length (i:Int) tp (tp.len:Int) (i:Int) (A.length:Int) (j:Int) l o1 n1 k1 o2 n2 k2 te ts ta tn tp tO tX (T.l A.length gA) g h=Xba.B1 (K N) M A.length A.length (i:Int) tp (tp.len:Int) (i:Int) (A.length:Int) ((j+1:Nat):Int) l o1 n1 k1 o2 n2 k2 te ts ta tn tp tO tX (T.l A.length gA) g h:=by
    intro g
    rw[Xba.B2_eq,Xaq (a:=(j:Int)+1) (by omega) (by omega)]
    rfl
   rw[Xba.B1_eq,Int.toNat_natCast,Nat.zero_add]
   refine if_of (decide_eq_true (by omega)) (if_of (by simp;omega) (if_of (decide_eq_true (by omega)) ?_))
   cases c:(h j 0).bool
   ·rw[cond_false,cond_false]
    exact b2 g
   ·rw[cond_true,cond_true]
    exact if_of (by simp;omega) (if_of (decide_eq_true (by omega)) (b2 _))) tp.len 0 (by omega) M (fun i j=>(([(T.i 0)]:List T).getD j (.b false))) (fun a v _=>rfl)
 rw[←hM] at e
 refine ⟨_,?_,hi⟩
 rw[Xno]
 simp only[len_l,Int.toNat_natCast]
 have c8:(decide ((0:Int)≤((A.length:Nat):Int))&&decide ((8:Int)*((A.length:Nat):Int)≤140737488355328))=true:=by rw[Bool.and_eq_true,decide_eq_true_eq,decide_eq_true_eq];omega
 exact Xag b1 (Xac rfl (if_of c8 e))
end
end Go.Proofs.YtnjandhaeojieaaGreat
set_option linter.unusedVariables false
set_option linter.unusedSimpArgs false
namespace Go.Proofs.YtnjandhaeojieaaGreat
open Go.AM
section
variable {N:Nat}{l:T}{o1 n1:Int}{k1:T}{o2 n2:Int}{k2 te ts ta tn tp:T}{o n:Int}{k:T}{r1 r2:R}{x y:Int}{L1 L2:List (List Bool)}{B:List Bool}{Z:List Int}
theorem afFin (hx:Xjp (K N) l o1 n1 k1 o2 n2 k2 te ts ta tn tp=ri x)(hy:Xby (K N) o n k=ri y)(aw:Xey (K N)=rb true)
  (e1:Xij (K N) l o1 n1 k1 o2 n2 k2 te ts ta tn tp=some r1) (e2:Xhq (K N) l o1 n1 k1 o2 n2 k2 te ts ta tn tp=some r2) (e3:(r1 3).int=(r2 3).int) (s:Xjq (K N) (r1 0) (r1 1) (r1 2) (r2 0) (r2 1) (r2 2)=rb true)
  (g1:∃ p q,Xmy (K N) l o1 n1 k1 o2 n2 k2 te ts ta tn tp (r2 0) (r2 1) (r2 2)=some (lookR [(0,p),(1,q)])∧BRows p L1∧BRows q L2) (g2:∃ p q,Xjn (K N) l o1 n1 k1 o2 n2 k2 te ts ta tn tp (r2 0) (r2 1) (r2 2)=some (lookR [(0,p),(1,q)])∧BRows p L1∧BRows q L2)
  (w1:∃ t,Xmw (K N) l o1 n1 k1 o2 n2 k2 te ts ta tn tp (r2 0) (r2 1) (r2 2) o n k=some (lookR [(0,t)])∧Bools t B) (w2:∃ t,Xfi (K N) l o1 n1 k1 o2 n2 k2 te ts ta tn tp (r2 0) (r2 1) (r2 2) o n k=some (lookR [(0,t)])∧Bools t B)
  (q1:∃ t,Xmx (K N) l o1 n1 k1 o2 n2 k2 te ts ta tn tp (r2 0) (r2 1) (r2 2)=some (lookR [(0,t)])∧Ints t Z) (q2:∃ t,Xjm (K N) l o1 n1 k1 o2 n2 k2 te ts ta tn tp (r2 0) (r2 1) (r2 2)=some (lookR [(0,t)])∧Ints t Z)
  (sI:∀ s t xs,Ints s xs→Ints t xs→xs.length≤3000→Xfb (K N) s t=rb true) (sR:∀ s t xs,Bools s xs→Bools t xs→xs.length≤3000→Xgn (K N) s t=rb true) (sB:∀ s t xs,BRows s xs→BRows t xs→xs.length≤3000→(∀ r∈xs,r.length≤3000)→Xfp (K N) s t=rb true)
  (b1:L1.length≤3000∧∀ r∈L1,r.length≤3000) (b2:L2.length≤3000∧∀ r∈L2,r.length≤3000) (b3:B.length≤3000) (b4:Z.length≤3000):
  Xgc (K (N+1)) l o1 n1 k1 o2 n2 k2 te ts ta tn tp o n k=rb true:=by
 have aw':((Xey (K N)).bind fun r=>some (lookR [(0,T.b (r 0).bool)]))=rb true:=by rw[aw];rfl
 obtain ⟨p,q,a1,a2,a3⟩:=g1
 obtain ⟨p',q',a4,a5,a6⟩:=g2
 obtain ⟨t,a7,a8⟩:=w1
 obtain ⟨t',a9,a10⟩:=w2
 obtain ⟨u,a11,a12⟩:=q1
 obtain ⟨u',a13,a14⟩:=q2
 rw[Xjz]
 refine Xag hx (Xag hy (Xnk (fun _=>aw') fun _=>Xag e1 (Xag e2 (Xac (by simp[e3]) (Xag s (Xac rfl (Xag a1 (Xag a4 (Xag a7 (Xag a9 ?_))))))))))
 refine Xag (sR _ _ B a8.shift a10.shift b3) (if_of rfl (Xag (sB _ _ L1 a2.shift a5.shift b1.1 b1.2) (if_of rfl (Xag (sB _ _ L2 a3.shift a6.shift b2.1 b2.2) (if_of rfl (Xag a11 (Xag a13 (Xag (sI _ _ Z a12.shift a14.shift b4) (if_of rfl aw')))))))))
end
theorem ArenaForms_sp (l:T)(o1 n1:Int)(k1:T)(o2 n2:Int)(k2 te ts ta tn tp:T)(o n:Int)(k:T)(wl:WT Tryz.prog 22 l)(w1:WT Tryz.prog 23 k1)(w2:WT Tryz.prog 23 k2)(we:WT Tryz.prog 26 te)(ws:WT Tryz.prog 26 ts)(wa:WT Tryz.prog 23 ta)(wn:WT Tryz.prog 23 tn)(wp:WT Tryz.prog 23 tp)(wk:WT Tryz.prog 23 k):
  Ev fun N=>Xgc (K N) l o1 n1 k1 o2 n2 k2 te ts ta tn tp o n k=rb true:=by
 have hl:=WT_len wl
 have h1:=WT_KW w1
 have h2:=WT_KW w2
 have he:=WT_KC we
 have hs:=WT_KC ws
 have ha:=WT_KW wa
 have hn:=WT_KW wn
 have hp:=WT_KW wp
 have hk:=WT_KW wk
 obtain ⟨m,hmd⟩:∃ m:Md,m=⟨Xaa l,.mk o1 n1 (Xad k1),.mk o2 n2 (Xad k2),Xca te,Xca ts,Xad ta,Xad tn,Xad tp⟩:=⟨_,rfl⟩
 have may:=MayM_sp l hl k1 k2 te ts ta tn tp h1 h2 he hs ha hn hp
 have refMay:=Xgf l hl k1 k2 te ts ta tn tp h1 h2 he hs ha hn hp
 have base:=Ev.and (Ev.and (Ev.and (heavy6_bd l k1 k2 te ts ta tn tp hl h1 h2 he hs ha hn hp) (Xpn k hk)) awake10_sp) (Ev.and same10_sp (Ev.and SameInts_sp (Ev.and SameRow_sp sameRows_sp)))
 have sum:∀ {x y:Int},0≤x→x≤1000000→0≤y→y≤1000→¬IntKind.wrap .i64 (x+y)>0→¬0<x:=fun a b c d e=>by
  rw[Xaq (by omega) (by omega)] at e;omega
 by_cases hm:mayM m=0
 case neg=>
  have bz:∀ g,BRows (T.l 0 g) []:=fun g=>⟨rfl,by simp⟩
  have bb:∀ g,Bools (T.l 0 g) []:=fun g=>⟨rfl,by simp⟩
  have bi:∀ g,Ints (T.l 0 g) []:=fun g=>⟨rfl,by simp⟩
  refine Ev.step (Ev.step (Ev.imp3 (base.up 1) may refMay fun N hb b1 b2=> ?_))
  obtain ⟨⟨⟨hh,hd⟩,haw⟩,sA,sI,sR,sB⟩:=hb
  obtain ⟨x,hx,_,_⟩:=hh o1 n1 o2 n2
  obtain ⟨y,hy,_,_⟩:=hd o n
  have b1:=b1 o1 n1 o2 n2
  have b2:=b2 o1 n1 o2 n2
  rw[←hmd] at b1 b2
  have e1:∃ r,Xij (K (N+1)) l o1 n1 k1 o2 n2 k2 te ts ta tn tp=some r∧r 0=T.l 0 (fun i j=>(fun _ _=>T.b false:Nat→Nat→T) (0+i) j)∧r 1=T.l 0 (fun i j=>(fun _ _=>T.b false:Nat→Nat→T) (0+i) j)∧r 2=T.l 0 (fun i j=>(fun _ _=>T.b false:Nat→Nat→T) (0+i) j)∧(r 3).int=mayM m:=by
   rw[Xsq]
   exact ⟨_,Xag b1 (if_of (by simpa [Xal,int_i] using hm) rfl),rfl,rfl,rfl,rfl⟩
  have e2:∃ r,Xhq (K (N+1)) l o1 n1 k1 o2 n2 k2 te ts ta tn tp=some r∧r 0=T.l 0 (fun i j=>(fun _ _=>T.b false:Nat→Nat→T) (0+i) j)∧r 1=T.l 0 (fun i j=>(fun _ _=>T.b false:Nat→Nat→T) (0+i) j)∧r 2=T.l 0 (fun i j=>(fun _ _=>T.b false:Nat→Nat→T) (0+i) j)∧(r 3).int=mayM m:=by
   rw[Xnq]
   exact ⟨_,Xag b2 (if_of (by simpa [Xal,int_i] using hm) rfl),rfl,rfl,rfl,rfl⟩
  obtain ⟨r1,e1,a0,a1,a2,a3⟩:=e1
  obtain ⟨r2,e2,c0,c1,c2,c3⟩:=e2
  refine afFin (L1:=[]) (L2:=[]) (B:=[]) (Z:=[]) hx hy haw e1 e2 (a3.trans c3.symm) ?_ ?_ ?_ ?_ ?_ ?_ ?_ sI sR sB ⟨by simp,by simp⟩ ⟨by simp,by simp⟩ (by simp) (by simp)
  ·rw[a0,a1,a2,c0,c1,c2]
   exact sA _ _ [] _ _ _ _ [] _ _ _ _ [] (bi _) (bi _) ⟨rfl,by simp⟩ ⟨rfl,by simp⟩ ⟨rfl,by simp⟩ ⟨rfl,by simp⟩ (by simp) (by simp) (by simp) (by simp)
  ·rw[Xsp]
   exact ⟨_,_,Xag b1 (if_of (by simpa [Xal,int_i] using hm) rfl),bz _,bz _⟩
  ·rw[Xnp]
   exact ⟨_,_,Xag b2 (if_of (by simpa [Xal,int_i] using hm) rfl),bz _,bz _⟩
  ·rw[Xsn]
   exact ⟨_,Xag b1 (if_of (by simpa [Xal,int_i] using hm) rfl),bb _⟩
  ·rw[Xnn]
   exact ⟨_,Xag b2 (if_of (by simpa [Xal,int_i] using hm) rfl),bb _⟩
  ·rw[Xso]
   exact ⟨_,Xag b1 (if_of (by simpa [Xal,int_i] using hm) rfl),bi _⟩
  ·rw[Xno]
   exact ⟨_,Xag b2 (if_of (by simpa [Xal,int_i] using hm) rfl),bi _⟩
 have mv:m.vars=Xaa l:=by rw[hmd]
 have hm0:=hm
 rw[hmd] at hm0
 by_cases hP:prodV (Xaa l)≤24
 case neg=>
  refine Ev.step (base.imp fun N hb=> ?_)
  obtain ⟨⟨⟨hh,hd⟩,haw⟩,_⟩:=hb
  obtain ⟨x,hx,⟨x0,x1⟩,hx2⟩:=hh o1 n1 o2 n2
  obtain ⟨y,hy,y0,y1⟩:=hd o n
  have aw:((Xey (K N)).bind fun r=>some (lookR [(0,T.b (r 0).bool)]))=rb true:=by rw[haw];rfl
  rw[Xjz]
  refine Xag hx (Xag hy (Xnk (fun _=>aw) fun c0=> ?_))
  exfalso
  refine hP (hx2 (sum x0 x1 y0 y1 (of_decide_eq_false c0)) ?_)
  have:=(Xfe hm).1
  rw[mv] at this
  exact this
 have hT:prodV m.vars≤24:=by rw[mv];exact hP
 have A1:=Ev.and (Where_sp l k1 k2 te ts ta tn tp hl h1 h2 he hs ha hn hp o1 n1 o2 n2 hm0 k hk) (Where9_sp l k1 k2 te ts ta tn tp hl h1 h2 he hs ha hn hp o1 n1 o2 n2 hm0 k hk)
 have A2:=Ev.and (Goals_sp l k1 k2 te ts ta tn tp hl h1 h2 he hs ha hn hp o1 n1 o2 n2 hm0) (Goals9_sp l k1 k2 te ts ta tn tp hl h1 h2 he hs ha hn hp o1 n1 o2 n2 hm0)
 have A3:=Ev.and (Prios_sp l k1 k2 te ts ta tn tp hl h1 h2 he hs ha hn hp o1 n1 o2 n2 hm0) (Prios9_sp l k1 k2 te ts ta tn tp hl h1 h2 he hs ha hn hp o1 n1 o2 n2 hm0)
 have A4:=Ev.and (Build_sp l k1 k2 te ts ta tn tp hl h1 h2 he hs ha hn hp o1 n1 o2 n2 hmd hm hT) (Ev.and (Build9_sp l k1 k2 te ts ta tn tp hl h1 h2 he hs ha hn hp o1 n1 o2 n2 hmd hm hT) (chs_sp l k1 k2 te ts ta tn tp hl h1 h2 he hs ha hn hp o1 n1 o2 n2 hmd hm hT))
 refine Ev.step (Ev.imp4 base (Ev.and A1 A2) A3 A4 fun N hb hw hq hB=> ?_)
 obtain ⟨⟨⟨hh,hd⟩,haw⟩,sA,sI,sR,sB⟩:=hb
 obtain ⟨x,hx,_,_⟩:=hh o1 n1 o2 n2
 obtain ⟨y,hy,_,_⟩:=hd o n
 obtain ⟨⟨w1,w2⟩,g1,g2⟩:=hw
 obtain ⟨q1,q2⟩:=hq
 obtain ⟨⟨L,no,go,nN,gN,nA,gA,e1,hI,hv,ho,hrw⟩,⟨L',no',go',nN',gN',nA',gA',e2,hI',hv',ho',hrw'⟩,C⟩:=hB
 obtain rfl:L=L':=by
  apply List.ext_getElem?
  intro i
  by_cases c:i<(atE m).length
  ·obtain ⟨_,d1⟩:=hI.done i _ c (List.getElem?_eq_getElem c)
   obtain ⟨_,d2⟩:=hI'.done i _ c (List.getElem?_eq_getElem c)
   rw[d1,d2]
  ·rw[List.getElem?_eq_none (by rw[hI.len];omega),List.getElem?_eq_none (by rw[hI'.len];omega)]
 have hsm:=hI.small
 have h24:=hI.short (waysE_len C)
 have hLl:=hI.len
 have small:∀ (es:List Ex),es.length≤6→(es.map fun e=>(atE m).map (Xik (Xaa l) e)).length≤3000∧∀ r∈(es.map fun e=>(atE m).map (Xik (Xaa l) e)),r.length≤3000:=fun es h=>by
  refine ⟨by rw[List.length_map];omega,fun r hr=> ?_⟩
  obtain ⟨e,_,rfl⟩:=List.mem_map.1 hr
  rw[List.length_map]
  omega
 obtain ⟨f1,f2,f3⟩:=Xvp hm0
 simp only at f1 f2 f3
 refine afFin hx hy haw e1 e2 rfl (sA _ _ _ _ _ _ _ L _ _ _ _ _ ho ho' hrw hrw' hv hv' (by rw[List.length_map];omega) (by omega) (by omega) (fun r hr=>by have:=h24 r hr;omega)) (g1 _ _ _ _ _ hv' (by omega)) (g2 _ _ _ _ _ hv' (by omega)) (w1 o n _ _ _ _ _ hv' (by omega)).bools (w2 o n _ _ _ _ _ hv' (by omega)).bools (q1 _ _ _ _ _ hv' (by omega)) (q2 _ _ _ _ _ hv' (by omega)) sI sR sB (small _ (by omega)) (small _ (by omega)) (by rw[List.length_map];omega) (by rw[List.length_map];omega)
end Go.Proofs.YtnjandhaeojieaaGreat
