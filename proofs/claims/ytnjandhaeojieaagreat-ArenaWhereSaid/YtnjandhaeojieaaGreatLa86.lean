/- Where an expression is true. -/
import Derived.Test.YtnjandhaeojieaaGreatLa80
set_option linter.unusedVariables false
set_option linter.unusedSimpArgs false
namespace Go.AM
open Go.Proofs.YtnjandhaeojieaaGreat
def Xmk (l:List Va)(e:Ex)(v:Vx):Bool:=decide (v.1=3)&&trueE l e v.2.1 v.2.1
def WhOk (l:List Va)(e:Ex)(A:List Vx)(r:Option R):Prop:=∃ n g,r=some (lookR [(0,T.l n g)])∧n=A.length∧∀ i v,A[i]? =some v→(g i 0).bool=Xmk l e v
def setU (g:Nat→Nat→T)(k:Nat)(x:T):Nat→Nat→T:=fun i j=>(bif i==k&&Nat.ble 0 j&&Nat.blt j (0+([x]:List T).length) then ([x]:List T).getD (j-0) (.b false) else (g i j))
theorem setU_at (g:Nat→Nat→T)(k:Nat)(x:T):setU g k x k 0=x:=by
 unfold setU
 rw[beq_self_eq_true]
 rfl
theorem setU_ne (g:Nat→Nat→T){k i:Nat}(x:T)(j:Nat)(h:i≠k):setU g k x i j=g i j:=by
 unfold setU
 rw[show (i==k)=false by simpa using h]
 rfl
theorem boolLoop {n:Nat}{w:Nat→Bool}{B:Nat→Nat→(Nat→Nat→T)→Option R}(hEnd:∀ N g,B (N+1) n g=some (lookR [(0,T.l n g)]))(hStep:∀ N i g,i<n→B (N+2) i g=B N (i+1) (setU g i (T.b (w i)))):
  ∀ (k i:Nat),i+k=n→∀ N g,(∀ j,j<i→(g j 0).bool=w j)→∃ g',B (N+2*k+1) i g=some (lookR [(0,T.l n g')])∧∀ j,j<n→(g' j 0).bool=w j
 | 0,i,hi,N,g,hg=>by
  have:i=n:=by omega
  subst this
  exact ⟨g,hEnd N g,hg⟩
 | k+1,i,hi,N,g,hg=>by
  obtain ⟨g',e,h⟩:=boolLoop hEnd hStep k (i+1) (by omega) N (setU g i (T.b (w i))) (fun j hj=>by
   by_cases c:j=i
   ·subst c;rw[setU_at];rfl
   ·rw[setU_ne _ _ _ c];exact hg j (by omega))
  refine ⟨g',?_,h⟩
  rw[show N+2*(k+1)+1=(N+2*k+1)+2 by omega,hStep _ i g (by omega)]
  exact e
end Go.AM
namespace Go.Proofs.YtnjandhaeojieaaGreat
open Go.AM
section
variable {h:H}{l:T}{o1 n1:Int}{k1:T}{o2 n2:Int}{k2 te ts ta tn tp:T}{o n:Int}{k:T}{nA:Nat}{gA:Nat→Nat→T}{A:List Vx}
theorem whereB (hT:∀ op n now next,Xht h l op n k now next=rb (trueE (Xaa l) (.mk op n (Xad k)) now next))(hv:Verts nA gA A)(hA:A.length≤3000)(N:Nat)(g:Nat→Nat→T):
  WhOk (Xaa l) (.mk o n (Xad k)) A (Xcg.B0 h (N+2*nA+1) nA (T.l nA gA) (nA:Int) 0 l o1 n1 k1 o2 n2 k2 te ts ta tn tp o n k g):=by
 have hnA:=hv.1
 obtain ⟨g',e,hg⟩:=boolLoop (n:=nA) (w:=fun i=>Xmk (Xaa l) (.mk o n (Xad k)) ((A[i]?).getD (0,0,0))) (B:=fun N i g=>Xcg.B0 h N nA (T.l nA gA) (nA:Int) (i:Int) l o1 n1 k1 o2 n2 k2 te ts ta tn tp o n k g) (fun N g=>by
   show Xcg.B0 h (N+1) nA (T.l nA gA) (nA:Int) (nA:Int) l o1 n1 k1 o2 n2 k2 te ts ta tn tp o n k g=_
   rw[Xcg.B0_eq]
   exact Xac (decide_eq_false (by omega)) rfl) (fun N i g hi=>by
   obtain ⟨v,hav⟩:∃ v,A[i]? =some v:=⟨_,List.getElem?_eq_getElem (by omega)⟩
   obtain ⟨y1,y2,y3⟩:=hv.2 i v hav
   have ee:Xmk (Xaa l) (.mk o n (Xad k)) ((A[i]?).getD (0,0,0))=Xmk (Xaa l) (.mk o n (Xad k)) v:=by rw[hav];rfl
   show Xcg.B0 h (N+1+1) nA (T.l nA gA) (nA:Int) (i:Int) l o1 n1 k1 o2 n2 k2 te ts ta tn tp o n k g=_
   rw[ee,Xcg.B0_eq,Int.toNat_natCast,Nat.zero_add i]
   simp only[len_l,el_l]
   rw[y1,y2]
   have b1:∀ g,Xcg.B1 h (N+1) nA (T.l nA gA) (nA:Int) (i:Int) l o1 n1 k1 o2 n2 k2 te ts ta tn tp o n k g=Xcg.B0 h N nA (T.l nA gA) (nA:Int) ((i+1:Nat):Int) l o1 n1 k1 o2 n2 k2 te ts ta tn tp o n k g:=by
    intro g
    rw[Xcg.B1_eq,Xat (a:=(i:Int)+1) (by omega) (by omega)]
    rfl
   unfold Xmk
   by_cases c:v.1=3
   ·rw[decide_eq_true c,Bool.true_and]
    exact if_of (decide_eq_true (by omega)) (if_of (by simp;omega) (if_of (by simpa using c) (Xaj (hT o n v.2.1 v.2.1) (if_of (by simp;omega) (if_of (decide_eq_true (by omega)) (b1 _))))))
   ·rw[decide_eq_false c,Bool.false_and]
    exact if_of (decide_eq_true (by omega)) (if_of (by simp;omega) (Xac (by simpa using c) (if_of (by simp;omega) (if_of (decide_eq_true (by omega)) (b1 _))))))
  nA 0 (by omega) N g (fun j hj=>absurd hj (Nat.not_lt_zero _))
 refine ⟨nA,g',e,hnA,fun i v hi=> ?_⟩
 have hlt:i<nA:=by have:=(List.getElem?_eq_some_iff.1 hi).1;omega
 rw[hg i hlt,hi]
 rfl
end
end Go.Proofs.YtnjandhaeojieaaGreat
set_option linter.unusedVariables false
set_option linter.unusedSimpArgs false
namespace Go.Proofs.YtnjandhaeojieaaGreat
open Go.AM
section
variable (l k1 k2 te ts ta tn tp:T)(hl:l.len≤9223372036854775807)(h1:KW k1)(h2:KW k2)(he:KC te)(hs:KC ts)(ha:KW ta)(hn:KW tn)(hp:KW tp)
include hl h1 h2 he hs ha hn hp
theorem Where_sp (o1 n1 o2 n2:Int)(hm:mayM ⟨Xaa l,.mk o1 n1 (Xad k1),.mk o2 n2 (Xad k2),Xca te,Xca ts,Xad ta,Xad tn,Xad tp⟩=0)(k:T)(hk:KW k):
  Ev fun N=>∀ o n tO tX nA gA A,Verts nA gA A→A.length≤3000→WhOk (Xaa l) (.mk o n (Xad k)) A (Xmc (K N) l o1 n1 k1 o2 n2 k2 te ts ta tn tp tO tX (T.l nA gA) o n k):=by
 refine Ev.step (Ev.step (Ev.imp4 ((MayM_sp l hl k1 k2 te ts ta tn tp h1 h2 he hs ha hn hp).up 1) (True_sp l hl k hk) (Ev.ge 7000) (Ev.ge 0) fun N b1 b2 hN _ o n tO tX nA gA A hv hA=> ?_))
 have b1:=b1 o1 n1 o2 n2
 rw[hm] at b1
 have hnA:=hv.1
 obtain ⟨M,hM⟩:∃ M,N=M+2*nA+1:=⟨N-2*nA-1,by omega⟩
 obtain ⟨q,g',e,hq,hg⟩:=whereB (h:=K N) (l:=l) (o1:=o1) (n1:=n1) (k1:=k1) (o2:=o2) (n2:=n2) (k2:=k2) (te:=te) (ts:=ts) (ta:=ta) (tn:=tn) (tp:=tp) (o:=o) (n:=n) (k:=k) b2 hv hA M (fun i j=>(([(T.b false)]:List T).getD j (.b false)))
 rw[←hM] at e
 refine ⟨q,g',?_,hq,hg⟩
 have e2:Xpx (K (N+1)) l o1 n1 k1 o2 n2 k2 te ts ta tn tp tO tX (T.l nA gA) o n k=some (lookR [(0,T.l q g')]):=by
  rw[C_arena_where_K]
  simp only[len_l,Int.toNat_natCast]
  exact if_of (by simp;omega) e
 rw[C_arena_Where_K]
 exact Xaj b1 (Xac rfl (Xaj e2 rfl))
end
end Go.Proofs.YtnjandhaeojieaaGreat
set_option linter.unusedVariables false
set_option linter.unusedSimpArgs false
namespace Go.AM
open Go.Proofs.YtnjandhaeojieaaGreat
theorem not_where {l:List Va}{e:Ex}(hm:mayV l=0)(hs:Sorts l)(hn:Xck l (.mk 5 0 [e]) 1 true false false=0){s:Int}(h0:0≤s∧s<Xcm l)(hV:Vals l (Xan l s)):
  ¬(trueE l e s s=true∧trueE l (.mk 5 0 [e]) s s=true)∧((Xeo l e s s).2=0→trueE l e s s=true∨trueE l (.mk 5 0 [e]) s s=true):=by
 have e1:(sortE l (.mk 5 0 [e])).2=0:=by
  unfold Xck at hn
  by_cases c:(sortE l (.mk 5 0 [e])).2=0
  ·exact c
  ·rw[if_pos c] at hn;exact hn
 have e2:mayE (.mk 5 0 [e])=0:=by
  unfold sortE at e1
  rw[if_neg (by simpa using hm)] at e1
  by_cases d:mayE (.mk 5 0 [e])=0
  ·exact d
  ·rw[if_pos d] at e1;exact e1
 have e3:mayE e=0:=mayE_kid e2 (List.mem_cons_self ..)
 have so:Xep (.mk 5 0 [e])=true:=by
  cases c:Xep (.mk 5 0 [e]) with
  | true=>rfl
  | false=>
   unfold mayE at e2
   rw[c] at e2
   cases d:Xlj (.mk 5 0 [e])<;>simp[d] at e2
 have e4:(ofE l (.mk 5 0 [e])).2=0:=by
  unfold sortE at e1
  rw[if_neg (by simpa using hm),if_neg (by simpa using e2)] at e1
  exact e1
 have ty:=(Xqt hs _ so).1 e4
 generalize (ofE l (.mk 5 0 [e])).1=q at ty
 have ta:Typed l e 1:=by
  cases ty with
  | not ha=>exact ha
 have tn:Typed l (.mk 5 0 [e]) 1:= .not ta
 have v1:=value_of hm e3 ta h0 h0
 have v2:=value_of hm e2 tn h0 h0
 rw[Xub] at v2
 have s1:=Xeq hm e3 ta
 have s2:=Xeq hm e2 tn
 unfold trueE
 rw[v1,v2,s1,s2]
 simp only[decide_eq_true_eq]
 by_cases c:(valE (Xan l s) (Xan l s) e).2=0
 ·have:=(Xgb ta (hV.rdOk hV e) c).2.2 rfl
  rw[if_neg (by simpa using c)]
  refine ⟨fun h=> ?_,fun _=> ?_⟩
  ·have h1:=h.1.2.2.2
   have h2:=h.2.2.2.2
   simp only at h2
   omega
  ·rcases this with t|t
   ·exact .inr ⟨trivial,trivial,rfl,by simp only;omega⟩
   ·exact .inl ⟨trivial,trivial,c,t⟩
 ·rw[if_pos c]
  exact ⟨fun h=>c h.1.2.2.1,fun h=>absurd h c⟩
end Go.AM
set_option linter.unusedVariables false
set_option linter.unusedSimpArgs false
namespace Go.Proofs.YtnjandhaeojieaaGreat
open Go.AM
theorem awB0 {h:H}{l:T}{o1 n1:Int}{k1:T}{o2 n2:Int}{k2 te ts ta tn tp:T}{o n:Int}{k:T}{nA n0 m0:Nat}{gA gp gq:Nat→Nat→T}{A:List Vx}{ne:Ex}{Q:Option R}(hVal:∀ s,Xjy h l o n k s s=rii (Xeo (Xaa l) (.mk o n (Xad k)) s s).1 (Xeo (Xaa l) (.mk o n (Xad k)) s s).2)
  (hv:Verts nA gA A) (hA:A.length≤3000) (hn0:n0=A.length) (hm0:m0=A.length) (hp:∀ i v,A[i]? =some v→(gp i 0).bool=Xmk (Xaa l) (.mk o n (Xad k)) v) (hq:∀ i v,A[i]? =some v→(gq i 0).bool=Xmk (Xaa l) ne v)
  (law:∀ v∈A,v.1=3→¬(trueE (Xaa l) (.mk o n (Xad k)) v.2.1 v.2.1=true∧trueE (Xaa l) ne v.2.1 v.2.1=true)∧((Xeo (Xaa l) (.mk o n (Xad k)) v.2.1 v.2.1).2=0→trueE (Xaa l) (.mk o n (Xad k)) v.2.1 v.2.1=true∨trueE (Xaa l) ne v.2.1 v.2.1=true))
  (hQ:((Xdg h).bind fun r=>some (lookR [(0,T.b (r 0).bool)]))=Q):
  ∀ (j i:Nat),i+j=A.length→∀ N,2*j+1≤N→Xao.B0 h N n0 m0 (T.l nA gA) (nA:Int) (i:Int) l o1 n1 k1 o2 n2 k2 te ts ta tn tp o n k gp gq=Q
 | 0,i,hi,N,hN=>by
  obtain ⟨N,rfl⟩:∃ M,N=M+1:=⟨N-1,by omega⟩
  have:=hv.1
  rw[Xao.B0_eq]
  exact Xac (decide_eq_false (by omega)) hQ
 | j+1,i,hi,N,hN=>by
  obtain ⟨N,rfl⟩:∃ M,N=M+2:=⟨N-2,by omega⟩
  have hnA:=hv.1
  have hlt:i<A.length:=by omega
  obtain ⟨v,hav⟩:∃ v,A[i]? =some v:=⟨_,List.getElem?_eq_getElem hlt⟩
  obtain ⟨y1,y2,_⟩:=hv.2 i v hav
  have hP:=hp i v hav
  have hR:=hq i v hav
  have b1:Xao.B1 h (N+1) n0 m0 (T.l nA gA) (nA:Int) (i:Int) l o1 n1 k1 o2 n2 k2 te ts ta tn tp o n k gp gq=Q:=by
   rw[Xao.B1_eq,Xat (a:=(i:Int)+1) (by omega) (by omega)]
   exact awB0 hVal hv hA hn0 hm0 hp hq law hQ j (i+1) (by omega) N (by omega)
  have bn:(decide ((0:Int)≤(i:Int))&&decide ((i:Int)<((n0:Nat):Int)))=true:=by simp;omega
  have bm:(decide ((0:Int)≤(i:Int))&&decide ((i:Int)<((m0:Nat):Int)))=true:=by simp;omega
  have cn:decide (i<n0)=true:=decide_eq_true (by omega)
  have cm:decide (i<m0)=true:=decide_eq_true (by omega)
  rw[Xao.B0_eq,Int.toNat_natCast,Nat.zero_add i]
  simp only[len_l,el_l]
  rw[y1,y2]
  refine if_of (decide_eq_true (by omega)) (if_of (by simp;omega) (Xaj (hVal _) ?_))
  rw[bn,bm,cn,cm,hP,hR]
  simp only[cond_true]
  by_cases c:v.1=3
  ·obtain ⟨w1,w2⟩:=law v (List.mem_of_getElem? hav) c
   have wP:Xmk (Xaa l) (.mk o n (Xad k)) v=trueE (Xaa l) (.mk o n (Xad k)) v.2.1 v.2.1:=by unfold Xmk;rw[decide_eq_true c,Bool.true_and]
   have wR:Xmk (Xaa l) ne v=trueE (Xaa l) ne v.2.1 v.2.1:=by unfold Xmk;rw[decide_eq_true c,Bool.true_and]
   rw[wP,wR]
   refine Xac (by simp[c]) ?_
   generalize trueE (Xaa l) (.mk o n (Xad k)) v.2.1 v.2.1=P at *
   generalize trueE (Xaa l) ne v.2.1 v.2.1=R' at *
   have c3:(v.1==(3:Int))=true:=by simpa using c
   rw[c3]
   simp only[cond_true]
   cases P<;>cases R'
   ·simp only[cond_false,Bool.not_false,cond_true]
    refine Xac ?_ b1
    rw[Xei,int_i]
    simpa using fun h=>(w2 h)
   ·simp only[cond_false,Bool.not_false,Bool.not_true,cond_true]
    exact Xja (fun _=>b1) fun _=>b1
   ·simp only[cond_false,Bool.not_false,Bool.not_true,cond_true]
    exact Xja (fun _=>b1) fun _=>b1
   ·exact absurd ⟨rfl,rfl⟩ w1
  ·have wP:Xmk (Xaa l) (.mk o n (Xad k)) v=false:=by unfold Xmk;rw[decide_eq_false c,Bool.false_and]
   have wR:Xmk (Xaa l) ne v=false:=by unfold Xmk;rw[decide_eq_false c,Bool.false_and]
   rw[wP,wR]
   have c3:(v.1==(3:Int))=false:=by simpa using c
   refine if_of (by simp[c]) ?_
   rw[c3]
   simp only[cond_false]
   exact b1
end Go.Proofs.YtnjandhaeojieaaGreat
set_option linter.unusedVariables false
set_option linter.unusedSimpArgs false
namespace Go.Proofs.YtnjandhaeojieaaGreat
open Go.AM
theorem at_tot {m:Md}{A:List Vx}{L:List (List Int)}(hm:mayM m=0)(h:Inv m A.length A L):∀ v∈A,TOk (Xcm m.vars) v:=by
 have key:∀ (n q:Nat),q≤n→∀ b,A[q]? =some b→TOk (Xcm m.vars) b:=by
  intro n
  induction n with
  | zero=>
   intro q hq b hb
   have:q=0:=by omega
   subst this
   rw[h.root] at hb
   cases hb
   exact .inl rfl
  | succ n ih=>
   intro q hq b hb
   by_cases c:q=0
   ·exact ih 0 (by omega) b (c▸hb)
   ·obtain ⟨j,a,hj,ha,hb2⟩:=h.from_ q b (by omega) hb
    exact ways_tot hm (ih j (by omega) a ha) hb2
 intro v hv
 obtain ⟨i,hi,rfl⟩:=List.getElem_of_mem hv
 exact key i i (by omega) _ (List.getElem?_eq_getElem hi)
def notT (o n:Int)(k:T):T:=T.l 1 (fun i j=>((([[(T.i o),(T.i n),k]]:List (List T)).getD (0+i) []).getD j (.b false)))
theorem notT_kids (o n:Int)(k:T):Xad (notT o n k)=[.mk o n (Xad k)]:=by
 have:=kidsOf_kid1 (o,n,k)
 exact this
theorem KW_notT {o n:Int}{k:T}(h:KW k):KW (notT o n k):=KW_kid1 (a:=(o,n,k)) h
theorem ArenaWhere_sp (l:T)(o1 n1:Int)(k1:T)(o2 n2:Int)(k2 te ts ta tn tp:T)(o n:Int)(k:T)(wl:WT Tryz.prog 22 l)(w1:WT Tryz.prog 23 k1)(w2:WT Tryz.prog 23 k2)(we:WT Tryz.prog 26 te)(ws:WT Tryz.prog 26 ts)(wa:WT Tryz.prog 23 ta)(wn:WT Tryz.prog 23 tn)(wp:WT Tryz.prog 23 tp)(wk:WT Tryz.prog 23 k):
  Ev fun N=>Xhq (K N) l o1 n1 k1 o2 n2 k2 te ts ta tn tp o n k=rb true:=by
 have hl:=WT_len wl
 have h1:=WT_KW w1
 have h2:=WT_KW w2
 have he:=WT_KC we
 have hs:=WT_KC ws
 have ha:=WT_KW wa
 have hn:=WT_KW wn
 have hp:=WT_KW wp
 have hk:=WT_KW wk
 obtain ⟨m,hmd⟩:∃ m:Md,m=⟨Xaa l,.mk o1 n1 (Xad k1),.mk o2 n2 (Xad k2),Xca te,Xca ts,Xad ta,Xad tn,Xad tp⟩:=⟨_,rfl⟩
 have base:=Ev.and (Ev.and (Ev.and (heavy6_bd l k1 k2 te ts ta tn tp hl h1 h2 he hs ha hn hp) (Xoo k hk)) awake10_sp) (Ev.and (Xhz l hl k1 k2 te ts ta tn tp h1 h2 he hs ha hn hp) (Xil l hl (notT o n k) (KW_notT hk)))
 have sum:∀ {x y:Int},0≤x→x≤1000000→0≤y→y≤1000→¬IntKind.wrap .i64 (x+y)>0→¬0<x:=fun a b c d e=>by
  rw[Xat (by omega) (by omega)] at e;omega
 by_cases good:mayM m=0∧prodV (Xaa l)≤24
 case neg=>
  refine Ev.step (base.imp fun N hb=> ?_)
  obtain ⟨⟨⟨hh,hd⟩,haw⟩,hr,_⟩:=hb
  obtain ⟨x,hx,⟨x0,x1⟩,hx2⟩:=hh o1 n1 o2 n2
  obtain ⟨y,hy,y0,y1⟩:=hd o n
  have aw:((Xdg (K N)).bind fun r=>some (lookR [(0,T.b (r 0).bool)]))=rb true:=by rw[haw];rfl
  rw[Xje]
  refine Xaj hx (Xaj hy (Xja (fun _=>aw) fun c0=>Xaj (hr o1 n1 o2 n2) (Xja (fun _=>aw) fun c1=> ?_)))
  exfalso
  have c1:mayM m=0:=by rw[hmd];simpa [Xal,int_i] using c1
  refine good ⟨c1,hx2 (sum x0 x1 y0 y1 (of_decide_eq_false c0)) ?_⟩
  have:=(Xer c1).1
  rw[hmd] at this
  exact this
 obtain ⟨hm,hP⟩:=good
 have mv:m.vars=Xaa l:=by rw[hmd]
 have hT:prodV m.vars≤24:=by rw[mv];exact hP
 have cm:=(Xer hm).1
 have hm0:=hm
 rw[hmd] at hm0
 rw[mv] at cm
 have wsp:=Where_sp l k1 k2 te ts ta tn tp hl h1 h2 he hs ha hn hp o1 n1 o2 n2 hm0
 refine Ev.step (Ev.imp4 base (Ev.and (wsp k hk) (wsp (notT o n k) (KW_notT hk))) (Ev.and (Build9_sp l k1 k2 te ts ta tn tp hl h1 h2 he hs ha hn hp o1 n1 o2 n2 hmd hm hT) (Value_sp l hl k hk)) (Ev.ge 10000) fun N hb hw hB hN=> ?_)
 obtain ⟨⟨⟨hh,hd⟩,haw⟩,hr,hne⟩:=hb
 obtain ⟨x,hx,_,_⟩:=hh o1 n1 o2 n2
 obtain ⟨y,hy,_,_⟩:=hd o n
 obtain ⟨hw1,hw2⟩:=hw
 obtain ⟨⟨L,no,go,nN,gN,nA,gA,e,hI,hv,_,_⟩,hVal⟩:=hB
 have aw:((Xdg (K N)).bind fun r=>some (lookR [(0,T.b (r 0).bool)]))=rb true:=by rw[haw];rfl
 have hsm:=hI.small
 have hnA:=hv.1
 obtain ⟨n0,gp,e1,hn0,hgp⟩:=hw1 o n (T.l no go) (T.l nN gN) nA gA _ hv (by omega)
 obtain ⟨m0,gq,e2,hm0',hgq⟩:=hw2 5 0 (T.l no go) (T.l nN gN) nA gA _ hv (by omega)
 rw[notT_kids] at hgq
 have hne:=hne 5 0 1 true false false
 rw[notT_kids] at hne
 obtain ⟨r,hr0⟩:∃ r,r=lookR [(0,T.l no go),(1,T.l nN gN),(2,T.l nA gA),(3,T.i 0)]:=⟨_,rfl⟩
 rw[←hr0] at e
 have r0:r 0=T.l no go:=by rw[hr0];rfl
 have r1:r 1=T.l nN gN:=by rw[hr0];rfl
 have r2:r 2=T.l nA gA:=by rw[hr0];rfl
 have r3:r 3=T.i 0:=by rw[hr0];rfl
 rw[Xje]
 refine Xaj hx (Xaj hy (Xja (fun _=>aw) fun _=>Xaj (hr o1 n1 o2 n2) (Xja (fun _=>aw) fun _=>Xaj e ?_)))
 simp only[r0,r1,r2,r3,len_l,el_l,int_i]
 refine Xac (by rfl) (Xaj hne (Xja (fun _=>aw) fun c=>Xaj e1 (Xaj e2 ?_)))
 have c:Xck (Xaa l) (.mk 5 0 [.mk o n (Xad k)]) 1 true false false=0:=by simpa [Xal,int_i] using c
 simp only[Xal,len_l,el_l]
 refine Xac (by simp;omega) (Xac (by simp;omega) ?_)
 refine awB0 (ne:= .mk 5 0 [.mk o n (Xad k)]) (fun s=>hVal o n s s) hv (by omega) hn0 hm0' hgp hgq (fun v hvm hv3=> ?_) aw (atE m).length 0 (by omega) N (by omega)
 have hst:0≤v.2.1∧v.2.1<Xcm (Xaa l):=by
  have ht:=at_tot hm hI v hvm
  rw[mv] at ht
  rcases ht with rfl|⟨p,_,rfl⟩|⟨s,h3,rfl⟩|⟨s,p,_,_,rfl⟩
  ·simp at hv3
  ·simp at hv3
  ·exact h3
  ·simp at hv3
 exact not_where cm (Xoi cm) c hst (Xhj (valuesOk_iff.2 ⟨cm,hst⟩))
end Go.Proofs.YtnjandhaeojieaaGreat
