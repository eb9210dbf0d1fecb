/- parryref9.sorted puts numbers in order. -/
import Derived.Test.YtnjandhaeojieaaGreatLa71
set_option linter.unusedVariables false
set_option linter.unusedSimpArgs false
namespace Go.AM
open Go.Proofs.YtnjandhaeojieaaGreat
def insE:List Int→Int→List Int
 | [],x=>[x]
 | z::r,x=>if z<x then z::insE r x else x::z::r
theorem Xrw (x:Int):∀ zs:List Int,(insE zs x).Perm (x::zs)
 | []=>List.Perm.refl _
 | z::r=>by
  unfold insE
  split
  ·exact ((Xrw x r).cons z).trans (List.Perm.swap x z r)
  ·exact List.Perm.refl _
theorem insE_up {x:Int}:∀ {zs:List Int},zs.Pairwise (fun a b=>a≤b)→(insE zs x).Pairwise fun a b=>a≤b
 | [],_=>by simp[insE]
 | z::r,h=>by
  have h2:=List.pairwise_cons.1 h
  unfold insE
  split
  ·rename_i c
   refine List.pairwise_cons.2 ⟨fun a ha=> ?_,insE_up h2.2⟩
   rcases List.mem_cons.1 ((Xrw x r).mem_iff.1 ha) with rfl|ha
   ·omega
   ·exact h2.1 a ha
  ·rename_i c
   refine List.pairwise_cons.2 ⟨fun a ha=> ?_,h⟩
   rcases List.mem_cons.1 ha with rfl|ha
   ·omega
   ·have:=h2.1 a ha;omega
theorem insE_split {x:Int}:∀ {pre suf:List Int},(∀ z∈pre,z<x)→(∀ z r,suf=z::r→¬z<x)→insE (pre++suf) x=pre++x::suf
 | [],[],_,_=>rfl
 | [],z::r,_,h=>by
  show insE (z::r) x=x::z::r
  unfold insE
  rw[if_neg (h z r rfl)]
 | p::pre,suf,h1,h2=>by
  show insE (p::(pre++suf)) x=_
  unfold insE
  rw[if_pos (h1 p (List.mem_cons_self ..)),insE_split (fun z hz=>h1 z (List.mem_cons_of_mem _ hz)) h2]
  rfl
theorem up_unique:∀ {a b:List Int},a.Perm b→a.Pairwise (fun x y=>x≤y)→b.Pairwise (fun x y=>x≤y)→a=b
 | [],b,h,_,_=>(List.nil_perm.1 h).symm
 | x::a,[],h,_,_=>absurd (List.perm_nil.1 h) (by simp)
 | x::a,y::b,h,ha,hb=>by
  have ha2:=List.pairwise_cons.1 ha
  have hb2:=List.pairwise_cons.1 hb
  have hxy:x=y:=by
   have h1:x∈y::b:=h.mem_iff.1 (List.mem_cons_self ..)
   have h2:y∈x::a:=h.mem_iff.2 (List.mem_cons_self ..)
   rcases List.mem_cons.1 h1 with e|h1
   ·exact e
   ·rcases List.mem_cons.1 h2 with e|h2
    ·exact e.symm
    ·have:=ha2.1 y h2
     have:=hb2.1 x h1
     omega
  subst hxy
  rw[up_unique (List.Perm.cons_inv h) ha2.2 hb2.2]
theorem ins_all (l:List Int):l.foldl insE []=l.mergeSort fun x y=>decide (x≤y):=by
 have key:∀ (l zs:List Int),zs.Pairwise (fun a b=>a≤b)→(l.foldl insE zs).Pairwise (fun a b=>a≤b)∧(l.foldl insE zs).Perm (l++zs):=by
  intro l
  induction l with
  | nil=>intro zs h;exact ⟨h,List.Perm.refl _⟩
  | cons x l ih=>
   intro zs h
   obtain ⟨h1,h2⟩:=ih (insE zs x) (insE_up h)
   refine ⟨h1,h2.trans ?_⟩
   exact ((Xrw x zs).append_left l).trans List.perm_middle
 obtain ⟨h1,h2⟩:=key l [] List.Pairwise.nil
 refine up_unique ?_ h1 ?_
 ·rw[List.append_nil] at h2
  exact h2.trans (List.mergeSort_perm _ _).symm
 ·have:=List.pairwise_mergeSort (le:=fun x y:Int=>decide (x≤y)) (fun a b c h1 h2=>by simp at h1 h2 ⊢;omega) (fun a b=>by simp;omega) l
  exact this.imp fun h=>of_decide_eq_true h
end Go.AM
namespace Go.Proofs.YtnjandhaeojieaaGreat
open Go.AM
theorem stB1 {h:H}{t:T}{x:Int}{tl ti:Int}{n:Nat}{g:Nat→Nat→T}{zs:List Int}{F:Nat}(hz:Ints (T.l n g) zs)(hb:zs.length≤10000):
  ∀ (suf pre:List Int),pre++suf=zs→(∀ z∈pre,z<x)→∀ N,F+suf.length+2≤N→∃ N' g',F≤N'∧Ints (T.l (zs.length+1) g') (insE zs x)∧Xaz.B1 h N n x (pre.length:Int) t tl ti g=Xaz.B0 h N' (zs.length+1) t tl (IntKind.wrap .i64 (ti+1)) g':=by
 have hn:n=zs.length:=hz.1
 have b2:∀ (pre suf:List Int),pre++suf=zs→(∀ z∈pre,z<x)→(∀ z r,suf=z::r→¬z<x)→∀ N,F+1≤N→∃ N' g',F≤N'∧Ints (T.l (zs.length+1) g') (insE zs x)∧Xaz.B2 h N n x (pre.length:Int) t tl ti g=Xaz.B0 h N' (zs.length+1) t tl (IntKind.wrap .i64 (ti+1)) g':=by
  intro pre suf hs h1 h2 N hN
  obtain ⟨N,rfl⟩:∃ M,N=M+1:=⟨N-1,by omega⟩
  have hl:pre.length+suf.length=zs.length:=by rw[←hs,List.length_append]
  rw[Xaz.B2_eq,Int.toNat_natCast,Int.toNat_natCast]
  have en:pre.length+1+(n-pre.length)=zs.length+1:=by omega
  rw[en]
  refine ⟨N,_,by omega,?_,if_of (by simp;omega) (if_of (decide_eq_true (by omega)) (if_of (decide_eq_true (by omega)) (if_of (by simp;omega) (if_of (decide_eq_true (by omega)) rfl))))⟩
  refine ⟨?_,fun i z hi=> ?_⟩
  ·show zs.length+1=_
   rw[(Xrw x zs).length_eq];rfl
  ·rw[←hs,insE_split h1 h2] at hi
   show ((bif Nat.blt i (pre.length+1) then (bif Nat.blt i pre.length then g (0+i) 0 else _) else g (0+pre.length+(i-(pre.length+1))) 0):T).int=z
   by_cases c1:i<pre.length
   ·rw[blt_lt (show i<pre.length+1 by omega),blt_lt c1,cond_true,cond_true,Nat.zero_add]
    rw[List.getElem?_append_left c1] at hi
    exact hz.2 i z (by rw[←hs,List.getElem?_append_left c1];exact hi)
   ·rw[List.getElem?_append_right (by omega)] at hi
    by_cases c2:i=pre.length
    ·subst c2
     rw[blt_lt (show pre.length<pre.length+1 by omega),blt_ge (Nat.le_refl _),cond_true,cond_false,Nat.sub_self]
     rw[Nat.sub_self] at hi
     exact Option.some.inj hi
    ·rw[blt_ge (show pre.length+1≤i by omega),cond_false]
     have e:i-pre.length=(i-(pre.length+1))+1:=by omega
     rw[e,List.getElem?_cons_succ] at hi
     refine hz.2 _ z ?_
     rw[←hs,List.getElem?_append_right (by omega)]
     rw[show 0+pre.length+(i-(pre.length+1))-pre.length=i-(pre.length+1) by omega]
     exact hi
 intro suf
 induction suf with
 | nil=>
  intro pre hs h1 N hN
  obtain ⟨N,rfl⟩:∃ M,N=M+1:=⟨N-1,by omega⟩
  have hl:pre.length=zs.length:=by rw[←hs];simp
  obtain ⟨N',g',q1,q2,q3⟩:=b2 pre [] hs h1 (fun z r e=>by cases e) N (by simp at hN;omega)
  refine ⟨N',g',q1,q2,?_⟩
  rw[Xaz.B1_eq]
  exact Xac (decide_eq_false (by omega)) q3
 | cons z suf ih=>
  intro pre hs h1 N hN
  obtain ⟨N,rfl⟩:∃ M,N=M+1:=⟨N-1,by omega⟩
  have hl:pre.length+(suf.length+1)=zs.length:=by rw[←hs,List.length_append,List.length_cons]
  have hg:(g pre.length 0).int=z:=hz.2 _ z (by rw[←hs,List.getElem?_append_right (Nat.le_refl _),Nat.sub_self];rfl)
  simp only[List.length_cons] at hN
  have e:Xaz.B1 h (N+1) n x (pre.length:Int) t tl ti g=(bif decide (z<x) then Xaz.B1 h N n x (IntKind.wrap .i64 ((pre.length:Int)+1)) t tl ti g else Xaz.B2 h N n x (pre.length:Int) t tl ti g):=by
   rw[Xaz.B1_eq,Int.toNat_natCast,Nat.zero_add,hg]
   exact if_of (decide_eq_true (by omega)) (if_of (by simp;omega) (if_of (decide_eq_true (by omega)) rfl))
  by_cases c:z<x
  ·obtain ⟨N',g',q1,q2,q3⟩:=ih (pre++[z]) (by rw[←hs];simp) (fun q hq=>by
    rcases List.mem_append.1 hq with q1|q1
    ·exact h1 q q1
    ·rw[List.mem_singleton.1 q1];exact c) N (by omega)
   rw[List.length_append,show [z].length=1 from rfl] at q3
   refine ⟨N',g',q1,q2,e.trans (if_of (decide_eq_true c) ?_)⟩
   rw[Xaq (a:=(pre.length:Int)+1) (by omega) (by omega)]
   exact q3
  ·obtain ⟨N',g',q1,q2,q3⟩:=b2 pre (z::suf) hs h1 (fun q r e=>by cases e;exact c) N (by omega)
   exact ⟨N',g',q1,q2,e.trans (Xac (decide_eq_false c) q3)⟩
theorem stB0 {h:H}{t:T}{l:List Int}(ht:Ints t l)(hl:l.length≤1000):
  ∀ (k i:Nat),i+k=l.length→∀ (N n:Nat) (g:Nat→Nat→T),1100*k+1≤N→Ints (T.l n g) ((l.take i).foldl insE [])→Gives (l.foldl insE []) (Xaz.B0 h N n t (t.len:Int) (i:Int) g)
 | 0,i,hi,N,n,g,hN,hg=>by
  obtain ⟨N,rfl⟩:∃ M,N=M+1:=⟨N-1,by omega⟩
  have h1:=ht.1
  rw[List.take_of_length_le (by omega)] at hg
  refine ⟨T.l n g,?_,hg⟩
  rw[Xaz.B0_eq]
  exact Xac (decide_eq_false (by omega)) rfl
 | k+1,i,hi,N,n,g,hN,hg=>by
  obtain ⟨N,rfl⟩:∃ M,N=M+1:=⟨N-1,by omega⟩
  have h1:=ht.1
  have hlt:i<l.length:=by omega
  have he:=ht.el0 hlt
  have hlen:((l.take i).foldl insE []).length=i:=by
   have key:∀ (l zs:List Int),(l.foldl insE zs).length=l.length+zs.length:=by
    intro l
    induction l with
    | nil=>intro zs;simp
    | cons x l ih=>intro zs;rw[List.foldl_cons,ih,(Xrw x zs).length_eq,List.length_cons,List.length_cons];omega
   rw[key,List.length_take];simp;omega
  obtain ⟨N',g',q1,q2,q3⟩:=stB1 (h:=h) (t:=t) (x:=l[i]) (tl:=(t.len:Int)) (ti:=(i:Int)) (F:=1100*k+1) hg (by omega) ((l.take i).foldl insE []) [] rfl (by simp) N (by omega)
  rw[hlen] at q2 q3
  rw[Xaq (a:=(i:Int)+1) (by omega) (by omega)] at q3
  have e1:insE ((l.take i).foldl insE []) l[i]=(l.take (i+1)).foldl insE []:=by rw[List.take_succ_eq_append_getElem hlt,List.foldl_append];rfl
  rw[e1] at q2
  obtain ⟨r,e,hr⟩:=stB0 (h:=h) ht hl k (i+1) (by omega) N' (i+1) g' q1 q2
  refine ⟨r,?_,hr⟩
  rw[Xaz.B0_eq,Int.toNat_natCast,he]
  exact if_of (decide_eq_true (by omega)) (if_of (by simp;omega) (q3.trans e))
theorem sorted9_sp {N:Nat}{t:T}{l:List Int}(ht:Ints t l)(hl:l.length≤1000)(hN:1100*l.length+1≤N):Gives (l.mergeSort fun x y=>decide (x≤y)) (Xle (K (N+1)) t):=by
 rw[Xtq,←ins_all]
 exact stB0 ht hl l.length 0 (by omega) N 0 _ hN ⟨rfl,by simp⟩
end Go.Proofs.YtnjandhaeojieaaGreat
set_option linter.unusedVariables false
set_option linter.unusedSimpArgs false
namespace Go.AM
open Go.Proofs.YtnjandhaeojieaaGreat
def setT (g:Nat→Nat→T)(k:Nat)(v:Int):Nat→Nat→T:=fun i j=>(bif i==k&&Nat.ble 0 j&&Nat.blt j (0+([(T.i v)]:List T).length) then ([(T.i v)]:List T).getD (j-0) (.b false) else (g i j))
theorem setT_at (g:Nat→Nat→T)(k:Nat)(v:Int):(setT g k v k 0).int=v:=by
 unfold setT
 rw[beq_self_eq_true]
 rfl
theorem setT_ne (g:Nat→Nat→T){k i:Nat}(v:Int)(j:Nat)(h:i≠k):setT g k v i j=g i j:=by
 unfold setT
 rw[show (i==k)=false by simpa using h]
 rfl
def Tab (A:List Vx)(f:Nat→Vx)(n:Nat)(g:Nat→Nat→T):Prop:=∀ p,p<n→(g p 0).int=if f p∈A then (A.idxOf (f p):Int)+1 else 0
theorem Tab.push {A:List Vx}{f:Nat→Vx}{n:Nat}{g:Nat→Nat→T}(h:Tab A f n g)(inj:∀ p q,p<n→q<n→f p=f q→p=q){k:Nat}(hk:k<n)(hn:f k∉A):Tab (A++[f k]) f n (setT g k ((A.length+1:Nat):Int)):=by
 intro p hp
 by_cases c:p=k
 ·subst c
  rw[setT_at,if_pos (by simp),List.idxOf_append,if_neg hn]
  simp
 ·rw[setT_ne _ _ _ c,h p hp]
  have hne:f p≠f k:=fun e=>c (inj p k hp hk e)
  by_cases d:f p∈A
  ·rw[if_pos d,if_pos (List.mem_append.2 (.inl d)),Xpm d]
  ·rw[if_neg d,if_neg (by simp[d,hne])]
theorem Tab.fold_other {A ws:List Vx}{f:Nat→Vx}{n:Nat}{g:Nat→Nat→T}(h:Tab A f n g)(hw:∀ w∈ws,∀ p,p<n→f p≠w):Tab (ws.foldl addV A) f n g:=by
 obtain ⟨B,e,hB⟩:=Xth ws A
 intro p hp
 rw[h p hp,e]
 by_cases d:f p∈A
 ·rw[if_pos d,if_pos (List.mem_append.2 (.inl d)),Xpm d]
 ·rw[if_neg d,if_neg]
  intro q
  rcases List.mem_append.1 q with q|q
  ·exact d q
  ·exact hw _ (hB _ q) p hp rfl
theorem tabLoop {f:Nat→Vx}{n:Nat}{xs:List Int}{ix:Int→Nat}{B:Nat→Nat→Nat→(Nat→Nat→T)→(Nat→Nat→T)→Nat→(Nat→Nat→T)→Option R}{E:Nat→Nat→(Nat→Nat→T)→(Nat→Nat→T)→Nat→(Nat→Nat→T)→Option R}
  (inj:∀ p q,p<n→q<n→f p=f q→p=q) (hx:∀ x∈xs,ix x<n)
  (hEnd:∀ N nA gT gA nN gN,B (N+1) xs.length nA gT gA nN gN=E N nA gT gA nN gN)
  (hStep:∀ N j nA gT gA nN gN x,xs[j]? =some x→nA≤2000→nN≤100→B (N+2) j nA gT gA nN gN=if (gT (ix x) 0).int=0 then B N (j+1) (nA+1) (setT gT (ix x) ((nA+1:Nat):Int)) (pushV nA gA (f (ix x)).1 (f (ix x)).2.1 (f (ix x)).2.2) (nN+1) (pushG nN gN (IntKind.wrap .i64 ((setT gT (ix x) ((nA+1:Nat):Int) (ix x) 0).int-1))) else B N (j+1) nA gT gA (nN+1) (pushG nN gN (IntKind.wrap .i64 ((gT (ix x) 0).int-1)))):
  ∀ (k j:Nat),j+k=xs.length→∀ (N nA nN:Nat) (gT gA gN:Nat→Nat→T) (A:List Vx) (L:List Int),Verts nA gA A→Tab A f n gT→Ints (T.l nN gN) L→A.length+k≤2000→L.length+k≤100→
   ∃ nA' gT' gA' nN' gN',Verts nA' gA' (((xs.drop j).map fun x=>f (ix x)).foldl addV A)∧Tab (((xs.drop j).map fun x=>f (ix x)).foldl addV A) f n gT'∧
    Ints (T.l nN' gN') (L++(xs.drop j).map fun x=>((((xs.drop j).map fun x=>f (ix x)).foldl addV A).idxOf (f (ix x)):Int))∧B (N+2*k+1) j nA gT gA nN gN=E N nA' gT' gA' nN' gN'
 | 0,j,hj,N,nA,nN,gT,gA,gN,A,L,hv,ht,hl,_,_=>by
  have e:xs.drop j=[]:=List.drop_eq_nil_of_le (by omega)
  have e2:j=xs.length:=by omega
  subst e2
  rw[e]
  exact ⟨nA,gT,gA,nN,gN,hv,ht,by simpa using hl,hEnd ..⟩
 | k+1,j,hj,N,nA,nN,gT,gA,gN,A,L,hv,ht,hl,h1,h2=>by
  have hlt:j<xs.length:=by omega
  have hxj:xs[j]? =some xs[j]:=List.getElem?_eq_getElem hlt
  have hix:=hx xs[j] (List.getElem_mem hlt)
  have hnA:=hv.1
  have hnN:nN=L.length:=hl.1
  have hst:=hStep (N+2*k+1) j nA gT gA nN gN xs[j] hxj (by omega) (by omega)
  have hd:xs.drop j=xs[j]::xs.drop (j+1):=List.drop_eq_getElem_cons hlt
  have htab:=ht (ix xs[j]) hix
  rw[show N+2*(k+1)+1=(N+2*k+1)+2 by omega,hst,hd,List.map_cons,List.foldl_cons,List.map_cons]
  have stay:∀ A1,f (ix xs[j])∈A1→(((xs.drop (j+1)).map fun x=>f (ix x)).foldl addV A1).idxOf (f (ix xs[j]))=A1.idxOf (f (ix xs[j])):=fun A1 hm=>by
   obtain ⟨B,e,_⟩:=Xth ((xs.drop (j+1)).map fun x=>f (ix x)) A1
   rw[e,Xpm hm]
  by_cases c:f (ix xs[j])∈A
  ·have hadd:addV A (f (ix xs[j]))=A:=by unfold addV;rw[if_pos c]
   rw[if_pos c] at htab
   have hi:A.idxOf (f (ix xs[j]))<A.length:=List.idxOf_lt_length_iff.2 c
   rw[if_neg (by rw[htab];omega),htab,hadd]
   obtain ⟨nA',gT',gA',nN',gN',q1,q2,q3,q4⟩:=tabLoop inj hx hEnd hStep k (j+1) (by omega) N nA (nN+1) gT gA (pushG nN gN (IntKind.wrap .i64 ((A.idxOf (f (ix xs[j])):Int)+1-1))) A (L++[(A.idxOf (f (ix xs[j])):Int)]) hv ht (by
    rw[Xaq (a:=(A.idxOf (f (ix xs[j])):Int)+1-1) (by omega) (by omega),show (A.idxOf (f (ix xs[j])):Int)+1-1=(A.idxOf (f (ix xs[j])):Int) by omega]
    exact Xsc hl _) (by omega) (by simp;omega)
   refine ⟨nA',gT',gA',nN',gN',q1,q2,?_,q4⟩
   rw[stay A c]
   rw[List.append_assoc] at q3
   exact q3
  ·have hadd:addV A (f (ix xs[j]))=A++[f (ix xs[j])]:=by unfold addV;rw[if_neg c]
   rw[if_neg c] at htab
   rw[if_pos htab,setT_at,hadd]
   obtain ⟨nA',gT',gA',nN',gN',q1,q2,q3,q4⟩:=tabLoop inj hx hEnd hStep k (j+1) (by omega) N (nA+1) (nN+1) (setT gT (ix xs[j]) ((nA+1:Nat):Int)) (pushV nA gA (f (ix xs[j])).1 (f (ix xs[j])).2.1 (f (ix xs[j])).2.2) (pushG nN gN (IntKind.wrap .i64 (((nA+1:Nat):Int)-1))) (A++[f (ix xs[j])]) (L++[(A.length:Int)]) (hv.push _) (by rw[hnA];exact ht.push inj hix c) (by
    rw[Xaq (a:=((nA+1:Nat):Int)-1) (by omega) (by omega),show ((nA+1:Nat):Int)-1=(A.length:Int) by omega]
    exact Xsc hl _) (by simp;omega) (by simp;omega)
   refine ⟨nA',gT',gA',nN',gN',q1,q2,?_,q4⟩
   rw[stay (A++[f (ix xs[j])]) (by simp),List.idxOf_append,if_neg c]
   rw[List.append_assoc] at q3
   simpa using q3
end Go.AM
set_option linter.unusedVariables false
set_option linter.unusedSimpArgs false
namespace Go.AM
open Go.Proofs.YtnjandhaeojieaaGreat
def TOk (t:Int)(v:Vx):Prop:=v=(1,0,0)∨(∃ p,(0≤p∧p<t)∧v=(2,0,p))∨(∃ s,(0≤s∧s<t)∧v=(3,s,0))∨∃ s p,(0≤s∧s<t)∧(0≤p∧p<t)∧v=(4,s,p)
section
variable {m:Md}(hm:mayM m=0)
include hm
theorem ie_tot {x:Int}(h:x∈Xek m):0≤x∧x<Xcz m.vars:=((initEnv_mem hm).1 h).1
theorem is_tot {p x:Int}(h:x∈Xft m p):0≤x∧x<Xcz m.vars:=by
 have hp:=(Xcp (Xfe hm).1).2.1
 unfold Xft at h
 rw[if_neg (by simpa using hm)] at h
 split at h
 ·cases h
 ·rw[List.mem_filter,upFrom_mem] at h
  have:=h.1
  omega
theorem ev_tot {s x:Int}(h:x∈envE m s):0≤x∧x<Xcz m.vars:=by
 rw[env_ref] at h
 unfold Xrq at h
 rw[if_neg (by simpa using hm)] at h
 split at h
 ·cases h
 ·rw[List.mem_filter,upFrom_mem] at h
  have:=h.1
  omega
theorem sy_tot {s p x:Int}(h:x∈sysE m s p):0≤x∧x<Xcz m.vars:=by
 rw[sys_ref] at h
 unfold Xro at h
 rw[if_neg (by simpa using hm)] at h
 split at h
 ·cases h
 ·split at h
  ·cases h
  ·rw[List.mem_filter,upFrom_mem] at h
   have:=h.1
   omega
theorem ways_tot {v w:Vx}(hv:TOk (Xcz m.vars) v)(hw:w∈waysE m v):TOk (Xcz m.vars) w:=by
 unfold waysE at hw
 rcases hv with rfl|⟨p,h1,rfl⟩|⟨s,h1,rfl⟩|⟨s,p,h1,h2,rfl⟩
 ·rw[if_pos rfl] at hw
  obtain ⟨x,hx,rfl⟩:=List.mem_map.1 hw
  exact .inr (.inl ⟨x,ie_tot hm hx,rfl⟩)
 ·rw[if_neg (by simp),if_pos rfl] at hw
  obtain ⟨x,hx,rfl⟩:=List.mem_map.1 hw
  exact .inr (.inr (.inl ⟨x,is_tot hm hx,rfl⟩))
 ·rw[if_neg (by simp),if_neg (by simp),if_pos rfl] at hw
  obtain ⟨x,hx,rfl⟩:=List.mem_map.1 hw
  exact .inr (.inr (.inr ⟨s,x,h1,ev_tot hm hx,rfl⟩))
 ·rw[if_neg (by simp),if_neg (by simp),if_neg (by simp),if_pos rfl] at hw
  obtain ⟨x,hx,rfl⟩:=List.mem_map.1 hw
  exact .inr (.inr (.inl ⟨x,sy_tot hm hx,rfl⟩))
end
def fS (p:Nat):Vx:=(2,0,(p:Int))
def fE (s:Nat):Vx:=(3,(s:Int),0)
def fY (t:Nat)(k:Nat):Vx:=(4,((k / t:Nat):Int),((k % t:Nat):Int))
theorem fS_inj (p q:Nat)(h:fS p=fS q):p=q:=by
 unfold fS at h
 simp only[Prod.mk.injEq] at h
 omega
theorem fE_inj (p q:Nat)(h:fE p=fE q):p=q:=by
 unfold fE at h
 simp only[Prod.mk.injEq] at h
 omega
theorem fY_inj (t p q:Nat)(h:fY t p=fY t q):p=q:=by
 unfold fY at h
 simp only[Prod.mk.injEq] at h
 have h1:p / t=q / t:=by omega
 have h2:p % t=q % t:=by omega
 rw[←Nat.div_add_mod p t,←Nat.div_add_mod q t,h1,h2]
theorem fY_at {t s p:Nat}(hp:p<t):fY t (s*t+p)=(4,(s:Int),(p:Int)):=by
 unfold fY
 rw[Nat.add_comm,Nat.add_mul_div_right _ _ (by omega),Nat.div_eq_of_lt hp,Nat.add_mul_mod_self_right,Nat.mod_eq_of_lt hp,Nat.zero_add]
theorem fY_lt {t s p:Nat}(hs:s<t)(hp:p<t):s*t+p<t*t:=by
 have:(s+1)*t≤t*t:=Nat.mul_le_mul_right _ hs
 rw[Nat.add_mul,Nat.one_mul] at this
 omega
end Go.AM
set_option linter.unusedVariables false
set_option linter.unusedSimpArgs false
namespace Go.Proofs.YtnjandhaeojieaaGreat
open Go.AM
section
variable {h:H}{l:T}{o1 n1:Int}{k1:T}{o2 n2:Int}{k2 te ts ta tn tp:T}{tot nS nE nY nO nX:Nat}{t8 v ow kk st pk:Int}{gS gE gY gO gX gr:Nat→Nat→T}{xs:List Int}{nr:Nat}
theorem lp1 (hrow:Ints (T.l nr gr) xs)(hx:∀ x∈xs,0≤x∧x<(tot:Int))(hxl:xs.length≤24){N nA:Nat}{gT gA:Nat→Nat→T}{A:List Vx}(hv:Verts nA gA A)(ht:Tab A fS tot gT)(hA:A.length≤700):
  ∃ nA' gT' gA' nN' gN',Verts nA' gA' ((xs.map fun x=>fS x.toNat).foldl addV A)∧Tab ((xs.map fun x=>fS x.toNat).foldl addV A) fS tot gT'∧Ints (T.l nN' gN') (xs.map fun x=>(((xs.map fun x=>fS x.toNat).foldl addV A).idxOf (fS x.toNat):Int))∧
   Xab.B1 h (N+2*xs.length+1) tot nE nY nO nX nA 0 nr t8 v ow (nr:Int) 0 l o1 n1 k1 o2 n2 k2 te ts ta tn tp gT gE gY gO gX gA (fun _ _=> .b false) gr=Xab.B6 h N tot nE nY nO nX nA' nN' t8 v ow l o1 n1 k1 o2 n2 k2 te ts ta tn tp gT' gE gY gO gX gA' gN':=by
 have hnr:nr=xs.length:=hrow.1
 have:=tabLoop (f:=fS) (n:=tot) (xs:=xs) (ix:=Int.toNat) (B:=fun N j nA gT gA nN gN=>Xab.B1 h N tot nE nY nO nX nA nN nr t8 v ow (nr:Int) (j:Int) l o1 n1 k1 o2 n2 k2 te ts ta tn tp gT gE gY gO gX gA gN gr) (E:=fun N nA gT gA nN gN=>Xab.B6 h N tot nE nY nO nX nA nN t8 v ow l o1 n1 k1 o2 n2 k2 te ts ta tn tp gT gE gY gO gX gA gN)
  (fun p q _ _ e=>fS_inj p q e) (fun x hm=>by have:=hx x hm;omega) (fun N nA gT gA nN gN=>by
   show Xab.B1 h (N+1) tot nE nY nO nX nA nN nr t8 v ow (nr:Int) (xs.length:Int) l o1 n1 k1 o2 n2 k2 te ts ta tn tp gT gE gY gO gX gA gN gr=_
   rw[Xab.B1_eq]
   exact Xac (decide_eq_false (by omega)) rfl) (fun N j nA gT gA nN gN x hxj hnA hnN=>by
   have hlt:j<xs.length:=(List.getElem?_eq_some_iff.1 hxj).1
   have hr:(gr j 0).int=x:=hrow.2 j x hxj
   obtain ⟨x0,x1⟩:=hx x (List.mem_of_getElem? hxj)
   have b8:∀ (nA:Nat) (gT gA:Nat→Nat→T),Xab.B8 h (N+1) tot nE nY nO nX nA nN nr t8 v ow x (nr:Int) (j:Int) l o1 n1 k1 o2 n2 k2 te ts ta tn tp gT gE gY gO gX gA gN gr=Xab.B1 h N tot nE nY nO nX nA (nN+1) nr t8 v ow (nr:Int) ((j+1:Nat):Int) l o1 n1 k1 o2 n2 k2 te ts ta tn tp gT gE gY gO gX gA (pushG nN gN (IntKind.wrap .i64 ((gT x.toNat 0).int-1))) gr:=by
    intro nA gT gA
    rw[Xab.B8_eq,Nat.zero_add x.toNat,Xaq (a:=(j:Int)+1) (by omega) (by omega)]
    exact if_of (by simp;omega) (if_of (decide_eq_true (by omega)) (if_of (decide_eq_true (by omega)) rfl))
   have ex:pushV nA gA (fS x.toNat).1 (fS x.toNat).2.1 (fS x.toNat).2.2=pushV nA gA 2 0 x:=by
    unfold fS
    simp only[Int.toNat_of_nonneg x0]
   rw[ex]
   show Xab.B1 h (N+1+1) tot nE nY nO nX nA nN nr t8 v ow (nr:Int) (j:Int) l o1 n1 k1 o2 n2 k2 te ts ta tn tp gT gE gY gO gX gA gN gr=_
   rw[Xab.B1_eq,Int.toNat_natCast,Nat.zero_add j,hr,Nat.zero_add x.toNat]
   by_cases c:(gT x.toNat 0).int=0
   ·rw[if_pos c]
    exact if_of (decide_eq_true (by omega)) (if_of (by simp;omega) (if_of (decide_eq_true (by omega)) (if_of (by simp;omega) (if_of (decide_eq_true (by omega)) (if_of (by simpa using c) (if_of (decide_eq_true (by omega)) (if_of (by simp;omega) (if_of (decide_eq_true (by omega)) (b8 _ _ _)))))))))
   ·rw[if_neg c]
    exact if_of (decide_eq_true (by omega)) (if_of (by simp;omega) (if_of (decide_eq_true (by omega)) (if_of (by simp;omega) (if_of (decide_eq_true (by omega)) (Xac (by simpa using c) (b8 _ _ _)))))))
  xs.length 0 (by omega) N nA 0 gT gA (fun _ _=> .b false) A [] hv ht ⟨rfl,by simp⟩ (by omega) (by simp;omega)
 simpa using this
theorem lp2 (hrow:Ints (T.l nr gr) xs)(hx:∀ x∈xs,0≤x∧x<(tot:Int))(hxl:xs.length≤24){N nA:Nat}{gT gA:Nat→Nat→T}{A:List Vx}(hv:Verts nA gA A)(ht:Tab A fE tot gT)(hA:A.length≤700):
  ∃ nA' gT' gA' nN' gN',Verts nA' gA' ((xs.map fun x=>fE x.toNat).foldl addV A)∧Tab ((xs.map fun x=>fE x.toNat).foldl addV A) fE tot gT'∧Ints (T.l nN' gN') (xs.map fun x=>(((xs.map fun x=>fE x.toNat).foldl addV A).idxOf (fE x.toNat):Int))∧
   Xab.B4 h (N+2*xs.length+1) nS tot nY nO nX nA 0 nr t8 v ow (nr:Int) 0 l o1 n1 k1 o2 n2 k2 te ts ta tn tp gS gT gY gO gX gA (fun _ _=> .b false) gr=Xab.B6 h N nS tot nY nO nX nA' nN' t8 v ow l o1 n1 k1 o2 n2 k2 te ts ta tn tp gS gT' gY gO gX gA' gN':=by
 have hnr:nr=xs.length:=hrow.1
 have:=tabLoop (f:=fE) (n:=tot) (xs:=xs) (ix:=Int.toNat) (B:=fun N j nA gT gA nN gN=>Xab.B4 h N nS tot nY nO nX nA nN nr t8 v ow (nr:Int) (j:Int) l o1 n1 k1 o2 n2 k2 te ts ta tn tp gS gT gY gO gX gA gN gr) (E:=fun N nA gT gA nN gN=>Xab.B6 h N nS tot nY nO nX nA nN t8 v ow l o1 n1 k1 o2 n2 k2 te ts ta tn tp gS gT gY gO gX gA gN)
  (fun p q _ _ e=>fE_inj p q e) (fun x hm=>by have:=hx x hm;omega) (fun N nA gT gA nN gN=>by
   show Xab.B4 h (N+1) nS tot nY nO nX nA nN nr t8 v ow (nr:Int) (xs.length:Int) l o1 n1 k1 o2 n2 k2 te ts ta tn tp gS gT gY gO gX gA gN gr=_
   rw[Xab.B4_eq]
   exact Xac (decide_eq_false (by omega)) rfl) (fun N j nA gT gA nN gN x hxj hnA hnN=>by
   have hlt:j<xs.length:=(List.getElem?_eq_some_iff.1 hxj).1
   have hr:(gr j 0).int=x:=hrow.2 j x hxj
   obtain ⟨x0,x1⟩:=hx x (List.mem_of_getElem? hxj)
   have b8:∀ (nA:Nat) (gT gA:Nat→Nat→T),Xab.B5 h (N+1) nS tot nY nO nX nA nN nr t8 v ow x (nr:Int) (j:Int) l o1 n1 k1 o2 n2 k2 te ts ta tn tp gS gT gY gO gX gA gN gr=Xab.B4 h N nS tot nY nO nX nA (nN+1) nr t8 v ow (nr:Int) ((j+1:Nat):Int) l o1 n1 k1 o2 n2 k2 te ts ta tn tp gS gT gY gO gX gA (pushG nN gN (IntKind.wrap .i64 ((gT x.toNat 0).int-1))) gr:=by
    intro nA gT gA
    rw[Xab.B5_eq,Nat.zero_add x.toNat,Xaq (a:=(j:Int)+1) (by omega) (by omega)]
    exact if_of (by simp;omega) (if_of (decide_eq_true (by omega)) (if_of (decide_eq_true (by omega)) rfl))
   have ex:pushV nA gA (fE x.toNat).1 (fE x.toNat).2.1 (fE x.toNat).2.2=pushV nA gA 3 x 0:=by
    unfold fE
    simp only[Int.toNat_of_nonneg x0]
   rw[ex]
   show Xab.B4 h (N+1+1) nS tot nY nO nX nA nN nr t8 v ow (nr:Int) (j:Int) l o1 n1 k1 o2 n2 k2 te ts ta tn tp gS gT gY gO gX gA gN gr=_
   rw[Xab.B4_eq,Int.toNat_natCast,Nat.zero_add j,hr,Nat.zero_add x.toNat]
   by_cases c:(gT x.toNat 0).int=0
   ·rw[if_pos c]
    exact if_of (decide_eq_true (by omega)) (if_of (by simp;omega) (if_of (decide_eq_true (by omega)) (if_of (by simp;omega) (if_of (decide_eq_true (by omega)) (if_of (by simpa using c) (if_of (decide_eq_true (by omega)) (if_of (by simp;omega) (if_of (decide_eq_true (by omega)) (b8 _ _ _)))))))))
   ·rw[if_neg c]
    exact if_of (decide_eq_true (by omega)) (if_of (by simp;omega) (if_of (decide_eq_true (by omega)) (if_of (by simp;omega) (if_of (decide_eq_true (by omega)) (Xac (by simpa using c) (b8 _ _ _)))))))
  xs.length 0 (by omega) N nA 0 gT gA (fun _ _=> .b false) A [] hv ht ⟨rfl,by simp⟩ (by omega) (by simp;omega)
 simpa using this
theorem lp3 (hrow:Ints (T.l nr gr) xs)(hx:∀ x∈xs,0≤x∧x<(tot:Int))(hxl:xs.length≤24)(hst:0≤st∧st<(tot:Int))(ht8:t8=(tot:Int))(htt:tot≤24)(hnY:nY=tot*tot){N nA:Nat}{gT gA:Nat→Nat→T}{A:List Vx}(hv:Verts nA gA A)(ht:Tab A (fY tot) nY gT)(hA:A.length≤700):
  ∃ nA' gT' gA' nN' gN',Verts nA' gA' ((xs.map fun x=>fY tot (st.toNat*tot+x.toNat)).foldl addV A)∧Tab ((xs.map fun x=>fY tot (st.toNat*tot+x.toNat)).foldl addV A) (fY tot) nY gT'∧Ints (T.l nN' gN') (xs.map fun x=>(((xs.map fun x=>fY tot (st.toNat*tot+x.toNat)).foldl addV A).idxOf (fY tot (st.toNat*tot+x.toNat)):Int))∧
   Xab.B2 h (N+2*xs.length+1) nS nE nY nO nX nA 0 nr t8 v ow (nr:Int) 0 l o1 n1 k1 o2 n2 k2 te ts ta tn tp gS gE gT gO gX gA kk st pk (fun _ _=> .b false) gr=Xab.B6 h N nS nE nY nO nX nA' nN' t8 v ow l o1 n1 k1 o2 n2 k2 te ts ta tn tp gS gE gT' gO gX gA' gN':=by
 have hnr:nr=xs.length:=hrow.1
 have:=tabLoop (f:=fY tot) (n:=nY) (xs:=xs) (ix:=fun x=>st.toNat*tot+x.toNat) (B:=fun N j nA gT gA nN gN=>Xab.B2 h N nS nE nY nO nX nA nN nr t8 v ow (nr:Int) (j:Int) l o1 n1 k1 o2 n2 k2 te ts ta tn tp gS gE gT gO gX gA kk st pk gN gr) (E:=fun N nA gT gA nN gN=>Xab.B6 h N nS nE nY nO nX nA nN t8 v ow l o1 n1 k1 o2 n2 k2 te ts ta tn tp gS gE gT gO gX gA gN)
  (fun p q _ _ e=>fY_inj tot p q e) (fun x hm=>by have:=hx x hm;rw[hnY];exact fY_lt (by omega) (by omega)) (fun N nA gT gA nN gN=>by
   show Xab.B2 h (N+1) nS nE nY nO nX nA nN nr t8 v ow (nr:Int) (xs.length:Int) l o1 n1 k1 o2 n2 k2 te ts ta tn tp gS gE gT gO gX gA kk st pk gN gr=_
   rw[Xab.B2_eq]
   exact Xac (decide_eq_false (by omega)) rfl) (fun N j nA gT gA nN gN x hxj hnA hnN=>by
   have hlt:j<xs.length:=(List.getElem?_eq_some_iff.1 hxj).1
   have hr:(gr j 0).int=x:=hrow.2 j x hxj
   obtain ⟨x0,x1⟩:=hx x (List.mem_of_getElem? hxj)
   have hlt2:st.toNat*tot+x.toNat<nY:=by rw[hnY];exact fY_lt (by omega) (by omega)
   have htt2:tot*tot≤24*24:=Nat.mul_le_mul htt htt
   have est:st*t8=((st.toNat*tot:Nat):Int):=by rw[ht8,Int.natCast_mul,Int.toNat_of_nonneg hst.1]
   have ei:IntKind.wrap .i64 (IntKind.wrap .i64 (st*t8)+x)=((st.toNat*tot+x.toNat:Nat):Int):=by
    have hs2:st.toNat*tot≤tot*tot:=Nat.mul_le_mul_right _ (by omega)
    rw[est,Xaq (a:=((st.toNat*tot:Nat):Int)) (by omega) (by omega),Xaq (by omega) (by omega)]
    omega
   obtain ⟨I,hI⟩:∃ I,I=st.toNat*tot+x.toNat:=⟨_,rfl⟩
   have ex:pushV nA gA (fY tot (st.toNat*tot+x.toNat)).1 (fY tot (st.toNat*tot+x.toNat)).2.1 (fY tot (st.toNat*tot+x.toNat)).2.2=pushV nA gA 4 st x:=by
    rw[fY_at (by omega)]
    simp only[Int.toNat_of_nonneg x0,Int.toNat_of_nonneg hst.1]
   rw[ex]
   simp only[←hI] at hlt2 ei ⊢
   have b8:∀ (nA:Nat) (gT gA:Nat→Nat→T),Xab.B7 h (N+1) nS nE nY nO nX nA nN nr t8 v ow ((I:Nat):Int) (nr:Int) (j:Int) l o1 n1 k1 o2 n2 k2 te ts ta tn tp gS gE gT gO gX gA kk st pk gN gr=Xab.B2 h N nS nE nY nO nX nA (nN+1) nr t8 v ow (nr:Int) ((j+1:Nat):Int) l o1 n1 k1 o2 n2 k2 te ts ta tn tp gS gE gT gO gX gA kk st pk (pushG nN gN (IntKind.wrap .i64 ((gT I 0).int-1))) gr:=by
    intro nA gT gA
    rw[Xab.B7_eq,Int.toNat_natCast,Nat.zero_add I,Xaq (a:=(j:Int)+1) (by omega) (by omega)]
    exact if_of (by simp;omega) (if_of (decide_eq_true (by omega)) (if_of (decide_eq_true (by omega)) rfl))
   show Xab.B2 h (N+1+1) nS nE nY nO nX nA nN nr t8 v ow (nr:Int) (j:Int) l o1 n1 k1 o2 n2 k2 te ts ta tn tp gS gE gT gO gX gA kk st pk gN gr=_
   rw[Xab.B2_eq,Int.toNat_natCast,Nat.zero_add j,hr,ei,Int.toNat_natCast,Nat.zero_add I]
   by_cases c:(gT I 0).int=0
   ·rw[if_pos c]
    exact if_of (decide_eq_true (by omega)) (if_of (by simp;omega) (if_of (decide_eq_true (by omega)) (if_of (by simp;omega) (if_of (decide_eq_true (by omega)) (if_of (by simpa using c) (if_of (decide_eq_true (by omega)) (if_of (by simp;omega) (if_of (decide_eq_true (by omega)) (b8 _ _ _)))))))))
   ·rw[if_neg c]
    exact if_of (decide_eq_true (by omega)) (if_of (by simp;omega) (if_of (decide_eq_true (by omega)) (if_of (by simp;omega) (if_of (decide_eq_true (by omega)) (Xac (by simpa using c) (b8 _ _ _)))))))
  xs.length 0 (by omega) N nA 0 gT gA (fun _ _=> .b false) A [] hv ht ⟨rfl,by simp⟩ (by omega) (by simp;omega)
 simpa using this
end
end Go.Proofs.YtnjandhaeojieaaGreat
set_option linter.unusedVariables false
set_option linter.unusedSimpArgs false
namespace Go.Proofs.YtnjandhaeojieaaGreat
open Go.AM
structure Chs9 (h:H)(l:T)(o1 n1:Int)(k1:T)(o2 n2:Int)(k2 te ts ta tn tp:T)(m:Md)(tot:Nat):Prop where
 ie:Gives (Xek m) (Xif h l o1 n1 k1 o2 n2 k2 te ts ta tn tp)
 is:∀ p,0≤p→p<(tot:Int)→Gives (Xft m p) (Xgo h l o1 n1 k1 o2 n2 k2 te ts ta tn tp p)
 ev:∀ s,0≤s→s<(tot:Int)→Gives (envE m s) (Xjc h l o1 n1 k1 o2 n2 k2 te ts ta tn tp s)
 sy:∀ s p,0≤s→s<(tot:Int)→0≤p→p<(tot:Int)→Gives (sysE m s p) (Xjb h l o1 n1 k1 o2 n2 k2 te ts ta tn tp s p)
section
variable {l:T}{o1 n1:Int}{k1:T}{o2 n2:Int}{k2 te ts ta tn tp:T}{m:Md}{tot:Nat}
theorem b6_sp {N0 N nS nE nY nO nX nA nN i:Nat}{t8 ow:Int}{gS gE gY gO gX gA gN:Nat→Nat→T}{zs:List Int}(hp:Ints (T.l nN gN) zs)(hz:zs.length≤24)(hA:nA≤700)(hO:nO≤700)(hX:nX≤700)(hi:i≤700)(hN0:30000≤N0):
  ∃ t,Ints t (zs.mergeSort fun x y=>decide (x≤y))∧Xab.B6 (K (N0+1)) (N+1) nS nE nY nO nX nA nN t8 (i:Int) ow l o1 n1 k1 o2 n2 k2 te ts ta tn tp gS gE gY gO gX gA gN=Xab.B0 (K (N0+1)) N nS nE nY (nO+1) (nX+1) nA t8 ((i+1:Nat):Int) l o1 n1 k1 o2 n2 k2 te ts ta tn tp gS gE gY (pushG nO gO ow) (pushT nX gX t) gA:=by
 have hp2:Ints (T.l nN fun i j=>gN (0+i) j) zs:=by rw[el_shift];exact hp
 obtain ⟨t,et,ht⟩:=sorted9_sp (N:=N0) hp2 (by omega) (by omega)
 have ht2:Ints (T.l t.len fun i j=>t.el (0+i) j) (zs.mergeSort fun x y=>decide (x≤y)):=by
  rw[el_shift]
  exact ⟨ht.1,ht.2⟩
 refine ⟨_,ht2,?_⟩
 rw[Xab.B6_eq,Xaq (a:=(i:Int)+1) (by omega) (by omega)]
 exact Xac (decide_eq_false (by omega)) (if_of (decide_eq_true (by omega)) (Xag et (if_of (decide_eq_true (by omega)) rfl)))
theorem step9 {h:H}(C:Chs9 h l o1 n1 k1 o2 n2 k2 te ts ta tn tp m tot)(hm:mayM m=0)(htot:(tot:Int)=Xcz m.vars)(htt:tot≤24)(hlen:∀ v,(waysE m v).length≤24){v:Vx}{i nO nX nA N:Nat}{gS gE gY gO gX gA:Nat→Nat→T}{A:List Vx}(hi:A[i]? =some v)(hv:Verts nA gA A)(hok:TOk (tot:Int) v)(hA:A.length≤650)
  (hS:Tab A fS tot gS) (hE:Tab A fE tot gE) (hY:Tab A (fY tot) (tot*tot) gY) (hN:100≤N):
  ∃ N' nA' gS' gE' gY' gA' nN gN,N≤N'+60∧Verts nA' gA' ((waysE m v).foldl addV A)∧Tab ((waysE m v).foldl addV A) fS tot gS'∧Tab ((waysE m v).foldl addV A) fE tot gE'∧Tab ((waysE m v).foldl addV A) (fY tot) (tot*tot) gY'∧Ints (T.l nN gN) ((waysE m v).map fun w=>(((waysE m v).foldl addV A).idxOf w:Int))∧
   Xab.B0 h N tot tot (tot*tot) nO nX nA (tot:Int) (i:Int) l o1 n1 k1 o2 n2 k2 te ts ta tn tp gS gE gY gO gX gA=Xab.B6 h N' tot tot (tot*tot) nO nX nA' nN (tot:Int) (i:Int) (ownE v) l o1 n1 k1 o2 n2 k2 te ts ta tn tp gS' gE' gY' gO gX gA' gN:=by
 have hlt:i<A.length:=(List.getElem?_eq_some_iff.1 hi).1
 have hnA:=hv.1
 obtain ⟨y1,y2,y3⟩:=hv.2 i v hi
 obtain ⟨N,rfl⟩:∃ M,N=M+1:=⟨N-1,by omega⟩
 have hl:=hlen v
 have mapS:∀ {xs:List Int},(∀ x∈xs,0≤x)→(xs.map fun x=>fS x.toNat)=xs.map fun x=>((2:Int),(0:Int),x):=fun {xs} hx=>List.map_congr_left fun x hm=>by unfold fS;rw[Int.toNat_of_nonneg (hx x hm)]
 have mapE:∀ {xs:List Int},(∀ x∈xs,0≤x)→(xs.map fun x=>fE x.toNat)=xs.map fun x=>((3:Int),x,(0:Int)):=fun {xs} hx=>List.map_congr_left fun x hm=>by unfold fE;rw[Int.toNat_of_nonneg (hx x hm)]
 have nSE:∀ {xs:List Int},∀ w∈(xs.map fun x=>((3:Int),x,(0:Int))),(∀ p,p<tot→fS p≠w)∧∀ p,p<tot*tot→fY tot p≠w:=fun {xs} w hw=>by
  obtain ⟨x,_,rfl⟩:=List.mem_map.1 hw
  exact ⟨fun p _ e=>by unfold fS at e;simp at e,fun p _ e=>by unfold fY at e;simp at e⟩
 have sys:∀ (xs:List Int) (t:T),Ints t xs→xs.length≤24→(∀ x∈xs,0≤x∧x<(tot:Int))→waysE m v=(xs.map fun x=>((3:Int),x,(0:Int)))→ownE v=1→Xab.B0 h (N+1) tot tot (tot*tot) nO nX nA (tot:Int) (i:Int) l o1 n1 k1 o2 n2 k2 te ts ta tn tp gS gE gY gO gX gA=Xab.B3 h N tot tot (tot*tot) nO nX nA t.len (tot:Int) (i:Int) 1 l o1 n1 k1 o2 n2 k2 te ts ta tn tp gS gE gY gO gX gA (fun i j=>t.el i j)→
   ∃ N' nA' gS' gE' gY' gA' nN gN,N+1≤N'+60∧Verts nA' gA' ((waysE m v).foldl addV A)∧Tab ((waysE m v).foldl addV A) fS tot gS'∧Tab ((waysE m v).foldl addV A) fE tot gE'∧Tab ((waysE m v).foldl addV A) (fY tot) (tot*tot) gY'∧Ints (T.l nN gN) ((waysE m v).map fun w=>(((waysE m v).foldl addV A).idxOf w:Int))∧
   Xab.B0 h (N+1) tot tot (tot*tot) nO nX nA (tot:Int) (i:Int) l o1 n1 k1 o2 n2 k2 te ts ta tn tp gS gE gY gO gX gA=Xab.B6 h N' tot tot (tot*tot) nO nX nA' nN (tot:Int) (i:Int) (ownE v) l o1 n1 k1 o2 n2 k2 te ts ta tn tp gS' gE' gY' gO gX gA' gN:=by
  intro xs t ht hxl hx hw how e
  have ht2:Ints (T.l t.len fun i j=>t.el i j) xs:=⟨ht.1,ht.2⟩
  obtain ⟨M,rfl⟩:∃ M,N=M+2*xs.length+1+1:=⟨N-2*xs.length-2,by omega⟩
  obtain ⟨nA',gT',gA',nN',gN',q1,q2,q3,q4⟩:=lp2 (h:=h) (l:=l) (o1:=o1) (n1:=n1) (k1:=k1) (o2:=o2) (n2:=n2) (k2:=k2) (te:=te) (ts:=ts) (ta:=ta) (tn:=tn) (tp:=tp) (nS:=tot) (nY:=tot*tot) (nO:=nO) (nX:=nX) (t8:=(tot:Int)) (v:=(i:Int)) (ow:=1) (gS:=gS) (gY:=gY) (gO:=gO) (gX:=gX) ht2 hx hxl (N:=M) hv hE (by omega)
  have em:=mapE (xs:=xs) fun x hm=>(hx x hm).1
  have em2:∀ A':List Vx,(xs.map fun x=>(A'.idxOf (fE x.toNat):Int))=(xs.map fun x=>fE x.toNat).map fun w=>(A'.idxOf w:Int):=fun A'=>by rw[List.map_map];rfl
  rw[em2,em,←hw] at q3
  rw[em,←hw] at q1 q2
  refine ⟨M,nA',gS,gT',gY,gA',nN',gN',by omega,q1,hS.fold_other fun w hm=>((nSE w (hw▸hm)).1),q2,hY.fold_other fun w hm=>((nSE w (hw▸hm)).2),q3,?_⟩
  rw[e,Xab.B3_eq,how]
  exact q4
 have tr:∀ x,0≤x∧x<Xcz m.vars→0≤x∧x<(tot:Int):=fun x h=>by rw[htot];exact h
 rcases hok with rfl|⟨p,hp,rfl⟩|⟨s,hs,rfl⟩|⟨s,p,hs,hp,rfl⟩
 ·-- the root
  obtain ⟨t,et,ht⟩:=C.ie
  have hw:waysE m (1,0,0)=(Xek m).map fun x=>((2:Int),(0:Int),x):=by unfold waysE;rw[if_pos rfl]
  have hxl:(Xek m).length≤24:=by rw[hw,List.length_map] at hl;exact hl
  have hx:∀ x∈Xek m,0≤x∧x<(tot:Int):=fun x hm2=>tr x (ie_tot hm hm2)
  have ht2:Ints (T.l t.len fun i j=>t.el i j) (Xek m):=⟨ht.1,ht.2⟩
  obtain ⟨M,rfl⟩:∃ M,N=M+2*(Xek m).length+1:=⟨N-2*(Xek m).length-1,by omega⟩
  obtain ⟨nA',gT',gA',nN',gN',q1,q2,q3,q4⟩:=lp1 (h:=h) (l:=l) (o1:=o1) (n1:=n1) (k1:=k1) (o2:=o2) (n2:=n2) (k2:=k2) (te:=te) (ts:=ts) (ta:=ta) (tn:=tn) (tp:=tp) (nE:=tot) (nY:=tot*tot) (nO:=nO) (nX:=nX) (t8:=(tot:Int)) (v:=(i:Int)) (ow:=0) (gE:=gE) (gY:=gY) (gO:=gO) (gX:=gX) ht2 hx hxl (N:=M) hv hS (by omega)
  have em:=mapS (xs:=Xek m) fun x hm=>(hx x hm).1
  have em2:∀ A':List Vx,((Xek m).map fun x=>(A'.idxOf (fS x.toNat):Int))=((Xek m).map fun x=>fS x.toNat).map fun w=>(A'.idxOf w:Int):=fun A'=>by rw[List.map_map];rfl
  rw[em2,em,←hw] at q3
  rw[em,←hw] at q1 q2
  have no:∀ w∈waysE m (1,0,0),(∀ p,p<tot→fE p≠w)∧∀ p,p<tot*tot→fY tot p≠w:=fun w hm2=>by
   rw[hw] at hm2
   obtain ⟨x,_,rfl⟩:=List.mem_map.1 hm2
   exact ⟨fun p _ e=>by unfold fE at e;simp at e,fun p _ e=>by unfold fY at e;simp at e⟩
  refine ⟨M,nA',gT',gE,gY,gA',nN',gN',by omega,q1,q2,hE.fold_other fun w hm2=>(no w hm2).1,hY.fold_other fun w hm2=>(no w hm2).2,q3,?_⟩
  rw[Xab.B0_eq,Int.toNat_natCast,Nat.zero_add i,y1]
  exact if_of (decide_eq_true (by omega)) (if_of (by simp;omega) (if_of (decide_eq_true (by omega)) (if_of rfl (Xag et q4))))
 ·-- a beginning
  have hw:waysE m (2,0,p)=(Xft m p).map fun x=>((3:Int),x,(0:Int)):=by unfold waysE;rw[if_neg (by simp),if_pos rfl]
  obtain ⟨t,et,ht⟩:=C.is p hp.1 hp.2
  refine sys (Xft m p) t ht (by rw[hw,List.length_map] at hl;exact hl) (fun x hm2=>tr x (is_tot hm hm2)) hw rfl ?_
  rw[Xab.B0_eq,Int.toNat_natCast,Nat.zero_add i,y1,y3]
  exact if_of (decide_eq_true (by omega)) (if_of (by simp;omega) (if_of (decide_eq_true (by omega)) (Xac rfl (Xac rfl (Xag et (Xac rfl rfl))))))
 ·-- the environment's
  obtain ⟨t,et,ht⟩:=C.ev s hs.1 hs.2
  have hw:waysE m (3,s,0)=(envE m s).map fun x=>((4:Int),s,x):=by unfold waysE;rw[if_neg (by simp),if_neg (by simp),if_pos rfl]
  have hxl:(envE m s).length≤24:=by rw[hw,List.length_map] at hl;exact hl
  have hx:∀ x∈envE m s,0≤x∧x<(tot:Int):=fun x hm2=>tr x (ev_tot hm hm2)
  have ht2:Ints (T.l t.len fun i j=>t.el i j) (envE m s):=⟨ht.1,ht.2⟩
  obtain ⟨M,rfl⟩:∃ M,N=M+2*(envE m s).length+1:=⟨N-2*(envE m s).length-1,by omega⟩
  obtain ⟨nA',gT',gA',nN',gN',q1,q2,q3,q4⟩:=lp3 (h:=h) (l:=l) (o1:=o1) (n1:=n1) (k1:=k1) (o2:=o2) (n2:=n2) (k2:=k2) (te:=te) (ts:=ts) (ta:=ta) (tn:=tn) (tp:=tp) (nS:=tot) (nE:=tot) (nO:=nO) (nX:=nX) (t8:=(tot:Int)) (v:=(i:Int)) (ow:=0) (kk:=(gA i 0).int) (st:=s) (pk:=(gA i 2).int) (gS:=gS) (gE:=gE) (gO:=gO) (gX:=gX) ht2 hx hxl hs rfl htt rfl (N:=M) hv hY (by omega)
  have em:((envE m s).map fun x=>fY tot (s.toNat*tot+x.toNat))=(envE m s).map fun x=>((4:Int),s,x):=List.map_congr_left fun x hm2=>by
   have:=hx x hm2
   rw[fY_at (by omega),Int.toNat_of_nonneg this.1,Int.toNat_of_nonneg hs.1]
  have em2:∀ A':List Vx,((envE m s).map fun x=>(A'.idxOf (fY tot (s.toNat*tot+x.toNat)):Int))=((envE m s).map fun x=>fY tot (s.toNat*tot+x.toNat)).map fun w=>(A'.idxOf w:Int):=fun A'=>by rw[List.map_map];rfl
  rw[em2,em,←hw] at q3
  rw[em,←hw] at q1 q2
  have no:∀ w∈waysE m (3,s,0),(∀ p,p<tot→fS p≠w)∧∀ p,p<tot→fE p≠w:=fun w hm2=>by
   rw[hw] at hm2
   obtain ⟨x,_,rfl⟩:=List.mem_map.1 hm2
   exact ⟨fun p _ e=>by unfold fS at e;simp at e,fun p _ e=>by unfold fE at e;simp at e⟩
  refine ⟨M,nA',gS,gE,gT',gA',nN',gN',by omega,q1,hS.fold_other fun w hm2=>(no w hm2).1,hE.fold_other fun w hm2=>(no w hm2).2,q2,q3,?_⟩
  rw[Xab.B0_eq,Int.toNat_natCast,Nat.zero_add i,y2]
  have k1':(gA i 0).int=3:=y1
  rw[k1'] at q4 ⊢
  exact if_of (decide_eq_true (by omega)) (if_of (by simp;omega) (if_of (decide_eq_true (by omega)) (Xac rfl (if_of rfl (Xag et q4)))))
 ·-- the system's
  have hw:waysE m (4,s,p)=(sysE m s p).map fun x=>((3:Int),x,(0:Int)):=by unfold waysE;rw[if_neg (by simp),if_neg (by simp),if_neg (by simp),if_pos rfl]
  obtain ⟨t0,et0,_⟩:=C.is p hp.1 hp.2
  obtain ⟨t,et,ht⟩:=C.sy s p hs.1 hs.2 hp.1 hp.2
  refine sys (sysE m s p) t ht (by rw[hw,List.length_map] at hl;exact hl) (fun x hm2=>tr x (sy_tot hm hm2)) hw rfl ?_
  rw[Xab.B0_eq,Int.toNat_natCast,Nat.zero_add i,y1,y2,y3]
  exact if_of (decide_eq_true (by omega)) (if_of (by simp;omega) (if_of (decide_eq_true (by omega)) (Xac rfl (Xac rfl (Xag et0 (if_of rfl (Xag et rfl)))))))
end
end Go.Proofs.YtnjandhaeojieaaGreat
set_option linter.unusedVariables false
set_option linter.unusedSimpArgs false
namespace Go.Proofs.YtnjandhaeojieaaGreat
open Go.AM
section
variable {l:T}{o1 n1:Int}{k1:T}{o2 n2:Int}{k2 te ts ta tn tp:T}{m:Md}{tot:Nat}
theorem b9B0 {N0:Nat}(hN0:30000≤N0)(C:Chs9 (K (N0+1)) l o1 n1 k1 o2 n2 k2 te ts ta tn tp m tot)(hm:mayM m=0)(hT:prodV m.vars≤24)(htot:(tot:Int)=Xcz m.vars)(htt:tot≤24)(hlen:∀ v,(waysE m v).length≤24):
  ∀ (k i:Nat),626≤i+k→∀ (N:Nat) (A:List Vx) (L:List (List Int)) (nO nX nA:Nat) (gS gE gY gO gX gA:Nat→Nat→T),70*k+200≤N→Inv m i A L→(∀ v∈A,TOk (tot:Int) v)→Verts nA gA A→Tab A fS tot gS→Tab A fE tot gE→Tab A (fY tot) (tot*tot) gY→Ints (T.l nO gO) ((A.take i).map ownE)→RowsT nX gX L→
   BOk m (bfsE m k i A) (Xab.B0 (K (N0+1)) N tot tot (tot*tot) nO nX nA (tot:Int) (i:Int) l o1 n1 k1 o2 n2 k2 te ts ta tn tp gS gE gY gO gX gA)
 | 0,i,hi,N,A,L,nO,nX,nA,gS,gE,gY,gO,gX,gA,hN,hI,hok,hv,hS,hE,hY,ho,hr=>by
  have:=hI.small
  have:=hI.le
  omega
 | k+1,i,hi,N,A,L,nO,nX,nA,gS,gE,gY,gO,gX,gA,hN,hI,hok,hv,hS,hE,hY,ho,hr=>by
  have hsm:=hI.small
  have hle:=hI.le
  have hnA:=hv.1
  unfold bfsE
  cases hAi:A[i]? with
  | none=>
   have hAi:A.length≤i:=List.getElem?_eq_none_iff.1 hAi
   have hil:i=A.length:=by omega
   rw[List.take_of_length_le hAi] at ho
   obtain ⟨N,rfl⟩:∃ M,N=M+1:=⟨N-1,by omega⟩
   refine ⟨L,nO,gO,nX,gX,nA,gA,?_,hil▸hI,hv,ho,hr⟩
   rw[Xab.B0_eq]
   refine Xac (decide_eq_false (by omega)) ?_
   simp only[el_shift]
  | some v=>
   have hlt:i<A.length:=(List.getElem?_eq_some_iff.1 hAi).1
   have hve:A[i]=v:=by rw[List.getElem?_eq_getElem hlt] at hAi;exact Option.some.inj hAi
   have hvm:v∈A:=List.mem_of_getElem? hAi
   obtain ⟨N',nA',gS',gE',gY',gA',nN,gN,q0,q1,q2,q3,q4,q5,q6⟩:=step9 (nO:=nO) (nX:=nX) (gO:=gO) (gX:=gX) C hm htot htt hlen hAi hv (hok v hvm) (by omega) hS hE hY (N:=N) (by omega)
   have hstep:=hI.step (univ_ways hm hT) hAi
   have hsm2:=hstep.small
   have hnO:nO=i:=by have:=ho.1;rw[List.length_map,List.length_take] at this;have h2:nO=min i A.length:=this;omega
   have hnX:nX=i:=by rw[hr.1,hI.len]
   have hzl:((waysE m v).map fun w=>(((waysE m v).foldl addV A).idxOf w:Int)).length≤24:=by rw[List.length_map];exact hlen v
   have hnA2:=q1.1
   obtain ⟨N2,rfl⟩:∃ M,N'=M+1:=⟨N'-1,by omega⟩
   obtain ⟨t,ht,e6⟩:=b6_sp (l:=l) (o1:=o1) (n1:=n1) (k1:=k1) (o2:=o2) (n2:=n2) (k2:=k2) (te:=te) (ts:=ts) (ta:=ta) (tn:=tn) (tp:=tp) (N:=N2) (nS:=tot) (nE:=tot) (nY:=tot*tot) (nO:=nO) (nX:=nX) (nA:=nA') (i:=i) (t8:=(tot:Int)) (ow:=ownE v) (gS:=gS') (gE:=gE') (gY:=gY') (gO:=gO) (gX:=gX) (gA:=gA') q5 hzl (by omega) (by omega) (by omega) (by omega) hN0
   have htk:((waysE m v).foldl addV A).take (i+1)=A.take i++[v]:=by
    obtain ⟨B,e,_⟩:=Xth (waysE m v) A
    rw[e,List.take_append_of_le_length (by omega),List.take_succ_eq_append_getElem hlt,hve]
   have ho2:Ints (T.l (nO+1) (pushG nO gO (ownE v))) ((((waysE m v).foldl addV A).take (i+1)).map ownE):=by
    rw[htk,List.map_append]
    exact Xsc ho _
   have hok2:∀ w∈(waysE m v).foldl addV A,TOk (tot:Int) w:=fun w hw=>by
    rcases fold_mem.1 hw with q|q
    ·exact hok w q
    ·have:=hok v hvm
     rw[htot] at this ⊢
     exact ways_tot hm this q
   have ih:=b9B0 hN0 C hm hT htot htt hlen k (i+1) (by omega) N2 _ _ (nO+1) (nX+1) nA' gS' gE' gY' (pushG nO gO (ownE v)) (pushT nX gX t) gA' (by omega) hstep hok2 q1 q2 q3 q4 ho2 (hr.push ht)
   rw[q6,e6]
   exact ih
end
section
variable (l k1 k2 te ts ta tn tp:T)(hl:l.len≤9223372036854775807)(h1:KW k1)(h2:KW k2)(he:KC te)(hs:KC ts)(ha:KW ta)(hn:KW tn)(hp:KW tp)
include hl h1 h2 he hs ha hn hp
theorem Build9_sp (o1 n1 o2 n2:Int){m:Md}(hmd:m=⟨Xaa l,.mk o1 n1 (Xad k1),.mk o2 n2 (Xad k2),Xca te,Xca ts,Xad ta,Xad tn,Xad tp⟩)(hm:mayM m=0)(hT:prodV m.vars≤24):
  Ev fun N=>BOk m (atE m) (Xhq (K N) l o1 n1 k1 o2 n2 k2 te ts ta tn tp):=by
 have mv:m.vars=Xaa l:=by rw[hmd]
 have cm:=(Xfe hm).1
 obtain ⟨hto,hpos,_⟩:=Xcp cm
 have hpp:=Xne hpos
 obtain ⟨tot,htot⟩:∃ t:Nat,(t:Int)=Xcz m.vars:=⟨(Xcz m.vars).toNat,Int.toNat_of_nonneg (by omega)⟩
 have htt:tot≤24:=by omega
 have nat:∀ x:Int,0≤x→x<(tot:Int)→∃ i:Nat,i<tot∧x=(i:Int):=fun x a b=>⟨x.toNat,by omega,by omega⟩
 have a1:=refInitEnv_sp l k1 k2 te ts ta tn tp hl h1 h2 he hs ha hn hp o1 n1 o2 n2
 have a2:Ev fun N=>∀ i,i<tot→Gives (Xft m (i:Int)) (Xgo (K N) l o1 n1 k1 o2 n2 k2 te ts ta tn tp (i:Int)):=Ev.all fun i _=>by
  have:=refInitSys_sp l k1 k2 te ts ta tn tp hl h1 h2 he hs ha hn hp o1 n1 o2 n2 (i:Int)
  rw[←hmd] at this
  exact this
 have a3:Ev fun N=>∀ i,i<tot→Gives (envE m (i:Int)) (Xjc (K N) l o1 n1 k1 o2 n2 k2 te ts ta tn tp (i:Int)):=Ev.all fun i _=>by
  have:=refEnv_sp l k1 k2 te ts ta tn tp hl h1 h2 he hs ha hn hp o1 n1 o2 n2 (i:Int)
  rw[←hmd,←env_ref] at this
  exact this
 have a4:Ev fun N=>∀ i,i<tot→∀ j,j<tot→Gives (sysE m (i:Int) (j:Int)) (Xjb (K N) l o1 n1 k1 o2 n2 k2 te ts ta tn tp (i:Int) (j:Int)):=Ev.all fun i _=>Ev.all fun j _=>by
  have:=refSys_sp l k1 k2 te ts ta tn tp hl h1 h2 he hs ha hn hp o1 n1 o2 n2 (i:Int) (j:Int)
  rw[←hmd,←sys_ref] at this
  exact this
 have ch:=chs_sp l k1 k2 te ts ta tn tp hl h1 h2 he hs ha hn hp o1 n1 o2 n2 hmd hm hT
 refine Ev.step (Ev.step (Ev.imp4 (Ev.and (a1.up 1) (a2.up 1)) (Ev.and (a3.up 1) (a4.up 1)) (Ev.and (ch.up 1) (Ev.and ((Xgf l hl k1 k2 te ts ta tn tp h1 h2 he hs ha hn hp).up 1) ((Xkk l hl (by rw[←mv];exact cm)).up 1))) (Ev.ge 50000) fun N b12 b34 bb hN=> ?_))
 obtain ⟨b1,b2⟩:=b12
 obtain ⟨b3,b4⟩:=b34
 obtain ⟨bc,bm,bt⟩:=bb
 have bm:=bm o1 n1 o2 n2
 rw[←hmd,hm] at bm
 rw[←hmd] at b1
 rw[←mv,←htot] at bt
 have C:Chs9 (K (N+1)) l o1 n1 k1 o2 n2 k2 te ts ta tn tp m tot:=by
  refine ⟨b1,fun p a b=> ?_,fun s a b=> ?_,fun s p a b c d=> ?_⟩
  ·obtain ⟨i,hi,rfl⟩:=nat p a b;exact b2 i hi
  ·obtain ⟨i,hi,rfl⟩:=nat s a b;exact b3 i hi
  ·obtain ⟨i,hi,rfl⟩:=nat s a b;obtain ⟨j,hj,rfl⟩:=nat p c d;exact b4 i hi j hj
 have tab0:∀ (f:Nat→Vx) (n:Nat),(∀ p,f p≠(1,0,0))→Tab [(1,0,0)] f n (fun i j=>(([(T.i 0)]:List T).getD j (.b false))):=fun f n hf p _=>by
  rw[if_neg (by simpa using hf p)];rfl
 have main:=b9B0 (N0:=N) (by omega) C hm hT htot htt (waysE_len bc) 700 0 (by omega) (N+1) [(1,0,0)] [] 0 0 1 (fun i j=>(([(T.i 0)]:List T).getD j (.b false))) (fun i j=>(([(T.i 0)]:List T).getD j (.b false))) (fun i j=>(([(T.i 0)]:List T).getD j (.b false))) (fun _ _=> .b false) (fun _ _=> .b false) (fun i j=>((([[(T.i 1),(T.i 0),(T.i 0)]]:List (List T)).getD i []).getD j (.b false))) (by omega) (Inv.start m) (fun v hv=> .inl (List.mem_singleton.1 hv)) ⟨rfl,fun i v hi=>by
   match i,hi with
   | 0,hi=>cases hi;exact ⟨rfl,rfl,rfl⟩
   | i+1,hi=>simp at hi⟩ (tab0 _ _ fun p e=>by unfold fS at e;simp at e) (tab0 _ _ fun p e=>by unfold fE at e;simp at e) (tab0 _ _ fun p e=>by unfold fY at e;simp at e) ⟨rfl,by simp⟩ ⟨rfl,by simp⟩
 refine Eq.mpr (congrArg (BOk m _) ?_) main
 have ht2:tot*tot≤24*24:=Nat.mul_le_mul htt htt
 have ew:(IntKind.wrap .i64 ((tot:Int)*(tot:Int))).toNat=tot*tot:=by
  rw[show (tot:Int)*(tot:Int)=((tot*tot:Nat):Int) by rw[Int.natCast_mul],Xaq (by omega) (by omega),Int.toNat_natCast]
 have ew0:0≤IntKind.wrap .i64 ((tot:Int)*(tot:Int))∧IntKind.wrap .i64 ((tot:Int)*(tot:Int))≤576:=by
  rw[show (tot:Int)*(tot:Int)=((tot*tot:Nat):Int) by rw[Int.natCast_mul],Xaq (by omega) (by omega)];omega
 rw[Xnq]
 refine Xag bm (Xac rfl (Xag bt ?_))
 rw[Xal,int_i,Int.toNat_natCast,ew]
 exact if_of (by simp;omega) (if_of (by simp;omega) (if_of (by rw[decide_eq_true ew0.1,decide_eq_true (by omega)];rfl) rfl))
end
end Go.Proofs.YtnjandhaeojieaaGreat
