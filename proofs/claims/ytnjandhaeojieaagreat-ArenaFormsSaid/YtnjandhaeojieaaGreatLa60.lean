/- A module's game: its vertices, how they are found, where one goes from them. -/
import Derived.Test.YtnjandhaeojieaaGreatLa58
set_option linter.unusedVariables false
set_option linter.unusedSimpArgs false
namespace Go.AM
open Go.Proofs.YtnjandhaeojieaaGreat
abbrev Vx:=Int×Int×Int
def vl (v:Vx):List Int:=[v.1,v.2.1,v.2.2]
theorem vl_inj {a b:Vx}(h:vl a=vl b):a=b:=by
 obtain ⟨a1,a2,a3⟩:=a
 obtain ⟨b1,b2,b3⟩:=b
 simp only[vl,List.cons.injEq,and_true] at h
 obtain ⟨rfl,rfl,rfl⟩:=h
 rfl
def waysE (m:Md)(v:Vx):List Vx:=
 if v.1=1 then (Xek m).map fun x=>(2,0,x)
 else if v.1=2 then (Xft m v.2.2).map fun x=>(3,x,0)
 else if v.1=3 then (envE m v.2.1).map fun x=>(4,v.2.1,x)
 else if v.1=4 then (sysE m v.2.1 v.2.2).map fun x=>(3,x,0)
 else []
def ownE (v:Vx):Int:=if v.1=2 then 1 else if v.1=4 then 1 else 0
def Verts (n:Nat)(g:Nat→Nat→T)(A:List Vx):Prop:=n=A.length∧∀ i v,A[i]? =some v→(g i 0).int=v.1∧(g i 1).int=v.2.1∧(g i 2).int=v.2.2
def pushV (n:Nat)(g:Nat→Nat→T)(a b c:Int):Nat→Nat→T:=fun i j=>(bif Nat.blt i n then (g i j) else ((([[(T.i a),(T.i b),(T.i c)]]:List (List T)).getD (0+(i-n)) []).getD j (.b false)))
theorem blt_lt {i n:Nat}(h:i<n):Nat.blt i n=true:=by rw[Nat.blt_eq];exact h
theorem blt_ge {i n:Nat}(h:n≤i):Nat.blt i n=false:=by
 cases hc:Nat.blt i n with
 | false=>rfl
 | true=>rw[Nat.blt_eq] at hc;omega
theorem Verts.nil (g:Nat→Nat→T):Verts 0 g []:=⟨rfl,by simp⟩
theorem Verts.push {n:Nat}{g:Nat→Nat→T}{A:List Vx}(h:Verts n g A)(v:Vx):Verts (n+1) (pushV n g v.1 v.2.1 v.2.2) (A++[v]):=by
 refine ⟨by simp[h.1],fun i u hi=> ?_⟩
 by_cases hil:i<A.length
 ·rw[List.getElem?_append_left hil] at hi
  have:=h.2 i u hi
  unfold pushV
  rw[blt_lt (by rw[h.1];exact hil)]
  exact this
 ·rw[List.getElem?_append_right (by omega)] at hi
  have h0:i=A.length:=by
   have:=(List.getElem?_eq_some_iff.1 hi).1
   simp at this
   omega
  subst h0
  rw[Nat.sub_self] at hi
  obtain rfl:v=u:=by simpa using hi
  unfold pushV
  rw[blt_ge (by rw[h.1];exact Nat.le_refl _),h.1,Nat.sub_self]
  exact ⟨rfl,rfl,rfl⟩
theorem Xsc {n:Nat}{g:Nat→Nat→T}{l:List Int}(h:Ints (T.l n g) l)(v:Int):Ints (T.l (n+1) (pushG n g v)) (l++[v]):=by
 have h1:n=l.length:=h.1
 refine ⟨by show n+1=_;simp[h1],fun i u hi=> ?_⟩
 show (pushG n g v i 0).int=u
 by_cases hil:i<l.length
 ·rw[List.getElem?_append_left hil] at hi
  unfold pushG
  rw[blt_lt (by omega)]
  exact h.2 i u hi
 ·rw[List.getElem?_append_right (by omega)] at hi
  have h0:i=l.length:=by
   have:=(List.getElem?_eq_some_iff.1 hi).1
   simp at this
   omega
  subst h0
  rw[Nat.sub_self] at hi
  obtain rfl:v=u:=by simpa using hi
  unfold pushG
  rw[blt_ge (by omega),h1,Nat.sub_self]
  rfl
theorem mem_vl {A:List Vx}{v:Vx}:vl v∈A.map vl↔v∈A:=by
 rw[List.mem_map]
 constructor
 ·rintro ⟨u,hu,he⟩
  rw[←vl_inj he];exact hu
 ·intro h
  exact ⟨v,h,rfl⟩
theorem idx_vl {v:Vx}:∀ {A:List Vx},(A.map vl).idxOf (vl v)=A.idxOf v
 | []=>rfl
 | a::A=>by
  rw[List.map_cons,List.idxOf_cons,List.idxOf_cons,idx_vl]
  by_cases h:a=v
  ·subst h;simp
  ·have h2:¬vl a=vl v:=fun e=>h (vl_inj e)
   rw[show (vl a==vl v)=false by simpa using h2,show (a==v)=false by simpa using h]
def addV (A:List Vx)(v:Vx):List Vx:=if v∈A then A else A++[v]
def VMap (x:T)(A:List Vx):Prop:=MK 3 x (A.map vl) fun i=>(i:Int)
theorem VMap.set {x:T}{A:List Vx}(h:VMap x A){v:Vx}(hn:v∉A):VMap (mset x 3 ([(T.i v.1),(T.i v.2.1),(T.i v.2.2)]:List T) ([(T.i (A.length:Int))]:List T)) (A++[v]):=by
 have:=MK.set (b:=vl v) h rfl (A.length:Int)
 have e:(fun i=>if i=(A.map vl).idxOf (vl v) then (A.length:Int) else (i:Int))=fun (i:Nat)=>(i:Int):=by
  funext i
  rw[idx_vl,List.idxOf_eq_length hn]
  split
  ·rename_i h;rw[h]
  ·rfl
 rw[e,if_neg (fun q=>hn (mem_vl.1 q))] at this
 unfold VMap
 rw[List.map_append]
 exact this
theorem VMap.has {x:T}{A:List Vx}(h:VMap x A)(v:Vx):mhas x ([(T.i v.1),(T.i v.2.1),(T.i v.2.2)]:List T)=decide (v∈A):=by
 have:=MK.has (b:=vl v) h rfl
 simp only[mem_vl] at this
 exact this
theorem VMap.get {x:T}{A:List Vx}(h:VMap x A){v:Vx}(hv:v∈A):(mget x 3 ([(T.i v.1),(T.i v.2.1),(T.i v.2.2)]:List T) ([(T.i 0)]:List T) 0).int=(A.idxOf v:Int):=by
 have:=MK.get (b:=vl v) h rfl (z:=0)
 rw[if_pos (mem_vl.2 hv),idx_vl] at this
 exact this
end Go.AM
namespace Go.Proofs.YtnjandhaeojieaaGreat
open Go.AM
structure Bld (A:List Vx)(no:Nat)(go:Nat→Nat→T)(nA:Nat)(gA:Nat→Nat→T)(x:T):Prop where
 v:Verts nA gA A
 o:Ints (T.l no go) (A.map ownE)
 m:VMap x A
theorem owner_sp (N:Nat)(v:Vx):Xqw (K (N+1)) v.1 v.2.1 v.2.2=ri (ownE v):=by
 rw[C_arena_owner_K]
 unfold ownE
 by_cases h1:v.1=2
 ·rw[if_pos h1];exact if_of (by simpa using h1) rfl
 ·rw[if_neg h1]
  refine Xac (by simpa using h1) ?_
  by_cases h2:v.1=4
  ·rw[if_pos h2];exact if_of (by simpa using h2) rfl
  ·rw[if_neg h2];exact Xac (by simpa using h2) rfl
section
variable {l:T}{o1 n1:Int}{k1:T}{o2 n2:Int}{k2 te ts ta tn tp:T}
def bldR (x0 l:T)(o1 n1:Int)(k1:T)(o2 n2:Int)(k2 te ts ta tn tp:T)(no:Nat)(go:Nat→Nat→T)(nN:Nat)(gN:Nat→Nat→T)(nA:Nat)(gA:Nat→Nat→T)(x:T):R:=
 lookR [(0,x0),(1,l),(2,(T.i o1)),(3,(T.i n1)),(4,k1),(5,(T.i o2)),(6,(T.i n2)),(7,k2),(8,te),(9,ts),(10,ta),(11,tn),(12,tp),(13,(T.l no go)),(14,(T.l nN gN)),(15,(T.l nA gA)),(16,x)]
theorem find_sp (N:Nat){A:List Vx}{no nA nN:Nat}{go gA gN:Nat→Nat→T}{x:T}(h:Bld A no go nA gA x)(hA:A.length≤10000)(v:Vx):
  ∃ no' go' nA' gA' x',Xhj (K (N+2)) no nN nA v.1 v.2.1 v.2.2 l o1 n1 k1 o2 n2 k2 te ts ta tn tp go gN gA x=some (bldR (T.i (A.idxOf v:Int)) l o1 n1 k1 o2 n2 k2 te ts ta tn tp no' go' nN gN nA' gA' x')∧Bld (addV A v) no' go' nA' gA' x':=by
 have hn:=h.v.1
 have hno:no=A.length:=by have:=h.o.1;simpa [T.len] using this
 have e0:∀ p0 p1 p2 p3 p4 p5 p6 p7,Xdo.B0 (K (N+1)) (N+1) p0 p1 p2 p3 p4 p5 p6 l o1 n1 k1 o2 n2 k2 te ts ta tn tp p7=some (bldR (T.i p3) l o1 n1 k1 o2 n2 k2 te ts ta tn tp p0 p4 p1 p5 p2 p6 p7):=fun p0 p1 p2 p3 p4 p5 p6 p7=>by rw[Xdo.B0_eq];rfl
 by_cases hv:v∈A
 ·refine ⟨no,go,nA,gA,x,?_,by unfold addV;rw[if_pos hv];exact h⟩
  rw[Xll,h.m.has,decide_eq_true hv,h.m.get hv]
  exact Xac rfl (e0 ..)
 ·refine ⟨no+1,pushG no go (ownE v),nA+1,pushV nA gA v.1 v.2.1 v.2.2,_,?_,by
   unfold addV
   rw[if_neg hv]
   exact ⟨h.v.push v,by rw[List.map_append];exact Xsc h.o _,h.m.set hv⟩⟩
  rw[Xll,h.m.has,decide_eq_false hv,List.idxOf_eq_length hv]
  refine if_of rfl (if_of (decide_eq_true (by omega)) (Xag (owner_sp N v) (if_of (decide_eq_true (by omega)) ?_)))
  rw[e0,hn]
  rfl
theorem putB {B:Nat→Nat→Int→(Nat→Nat→T)→Option R}{xs:List Int}{f:Int→Vx}(hl:xs.length≤1000)
  (hB:∀ M n (i:Nat) g (h:i<xs.length),B (M+1) n (i:Int) g=(bif decide ((n+1)*24≤140737488355328) then B M (n+1) ((i+1:Nat):Int) (pushV n g (f xs[i]).1 (f xs[i]).2.1 (f xs[i]).2.2) else none))
  (hE:∀ M n g,B (M+1) n (xs.length:Int) g=some (lookR [(0,T.l n g)])):
  ∀ (m i:Nat),i+m=xs.length→∀ N n g (A:List Vx),m+1≤N→n≤i→Verts n g A→∃ n' g',B N n (i:Int) g=some (lookR [(0,T.l n' g')])∧Verts n' g' (A++(xs.drop i).map f)
 | 0,i,hi,N,n,g,A,hN,hn,hv=>by
  obtain ⟨N,rfl⟩:∃ M,N=M+1:=⟨N-1,by omega⟩
  obtain rfl:i=xs.length:=by omega
  exact ⟨n,g,hE N n g,by simpa using hv⟩
 | m+1,i,hi,N,n,g,A,hN,hn,hv=>by
  obtain ⟨N,rfl⟩:∃ M,N=M+1:=⟨N-1,by omega⟩
  have hlt:i<xs.length:=by omega
  obtain ⟨n',g',e1,e2⟩:=putB hl hB hE m (i+1) (by omega) N (n+1) _ (A++[f xs[i]]) (by omega) (by omega) (hv.push (f xs[i]))
  refine ⟨n',g',by rw[hB N n i g hlt];exact if_of (decide_eq_true (by omega)) e1,?_⟩
  rw[List.drop_eq_getElem_cons hlt,List.map_cons]
  rwa [List.append_assoc,List.singleton_append] at e2
end
end Go.Proofs.YtnjandhaeojieaaGreat
set_option linter.unusedVariables false
set_option linter.unusedSimpArgs false
namespace Go.Proofs.YtnjandhaeojieaaGreat
open Go.AM
section
variable {l:T}{o1 n1:Int}{k1:T}{o2 n2:Int}{k2 te ts ta tn tp:T}{m:Md}
structure Chs (h:H)(l:T)(o1 n1:Int)(k1:T)(o2 n2:Int)(k2 te ts ta tn tp:T)(m:Md):Prop where
 ie:Gives (Xek m) (Xki h l o1 n1 k1 o2 n2 k2 te ts ta tn tp)
 is:∀ p,Gives (Xft m p) (Xkh h l o1 n1 k1 o2 n2 k2 te ts ta tn tp p)
 ev:∀ s,Gives (envE m s) (Xoq h l o1 n1 k1 o2 n2 k2 te ts ta tn tp s)
 sy:∀ s p,Gives (sysE m s p) (Xon h l o1 n1 k1 o2 n2 k2 te ts ta tn tp s p)
 lie:(Xek m).length≤24
 lis:∀ p,(Xft m p).length≤24
 lev:∀ s,(envE m s).length≤24
 lsy:∀ s p,(sysE m s p).length≤24
theorem waysE_len {h:H}(C:Chs h l o1 n1 k1 o2 n2 k2 te ts ta tn tp m)(v:Vx):(waysE m v).length≤24:=by
 unfold waysE
 have:=C.lie;have:=C.lis v.2.2;have:=C.lev v.2.1;have:=C.lsy v.2.1 v.2.2
 split
 ·simpa
 ·split
  ·simpa
  ·split
   ·simpa
   ·split
    ·simpa
    ·simp
theorem ways_sp {N:Nat}(hN:200≤N)(C:Chs (K N) l o1 n1 k1 o2 n2 k2 te ts ta tn tp m)(v:Vx)(no nN nA:Nat)(go gN gA:Nat→Nat→T)(x:T):
  ∃ nw gw,Xjx (K (N+1)) no nN nA v.1 v.2.1 v.2.2 l o1 n1 k1 o2 n2 k2 te ts ta tn tp go gN gA x=some (bldR (T.l nw gw) l o1 n1 k1 o2 n2 k2 te ts ta tn tp no go nN gN nA gA x)∧Verts nw gw (waysE m v):=by
 have e0:∀ p0 p1 p2 p3 p4 p5 p6 p7 p8,Xcs.B0 (K N) N p0 p1 p2 p3 p4 p5 p6 p7 l o1 n1 k1 o2 n2 k2 te ts ta tn tp p8=some (bldR (T.l p0 p4) l o1 n1 k1 o2 n2 k2 te ts ta tn tp p1 p5 p2 p6 p3 p7 p8):=by
  obtain ⟨M,rfl⟩:∃ M,N=M+1:=⟨N-1,by omega⟩
  intro p0 p1 p2 p3 p4 p5 p6 p7 p8
  rw[Xcs.B0_eq];rfl
 obtain ⟨M,hM⟩:∃ M,N=M+1:=⟨N-1,by omega⟩
 have p3:∀ (t:T) (xs:List Int),Ints t xs→xs.length≤24→∃ nw gw,Xdh (K N) 0 t (fun _ _=> .b false)=some (lookR [(0,T.l nw gw)])∧Verts nw gw (xs.map fun x=>((2:Int),(0:Int),x)):=by
  intro t xs ht hx
  rw[hM,Xhe,ht.1]
  have:=putB (B:=fun M n i g=>Xax.B0 (K (N-1)) M n t (xs.length:Int) i g) (xs:=xs) (f:=fun x=>((2:Int),(0:Int),x)) (by omega) (fun M' n i g hi=>by
   show Xax.B0 (K (N-1)) (M'+1) n t (xs.length:Int) (i:Int) g=_
   obtain ⟨q,hq⟩:∃ q,N-1=q+1:=⟨N-2,by omega⟩
   rw[Xax.B0_eq,Xaq (a:=(i:Int)+1) (by omega) (by omega),Int.toNat_natCast,ht.el0 hi,hq]
   have hb:(decide ((0:Int)≤(i:Int))&&decide ((i:Int)<((t.len:Nat):Int)))=true:=by rw[ht.1];simp;omega
   exact if_of (decide_eq_true (by omega)) (if_of hb (Xag (Xqa q xs[i]) rfl))) (fun M' n g=>by
   show Xax.B0 (K (N-1)) (M'+1) n t (xs.length:Int) (xs.length:Int) g=_
   rw[Xax.B0_eq]
   exact Xac (decide_eq_false (by omega)) rfl) xs.length 0 (by omega) M 0 (fun _ _=> .b false) [] (by omega) (Nat.le_refl _) (Verts.nil _)
  have hM1:N-1=M:=by omega
  rw[hM1] at this
  simpa using this
 have p2:∀ (t:T) (xs:List Int),Ints t xs→xs.length≤24→∃ nw gw,Xcq (K N) 0 t (fun _ _=> .b false)=some (lookR [(0,T.l nw gw)])∧Verts nw gw (xs.map fun x=>((3:Int),x,(0:Int))):=by
  intro t xs ht hx
  rw[hM,Xhf,ht.1]
  have:=putB (B:=fun M n i g=>Xay.B0 (K (N-1)) M n t (xs.length:Int) i g) (xs:=xs) (f:=fun x=>((3:Int),x,(0:Int))) (by omega) (fun M' n i g hi=>by
   show Xay.B0 (K (N-1)) (M'+1) n t (xs.length:Int) (i:Int) g=_
   obtain ⟨q,hq⟩:∃ q,N-1=q+1:=⟨N-2,by omega⟩
   rw[Xay.B0_eq,Xaq (a:=(i:Int)+1) (by omega) (by omega),Int.toNat_natCast,ht.el0 hi,hq]
   have hb:(decide ((0:Int)≤(i:Int))&&decide ((i:Int)<((t.len:Nat):Int)))=true:=by rw[ht.1];simp;omega
   exact if_of (decide_eq_true (by omega)) (if_of hb (Xag (Xqb q xs[i]) rfl))) (fun M' n g=>by
   show Xay.B0 (K (N-1)) (M'+1) n t (xs.length:Int) (xs.length:Int) g=_
   rw[Xay.B0_eq]
   exact Xac (decide_eq_false (by omega)) rfl) xs.length 0 (by omega) M 0 (fun _ _=> .b false) [] (by omega) (Nat.le_refl _) (Verts.nil _)
  have hM1:N-1=M:=by omega
  rw[hM1] at this
  simpa using this
 have p4:∀ (t:T) (xs:List Int) (c:Nat→T),Ints t xs→xs.length≤24→∃ nw gw,Xdg (K N) 0 t c (fun _ _=> .b false)=some (lookR [(0,T.l nw gw)])∧Verts nw gw (xs.map fun x=>((4:Int),(c 1).int,x)):=by
  intro t xs c ht hx
  rw[hM,Xhd,ht.1]
  have:=putB (B:=fun M n i g=>Xaw.B0 (K (N-1)) M n c t (xs.length:Int) i g) (xs:=xs) (f:=fun x=>((4:Int),(c 1).int,x)) (by omega) (fun M' n i g hi=>by
   show Xaw.B0 (K (N-1)) (M'+1) n c t (xs.length:Int) (i:Int) g=_
   obtain ⟨q,hq⟩:∃ q,N-1=q+1:=⟨N-2,by omega⟩
   rw[Xaw.B0_eq,Xaq (a:=(i:Int)+1) (by omega) (by omega),Int.toNat_natCast,ht.el0 hi,hq]
   have hb:(decide ((0:Int)≤(i:Int))&&decide ((i:Int)<((t.len:Nat):Int)))=true:=by rw[ht.1];simp;omega
   exact if_of (decide_eq_true (by omega)) (if_of hb (Xag (Xpz q xs[i] c) rfl))) (fun M' n g=>by
   show Xaw.B0 (K (N-1)) (M'+1) n c t (xs.length:Int) (xs.length:Int) g=_
   rw[Xaw.B0_eq]
   exact Xac (decide_eq_false (by omega)) rfl) xs.length 0 (by omega) M 0 (fun _ _=> .b false) [] (by omega) (Nat.le_refl _) (Verts.nil _)
  have hM1:N-1=M:=by omega
  rw[hM1] at this
  simpa using this
 rw[Xrf]
 unfold waysE
 by_cases c1:v.1=1
 ·rw[if_pos c1]
  obtain ⟨t,e,it⟩:=C.ie
  obtain ⟨nw,gw,h1,h2⟩:=p3 _ _ it.shift C.lie
  exact ⟨nw,gw,if_of (by simpa using c1) (Xag e (Xag h1 (e0 ..))),h2⟩
 rw[if_neg c1]
 by_cases c2:v.1=2
 ·rw[if_pos c2]
  obtain ⟨t,e,it⟩:=C.is v.2.2
  obtain ⟨nw,gw,h1,h2⟩:=p2 _ _ it.shift (C.lis _)
  exact ⟨nw,gw,Xac (by simpa using c1) (if_of (by simpa using c2) (Xag e (Xag h1 (e0 ..)))),h2⟩
 rw[if_neg c2]
 by_cases c3:v.1=3
 ·rw[if_pos c3]
  obtain ⟨t,e,it⟩:=C.ev v.2.1
  obtain ⟨nw,gw,h1,h2⟩:=p4 t _ (fun j=>(([(T.i v.1),(T.i v.2.1),(T.i v.2.2)]:List T).getD j (.b false))) it (C.lev _)
  exact ⟨nw,gw,Xac (by simpa using c1) (Xac (by simpa using c2) (if_of (by simpa using c3) (Xag e (Xag h1 (e0 ..))))),h2⟩
 rw[if_neg c3]
 by_cases c4:v.1=4
 ·rw[if_pos c4]
  obtain ⟨t,e,it⟩:=C.sy v.2.1 v.2.2
  obtain ⟨nw,gw,h1,h2⟩:=p2 t _ it (C.lsy _ _)
  exact ⟨nw,gw,Xac (by simpa using c1) (Xac (by simpa using c2) (Xac (by simpa using c3) (if_of (by simpa using c4) (Xag e (Xag h1 (e0 ..)))))),h2⟩
 rw[if_neg c4]
 exact ⟨0,_,Xac (by simpa using c1) (Xac (by simpa using c2) (Xac (by simpa using c3) (Xac (by simpa using c4) (e0 ..)))),Verts.nil _⟩
end
end Go.Proofs.YtnjandhaeojieaaGreat
set_option linter.unusedVariables false
set_option linter.unusedSimpArgs false
namespace Go.AM
open Go.Proofs.YtnjandhaeojieaaGreat
theorem nodup_sub {α:Type}[DecidableEq α]:∀ {l u:List α},l.Nodup→(∀ x∈l,x∈u)→l.length≤u.length
 | [],u,_,_=>Nat.zero_le _
 | a::l,u,hn,hs=>by
  rw[List.nodup_cons] at hn
  have ha:=hs a (List.mem_cons_self ..)
  have:=nodup_sub (l:=l) (u:=u.erase a) hn.2 fun x hx=>(List.mem_erase_of_ne (fun e=>hn.1 (by rw[←e];exact hx))).2 (hs x (List.mem_cons_of_mem _ hx))
  rw[List.length_erase_of_mem ha] at this
  have:=List.length_pos_of_mem ha
  simp only[List.length_cons]
  omega
def bfsE (m:Md):Nat→Nat→List Vx→List Vx
 | 0,_,A=>A
 | k+1,i,A=>match A[i]? with
  | none=>A
  | some v=>bfsE m k (i+1) ((waysE m v).foldl addV A)
def nextE (A ws:List Vx):List Int:=(ws.map fun w=>(A.idxOf w:Int)).mergeSort fun x y=>decide (x≤y)
theorem addV_mem {A:List Vx}{v w:Vx}:w∈addV A v↔w∈A∨w=v:=by
 unfold addV
 split
 ·rename_i h
  exact ⟨.inl,fun q=>q.elim id fun e=>e▸h⟩
 ·simp
theorem addV_nodup {A:List Vx}(h:A.Nodup)(v:Vx):(addV A v).Nodup:=by
 unfold addV
 split
 ·exact h
 ·rename_i hn
  rw[List.nodup_append]
  exact ⟨h,by simp,fun b hb c hc=>by rw[List.mem_singleton.1 hc];rintro rfl;exact hn hb⟩
theorem Xth:∀ (ws A:List Vx),∃ B,ws.foldl addV A=A++B∧∀ b∈B,b∈ws
 | [],A=>⟨[],by simp,by simp⟩
 | w::ws,A=>by
  obtain ⟨B,h1,h2⟩:=Xth ws (addV A w)
  by_cases hw:w∈A
  ·have:addV A w=A:=by unfold addV;rw[if_pos hw]
   rw[this] at h1
   refine ⟨B,?_,fun b hb=>List.mem_cons_of_mem _ (h2 b hb)⟩
   rw[List.foldl_cons,this]
   exact h1
  ·have:addV A w=A++[w]:=by unfold addV;rw[if_neg hw]
   refine ⟨[w]++B,by rw[List.foldl_cons,h1,this,List.append_assoc],fun b hb=> ?_⟩
   rcases List.mem_append.1 hb with hb|hb
   ·rw[List.mem_singleton.1 hb];exact List.mem_cons_self ..
   ·exact List.mem_cons_of_mem _ (h2 b hb)
theorem fold_mem {w:Vx}:∀ {ws A:List Vx},w∈ws.foldl addV A↔w∈A∨w∈ws
 | [],A=>by simp
 | v::ws,A=>by rw[List.foldl_cons,fold_mem,addV_mem,List.mem_cons,or_assoc]
theorem fold_nodup:∀ {ws A:List Vx},A.Nodup→(ws.foldl addV A).Nodup
 | [],A,h=>h
 | v::ws,A,h=>fold_nodup (ws:=ws) (A:=addV A v) (addV_nodup h v)
theorem Xpm {A B:List Vx}{w:Vx}(h:w∈A):(A++B).idxOf w=A.idxOf w:=by
 rw[List.idxOf_append,if_pos h]
theorem idx_addV {A:List Vx}{w:Vx}:(addV A w).idxOf w=A.idxOf w:=by
 unfold addV
 split
 ·rfl
 ·rename_i h
  rw[List.idxOf_append,if_neg h,List.idxOf_eq_length h]
  simp
def univE:List Vx:=(1,0,0)::((Xgd 0 24).map (fun p=>((2:Int),(0:Int),p))++((Xgd 0 24).map (fun s=>((3:Int),s,(0:Int)))++(Xgd 0 24).flatMap fun s=>(Xgd 0 24).map fun p=>((4:Int),s,p)))
theorem univE_len:univE.length=625:=by decide +kernel
structure Inv (m:Md)(i:Nat)(A:List Vx)(L:List (List Int)):Prop where
 nd:A.Nodup
 un:∀ a∈A,a∈univE
 root:A[0]? =some (1,0,0)
 len:L.length=i
 le:i≤A.length
 done:∀ v a,v<i→A[v]? =some a→(∀ w∈waysE m a,w∈A)∧L[v]? =some (nextE A (waysE m a))
 from_:∀ q b,1≤q→A[q]? =some b→∃ j a,j<q∧A[j]? =some a∧b∈waysE m a
theorem Inv.small {m:Md}{i:Nat}{A:List Vx}{L:List (List Int)}(h:Inv m i A L):A.length≤625:=univE_len▸nodup_sub h.nd h.un
theorem nextE_stable {A B ws:List Vx}(h:∀ w∈ws,w∈A):nextE (A++B) ws=nextE A ws:=by
 unfold nextE
 congr 1
 exact List.map_congr_left fun w hw=>by rw[Xpm (h w hw)]
theorem Inv.step {m:Md}{i:Nat}{A:List Vx}{L:List (List Int)}(h:Inv m i A L)(hU:∀ a∈univE,∀ w∈waysE m a,w∈univE){v:Vx}(hv:A[i]? =some v):
  Inv m (i+1) ((waysE m v).foldl addV A) (L++[nextE ((waysE m v).foldl addV A) (waysE m v)]):=by
 obtain ⟨B,hB,hB2⟩:=Xth (waysE m v) A
 have hi:i<A.length:=(List.getElem?_eq_some_iff.1 hv).1
 have hva:v∈A:=List.mem_of_getElem? hv
 refine ⟨fold_nodup h.nd,fun a ha=> ?_,?_,by simp[h.len],by rw[hB,List.length_append];omega,fun q a hq ha=> ?_,fun q b hq hb=> ?_⟩
 ·rcases fold_mem.1 ha with ha|ha
  ·exact h.un a ha
  ·exact hU v (h.un v hva) a ha
 ·rw[hB,List.getElem?_append_left (by omega)];exact h.root
 ·by_cases hqi:q<i
  ·rw[hB,List.getElem?_append_left (by omega)] at ha
   obtain ⟨h1,h2⟩:=h.done q a hqi ha
   refine ⟨fun w hw=>fold_mem.2 (.inl (h1 w hw)),?_⟩
   rw[List.getElem?_append_left (by rw[h.len];exact hqi),hB,nextE_stable h1]
   exact h2
  ·obtain rfl:q=i:=by omega
   rw[hB,List.getElem?_append_left hi,hv] at ha
   cases ha
   refine ⟨fun w hw=>fold_mem.2 (.inr hw),?_⟩
   rw[List.getElem?_append_right (by rw[h.len];exact Nat.le_refl _),h.len,Nat.sub_self]
   rfl
 ·by_cases hqA:q<A.length
  ·rw[hB,List.getElem?_append_left hqA] at hb
   obtain ⟨j,a,h1,h2,h3⟩:=h.from_ q b hq hb
   exact ⟨j,a,h1,by rw[hB,List.getElem?_append_left (by omega)];exact h2,h3⟩
  ·rw[hB,List.getElem?_append_right (by omega)] at hb
   exact ⟨i,v,by omega,by rw[hB,List.getElem?_append_left hi];exact hv,hB2 b (List.mem_of_getElem? hb)⟩
def RowsT (n:Nat)(g:Nat→Nat→T)(L:List (List Int)):Prop:=n=L.length∧∀ i l,L[i]? =some l→Ints (g i 0) l
def pushT (n:Nat)(g:Nat→Nat→T)(t:T):Nat→Nat→T:=fun i j=>(bif Nat.blt i n then (g i j) else ((([[t]]:List (List T)).getD (0+(i-n)) []).getD j (.b false)))
theorem RowsT.push {n:Nat}{g:Nat→Nat→T}{L:List (List Int)}(h:RowsT n g L){t:T}{l:List Int}(ht:Ints t l):RowsT (n+1) (pushT n g t) (L++[l]):=by
 refine ⟨by simp[h.1],fun i u hi=> ?_⟩
 by_cases hil:i<L.length
 ·rw[List.getElem?_append_left hil] at hi
  unfold pushT
  rw[blt_lt (by rw[h.1];exact hil)]
  exact h.2 i u hi
 ·rw[List.getElem?_append_right (by omega)] at hi
  have h0:i=L.length:=by
   have:=(List.getElem?_eq_some_iff.1 hi).1
   simp at this
   omega
  subst h0
  rw[Nat.sub_self] at hi
  obtain rfl:l=u:=by simpa using hi
  unfold pushT
  rw[blt_ge (by rw[h.1];exact Nat.le_refl _),h.1,Nat.sub_self]
  exact ht
end Go.AM
namespace Go.Proofs.YtnjandhaeojieaaGreat
open Go.AM
section
variable {l:T}{o1 n1:Int}{k1:T}{o2 n2:Int}{k2 te ts ta tn tp:T}{m:Md}
theorem bB1 {N0:Nat}{i:Int}{nN nw:Nat}{gN gw:Nat→Nat→T}{ws A0:List Vx}{Q:Nat→Option R→Prop}(hw:Verts nw gw ws)(hwl:ws.length≤24)(hA0:A0.length≤700)
  (hQ:∀ M no go nA gA x p8,Bld (ws.foldl addV A0) no go nA gA x→Ints (T.l nw p8) (ws.map fun w=>((ws.foldl addV A0).idxOf w:Int))→Q M (Xcn.B1 (K (N0+2)) (M+1) nw no nN nA nw i (nw:Int) (nw:Int) p8 x l o1 n1 k1 o2 n2 k2 te ts ta tn tp go gN gA gw)):
  ∀ (k j:Nat),j+k=ws.length→∀ (M no:Nat) (go:Nat→Nat→T) (nA:Nat) (gA:Nat→Nat→T) (x:T) (p8:Nat→Nat→T),Bld ((ws.take j).foldl addV A0) no go nA gA x→Ints (T.l j p8) ((ws.take j).map fun w=>((ws.foldl addV A0).idxOf w:Int))→
   Q M (Xcn.B1 (K (N0+2)) (M+1+k) j no nN nA nw i (nw:Int) (j:Int) p8 x l o1 n1 k1 o2 n2 k2 te ts ta tn tp go gN gA gw)
 | 0,j,hj,M,no,go,nA,gA,x,p8,hb,hp=>by
  obtain rfl:j=ws.length:=by omega
  have e:=hw.1
  subst e
  rw[List.take_length] at hb hp
  exact hQ M no go nA gA x p8 hb hp
 | k+1,j,hj,M,no,go,nA,gA,x,p8,hb,hp=>by
  have hlt:j<ws.length:=by omega
  have e:=hw.1
  obtain ⟨a1,a2,a3⟩:=hw.2 j _ (List.getElem?_eq_getElem hlt)
  have hAl:((ws.take j).foldl addV A0).length≤10000:=by
   have:∀ (l A:List Vx),(l.foldl addV A).length≤A.length+l.length:=by
    intro l
    induction l with
    | nil=>intro A;simp
    | cons a l ih=>
     intro A
     rw[List.foldl_cons]
     refine Nat.le_trans (ih _) ?_
     have:(addV A a).length≤A.length+1:=by unfold addV;split<;>simp
     simp only[List.length_cons];omega
   have:=this (ws.take j) A0
   have:(ws.take j).length≤ws.length:=by rw[List.length_take];exact Nat.min_le_right _ _
   omega
  obtain ⟨no',go',nA',gA',x',e1,hb'⟩:=find_sp (l:=l) (o1:=o1) (n1:=n1) (k1:=k1) (o2:=o2) (n2:=n2) (k2:=k2) (te:=te) (ts:=ts) (ta:=ta) (tn:=tn) (tp:=tp) (nN:=nN) (gN:=gN) N0 hb hAl ws[j]
  have hb2:Bld ((ws.take (j+1)).foldl addV A0) no' go' nA' gA' x':=by
   rw[List.take_succ_eq_append_getElem hlt,List.foldl_append]
   exact hb'
  have hidx:((ws.take j).foldl addV A0).idxOf ws[j]=(ws.foldl addV A0).idxOf ws[j]:=by
   have e2:ws=ws.take (j+1)++ws.drop (j+1):=(List.take_append_drop _ _).symm
   obtain ⟨B,hB,_⟩:=Xth (ws.drop (j+1)) ((ws.take (j+1)).foldl addV A0)
   have e3:ws.foldl addV A0=(ws.take (j+1)).foldl addV A0++B:=by rw[←hB,←List.foldl_append,←e2]
   rw[e3,List.take_succ_eq_append_getElem hlt,List.foldl_append,List.foldl_cons,List.foldl_nil,Xpm (addV_mem.2 (.inr rfl)),idx_addV]
  have hp2:Ints (T.l (j+1) (pushG j p8 (((ws.take j).foldl addV A0).idxOf ws[j]:Int))) ((ws.take (j+1)).map fun w=>((ws.foldl addV A0).idxOf w:Int)):=by
   rw[List.take_succ_eq_append_getElem hlt,List.map_append,hidx]
   exact Xsc hp _
  have ih:=bB1 hw hwl hA0 hQ k (j+1) (by omega) M no' go' nA' gA' x' _ hb2 hp2
  refine Eq.mpr (congrArg (Q M) ?_) ih
  rw[show M+1+(k+1)=(M+1+k)+1 by omega,Xcn.B1_eq,Xaq (a:=(j:Int)+1) (by omega) (by omega)]
  refine if_of (decide_eq_true (by omega)) (if_of (by simp;omega) (if_of (decide_eq_true (by simp;omega)) ?_))
  rw[Int.toNat_natCast,Nat.zero_add,a1,a2,a3]
  refine Xag e1 (if_of (decide_eq_true (by omega)) ?_)
  rfl
end
end Go.Proofs.YtnjandhaeojieaaGreat
set_option linter.unusedVariables false
set_option linter.unusedSimpArgs false
namespace Go.AM
open Go.Proofs.YtnjandhaeojieaaGreat
def BOk (m:Md)(A:List Vx)(r:Option R):Prop:=∃ L no go nN gN nA gA,r=some (lookR [(0,T.l no go),(1,T.l nN gN),(2,T.l nA gA),(3,.i 0)])∧Inv m A.length A L∧Verts nA gA A∧Ints (T.l no go) (A.map ownE)∧RowsT nN gN L
theorem el_shift (g:Nat→Nat→T):(fun i j=>g (0+i) j)=g:=by funext i j;rw[Nat.zero_add]
end Go.AM
namespace Go.Proofs.YtnjandhaeojieaaGreat
open Go.AM
section
variable {l:T}{o1 n1:Int}{k1:T}{o2 n2:Int}{k2 te ts ta tn tp:T}{m:Md}
theorem bB0 {N0:Nat}(hN0:300≤N0)(C:Chs (K (N0+1)) l o1 n1 k1 o2 n2 k2 te ts ta tn tp m)(hU:∀ a∈univE,∀ w∈waysE m a,w∈univE):
  ∀ (k i:Nat),626≤i+k→∀ (N:Nat) (A:List Vx) (L:List (List Int)) (no:Nat) (go:Nat→Nat→T) (nN:Nat) (gN:Nat→Nat→T) (nA:Nat) (gA:Nat→Nat→T) (x:T),30*k+30≤N→Inv m i A L→Bld A no go nA gA x→RowsT nN gN L→
   BOk m (bfsE m k i A) (Xcn.B0 (K (N0+2)) N no nN nA (i:Int) x l o1 n1 k1 o2 n2 k2 te ts ta tn tp go gN gA)
 | 0,i,hi,N,A,L,no,go,nN,gN,nA,gA,x,hN,hv,hb,hr=>by
  have:=hv.small
  have:=hv.le
  omega
 | k+1,i,hi,N,A,L,no,go,nN,gN,nA,gA,x,hN,hv,hb,hr=>by
  obtain ⟨N,rfl⟩:∃ M,N=M+1:=⟨N-1,by omega⟩
  have hsm:=hv.small
  have hle:=hv.le
  have hnA:nA=A.length:=hb.v.1
  unfold bfsE
  cases hAi:A[i]? with
  | none=>
   have hAi:A.length≤i:=List.getElem?_eq_none_iff.1 hAi
   have hil:i=A.length:=by omega
   refine ⟨L,no,go,nN,gN,nA,gA,?_,hil▸hv,hb.v,hb.o,hr⟩
   rw[Xcn.B0_eq]
   refine Xac (decide_eq_false (by omega)) ?_
   simp only[el_shift]
  | some v=>
   have hlt:i<A.length:=(List.getElem?_eq_some_iff.1 hAi).1
   obtain ⟨a1,a2,a3⟩:=hb.v.2 i v hAi
   obtain ⟨nw,gw,e1,hw⟩:=ways_sp (N:=N0+1) (by omega) C v no nN nA go gN gA x
   have hwl:=waysE_len C v
   have hstep:=hv.step hU hAi
   have hsm2:=hstep.small
   have hnN:nN=i:=by rw[hr.1,hv.len]
   have main:=bB1 (l:=l) (o1:=o1) (n1:=n1) (k1:=k1) (o2:=o2) (n2:=n2) (k2:=k2) (te:=te) (ts:=ts) (ta:=ta) (tn:=tn) (tp:=tp) (N0:=N0) (i:=(i:Int)) (nN:=nN) (gN:=gN) (A0:=A) (Q:=fun M r=>30*k+30≤M→BOk m (bfsE m k (i+1) ((waysE m v).foldl addV A)) r) hw hwl (by omega) (fun M no' go' nA' gA' x' p8 hb' hp' hM=>by
    have hnA':nA'=((waysE m v).foldl addV A).length:=hb'.v.1
    have hnw:nw=(waysE m v).length:=hw.1
    have hsort:=sort_call (N0+1) nw p8 (by omega)
    have hints:Ints (T.l nw fun i j=>(Xgz ((intsR nw p8).mergeSort fun x y=>decide (x≤y))).el (0+i) j) (nextE ((waysE m v).foldl addV A) (waysE m v)):=by
     have e2:intsR nw p8=(waysE m v).map fun w=>(((waysE m v).foldl addV A).idxOf w:Int):=by
      have:=hp'.intsOf
      exact this
     have e3:nw=(Xgz ((intsR nw p8).mergeSort fun x y=>decide (x≤y))).len:=by
      show nw=((intsR nw p8).mergeSort fun x y=>decide (x≤y)).length
      rw[List.length_mergeSort]
      simp[intsR]
     have:=Ints_of ((intsR nw p8).mergeSort fun x y=>decide (x≤y))
     rw[←e3,e2] at this
     rw[e2]
     exact this
    have ih:=bB0 hN0 C hU k (i+1) (by omega) M _ _ no' go' (nN+1) _ nA' gA' x' hM hstep hb' (hr.push hints)
    refine Eq.mpr (congrArg (BOk m _) ?_) ih
    rw[Xcn.B1_eq,Xaq (a:=(i:Int)+1) (by omega) (by omega)]
    refine Xac (decide_eq_false (by omega)) (Xac (decide_eq_false (by omega)) (Xag hsort (if_of (decide_eq_true (by omega)) ?_)))
    rfl) (waysE m v).length 0 (by omega) (N-1-(waysE m v).length) no go nA gA x (fun _ _=> .b false) hb ⟨rfl,by simp⟩
   rw[show N-1-(waysE m v).length+1+(waysE m v).length=N by omega] at main
   refine Eq.mpr (congrArg (BOk m _) ?_) (main (by omega))
   rw[Xcn.B0_eq]
   refine if_of (decide_eq_true (by omega)) (if_of (by simp;omega) (if_of (decide_eq_true (by simp;omega)) ?_))
   rw[Int.toNat_natCast,Nat.zero_add,a1,a2,a3]
   refine Xag e1 ?_
   rfl
end
end Go.Proofs.YtnjandhaeojieaaGreat
set_option linter.unusedVariables false
set_option linter.unusedSimpArgs false
namespace Go.AM
open Go.Proofs.YtnjandhaeojieaaGreat
section
variable {m:Md}(hm:mayM m=0)(hT:prodV m.vars≤24)
include hm hT
theorem tot24:Xcz m.vars≤24:=by rw[(Xcp (Xfe hm).1).1];exact hT
theorem ie_range {x:Int}(h:x∈Xek m):0≤x∧x<24:=by
 have:=((initEnv_mem hm).1 h).1
 have:=tot24 hm hT
 omega
theorem is_range {p x:Int}(h:x∈Xft m p):0≤x∧x<24:=by
 have ht:=tot24 hm hT
 unfold Xft at h
 rw[if_neg (by simpa using hm)] at h
 split at h
 ·cases h
 ·rw[List.mem_filter,upFrom_mem] at h
  have:=h.1
  omega
theorem ev_range {s x:Int}(h:x∈envE m s):0≤x∧x<24:=by
 have ht:=tot24 hm hT
 rw[env_ref] at h
 unfold Xrq at h
 rw[if_neg (by simpa using hm)] at h
 split at h
 ·cases h
 ·rw[List.mem_filter,upFrom_mem] at h
  have:=h.1
  omega
theorem sy_range {s p x:Int}(h:x∈sysE m s p):0≤x∧x<24:=by
 have ht:=tot24 hm hT
 rw[sys_ref] at h
 unfold Xro at h
 rw[if_neg (by simpa using hm)] at h
 split at h
 ·cases h
 ·split at h
  ·cases h
  ·rw[List.mem_filter,upFrom_mem] at h
   have:=h.1
   omega
omit hm hT in
theorem univE_mem {v:Vx}:v∈univE↔v=(1,0,0)∨(∃ p,(0≤p∧p<24)∧v=(2,0,p))∨(∃ s,(0≤s∧s<24)∧v=(3,s,0))∨∃ s p,(0≤s∧s<24)∧(0≤p∧p<24)∧v=(4,s,p):=by
 unfold univE
 have hx:∀ x:Int,x∈Xgd 0 24↔0≤x∧x<24:=fun x=>by rw[upFrom_mem];constructor<;>(intro h;omega)
 rw[List.mem_cons,List.mem_append,List.mem_append,List.mem_map,List.mem_map,List.mem_flatMap]
 constructor
 ·rintro (h|⟨p,h1,h2⟩|⟨s,h1,h2⟩|⟨s,h1,h2⟩)
  ·exact .inl h
  ·exact .inr (.inl ⟨p,(hx p).1 h1,h2.symm⟩)
  ·exact .inr (.inr (.inl ⟨s,(hx s).1 h1,h2.symm⟩))
  ·obtain ⟨p,h3,h4⟩:=List.mem_map.1 h2
   exact .inr (.inr (.inr ⟨s,p,(hx s).1 h1,(hx p).1 h3,h4.symm⟩))
 ·rintro (h|⟨p,h1,h2⟩|⟨s,h1,h2⟩|⟨s,p,h1,h2,h3⟩)
  ·exact .inl h
  ·exact .inr (.inl ⟨p,(hx p).2 h1,h2.symm⟩)
  ·exact .inr (.inr (.inl ⟨s,(hx s).2 h1,h2.symm⟩))
  ·exact .inr (.inr (.inr ⟨s,(hx s).2 h1,List.mem_map.2 ⟨p,(hx p).2 h2,h3.symm⟩⟩))
theorem univ_ways:∀ a∈univE,∀ w∈waysE m a,w∈univE:=by
 intro a ha w hw
 rw[univE_mem] at ha ⊢
 unfold waysE at hw
 rcases ha with rfl|⟨p,h1,rfl⟩|⟨s,h1,rfl⟩|⟨s,p,h1,h2,rfl⟩
 ·rw[if_pos rfl] at hw
  obtain ⟨x,hx,rfl⟩:=List.mem_map.1 hw
  exact .inr (.inl ⟨x,ie_range hm hT hx,rfl⟩)
 ·rw[if_neg (by simp),if_pos rfl] at hw
  obtain ⟨x,hx,rfl⟩:=List.mem_map.1 hw
  exact .inr (.inr (.inl ⟨x,is_range hm hT hx,rfl⟩))
 ·rw[if_neg (by simp),if_neg (by simp),if_pos rfl] at hw
  obtain ⟨x,hx,rfl⟩:=List.mem_map.1 hw
  exact .inr (.inr (.inr ⟨s,x,h1,ev_range hm hT hx,rfl⟩))
 ·rw[if_neg (by simp),if_neg (by simp),if_neg (by simp),if_pos rfl] at hw
  obtain ⟨x,hx,rfl⟩:=List.mem_map.1 hw
  exact .inr (.inr (.inl ⟨x,sy_range hm hT hx,rfl⟩))
theorem ie_len:(Xek m).length≤24:=by
 unfold Xek
 rw[if_neg (by simpa using hm)]
 exact filt24 (Xfe hm).1 hT
theorem is_len (p:Int):(Xft m p).length≤24:=by
 unfold Xft
 rw[if_neg (by simpa using hm)]
 split
 ·simp
 ·exact filt24 (Xfe hm).1 hT
end
def atE (m:Md):List Vx:=bfsE m 700 0 [(1,0,0)]
theorem Inv.start (m:Md):Inv m 0 [(1,0,0)] []:=by
 refine ⟨by simp,fun a ha=> ?_,rfl,rfl,by simp,fun v a hv=>absurd hv (Nat.not_lt_zero _),fun q b h1 hb=> ?_⟩
 ·rw[List.mem_singleton.1 ha];exact univE_mem.2 (.inl rfl)
 ·rw[List.getElem?_eq_none (by simpa using h1)] at hb;cases hb
end Go.AM
namespace Go.Proofs.YtnjandhaeojieaaGreat
open Go.AM
section
variable (l k1 k2 te ts ta tn tp:T)(hl:l.len≤9223372036854775807)(h1:KW k1)(h2:KW k2)(he:KC te)(hs:KC ts)(ha:KW ta)(hn:KW tn)(hp:KW tp)
include hl h1 h2 he hs ha hn hp
theorem chs_sp (o1 n1 o2 n2:Int){m:Md}(hmd:m=⟨Xaa l,.mk o1 n1 (Xad k1),.mk o2 n2 (Xad k2),Xca te,Xca ts,Xad ta,Xad tn,Xad tp⟩)(hm:mayM m=0)(hT:prodV m.vars≤24):
  Ev fun N=>Chs (K N) l o1 n1 k1 o2 n2 k2 te ts ta tn tp m:=by
 have mv:m.vars=Xaa l:=by rw[hmd]
 have hT':mayV (Xaa l)=0→prodV (Xaa l)≤24:=fun _=>by rw[←mv];exact hT
 refine (Ev.imp4 (InitEnv_sp l k1 k2 te ts ta tn tp hl h1 h2 he hs ha hn hp) (InitSys_sp l k1 k2 te ts ta tn tp hl h1 h2 he hs ha hn hp) (cEnv_sp l k1 k2 te ts ta tn tp hl h1 h2 he hs ha hn hp hT' o1 n1 o2 n2) (cSys_sp l k1 k2 te ts ta tn tp hl h1 h2 he hs ha hn hp hT' o1 n1 o2 n2) fun N a b c d=> ?_)
 rw[←hmd] at c d
 have a:=a o1 n1 o2 n2
 have b:=b o1 n1 o2 n2
 rw[←hmd] at a b
 exact ⟨a,b,c,d,ie_len hm hT,is_len hm hT,fun s=>(env_len (m:=m) (s:=s) fun _=>hT).1,fun s p=>(sys_len (m:=m) (s:=s) (p:=p) fun _=>hT).1⟩
theorem Build_sp (o1 n1 o2 n2:Int){m:Md}(hmd:m=⟨Xaa l,.mk o1 n1 (Xad k1),.mk o2 n2 (Xad k2),Xca te,Xca ts,Xad ta,Xad tn,Xad tp⟩)(hm:mayM m=0)(hT:prodV m.vars≤24):
  Ev fun N=>BOk m (atE m) (Xij (K N) l o1 n1 k1 o2 n2 k2 te ts ta tn tp):=by
 refine Ev.step (Ev.step (Ev.step (Ev.imp4 ((chs_sp l k1 k2 te ts ta tn tp hl h1 h2 he hs ha hn hp o1 n1 o2 n2 hmd hm hT).up 1) ((MayM_sp l hl k1 k2 te ts ta tn tp h1 h2 he hs ha hn hp).up 2) (Ev.ge 30000) (Ev.ge 0) fun N C hmay hN _=> ?_)))
 have hmay:=hmay o1 n1 o2 n2
 rw[←hmd,hm] at hmay
 show BOk m (atE m) (Xij (K ((N+2)+1)) l o1 n1 k1 o2 n2 k2 te ts ta tn tp)
 have hb0:Bld [] 0 (fun _ _=> .b false) 0 (fun _ _=> .b false) noT:=⟨Verts.nil _,⟨rfl,by simp⟩,MK.nil 3 _⟩
 obtain ⟨no,go,nA,gA,x,e1,hb⟩:=find_sp (l:=l) (o1:=o1) (n1:=n1) (k1:=k1) (o2:=o2) (n2:=n2) (k2:=k2) (te:=te) (ts:=ts) (ta:=ta) (tn:=tn) (tp:=tp) (nN:=0) (gN:=fun _ _=> .b false) N hb0 (by simp) (1,0,0)
 have hb:Bld [(1,0,0)] no go nA gA x:=hb
 have main:=bB0 (N0:=N) (by omega) C (univ_ways hm hT) 700 0 (by omega) (N+2) [(1,0,0)] [] no go 0 (fun _ _=> .b false) nA gA x (by omega) (Inv.start m) hb ⟨rfl,by simp⟩
 refine Eq.mpr (congrArg (BOk m _) ?_) main
 rw[Xsq]
 refine Xag hmay (Xac rfl (Xag e1 ?_))
 rfl
end
end Go.Proofs.YtnjandhaeojieaaGreat
