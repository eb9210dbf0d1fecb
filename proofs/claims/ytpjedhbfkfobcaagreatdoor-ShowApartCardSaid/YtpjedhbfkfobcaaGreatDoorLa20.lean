/- Plain laws on lists of whole numbers: sorted, compacted, each once. -/
import Derived.Lib.SlicesCompact
import Derived.Test.YtpjedhbfkfobcaaGreatDoorLa5
namespace Go.AM
theorem rise_ext:∀ {a b:List Int},a.Pairwise (·<·)→b.Pairwise (·<·)→(∀ x,x∈a↔x∈b)→a=b
 | [],[],_,_,_=>rfl
 | [],y::b,_,_,h=>absurd ((h y).2 (List.mem_cons_self ..)) (by simp)
 | x::a,[],_,_,h=>absurd ((h x).1 (List.mem_cons_self ..)) (by simp)
 | x::a,y::b,ha,hb,h=>by
  rw[List.pairwise_cons] at ha hb
  have hx:=(h x).1 (List.mem_cons_self ..)
  have hy:=(h y).2 (List.mem_cons_self ..)
  have hxy:x=y:=by
   rcases List.mem_cons.1 hx with e|hx
   ·exact e
   ·rcases List.mem_cons.1 hy with e|hy
    ·exact e.symm
    ·have h1:=hb.1 x hx
     have h2:=ha.1 y hy
     omega
  subst hxy
  congr 1
  refine rise_ext ha.2 hb.2 fun z=> ?_
  have hz:=h z
  rw[List.mem_cons,List.mem_cons] at hz
  constructor
  ·intro hza
   rcases hz.1 (.inr hza) with rfl|hzb
   ·exact absurd (ha.1 _ hza) (by omega)
   ·exact hzb
  ·intro hzb
   rcases hz.2 (.inr hzb) with rfl|hza
   ·exact absurd (hb.1 _ hzb) (by omega)
   ·exact hza
theorem upTo_succ (d:Array Int)(m:Nat):Lib.compactUpTo d (m+1)=Lib.compactUpTo d m++(if Lib.keeps d m=true then [d[m]!] else []):=by
 unfold Lib.compactUpTo
 rw[List.range_succ,List.filter_append,List.map_append]
 congr 1
 by_cases h:Lib.keeps d m=true
 ·simp[h]
 ·simp[h]
theorem upTo_rise (d:Array Int)(hs:∀ i j:Nat,i≤j→j<d.size→d[i]!≤d[j]!):∀ m,m≤d.size→
  (Lib.compactUpTo d m).Pairwise (·<·)∧(∀ x,x∈Lib.compactUpTo d m↔∃ j,j<m∧d[j]! =x)
 | 0,_=>by
  refine ⟨by simp[Lib.compactUpTo],fun x=> ?_⟩
  simp[Lib.compactUpTo]
 | m+1,hm=>by
  obtain ⟨h1,h2⟩:=upTo_rise d hs m (by omega)
  rw[upTo_succ]
  by_cases hk:Lib.keeps d m=true
  ·rw[if_pos hk]
   refine ⟨?_,fun x=> ?_⟩
   ·rw[List.pairwise_append]
    refine ⟨h1,List.pairwise_singleton _ _,fun x hx y hy=> ?_⟩
    obtain rfl:y=d[m]! :=by simpa using hy
    obtain ⟨j,hj,rfl⟩:=(h2 x).1 hx
    have h3:=hs j (m-1) (by omega) (by omega)
    have h4:=hs (m-1) m (by omega) (by omega)
    have h5:d[m]!≠d[m-1]! :=by
     intro e
     have h6:=Lib.keeps_neg (d:=d) (m:=m) (by omega) e
     rw[hk] at h6
     cases h6
    omega
   ·rw[List.mem_append,h2 x]
    constructor
    ·rintro (⟨j,hj,e⟩|hx)
     ·exact ⟨j,by omega,e⟩
     ·exact ⟨m,by omega,by simpa using (List.mem_singleton.1 hx).symm⟩
    ·rintro ⟨j,hj,e⟩
     by_cases hjm:j=m
     ·subst hjm
      exact .inr (by rw[e];exact List.mem_singleton.2 rfl)
     ·exact .inl ⟨j,by omega,e⟩
  ·rw[if_neg hk,List.append_nil]
   refine ⟨h1,fun x=> ?_⟩
   rw[h2 x]
   have hm0:0<m:=by
    rcases Nat.eq_zero_or_pos m with h0|h0
    ·exfalso
     apply hk
     exact Lib.keeps_lt_one d m (by omega)
    ·exact h0
   have he:d[m]! =d[m-1]! :=by
    by_cases e:d[m]! =d[m-1]!
    ·exact e
    ·exact absurd (Lib.keeps_pos (d:=d) (m:=m) e) hk
   constructor
   ·rintro ⟨j,hj,e⟩;exact ⟨j,by omega,e⟩
   ·rintro ⟨j,hj,e⟩
    by_cases hjm:j=m
    ·subst hjm
     exact ⟨j-1,by omega,by rw[←he];exact e⟩
    ·exact ⟨j,by omega,e⟩
theorem sortUp (l:List Int):(Lib.compact (l.mergeSort fun x y=>decide (x≤y))).Pairwise (·<·)∧∀ x,x∈Lib.compact (l.mergeSort fun x y=>decide (x≤y))↔x∈l:=by
 have hp:=List.mergeSort_perm l (fun x y=>decide (x≤y))
 have hsort:(l.mergeSort fun x y=>decide (x≤y)).Pairwise (fun x y=>decide (x≤y)=true):=List.pairwise_mergeSort (fun a b c h1 h2=>by simp at h1 h2 ⊢;omega) (fun a b=>by simp;omega) l
 generalize hz:(l.mergeSort fun x y=>decide (x≤y))=zs at hp hsort
 have get:∀ j,j<zs.length→zs.toArray[j]! =zs[j]! :=by intro j hj;simp[hj]
 have hs:∀ i j:Nat,i≤j→j<zs.toArray.size→zs.toArray[i]!≤zs.toArray[j]! :=by
  intro i j hij hj
  have hj:j<zs.length:=by simpa using hj
  rw[get i (by omega),get j hj]
  by_cases e:i=j
  ·subst e;exact Int.le_refl _
  ·have:=List.pairwise_iff_getElem.1 hsort i j (by omega) hj (by omega)
   rw[getElem!_pos zs i (by omega),getElem!_pos zs j hj]
   simpa using this
 obtain ⟨h1,h2⟩:=upTo_rise zs.toArray hs zs.length (by simp)
 refine ⟨h1,fun x=> ?_⟩
 have h3:=h2 x
 unfold Lib.compact
 rw[h3,←hp.mem_iff]
 constructor
 ·rintro ⟨j,hj,e⟩
  rw[get j hj,getElem!_pos zs j hj] at e
  exact e▸List.getElem_mem hj
 ·intro hx
  obtain ⟨j,hj,e⟩:=List.mem_iff_getElem.1 hx
  exact ⟨j,hj,by rw[get j hj,getElem!_pos zs j hj];exact e⟩
end Go.AM
set_option linter.unusedVariables false
set_option linter.unusedSimpArgs false
namespace Go.AM
mutual
def rdE (t:Int):Ex→List Int
 | .mk o n ks=>(if o=t then [n] else [])++rdL t ks
def rdL (t:Int):List Ex→List Int
 | []=>[]
 | k::ks=>rdE t k++rdL t ks
end
mutual
theorem rdE_len (t:Int):∀ e:Ex,((rdE t e).length:Int)≤cntE e
 | .mk o n ks=>by
  have:=rdL_len t ks
  simp only[rdE,cntE,List.length_append]
  split<;>simp<;>omega
theorem rdL_len (t:Int):∀ l:List Ex,((rdL t l).length:Int)≤cntL l
 | []=>by simp[rdL,cntL]
 | k::ks=>by
  have h1:=rdE_len t k
  have h2:=rdL_len t ks
  simp only[rdL,cntL,List.length_append]
  omega
end
def Xgl (t:Int)(e:Ex):List Int:=if mayE e≠0 then [] else Lib.compact ((rdE t e).mergeSort fun x y=>decide (x≤y))
end Go.AM
namespace Go.Proofs.YtpjedhbfkfobcaaGreatDoor
open Go.AM
theorem Xkl (n:Nat)(g:Nat→Nat→T):(intsR n g).length=n:=by simp[intsR]
theorem intsR_push {n:Nat}{g g':Nat→Nat→T}{v:Int}(h:∀ i,i<n→(g' i 0).int=(g i 0).int)(hv:(g' n 0).int=v):intsR (n+1) g'=intsR n g++[v]:=by
 unfold intsR
 rw[List.range_succ,List.map_append]
 congr 1
 ·exact List.map_congr_left fun i hi=>h i (List.mem_range.1 hi)
 ·simp[hv]
def pushG (n:Nat)(g:Nat→Nat→T)(v:Int):Nat→Nat→T:=fun i j=>(bif Nat.blt i n then (g i j) else (([[T.i v]]:List (List T)).getD (0+(i-n)) []).getD j (.b false))
theorem Xnr (n:Nat)(g:Nat→Nat→T)(v:Int):intsR (n+1) (pushG n g v)=intsR n g++[v]:=by
 refine intsR_push (fun i hi=> ?_) ?_
 ·unfold pushG
  rw[show Nat.blt i n=true from by rw[Nat.blt_eq];exact hi];rfl
 ·have hb:Nat.blt n n=false:=by
   cases hc:Nat.blt n n with
   | false=>rfl
   | true=>rw[Nat.blt_eq] at hc;omega
  unfold pushG
  rw[hb,Nat.sub_self];rfl
theorem readsB {h:H}{k:T}(hk:KW k){t:Int}(hc:∀ i,i<k.len→∀ o m (n0:Nat) g,(n0:Int)+cntE (.mk o m (Xab (k.el i 2)))≤100→∃ n' g',Xgu h n0 o m (k.el i 2) t g=some (lookR [(0,.i t),(1,.l n' g')])∧intsR n' g'=intsR n0 g++rdE t (.mk o m (Xab (k.el i 2)))):
  ∀ (m i:Nat),i+m=k.len→∀ (N n0:Nat) g,m<N→(n0:Int)+cntL ((Xab k).drop i)≤100→∃ n' g',Xcd.B1 h N n0 k (k.len:Int) (i:Int) g t=some (lookR [(0,.i t),(1,.l n' g')])∧intsR n' g'=intsR n0 g++rdL t ((Xab k).drop i)
 | 0,i,hi,N,n0,g,hN,hb=>by
  obtain ⟨N,rfl⟩:∃ M,N=M+1:=⟨N-1,by omega⟩
  rw[Xcd.B1_eq,List.drop_of_length_le (by rw[Xbd];omega)]
  exact ⟨n0,g,Xag (decide_eq_false (by omega)) rfl,by simp[rdL]⟩
 | m+1,i,hi,N,n0,g,hN,hb=>by
  obtain ⟨N,rfl⟩:∃ M,N=M+1:=⟨N-1,by omega⟩
  have hlen:=hk.len
  rw[Xca k i (by omega)] at hb ⊢
  simp only[cntL] at hb
  have x1:Ex.mk (k.el i 0).int (k.el i 1).int (Xab (k.el i 2))=exAt k i:=rfl
  have hcl:=Xfn ((Xab k).drop (i+1))
  obtain ⟨n1,g1,e1,e2⟩:=hc i (by omega) (k.el i 0).int (k.el i 1).int n0 g (by rw[x1];omega)
  rw[x1] at e2
  have hl1:n1=n0+(rdE t (exAt k i)).length:=by
   have:=congrArg List.length e2
   rw[Xkl,List.length_append,Xkl] at this
   exact this
  have hr:=rdE_len t (exAt k i)
  obtain ⟨n2,g2,e3,e4⟩:=readsB hk hc m (i+1) (by omega) N n1 g1 (by omega) (by omega)
  refine ⟨n2,g2,?_,by rw[e4,e2,List.append_assoc];rfl⟩
  rw[Xcd.B1_eq,Int.toNat_natCast,Xbh (a:=(i:Int)+1) (by omega) (by omega)]
  exact if_of (decide_eq_true (by omega)) (if_of (by simp;omega) (Xaj e1 e3))
theorem reads1_sp:∀ k,KW k→∀ t:Int,Ev fun N=>∀ o m (n0:Nat) g,(n0:Int)+cntE (.mk o m (Xab k))≤100→∃ n' g',Xgu (K N) n0 o m k t g=some (lookR [(0,.i t),(1,.l n' g')])∧intsR n' g'=intsR n0 g++rdE t (.mk o m (Xab k)):=by
 refine Xha fun k ih hk t=> ?_
 refine Ev.step ((Ev.all (k:=k.len) fun i hi=>ih i hi (hk.el hi) t).imp2 (Ev.ge (k.len+3)) fun N hc hN o m n0 g hb=> ?_)
 obtain ⟨N,rfl⟩:∃ M,N=M+1:=⟨N-1,by omega⟩
 have hcl:=Xfn (Xab k)
 simp only[cntE] at hb
 rw[C_expr_Reads_1_K,Xcd.B0_eq,Xcd.B0_eq]
 by_cases c:o=t
 ·obtain ⟨n',g',e1,e2⟩:=readsB (h:=K (N+1)) hk hc k.len 0 (by omega) N (n0+1) (pushG n0 g m) (by omega) (by rw[List.drop_zero];omega)
  refine ⟨n',g',if_of (by simpa using c) (if_of (decide_eq_true (by omega)) e1),?_⟩
  rw[e2,List.drop_zero,Xnr,List.append_assoc]
  simp only[rdE,if_pos c]
 ·obtain ⟨n',g',e1,e2⟩:=readsB (h:=K (N+1)) hk hc k.len 0 (by omega) N n0 g (by omega) (by rw[List.drop_zero];omega)
  refine ⟨n',g',Xag (by simpa using c) e1,?_⟩
  rw[e2,List.drop_zero]
  simp only[rdE,if_neg c,List.nil_append]
end Go.Proofs.YtpjedhbfkfobcaaGreatDoor
set_option linter.unusedVariables false
set_option linter.unusedSimpArgs false
namespace Go.AM
theorem rdE_bound {t:Int}(ht:t=3∨t=4):∀ e:Ex,Xed e=true→∀ x∈rdE t e,0≤x∧x<6
 | .mk o n ks,h,x,hx=>by
  simp only[Xed,Bool.and_eq_true] at h
  simp only[rdE,List.mem_append] at hx
  rcases hx with hx|hx
  ·split at hx
   ·rename_i ho
    obtain rfl:x=n:=by simpa using hx
    have hn:=h.1.2
    unfold Xgw at hn
    rw[if_neg (by omega),if_neg (by omega),if_pos (by omega)] at hn
    exact of_decide_eq_true hn
   ·cases hx
  ·have:∀ l:List Ex,Xhr l=true→(∀ k∈l,Xed k=true→∀ x∈rdE t k,0≤x∧x<6)→∀ x∈rdL t l,0≤x∧x<6:=by
    intro l
    induction l with
    | nil=>intro _ _ x hx;simp[rdL] at hx
    | cons k l ih=>
     intro hl hk x hx
     simp only[Xhr,Bool.and_eq_true] at hl
     simp only[rdL,List.mem_append] at hx
     rcases hx with hx|hx
     ·exact hk k (List.mem_cons_self ..) hl.1 x hx
     ·exact ih hl.2 (fun q hq=>hk q (List.mem_cons_of_mem _ hq)) x hx
   exact this ks h.2 (fun k hk hs=>rdE_bound ht k hs) x hx
end Go.AM
namespace Go.Proofs.YtpjedhbfkfobcaaGreatDoor
open Go.AM
def six (f:Int→Bool):Option R:=some (lookR [(0,.b (f 0)),(1,.b (f 1)),(2,.b (f 2)),(3,.b (f 3)),(4,.b (f 4)),(5,.b (f 5))])
def orIn (f:Int→Bool)(l:List Int):Int→Bool:=fun j=>f j||l.contains j
theorem orIn_nil (f:Int→Bool):orIn f []=f:=by funext j;simp[orIn]
theorem orIn_app (f:Int→Bool)(a b:List Int):orIn (orIn f a) b=orIn f (a++b):=by
 funext j
 simp[orIn,Bool.or_assoc]
theorem refReadsB {h:H}{k:T}(hk:KW k){t:Int}(hs:Xhr (Xab k)=true)(hc:∀ i,i<k.len→∀ o m (f:Int→Bool),Xed (.mk o m (Xab (k.el i 2)))=true→Xev h o m (k.el i 2) t (f 0) (f 1) (f 2) (f 3) (f 4) (f 5)=six (orIn f (rdE t (.mk o m (Xab (k.el i 2)))))):
  ∀ (m i:Nat),i+m=k.len→∀ N (f:Int→Bool),m<N→Xbl.B1 h N t k (k.len:Int) (i:Int) (f 0) (f 1) (f 2) (f 3) (f 4) (f 5)=six (orIn f (rdL t ((Xab k).drop i)))
 | 0,i,hi,N,f,hN=>by
  obtain ⟨N,rfl⟩:∃ M,N=M+1:=⟨N-1,by omega⟩
  rw[Xbl.B1_eq,List.drop_of_length_le (by rw[Xbd];omega)]
  simp only[rdL,orIn_nil]
  exact Xag (decide_eq_false (by omega)) rfl
 | m+1,i,hi,N,f,hN=>by
  obtain ⟨N,rfl⟩:∃ M,N=M+1:=⟨N-1,by omega⟩
  have hlen:=hk.len
  have x1:Ex.mk (k.el i 0).int (k.el i 1).int (Xab (k.el i 2))=exAt k i:=rfl
  have e1:=hc i (by omega) (k.el i 0).int (k.el i 1).int f (by rw[x1];exact Xpu hs (by omega))
  rw[x1] at e1
  have ih:=refReadsB hk hs hc m (i+1) (by omega) N (orIn f (rdE t (exAt k i))) (by omega)
  rw[Xbl.B1_eq,Xca k i (by omega),Int.toNat_natCast,Xbh (by omega) (by omega)]
  simp only[rdL]
  rw[←orIn_app]
  exact if_of (decide_eq_true (by omega)) (if_of (by simp;omega) (Xaj e1 ih))
theorem refReads1_sp {t:Int}(ht:t=3∨t=4):∀ k,KW k→Ev fun N=>∀ o m (f:Int→Bool),Xed (.mk o m (Xab k))=true→Xev (K N) o m k t (f 0) (f 1) (f 2) (f 3) (f 4) (f 5)=six (orIn f (rdE t (.mk o m (Xab k)))):=by
 refine Xha fun k ih hk=> ?_
 refine Ev.step ((Ev.all (k:=k.len) fun i hi=>ih i hi (hk.el hi)).imp2 (Ev.ge (k.len+3)) fun N hc hN o m f hs=> ?_)
 obtain ⟨N,rfl⟩:∃ M,N=M+1:=⟨N-1,by omega⟩
 have hs':=hs
 simp only[Xed,Bool.and_eq_true] at hs'
 have go:∀ f:Int→Bool,Xbl.B0 (K (N+1)) (N+1) t o m k (f 0) (f 1) (f 2) (f 3) (f 4) (f 5)=six (orIn f (rdL t (Xab k))):=by
  intro f
  rw[Xbl.B0_eq]
  have:=refReadsB (h:=K (N+1)) hk hs'.2 hc k.len 0 (by omega) N f (by omega)
  simpa using this
 rw[Xrj]
 simp only[rdE]
 rw[←orIn_app]
 by_cases c:o=t
 ·have hn:=hs'.1.2
  have hb:0≤m∧m<6:=by
   unfold Xgw at hn
   rw[if_neg (by omega),if_neg (by omega),if_pos (by omega)] at hn
   exact of_decide_eq_true hn
  rw[if_pos c]
  refine if_of (by simpa using c) ?_
  have g:=go (orIn f [m])
  have v:m=0∨m=1∨m=2∨m=3∨m=4∨m=5:=by omega
  have e:∀ j:Int,orIn f [m] j=(f j||decide (j=m)):=by intro j;simp[orIn]
  rw[e,e,e,e,e,e] at g
  rcases v with rfl|rfl|rfl|rfl|rfl|rfl<;>simp at g ⊢<;>exact g
 ·rw[if_neg c,orIn_nil]
  exact Xag (by simpa using c) (go f)
end Go.Proofs.YtpjedhbfkfobcaaGreatDoor
set_option linter.unusedVariables false
set_option linter.unusedSimpArgs false
namespace Go.Proofs.YtpjedhbfkfobcaaGreatDoor
open Go.AM
theorem intsR_of (l:List Int):intsR l.length (fun i j=>(Xgm l).el i j)=l:=by
 unfold intsR
 apply List.ext_getElem
 ·simp
 ·intro i h1 h2
  have h3:i<l.length:=h2
  simp only[List.getElem_map,List.getElem_range]
  show (T.i (l.getD i 0)).int=l[i]
  rw[List.getD_eq_getElem?_getD,List.getElem?_eq_getElem h3]
  rfl
theorem sort_call (N n:Nat)(g:Nat→Nat→T)(hn:n<4611686018427387904):Xjg (K (N+1)) n g=some (lookR [(0,Xgm ((intsR n g).mergeSort fun x y=>decide (x≤y)))]):=by
 have e:Xjg (K (N+1)) n g=sortX [.row 4000000 0 n] [(4000000,.row 3 n g)]:=by kernel_rfl
 rw[e]
 unfold sortX
 have h1:Nat.blt n 4611686018427387904=true:=by rw[Nat.blt_eq];exact hn
 simp only[h1,Nat.beq_refl,Bool.and_self,cond_true]
theorem compact_call (N p0 p1:Nat)(g:Nat→Nat→T)(h:p1=p0):Xhu (K (N+1)) p0 p1 g=some (lookR [(0,Xgm (Lib.compact (intsR p0 g)))]):=by
 subst h
 have e:Xhu (K (N+1)) p1 p1 g=Xtc [.row 4000000 0 p1] [(4000000,.row 3 p1 g)]:=by kernel_rfl
 rw[e]
 unfold Xtc
 simp only[Nat.beq_refl,Bool.and_self,cond_true]
theorem clip_call (N:Nat)(x:T):Xna (K (N+1)) x=some (lookR [(0,x)]):=by kernel_rfl
theorem Ints_of (l:List Int):Ints (T.l (Xgm l).len fun i j=>(Xgm l).el (0+i) j) l:=by
 refine ⟨rfl,fun i v hv=> ?_⟩
 show (T.i (l.getD (0+i) 0)).int=v
 rw[Nat.zero_add,List.getD_eq_getElem?_getD,hv]
 rfl
def opR (next:Bool):Int:=if next then 4 else 3
theorem Reads_sp (k:T)(hk:KW k):Ev fun N=>∀ op n next,∃ t,Xlu (K N) op n k next=some (lookR [(0,t)])∧Ints t (Xgl (opR next) (.mk op n (Xab k))):=by
 refine Ev.step (Ev.imp4 (May_sp k hk) (reads1_sp k hk 3) (reads1_sp k hk 4) (Ev.ge 5) fun N h1 h3 h4 hN op n next=> ?_)
 obtain ⟨N,rfl⟩:∃ M,N=M+1:=⟨N-1,by omega⟩
 rw[C_expr_Reads_K,h1,Xgv,Xar,int_i]
 by_cases c:mayE (.mk op n (Xab k))=0
 ·have hc:=(light_iff _).1 (Xso c).2
  have body:∀ t:Int,(∀ o m (n0:Nat) g,(n0:Int)+cntE (.mk o m (Xab k))≤100→∃ n' g',Xgu (K (N+1)) n0 o m k t g=some (lookR [(0,.i t),(1,.l n' g')])∧intsR n' g'=intsR n0 g++rdE t (.mk o m (Xab k)))→
    ∃ x,Xgt.B0 (K (N+1)) (N+1) op n k t=some (lookR [(0,x)])∧Ints x (Xgl t (.mk op n (Xab k))):=by
   intro t ht
   obtain ⟨n',g',e1,e2⟩:=ht op n 0 (fun _ _=> .b false) (by omega)
   have e2:intsR n' g'=rdE t (.mk op n (Xab k)):=e2
   have hr:=rdE_len t (.mk op n (Xab k))
   have hn':n'=(rdE t (.mk op n (Xab k))).length:=by have:=congrArg List.length e2;rwa [Xkl] at this
   have e3:=sort_call N n' g' (by omega)
   rw[e2] at e3
   have hsl:((rdE t (.mk op n (Xab k))).mergeSort fun x y=>decide (x≤y)).length=n':=by rw[List.length_mergeSort,hn']
   have e4:=compact_call N ((rdE t (.mk op n (Xab k))).mergeSort fun x y=>decide (x≤y)).length n' (fun i j=>(Xgm ((rdE t (.mk op n (Xab k))).mergeSort fun x y=>decide (x≤y))).el i j) hsl.symm
   rw[intsR_of] at e4
   refine ⟨T.l (Xgm (Lib.compact ((rdE t (.mk op n (Xab k))).mergeSort fun x y=>decide (x≤y)))).len fun i j=>(Xgm (Lib.compact ((rdE t (.mk op n (Xab k))).mergeSort fun x y=>decide (x≤y)))).el (0+i) j,?_,?_⟩
   ·rw[Xgt.B0_eq]
    exact Xaj e1 (Xaj e3 (Xaj e4 (Xaj (clip_call N _) rfl)))
   ·unfold Xgl
    rw[if_neg (by simpa using c)]
    exact Ints_of _
  cases next with
  | true=>
   obtain ⟨x,e1,e2⟩:=body 4 h4
   exact ⟨x,Xag (by simpa using c) (if_of rfl e1),e2⟩
  | false=>
   obtain ⟨x,e1,e2⟩:=body 3 h3
   exact ⟨x,Xag (by simpa using c) (Xag rfl e1),e2⟩
 ·refine ⟨noT,if_of (by simpa using c) rfl,?_⟩
  unfold Xgl
  rw[if_pos c]
  exact ⟨rfl,fun i v hv=>by simp at hv⟩
end Go.Proofs.YtpjedhbfkfobcaaGreatDoor
set_option linter.unusedVariables false
set_option linter.unusedSimpArgs false
namespace Go.Proofs.YtpjedhbfkfobcaaGreatDoor
open Go.AM
def addIf (b:Bool)(v:Int):List Int:=if b then [v] else []
theorem Xqa {h:H}{N n:Nat}{g:Nat→Nat→T}{f:Int→Bool}(hn:n≤6):∀ j:Nat,j<6→∃ n' g',Xam.B1 h (N+1+1) n (f 0) (f 1) (f 2) (f 3) (f 4) (f 5) (j:Int) g=Xam.B1 h N n' (f 0) (f 1) (f 2) (f 3) (f 4) (f 5) ((j+1:Nat):Int) g'∧intsR n' g'=intsR n g++addIf (f j) j∧n'≤n+1:=by
 have hb:decide ((n+1)*8≤140737488355328)=true:=decide_eq_true (by omega)
 have key:∀ (b:Bool) (v:Int) (X Y:Option R) (Z:Nat→(Nat→Nat→T)→Option R),(bif b then (bif decide ((n+1)*8≤140737488355328) then Z (n+1) (pushG n g v) else none) else Z n g)=X→∃ n' g',X=Z n' g'∧intsR n' g'=intsR n g++addIf b v∧n'≤n+1:=by
  intro b v X Y Z hX
  cases b with
  | true=>exact ⟨n+1,pushG n g v,by rw[←hX,hb];rfl,Xnr n g v,Nat.le_refl _⟩
  | false=>exact ⟨n,g,by rw[←hX];rfl,by simp[addIf],by omega⟩
 intro j hj
 match j,hj with
 | 0,_=>exact key (f 0) 0 _ none (fun n' g'=>Xam.B1 h N n' (f 0) (f 1) (f 2) (f 3) (f 4) (f 5) ((0+1:Nat):Int) g') (by rw[Xam.B1_eq,Xam.B2_eq,Xam.B2_eq];rfl)
 | 1,_=>exact key (f 1) 1 _ none (fun n' g'=>Xam.B1 h N n' (f 0) (f 1) (f 2) (f 3) (f 4) (f 5) ((1+1:Nat):Int) g') (by rw[Xam.B1_eq,Xam.B2_eq,Xam.B2_eq];rfl)
 | 2,_=>exact key (f 2) 2 _ none (fun n' g'=>Xam.B1 h N n' (f 0) (f 1) (f 2) (f 3) (f 4) (f 5) ((2+1:Nat):Int) g') (by rw[Xam.B1_eq,Xam.B2_eq,Xam.B2_eq];rfl)
 | 3,_=>exact key (f 3) 3 _ none (fun n' g'=>Xam.B1 h N n' (f 0) (f 1) (f 2) (f 3) (f 4) (f 5) ((3+1:Nat):Int) g') (by rw[Xam.B1_eq,Xam.B2_eq,Xam.B2_eq];rfl)
 | 4,_=>exact key (f 4) 4 _ none (fun n' g'=>Xam.B1 h N n' (f 0) (f 1) (f 2) (f 3) (f 4) (f 5) ((4+1:Nat):Int) g') (by rw[Xam.B1_eq,Xam.B2_eq,Xam.B2_eq];rfl)
 | 5,_=>exact key (f 5) 5 _ none (fun n' g'=>Xam.B1 h N n' (f 0) (f 1) (f 2) (f 3) (f 4) (f 5) ((5+1:Nat):Int) g') (by rw[Xam.B1_eq,Xam.B2_eq,Xam.B2_eq];rfl)
def marked (f:Int→Bool):List Int:=addIf (f 0) 0++addIf (f 1) 1++addIf (f 2) 2++addIf (f 3) 3++addIf (f 4) 4++addIf (f 5) 5
theorem marked_rise (f:Int→Bool):(marked f).Pairwise (·<·)∧∀ x,x∈marked f↔0≤x∧x<6∧f x=true:=by
 constructor
 ·unfold marked addIf
  cases f 0<;>cases f 1<;>cases f 2<;>cases f 3<;>cases f 4<;>cases f 5<;>decide
 ·intro x
  unfold marked addIf
  constructor
  ·intro h
   simp only[List.mem_append] at h
   rcases h with ((((h|h)|h)|h)|h)|h<;>(split at h<;>simp at h;subst h;exact ⟨by omega,by omega,by assumption⟩)
  ·rintro ⟨h1,h2,h3⟩
   have v:x=0∨x=1∨x=2∨x=3∨x=4∨x=5:=by omega
   rcases v with rfl|rfl|rfl|rfl|rfl|rfl<;>simp[h3]
theorem marked_sp {h:H}{f:Int→Bool}(N:Nat):∃ n' g',Xam.B1 h (N+13) 0 (f 0) (f 1) (f 2) (f 3) (f 4) (f 5) 0 (fun _ _=> .b false)=some (lookR [(0,.l n' g')])∧intsR n' g'=marked f:=by
 obtain ⟨n1,g1,a1,b1,c1⟩:=Xqa (h:=h) (N:=N+11) (n:=0) (g:=fun _ _=> .b false) (f:=f) (by omega) 0 (by omega)
 obtain ⟨n2,g2,a2,b2,c2⟩:=Xqa (h:=h) (N:=N+9) (n:=n1) (g:=g1) (f:=f) (by omega) 1 (by omega)
 obtain ⟨n3,g3,a3,b3,c3⟩:=Xqa (h:=h) (N:=N+7) (n:=n2) (g:=g2) (f:=f) (by omega) 2 (by omega)
 obtain ⟨n4,g4,a4,b4,c4⟩:=Xqa (h:=h) (N:=N+5) (n:=n3) (g:=g3) (f:=f) (by omega) 3 (by omega)
 obtain ⟨n5,g5,a5,b5,c5⟩:=Xqa (h:=h) (N:=N+3) (n:=n4) (g:=g4) (f:=f) (by omega) 4 (by omega)
 obtain ⟨n6,g6,a6,b6,c6⟩:=Xqa (h:=h) (N:=N+1) (n:=n5) (g:=g5) (f:=f) (by omega) 5 (by omega)
 refine ⟨n6,g6,?_,?_⟩
 ·refine Eq.trans a1 (Eq.trans a2 (Eq.trans a3 (Eq.trans a4 (Eq.trans a5 (Eq.trans a6 ?_)))))
  rw[Xam.B1_eq]
  rfl
 ·rw[b6,b5,b4,b3,b2,b1]
  have h0:intsR 0 (fun _ _=>T.b false)=[]:=rfl
  rw[h0,List.nil_append]
  rfl
end Go.Proofs.YtpjedhbfkfobcaaGreatDoor
set_option linter.unusedVariables false
set_option linter.unusedSimpArgs false
namespace Go.Proofs.YtpjedhbfkfobcaaGreatDoor
open Go.AM
theorem Ints_intsR {n:Nat}{g:Nat→Nat→T}{l:List Int}(h:intsR n g=l):Ints (T.l n g) l:=by
 subst h
 refine ⟨(Xkl n g).symm,fun i v hv=> ?_⟩
 have hi:i<n:=by
  have:=(List.getElem?_eq_some_iff.1 hv).1
  rwa [Xkl] at this
 have h2:(intsR n g)[i]? =some (g i 0).int:=by simp[intsR,hi]
 rw[h2] at hv
 exact Option.some.inj hv
theorem marked_reads {t:Int}(ht:t=3∨t=4){e:Ex}(he:mayE e=0):marked (orIn (fun _=>false) (rdE t e))=Xgl t e:=by
 unfold Xgl
 rw[if_neg (by simpa using he)]
 obtain ⟨a1,a2⟩:=marked_rise (orIn (fun _=>false) (rdE t e))
 obtain ⟨b1,b2⟩:=sortUp (rdE t e)
 refine rise_ext a1 b1 fun x=> ?_
 rw[a2,b2]
 constructor
 ·rintro ⟨_,_,h⟩
  simpa [orIn] using h
 ·intro h
  obtain ⟨h1,h2⟩:=rdE_bound ht e (Xso he).1 x h
  exact ⟨h1,h2,by simpa [orIn] using h⟩
theorem refReads_sp (k:T)(hk:KW k):Ev fun N=>∀ op n next,∃ t,Xfy (K N) op n k next=some (lookR [(0,t)])∧Ints t (Xgl (opR next) (.mk op n (Xab k))):=by
 refine Ev.step (Ev.imp4 (refMayE_sp k hk) (refReads1_sp (t:=3) (.inl rfl) k hk) (refReads1_sp (t:=4) (.inr rfl) k hk) (Ev.ge 20) fun N h1 h3 h4 hN op n next=> ?_)
 obtain ⟨N,rfl⟩:∃ M,N=M+13+1:=⟨N-14,by omega⟩
 rw[Xrk]
 by_cases c:mayE (.mk op n (Xab k))=0
 ·have body:∀ t:Int,(t=3∨t=4)→(∀ o m (f:Int→Bool),Xed (.mk o m (Xab k))=true→Xev (K (N+13+1)) o m k t (f 0) (f 1) (f 2) (f 3) (f 4) (f 5)=six (orIn f (rdE t (.mk o m (Xab k)))))→
    ∃ x,Xam.B0 (K (N+13+1)) (N+13+1) t op n k false false false false false false=some (lookR [(0,x)])∧Ints x (Xgl t (.mk op n (Xab k))):=by
   intro t ht hr
   have e1:=hr op n (fun _=>false) (Xso c).1
   obtain ⟨n',g',e2,e3⟩:=marked_sp (h:=K (N+13+1)) (f:=orIn (fun _=>false) (rdE t (.mk op n (Xab k)))) N
   rw[marked_reads ht c] at e3
   refine ⟨.l n' g',?_,Ints_intsR e3⟩
   rw[Xam.B0_eq]
   exact Xaj e1 e2
  cases next with
  | true=>
   obtain ⟨x,e1,e2⟩:=body 4 (.inr rfl) h4
   exact ⟨x,Xaj (h1 op n) (Xag (by simpa [Xar,int_i] using c) (if_of rfl e1)),e2⟩
  | false=>
   obtain ⟨x,e1,e2⟩:=body 3 (.inl rfl) h3
   exact ⟨x,Xaj (h1 op n) (Xag (by simpa [Xar,int_i] using c) (Xag rfl e1)),e2⟩
 ·refine ⟨_,Xaj (h1 op n) (if_of (by simpa [Xar,int_i] using c) rfl),?_⟩
  unfold Xgl
  rw[if_pos c]
  exact ⟨rfl,fun i v hv=>by simp at hv⟩
theorem Xmj (t:Int)(e:Ex):(Xgl t e).length≤60:=by
 unfold Xgl
 split
 ·exact Nat.zero_le _
 ·rename_i c
  have c:mayE e=0:=by simpa using c
  have h1:=compact_len ((rdE t e).mergeSort fun x y=>decide (x≤y))
  rw[List.length_mergeSort] at h1
  have h2:=rdE_len t e
  have h3:=((light_iff e).1 (Xso c).2).2
  omega
end Go.Proofs.YtpjedhbfkfobcaaGreatDoor
set_option linter.unusedVariables false
set_option linter.unusedSimpArgs false
namespace Go.AM
end Go.AM
namespace Go.Proofs.YtpjedhbfkfobcaaGreatDoor
open Go.AM
end Go.Proofs.YtpjedhbfkfobcaaGreatDoor
set_option linter.unusedVariables false
set_option linter.unusedSimpArgs false
namespace Go.Proofs.YtpjedhbfkfobcaaGreatDoor
open Go.AM
theorem refAlikeB {h:H}{k k2:T}{a b c d:Int}(hk:KW k)(hl:k.len=k2.len)(hc:∀ i,i<k.len→∀ o n p m,Xgp h o n (k.el i 2) p m (k2.el i 2)=rb (sameE (.mk o n (Xab (k.el i 2))) (.mk p m (Xab (k2.el i 2))))):
  ∀ (m i:Nat),i+m=k.len→∀ N,m<N→Xdg.B0 h N (k.len:Int) (i:Int) a b k c d k2=rb (sameL ((Xab k).drop i) ((Xab k2).drop i))
 | 0,i,hi,N,hN=>by
  obtain ⟨N,rfl⟩:∃ M,N=M+1:=⟨N-1,by omega⟩
  rw[Xdg.B0_eq,List.drop_of_length_le (by rw[Xbd];omega),List.drop_of_length_le (by rw[Xbd];omega)]
  exact Xag (decide_eq_false (by omega)) rfl
 | m+1,i,hi,N,hN=>by
  obtain ⟨N,rfl⟩:∃ M,N=M+1:=⟨N-1,by omega⟩
  have hlen:=hk.len
  have ih:=refAlikeB (h:=h) (a:=a) (b:=b) (c:=c) (d:=d) hk hl hc m (i+1) (by omega) N (by omega)
  have e1:=hc i (by omega) (k.el i 0).int (k.el i 1).int (k2.el i 0).int (k2.el i 1).int
  have x1:Ex.mk (k.el i 0).int (k.el i 1).int (Xab (k.el i 2))=exAt k i:=rfl
  have x2:Ex.mk (k2.el i 0).int (k2.el i 1).int (Xab (k2.el i 2))=exAt k2 i:=rfl
  rw[x1,x2] at e1
  rw[Xdg.B0_eq,Xca k i (by omega),Xca k2 i (by omega),Xbh (by omega) (by omega),Int.toNat_natCast]
  refine if_of (decide_eq_true (by omega)) (if_of (by simp;omega) (if_of (by simp;omega) (Xaj e1 ?_)))
  simp only[sameL]
  cases hs:sameE (exAt k i) (exAt k2 i) with
  | false=>exact if_of rfl rfl
  | true=>exact Xag rfl ih
theorem refSame1_sp:∀ k,KW k→∀ k2,KW k2→Ev fun N=>∀ o n p m,Xgp (K N) o n k p m k2=rb (sameE (.mk o n (Xab k)) (.mk p m (Xab k2))):=by
 refine Xha fun k ih hk k2 hk2=> ?_
 by_cases hl:k.len=k2.len
 ·refine Ev.step ((Ev.all (k:=k.len) fun i hi=>ih i hi (hk.el hi) (k2.el i 2) (hk2.el (by omega))).imp2 (Ev.ge (k.len+1)) fun N hc hN o n p m=> ?_)
  have hb:=refAlikeB (h:=K N) (a:=o) (b:=n) (c:=p) (d:=m) hk hl hc k.len 0 (by omega) N (by omega)
  rw[Xlr]
  simp only[sameE]
  by_cases c1:o=p
  ·by_cases c2:n=m
   ·refine Xag (by simpa using c1) (Xag (by simpa using c2) (Xag (by simp[hl]) ?_))
    rw[decide_eq_true c1,decide_eq_true c2]
    exact hb
   ·refine Xag (by simpa using c1) (if_of (by simpa using c2) ?_)
    rw[decide_eq_true c1,decide_eq_false c2]
    rfl
  ·refine if_of (by simpa using c1) ?_
   rw[decide_eq_false c1]
   rfl
 ·refine Ev.step (Ev.of fun N o n p m=> ?_)
  have hs:=sameL_len (Xab k) (Xab k2) (by rw[Xbd,Xbd];exact hl)
  rw[Xlr]
  simp only[sameE,hs,Bool.and_false]
  have hl':¬((k.len:Int)=(k2.len:Int)):=by omega
  exact Xfs (fun _=>rfl) fun _=>Xfs (fun _=>rfl) fun _=>if_of (by simpa using hl') rfl
theorem refSame_sp (k k2:T)(hk:KW k)(hk2:KW k2):Ev fun N=>∀ o n p m,Xhv (K N) o n k p m k2=rb (Xfi (.mk o n (Xab k))&&Xfi (.mk p m (Xab k2))&&sameE (.mk o n (Xab k)) (.mk p m (Xab k2))):=by
 refine Ev.step (Ev.imp3 (refFits_sp k hk) (refFits_sp k2 hk2) (refSame1_sp k hk k2 hk2) fun N h1 h2 h3 o n p m=> ?_)
 rw[Xoo]
 refine Xaj (h1 _ _) ?_
 cases c1:Xfi (.mk o n (Xab k)) with
 | false=>exact Xag rfl rfl
 | true=>
  refine if_of rfl (Xaj (h2 _ _) ?_)
  cases c2:Xfi (.mk p m (Xab k2)) with
  | false=>exact Xag rfl rfl
  | true=>exact if_of rfl (Xaj (h3 _ _ _ _) rfl)
end Go.Proofs.YtpjedhbfkfobcaaGreatDoor
