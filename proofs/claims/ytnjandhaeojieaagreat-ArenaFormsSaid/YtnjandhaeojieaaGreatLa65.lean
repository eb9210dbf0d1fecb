/- awake of the laws of games. -/
import Derived.Test.YtnjandhaeojieaaGreatLa60
set_option linter.unusedVariables false
set_option linter.unusedSimpArgs false
set_option maxRecDepth 100000
namespace Go.AM
open Go.Proofs.YtnjandhaeojieaaGreat
def bfsG (w:Vx→List Vx):Nat→Nat→List Vx→List Vx
 | 0,_,A=>A
 | k+1,i,A=>match A[i]? with
  | none=>A
  | some v=>bfsG w k (i+1) ((w v).foldl addV A)
theorem bfsG_pre {w:Vx→List Vx}:∀ {k i:Nat} {A:List Vx} {v:Vx},v∈A→v∈bfsG w k i A
 | 0,_,_,_,h=>h
 | k+1,i,A,v,h=>by
  unfold bfsG
  split
  ·exact h
  ·exact bfsG_pre (fold_mem.2 (.inl h))
theorem bfs_congr {m:Md}{w:Vx→List Vx}:∀ {k i:Nat} {A:List Vx},(∀ v∈bfsG w k i A,waysE m v=w v)→bfsE m k i A=bfsG w k i A
 | 0,_,_,_=>rfl
 | k+1,i,A,h=>by
  unfold bfsE bfsG
  unfold bfsG at h
  cases hA:A[i]? with
  | none=>rfl
  | some v=>
   rw[hA] at h
   simp only at h ⊢
   have hv:v∈A:=List.mem_of_getElem? hA
   rw[h v (bfsG_pre (fold_mem.2 (.inl hv)))]
   exact bfs_congr h
def wT (v:Vx):List Vx:=if v.1=1 then [(2,0,0),(2,0,1)] else if v.1=2 then [(3,v.2.2,0),(3,v.2.2+2,0)] else if v.1=3 then [(4,v.2.1,0),(4,v.2.1,1)] else if v.1=4 then (if v.2.2=0 then [(3,0,0)] else [(3,3,0)]) else []
def smA:List Vx:=[(1,0,0),(2,0,0),(2,0,1),(3,0,0),(3,2,0),(3,1,0),(3,3,0),(4,0,0),(4,0,1),(4,2,0),(4,2,1),(4,1,0),(4,1,1),(4,3,0),(4,3,1)]
theorem smA_eq:bfsG wT 700 0 [(1,0,0)]=smA:=by decide +kernel
theorem initSys_sm2 {p:Int}(hp:p=0∨p=1):Xft smM p=[p,p+2]:=by
 unfold Xft
 rw[if_neg (by rw[mayM_sm];decide)]
 rcases hp with rfl|rfl<;>decide +kernel
theorem env_sm2 {s:Int}(hs:s=0∨s=1∨s=2∨s=3):envE smM s=[0,1]:=by
 rcases hs with rfl|rfl|rfl|rfl
 all_goals
  unfold envE
  rw[if_neg (by rw[mayM_sm];decide),if_neg (by decide +kernel)]
  unfold allE
 ·have e:(smM.env.flatMap fun c=>Xky smM.vars c (partE smM.vars 0 true) 0 0)=[0,1]:=by decide +kernel
  rw[e,sort2 (by decide)];decide +kernel
 ·have e:(smM.env.flatMap fun c=>Xky smM.vars c (partE smM.vars 1 true) 1 1)=[0,1]:=by decide +kernel
  rw[e,sort2 (by decide)];decide +kernel
 ·have e:(smM.env.flatMap fun c=>Xky smM.vars c (partE smM.vars 2 true) 2 2)=[0,1]:=by decide +kernel
  rw[e,sort2 (by decide)];decide +kernel
 ·have e:(smM.env.flatMap fun c=>Xky smM.vars c (partE smM.vars 3 true) 3 3)=[0,1]:=by decide +kernel
  rw[e,sort2 (by decide)];decide +kernel
theorem Xrj {s p:Int}(hs:s=0∨s=1∨s=2∨s=3)(hp:p=0∨p=1):sysE smM s p=if p=0 then [0] else [3]:=by
 have key:∀ {s p x:Int},¬partE smM.vars s true<0→¬pickE smM.vars p=false→(smM.sys.flatMap fun c=>Xky smM.vars c (Xru smM.vars s p) s p)=[x]→sysE smM s p=[x]:=by
  intro s p x h1 h2 h3
  unfold sysE
  rw[if_neg (by rw[mayM_sm];decide),if_neg h1,if_neg h2]
  unfold allE
  rw[h3,List.mergeSort_singleton]
  rfl
 rcases hs with rfl|rfl|rfl|rfl<;>rcases hp with rfl|rfl<;>exact key (by decide +kernel) (by decide +kernel) (by decide +kernel)
theorem ways_sm:∀ v∈smA,waysE smM v=wT v:=by
 have s0:(0:Int)=0∨(0:Int)=1∨(0:Int)=2∨(0:Int)=3:=by decide
 have s1:(1:Int)=0∨(1:Int)=1∨(1:Int)=2∨(1:Int)=3:=by decide
 have s2:(2:Int)=0∨(2:Int)=1∨(2:Int)=2∨(2:Int)=3:=by decide
 have s3:(3:Int)=0∨(3:Int)=1∨(3:Int)=2∨(3:Int)=3:=by decide
 have p0:(0:Int)=0∨(0:Int)=1:=by decide
 have p1:(1:Int)=0∨(1:Int)=1:=by decide
 intro v hv
 simp only[smA,List.mem_cons,List.not_mem_nil,or_false] at hv
 rcases hv with rfl|rfl|rfl|rfl|rfl|rfl|rfl|rfl|rfl|rfl|rfl|rfl|rfl|rfl|rfl<;>simp only[waysE,wT]<;>
  simp[initEnv_sm,initSys_sm2 p0,initSys_sm2 p1,env_sm2 s0,env_sm2 s1,env_sm2 s2,env_sm2 s3,Xrj s0 p0,Xrj s0 p1,Xrj s1 p0,Xrj s1 p1,Xrj s2 p0,Xrj s2 p1,Xrj s3 p0,Xrj s3 p1]
theorem at_sm:atE smM=smA:=by
 unfold atE
 rw[bfs_congr (w:=wT) (by rw[smA_eq];exact ways_sm),smA_eq]
end Go.AM
namespace Go.Proofs.YtnjandhaeojieaaGreat
open Go.AM
theorem small10_sp (n:Nat):Xlf (K (n+2))=some sm6R:=by
 rw[Xtr]
 have e:Xgx (K (n+1))=some (lookR [(0,.i 2),(1,.i 1),(2,noT)]):=by rw[Xwv]
 exact Xag e (Xag e (Xag e (Xag e rfl)))
theorem awake10_sp:Ev fun N=>Xey (K N)=rb true:=by
 have s7:KC s6E:=KC_one rfl Xwg (KS_one rfl Xwg)
 have s8:KC s6S:=KC_one rfl Xwg (KS_one rfl Xwg)
 have hl:s6V.len≤9223372036854775807:=by show 2≤_;omega
 have hT:prodV smM.vars≤24:=by
  show prodV smV≤24
  decide +kernel
 have hb:=Build_sp s6V noT noT s6E s6S noT noT noT hl Xwg Xwg s7 s8 Xwg Xwg Xwg 2 1 2 1 (m:=smM) rfl mayM_sm hT
 refine Ev.step (Ev.imp (Ev.and hb (Ev.ge 5)) fun N hh=> ?_)
 obtain ⟨h1,hN⟩:=hh
 obtain ⟨N,rfl⟩:∃ M,N=M+2:=⟨N-2,by omega⟩
 obtain ⟨L,no,go,nN,gN,nA,gA,e,hI,hv,ho,hr⟩:=h1
 rw[at_sm] at hI hv ho
 have s:=small10_sp N
 have l1:nA=15:=hv.1
 have l2:no=15:=by have:=ho.1;exact this
 have l3:nN=15:=by rw[hr.1,hI.len];rfl
 have d0:=(hI.done 0 (1,0,0) (by decide) rfl).2
 have q0:=hr.2 0 _ d0
 have q1:(gN 0 0).len=2:=by
  rw[q0.1]
  unfold nextE
  rw[List.length_mergeSort,List.length_map,ways_sm (1,0,0) (by simp[smA])]
  rfl
 have q2:(gA 0 0).int=1:=(hv.2 0 (1,0,0) rfl).1
 have q3:(go 1 0).int=1:=ho.2 1 1 rfl
 rw[Xts]
 refine Xag s (Xag e ?_)
 subst l1 l2 l3
 show (bif ((0:Int)==0) then (bif (((15:Nat):Int)==15) then (bif (((15:Nat):Int)==15) then (bif (((15:Nat):Int)==15) then (bif decide ((0:Int)<((15:Nat):Int)) then (bif ((gA 0 0).int==1) then (bif decide ((0:Int)<((15:Nat):Int)) then (bif ((((gN 0 0).len:Nat):Int)==2) then (bif decide ((1:Int)<((15:Nat):Int)) then some (lookR [(0,T.b ((go 1 0).int==1))]) else none) else _) else none) else _) else none) else _) else _) else _) else _)=_
 rw[q1,q2,q3]
 rfl
end Go.Proofs.YtnjandhaeojieaaGreat
