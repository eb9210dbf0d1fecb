/- The laws' own small values, and what every program must know. -/
import Derived.Test.YtpjedhbfkfobcaaGreatDoorSp7
import Derived.Test.YtpjedhbfkfobcaaGreatDoorTop0
set_option linter.unusedVariables false
set_option linter.unusedSimpArgs false
namespace Go.Proofs.YtpjedhbfkfobcaaGreatDoor
open Go.AM
theorem Xaj {α β:Type}{x:Option α}{r:α}{f:α→Option β}{y:Option β}(h:x=some r)(k:f r=y):x.bind f=y:=by rw[h];exact k
theorem if_of {α:Type}{c:Bool}{x y z:α}(h:c=true)(k:x=z):(bif c then x else y)=z:=by rw[h];exact k
theorem Xag {α:Type}{c:Bool}{x y z:α}(h:c=false)(k:y=z):(bif c then x else y)=z:=by rw[h];exact k
theorem Xmy:KW noT:=⟨by omega,fun i hi=>absurd hi (Nat.not_lt_zero _)⟩
theorem kidsOf_noT:Xab noT=[]:=rfl
def xyV:List Va:=[⟨⟨#[120]⟩,true,1,0,0⟩,⟨⟨#[121]⟩,false,2,1,3⟩]
theorem v1:valueE xyV (.mk 12 0 [.mk 1 2 [],.mk 3 1 []]) 5 0=(5,0):=by decide +kernel
theorem v2:valueE xyV (.mk 12 0 [.mk 1 1000 [],.mk 1 1 []]) 0 0=(0,6):=by decide +kernel
theorem v3:trueE xyV (.mk 10 0 [.mk 1 1 [],.mk 1 2 []]) 0 0=true:=by decide +kernel
end Go.Proofs.YtpjedhbfkfobcaaGreatDoor
set_option linter.unusedVariables false
set_option linter.unusedSimpArgs false
namespace Go.Proofs.YtpjedhbfkfobcaaGreatDoor
open Go.AM
end Go.Proofs.YtpjedhbfkfobcaaGreatDoor
set_option linter.unusedVariables false
set_option linter.unusedSimpArgs false
namespace Go.Proofs.YtpjedhbfkfobcaaGreatDoor
open Go.AM
theorem refWord {h:H}{N:Nat}{s a0 a1 a2 a3 a4 a5 a6 a7 a8 a9 b0 b1 b2 b3 b4 b5 b6 b7:ByteArray}:∀ i:Nat,i<18→
  Xad.B2 h (N+2) s a0 a1 a2 a3 a4 a5 a6 a7 a8 a9 b0 b1 b2 b3 b4 b5 b6 b7 (i:Int)=bif strEq s ([a0,a1,a2,a3,a4,a5,a6,a7,a8,a9,b0,b1,b2,b3,b4,b5,b6,b7].getD i ByteArray.empty) then some (lookR [(0,.b false)]) else Xad.B2 h N s a0 a1 a2 a3 a4 a5 a6 a7 a8 a9 b0 b1 b2 b3 b4 b5 b6 b7 ((i+1:Nat):Int)
 | 0,_=>by rw[Xad.B2_eq,Xad.B3_eq];rfl
 | 1,_=>by rw[Xad.B2_eq,Xad.B3_eq];rfl
 | 2,_=>by rw[Xad.B2_eq,Xad.B3_eq];rfl
 | 3,_=>by rw[Xad.B2_eq,Xad.B3_eq];rfl
 | 4,_=>by rw[Xad.B2_eq,Xad.B3_eq];rfl
 | 5,_=>by rw[Xad.B2_eq,Xad.B3_eq];rfl
 | 6,_=>by rw[Xad.B2_eq,Xad.B3_eq];rfl
 | 7,_=>by rw[Xad.B2_eq,Xad.B3_eq];rfl
 | 8,_=>by rw[Xad.B2_eq,Xad.B3_eq];rfl
 | 9,_=>by rw[Xad.B2_eq,Xad.B3_eq];rfl
 | 10,_=>by rw[Xad.B2_eq,Xad.B3_eq];rfl
 | 11,_=>by rw[Xad.B2_eq,Xad.B3_eq];rfl
 | 12,_=>by rw[Xad.B2_eq,Xad.B3_eq];rfl
 | 13,_=>by rw[Xad.B2_eq,Xad.B3_eq];rfl
 | 14,_=>by rw[Xad.B2_eq,Xad.B3_eq];rfl
 | 15,_=>by rw[Xad.B2_eq,Xad.B3_eq];rfl
 | 16,_=>by rw[Xad.B2_eq,Xad.B3_eq];rfl
 | 17,_=>by rw[Xad.B2_eq,Xad.B3_eq];rfl
 | n+18,h=>absurd h (by omega)
theorem refWords {h:H}{s a0 a1 a2 a3 a4 a5 a6 a7 a8 a9 b0 b1 b2 b3 b4 b5 b6 b7:ByteArray}:∀ m i:Nat,i+m=18→∀ N,2*m<N→
  Xad.B2 h N s a0 a1 a2 a3 a4 a5 a6 a7 a8 a9 b0 b1 b2 b3 b4 b5 b6 b7 (i:Int)=rb !(([a0,a1,a2,a3,a4,a5,a6,a7,a8,a9,b0,b1,b2,b3,b4,b5,b6,b7].drop i).any fun w=>strEq s w)
 | 0,i,hi,N,hN=>by
  obtain ⟨N,rfl⟩:∃ M,N=M+1:=⟨N-1,by omega⟩
  obtain rfl:i=18:=by omega
  rw[Xad.B2_eq]
  rfl
 | m+1,i,hi,N,hN=>by
  obtain ⟨N,rfl⟩:∃ M,N=M+2:=⟨N-2,by omega⟩
  have hlt:i<([a0,a1,a2,a3,a4,a5,a6,a7,a8,a9,b0,b1,b2,b3,b4,b5,b6,b7]:List ByteArray).length:=by show i<18;omega
  rw[refWord i (by omega),refWords m (i+1) (by omega) N (by omega),List.drop_eq_getElem_cons hlt,List.any_cons,List.getD_eq_getElem?_getD,List.getElem?_eq_getElem hlt,Option.getD_some]
  generalize strEq s _=b
  cases b<;>rfl
theorem refChars {h:H}{s:ByteArray}(hs:s.size≤16)(h0:Xhy 0 (bt s 0)=true):∀ (m i:Nat),i+m=s.size→∀ N,2*m+40<N→Xad.B0 h N s (s.size:Int) (i:Int)=rb (Xee s i m&& !wordE s)
 | 0,i,hi,N,hN=>by
  obtain ⟨N,rfl⟩:∃ M,N=M+1:=⟨N-1,by omega⟩
  rw[Xad.B0_eq]
  refine Xag (decide_eq_false (by omega)) ((refWords (h:=h) 18 0 (by omega) N (by omega)).trans ?_)
  simp only[Xee,Bool.true_and]
  rw[List.drop_zero]
  unfold wordE words
  rfl
 | m+1,i,hi,N,hN=>by
  obtain ⟨N,rfl⟩:∃ M,N=M+2:=⟨N-2,by omega⟩
  have ih:=refChars (h:=h) hs h0 m (i+1) (by omega) N (by omega)
  rw[Xad.B0_eq,Xad.B1_eq,Xbh (by omega) (by omega)]
  have ih':Xad.B0 h N s (s.size:Int) ((i:Int)+1)=rb (Xee s (i+1) m&& !wordE s):=ih
  rw[ih',Int.toNat_natCast]
  simp only[Bool.cond_eq_ite,decide_eq_true_eq,Bool.and_eq_true,beq_iff_eq,bne_iff_ne,ne_eq,Xee]
  rw[if_pos (by omega),if_pos (by omega)]
  have hi0:i=0→97≤bt s i∧bt s i≤122:=by
   intro hi;subst hi
   unfold Xhy at h0
   simp at h0
   exact h0
  revert hi0
  generalize bt s i=c
  intro hi0
  have e:∀ b:Bool,Xhy i c=b→(Xhy i c&&Xee s (i+1) m&& !wordE s)=(b&&(Xee s (i+1) m&& !wordE s)):=fun b hb=>by rw[hb,Bool.and_assoc]
  have yes:Xhy i c=true↔(97≤c∧c≤122∨0<i∧(48≤c∧c≤57∨c=95)):=by unfold Xhy;simp
  have no:Xhy i c=false↔¬(97≤c∧c≤122∨0<i∧(48≤c∧c≤57∨c=95)):=by rw[←yes];simp
  repeat' split
  all_goals first
   | (rw[e true (yes.2 (by omega))];rfl)
   | (rw[e false (no.2 (by omega))];rfl)
theorem refName_sp:Ev fun N=>∀ s,Xia (K N) s=rb (nameE s):=by
 refine Ev.step ((Ev.ge 100).imp fun N hN s=> ?_)
 rw[Xtp]
 unfold nameE
 by_cases h1:(s.size:Int)<1
 ·refine if_of (decide_eq_true h1) ?_
  have:decide (1≤s.size∧s.size≤16)=false:=by simp;omega
  rw[this];rfl
 ·refine Xag (decide_eq_false h1) ?_
  by_cases h2:(s.size:Int)>16
  ·refine if_of (decide_eq_true h2) ?_
   have:decide (1≤s.size∧s.size≤16)=false:=by simp;omega
   rw[this];rfl
  ·refine Xag (decide_eq_false h2) (if_of (decide_eq_true (by omega)) ?_)
   have h3:decide (1≤s.size∧s.size≤16)=true:=by simp;omega
   rw[h3,Bool.true_and]
   obtain ⟨m,hm⟩:∃ m,s.size=m+1:=⟨s.size-1,by omega⟩
   have first:Xhy 0 (bt s 0)=false→Xee s 0 s.size=false:=by intro h;rw[hm];unfold Xee;rw[h];rfl
   by_cases c1:bt s 0<97
   ·refine if_of (decide_eq_true c1) ?_
    rw[first (by unfold Xhy;simp;omega),Bool.and_false];rfl
   ·refine Xag (decide_eq_false c1) (if_of (decide_eq_true (by omega)) ?_)
    by_cases c2:bt s 0>122
    ·refine if_of (decide_eq_true c2) ?_
     rw[first (by unfold Xhy;simp;omega),Bool.and_false];rfl
    ·refine Xag (decide_eq_false c2) ?_
     have:=refChars (h:=K N) (s:=s) (by omega) (by unfold Xhy;simp;omega) s.size 0 (by omega) N (by omega)
     rw[Bool.and_comm]
     exact this
theorem refSize_sp:Ev fun N=>∀ a b x y z,Xdt (K N) a b x y z=ri (sizeV ⟨a,b,x,y,z⟩):=by
 refine ⟨2,fun N hN a b x y z=> ?_⟩
 obtain ⟨N,rfl⟩:∃ M,N=M+2:=⟨N-2,by omega⟩
 rw[Xto,Xdp.B0_eq]
 unfold sizeV
 simp only[Bool.cond_eq_ite,decide_eq_true_eq,beq_iff_eq]
 repeat' split
 all_goals first
  | rfl
  | (exfalso;omega)
  | (show ri _=ri _;congr 1;rw[Xbh (a:=z-y) (by omega) (by omega),Xbh (by omega) (by omega)])
theorem refFindB {h:H}{l:T}(hl:l.len≤9223372036854775807)(s:ByteArray):∀ (m i:Nat),i+m=l.len→∀ M,m<M→Xdh.B0 h M s l (l.len:Int) (i:Int)=ri (Xhp s ((Xaa l).drop i) i)
 | 0,i,hi,M,hM=>by
  obtain ⟨M,rfl⟩:∃ M',M=M'+1:=⟨M-1,by omega⟩
  rw[Xdh.B0_eq]
  unfold Xaa
  rw[Xjo _ (by omega)]
  exact Xag (decide_eq_false (by omega)) rfl
 | m+1,i,hi,M,hM=>by
  obtain ⟨M,rfl⟩:∃ M',M=M'+1:=⟨M-1,by omega⟩
  have hlt:i<l.len:=by omega
  have ih:=refFindB (h:=h) hl s m (i+1) (by omega) M (by omega)
  unfold Xaa at ih ⊢
  rw[Xdh.B0_eq,Xdy _ hlt]
  simp only[Bool.cond_eq_ite,decide_eq_true_eq,Bool.and_eq_true,Xhp]
  rw[if_pos (by omega),if_pos (by omega),Int.toNat_natCast,Xbh (by omega) (by omega)]
  show (if strEq (vaAt l i).name s=true then _ else _)=_
  split
  ·rfl
  ·exact ih
theorem refFind_sp (l:T)(hl:l.len≤9223372036854775807):Ev fun N=>∀ s,Xfh (K N) l s=ri (findE (Xaa l) s):=by
 refine Ev.step ((Ev.ge (l.len+1)).imp fun N hN s=> ?_)
 rw[Xtr]
 exact refFindB hl s l.len 0 (by omega) N (by omega)
end Go.Proofs.YtpjedhbfkfobcaaGreatDoor
set_option linter.unusedVariables false
set_option linter.unusedSimpArgs false
namespace Go.Proofs.YtpjedhbfkfobcaaGreatDoor
open Go.AM
def Xhz:List Va→Int→Int
 | [],n=>n
 | v::r,n=>Xhz r (if 513<n*sizeV v then 513 else n*sizeV v)
theorem Xox:∀ (l:List Va),(∀ v∈l,0<sizeV v)→Xhz l 513=513
 | [],_=>rfl
 | v::r,h=>by
  have h1:=h v (List.mem_cons_self ..)
  simp only[Xhz]
  have h2:(513:Int)*sizeV v=513∨513<513*sizeV v:=by omega
  rcases h2 with h2|h2
  ·rw[h2,if_neg (by omega)];exact Xox r fun v hv=>h v (List.mem_cons_of_mem _ hv)
  ·rw[if_pos h2];exact Xox r fun v hv=>h v (List.mem_cons_of_mem _ hv)
theorem sizeV_pos {v:Va}(h:Xdu v=0):0<sizeV v:=by
 have hr:=(Xnh v).1
 have h2:sizeV v≠0:=by
  intro h0
  unfold Xdu at h
  split at h
  ·cases h
  ·rename_i h3
   split at h
   ·cases h
   ·rename_i h4
    have h5:v.sort=1∨v.sort=2:=by omega
    rcases h5 with h5|h5
    ·unfold sizeV at h0
     rw[if_pos h5] at h0
     cases h0
    ·exact h4 (.inr ⟨h5,h0⟩)
 omega
theorem prod_total:∀ (l:List Va) (n:Int),0<n→n≤512→(∀ v∈l,Xdu v=0)→(Xhz l n=513∧Xio l n=0)∨(Xhz l n≤512∧0<Xhz l n∧Xio l n=Xhz l n)
 | [],n,h0,h1,_=> .inr ⟨h1,h0,rfl⟩
 | v::r,n,h0,h1,h=>by
  have hv:=h v (List.mem_cons_self ..)
  have hp:=sizeV_pos hv
  have hr:∀ w∈r,Xdu w=0:=fun w hw=>h w (List.mem_cons_of_mem _ hw)
  have hm:0<n*sizeV v:=Int.mul_pos h0 hp
  simp only[Xhz,Xio,hv,ne_eq,not_true_eq_false,if_false]
  by_cases c:512<n*sizeV v
  ·rw[if_pos c]
   refine .inl ⟨?_,rfl⟩
   have e:(if 513<n*sizeV v then (513:Int) else n*sizeV v)=513:=by split<;>omega
   rw[e]
   exact Xox r fun w hw=>sizeV_pos (hr w hw)
  ·rw[if_neg c,if_neg (by omega)]
   exact prod_total r _ hm (by omega) hr
theorem refProdB {h:H}{l:T}(hl:l.len≤9223372036854775807)(hz:∀ a b x y z,Xdt h a b x y z=ri (sizeV ⟨a,b,x,y,z⟩)):
  ∀ (m i:Nat),i+m=l.len→∀ N n,m<N→0≤n→n≤513→Xce.B0 h N n l (l.len:Int) (i:Int)=ri (Xhz ((Xaa l).drop i) n)
 | 0,i,hi,N,n,hN,h0,h1=>by
  obtain ⟨N,rfl⟩:∃ M,N=M+1:=⟨N-1,by omega⟩
  rw[Xce.B0_eq]
  unfold Xaa
  rw[Xjo _ (by omega)]
  exact Xag (decide_eq_false (by omega)) rfl
 | m+1,i,hi,N,n,hN,h0,h1=>by
  obtain ⟨N,rfl⟩:∃ M,N=M+1:=⟨N-1,by omega⟩
  have hlt:i<l.len:=by omega
  have hr:=Xnh (vaAt l i)
  have hm0:0≤n*sizeV (vaAt l i):=Int.mul_nonneg h0 hr.1
  have hm1:n*sizeV (vaAt l i)≤513*2001:=Int.le_trans (Int.mul_le_mul_of_nonneg_left hr.2 h0) (Int.mul_le_mul_of_nonneg_right h1 (by omega))
  have e:(Xaa l).drop i=vaAt l i::(Xaa l).drop (i+1):=by unfold Xaa;exact Xdy _ hlt
  have e1:(⟨(l.el (i:Int).toNat 0).str,(l.el (i:Int).toNat 1).bool,(l.el (i:Int).toNat 2).int,(l.el (i:Int).toNat 3).int,(l.el (i:Int).toNat 4).int⟩:Va)=vaAt l i:=by rw[Int.toNat_natCast];rfl
  rw[Xce.B0_eq,hz,Xgv,Xar,int_i,e,e1]
  simp only[Bool.cond_eq_ite,decide_eq_true_eq,Bool.and_eq_true,Xhz]
  rw[if_pos (by omega),if_pos (by omega),Xbh (a:=(i:Int)+1) (by omega) (by omega),Xbh (a:=n*sizeV (vaAt l i)) (by omega) (by omega)]
  exact refProdB hl hz m (i+1) (by omega) N _ (by omega) (by split<;>omega) (by split<;>omega)
theorem refProd_sp (l:T)(hl:l.len≤9223372036854775807):Ev fun N=>Xgh (K N) l=ri (Xhz (Xaa l) 1):=by
 refine Ev.step (Ev.imp2 refSize_sp (Ev.ge (l.len+1)) fun N hz hN=> ?_)
 rw[Xpn]
 exact refProdB hl hz l.len 0 (by omega) N 1 (by omega) (by omega) (by omega)
def preT (l:T)(i:Nat):T:=T.l i fun a c=>l.el (0+a) c
theorem varsOf_pre {l:T}{i:Nat}(hi:i≤l.len):Xaa (preT l i)=(Xaa l).take i:=by
 unfold Xaa
 rw[←List.map_take,List.take_range,Nat.min_eq_left hi]
 refine List.map_congr_left fun j hj=> ?_
 show Va.mk ((l.el (0+j) 0).str) ((l.el (0+j) 1).bool) ((l.el (0+j) 2).int) ((l.el (0+j) 3).int) ((l.el (0+j) 4).int)=_
 rw[Nat.zero_add];rfl
theorem Xpf:∀ (l:List Va) (s:ByteArray) (k:Int),0≤k→(0≤Xhp s l k↔l.any (fun v=>strEq v.name s)=true)
 | [],s,k,hk=>by simp[Xhp]
 | v::r,s,k,hk=>by
  simp only[Xhp,List.any_cons,Bool.or_eq_true]
  split
  ·rename_i h;simp[h,hk]
  ·rename_i h;rw[Xpf r s (k+1) (by omega)];simp[h]
theorem Xpg:∀ (a:List Va) (v:Va) (r:List Va) (s:ByteArray) (k:Int),strEq v.name s=true→(Xhp s (a++v::r) k<k+a.length↔a.any (fun w=>strEq w.name s)=true)
 | [],v,r,s,k,h=>by simp[Xhp,h]
 | w::a,v,r,s,k,h=>by
  simp only[List.cons_append,Xhp,List.any_cons,Bool.or_eq_true,List.length_cons]
  split
  ·rename_i h1;simp[h1];omega
  ·rename_i h1
   have:=Xpg a v r s (k+1) h
   rw[show k+((a.length+1:Nat):Int)=k+1+a.length by omega,this]
   simp[h1]
theorem strEq_self (s:ByteArray):strEq s s=true:=by unfold strEq;exact beq_self_eq_true _
theorem find_ahead {l:T}{i:Nat}(hi:i<l.len):findE (Xaa l) (vaAt l i).name<(i:Int)↔((Xaa l).take i).any (fun w=>strEq w.name (vaAt l i).name)=true:=by
 have e:Xaa l=(Xaa l).take i++vaAt l i::(Xaa l).drop (i+1):=by
  have e:(Xaa l).drop i=vaAt l i::(Xaa l).drop (i+1):=by unfold Xaa;exact Xdy _ hi
  rw[←e,List.take_append_drop]
 have:=Xpg ((Xaa l).take i) (vaAt l i) ((Xaa l).drop (i+1)) (vaAt l i).name 0 (strEq_self _)
 rw[←e] at this
 rw[List.length_take,Xcc,Nat.min_eq_left (by omega),Int.zero_add] at this
 exact this
theorem refSameB {h:H}{l q:T}{n i:Int}{g:T}{s:ByteArray}{b:Bool}{x y z:Int}(hg:g.len≤9223372036854775807):∀ (m j:Nat),j+m=g.len→∀ N,m<N→
  ∃ M,N≤M+m+1∧Xaf.B2 h N l q n i g (g.len:Int) (j:Int) s b x y z=if ((Xaa g).drop j).any (fun w=>strEq w.name s)=true then ri 3 else Xaf.B3 h M l q n i s b x y z
 | 0,j,hj,N,hN=>by
  obtain ⟨N,rfl⟩:∃ M,N=M+1:=⟨N-1,by omega⟩
  refine ⟨N,by omega,?_⟩
  rw[Xaf.B2_eq]
  unfold Xaa
  rw[Xjo _ (by omega)]
  exact Xag (decide_eq_false (by omega)) rfl
 | m+1,j,hj,N,hN=>by
  obtain ⟨N,rfl⟩:∃ M,N=M+1:=⟨N-1,by omega⟩
  have hlt:j<g.len:=by omega
  obtain ⟨M,hM,ih⟩:=refSameB (h:=h) (l:=l) (q:=q) (n:=n) (i:=i) (s:=s) (b:=b) (x:=x) (y:=y) (z:=z) hg m (j+1) (by omega) N (by omega)
  have e:(Xaa g).drop j=vaAt g j::(Xaa g).drop (j+1):=by unfold Xaa;exact Xdy _ hlt
  rw[Xaf.B2_eq,e]
  simp only[Bool.cond_eq_ite,decide_eq_true_eq,Bool.and_eq_true,List.any_cons,Bool.or_eq_true]
  rw[if_pos (by omega),if_pos (by omega),Int.toNat_natCast,Xbh (by omega) (by omega)]
  have e2:strEq (g.el j 0).str s=strEq (vaAt g j).name s:=rfl
  rw[e2]
  cases c:strEq (vaAt g j).name s with
  | true=>exact ⟨N,by omega,by simp[ri]⟩
  | false=>exact ⟨M,by omega,by rw[if_neg (by simp)];simp only[Bool.false_eq_true,false_or];exact ih⟩
theorem refMayB {h:H}{l:T}(hl:l.len≤9223372036854775807)(hn:∀ s,Xia h s=rb (nameE s))(hf:∀ i,i≤l.len→∀ s,Xfh h (preT l i) s=ri (findE (Xaa (preT l i)) s))(hz:∀ a b x y z,Xdt h a b x y z=ri (sizeV ⟨a,b,x,y,z⟩))(hp:Xgh h l=ri (Xhz (Xaa l) 1)):
  ∀ (m i:Nat),i+m=l.len→(∀ v∈(Xaa l).take i,Xdu v=0)→∀ N,m*(l.len+5)<N→Xaf.B0 h N l l (l.len:Int) (i:Int)=ri (Xgd (Xaa l) ((Xaa l).drop i) i)
 | 0,i,hi,hso,N,hN=>by
  obtain ⟨N,rfl⟩:∃ M,N=M+1:=⟨N-1,by omega⟩
  have e:(Xaa l).drop i=[]:=by unfold Xaa;exact Xjo _ (by omega)
  rw[List.take_of_length_le (by rw[Xcc];omega)] at hso
  rw[Xaf.B0_eq,e,hp,Xgv,Xar,int_i]
  simp only[Xgd]
  refine Xag (decide_eq_false (by omega)) ?_
  unfold Xlc
  rw[Xcc]
  by_cases c:(l.len:Int)>6
  ·refine if_of (decide_eq_true c) ?_
   rw[if_pos (show 6<(l.len:Int) by omega),if_pos rfl];rfl
  ·refine Xag (decide_eq_false c) ?_
   rw[if_neg (show ¬6<(l.len:Int) by omega)]
   rcases prod_total (Xaa l) 1 (by omega) (by omega) hso with ⟨h1,h2⟩|⟨h1,h2,h3⟩
   ·rw[h1,h2];rfl
   ·rw[h3,if_neg (by omega)];exact Xag (decide_eq_false (by omega)) rfl
 | m+1,i,hi,hso,N,hN=>by
  rw[Nat.succ_mul] at hN
  obtain ⟨N,rfl⟩:∃ M,N=M+1:=⟨N-1,by omega⟩
  have hlt:i<l.len:=by omega
  have e:(Xaa l).drop i=vaAt l i::(Xaa l).drop (i+1):=by unfold Xaa;exact Xdy _ hlt
  have e2:(l.el i 0).str=(vaAt l i).name:=rfl
  have rest:∀ M,m*(l.len+5)+3<M→Xaf.B3 h M l l (l.len:Int) (i:Int) (l.el i 0).str (l.el i 1).bool (l.el i 2).int (l.el i 3).int (l.el i 4).int=ri (if Xdu (vaAt l i)≠0 then Xdu (vaAt l i) else Xgd (Xaa l) ((Xaa l).drop (i+1)) (i+1)):=by
   intro M hM
   obtain ⟨M,rfl⟩:∃ M',M=M'+2:=⟨M-2,by omega⟩
   have e1:sizeV ⟨(l.el i 0).str,(l.el i 1).bool,(l.el i 2).int,(l.el i 3).int,(l.el i 4).int⟩=sizeV (vaAt l i):=rfl
   have go:Xdu (vaAt l i)=0→Xaf.B0 h M l l (l.len:Int) (IntKind.wrap .i64 ((i:Int)+1))=ri (Xgd (Xaa l) ((Xaa l).drop (i+1)) (i+1)):=by
    intro h0
    rw[Xbh (by omega) (by omega)]
    have hso':∀ v∈(Xaa l).take (i+1),Xdu v=0:=by
     intro v hv
     rw[List.take_add_one,Xfd l hlt] at hv
     rcases List.mem_append.1 hv with hv|hv
     ·exact hso v hv
     ·obtain rfl:v=vaAt l i:=by simpa using hv
      exact h0
    have:=refMayB hl hn hf hz hp m (i+1) (by omega) hso' M (by omega)
    exact this
   rw[Xaf.B3_eq]
   simp only[hz,Xgv,Xar,int_i,Xaf.B4_eq,e1]
   have s1:(vaAt l i).sort=(l.el i 2).int:=rfl
   have s2:(vaAt l i).lo=(l.el i 3).int:=rfl
   have s3:(vaAt l i).hi=(l.el i 4).int:=rfl
   have hs:Xdu (vaAt l i)=if (l.el i 2).int≠1∧(l.el i 2).int≠2 then 4 else if (l.el i 2).int=1∧((l.el i 3).int≠0∨(l.el i 4).int≠0)∨(l.el i 2).int=2∧sizeV (vaAt l i)=0 then 6 else 0:=rfl
   have hz1:(l.el i 2).int=1→sizeV (vaAt l i)=2:=fun h1=>by unfold sizeV;rw[s1,if_pos h1]
   generalize sizeV (vaAt l i)=q at *
   generalize (l.el i 2).int=x at *
   generalize (l.el i 3).int=y at *
   generalize (l.el i 4).int=z at *
   generalize Xdu (vaAt l i)=w at *
   generalize Xaf.B0 h M l l (l.len:Int) (IntKind.wrap .i64 ((i:Int)+1))=g at *
   simp only[Bool.cond_eq_ite,bne_iff_ne,ne_eq,beq_iff_eq,ite_not]
   by_cases c1:x=1
   ·have:=hz1 c1
    subst c1
    by_cases c2:y=0
    ·by_cases c3:z=0
     ·have hw:w=0:=by rw[hs];simp[c2,c3]
      simp[c2,c3,this,hw,go hw]
     ·have hw:w=6:=by rw[hs];simp[c2,c3]
      simp[c2,c3,this,hw];rfl
    ·have hw:w=6:=by rw[hs];simp[c2]
     simp[c2,this,hw];rfl
   ·by_cases c2:x=2
    ·subst c2
     by_cases c3:q=0
     ·have hw:w=6:=by rw[hs];simp[c3]
      simp[c3,hw];rfl
     ·have hw:w=0:=by rw[hs];simp[c3]
      simp[c3,hw,go hw]
    ·have hw:w=4:=by rw[hs];simp[c1,c2]
     simp[c1,c2,hw];rfl
  rw[Xaf.B0_eq,e,hn,Xlv,Xar,Xmw,Int.toNat_natCast,e2]
  simp only[Xgd]
  refine if_of (decide_eq_true (by omega)) (if_of (by simp;omega) ?_)
  cases c1:nameE (vaAt l i).name with
  | false=>rfl
  | true=>
   refine Xag rfl ?_
   rw[if_neg (by simp)]
   by_cases c2:findE (Xaa l) (vaAt l i).name<(i:Int)
   ·rw[if_pos c2]
    rw[find_ahead hlt,←varsOf_pre (by omega)] at c2
    by_cases c3:(i:Int)<6
    ·refine if_of (decide_eq_true c3) (if_of (by simp;omega) (Xaj (hf i (by omega) (vaAt l i).name) (if_of (decide_eq_true ?_) rfl)))
     rw[Xar,int_i]
     exact (Xpf _ _ 0 (by omega)).2 c2
    ·refine Xag (decide_eq_false c3) ?_
     obtain ⟨N,rfl⟩:∃ M,N=M+1:=⟨N-1,by omega⟩
     rw[Xaf.B1_eq,Int.toNat_natCast]
     refine if_of (decide_eq_true (by omega)) (if_of (by simp;omega) ?_)
     obtain ⟨M,hM,h2⟩:=refSameB (h:=h) (l:=l) (q:=l) (n:=l.len) (i:=i) (s:=(vaAt l i).name) (b:=(l.el i 1).bool) (x:=(l.el i 2).int) (y:=(l.el i 3).int) (z:=(l.el i 4).int) (g:=preT l i) (by show i≤_;omega) i 0 (Nat.zero_add i) N (by omega)
     refine h2.trans ?_
     rw[List.drop_zero,if_pos c2]
   ·rw[if_neg c2]
    have c2':=c2
    rw[find_ahead hlt,←varsOf_pre (by omega)] at c2'
    obtain ⟨N,rfl⟩:∃ M,N=M+1:=⟨N-1,by omega⟩
    by_cases c3:(i:Int)<6
    ·refine if_of (decide_eq_true c3) (if_of (by simp;omega) (Xaj (hf i (by omega) (vaAt l i).name) (Xag (decide_eq_false ?_) ?_)))
     ·rw[Xar,int_i]
      exact fun h0=>c2' ((Xpf _ _ 0 (by omega)).1 h0)
     ·rw[Xaf.B1_eq]
      exact Xag (decide_eq_false (by omega)) (rest N (by omega))
    ·refine Xag (decide_eq_false c3) ?_
     rw[Xaf.B1_eq,Int.toNat_natCast]
     refine if_of (decide_eq_true (by omega)) (if_of (by simp;omega) ?_)
     obtain ⟨M,hM,h2⟩:=refSameB (h:=h) (l:=l) (q:=l) (n:=l.len) (i:=i) (s:=(vaAt l i).name) (b:=(l.el i 1).bool) (x:=(l.el i 2).int) (y:=(l.el i 3).int) (z:=(l.el i 4).int) (g:=preT l i) (by show i≤_;omega) i 0 (Nat.zero_add i) N (by omega)
     refine h2.trans ?_
     rw[List.drop_zero,if_neg c2']
     exact rest M (by omega)
theorem evAll {p:Nat→Nat→Prop}:∀ k,(∀ i,Ev (p i))→Ev fun N=>∀ i,i≤k→p i N
 | 0,h=>(h 0).imp fun N h0 i hi=>by
  obtain rfl:i=0:=Nat.le_zero.1 hi
  exact h0
 | k+1,h=>Ev.imp2 (evAll k h) (h (k+1)) fun N h1 h2 i hi=>by
  by_cases c:i≤k
  ·exact h1 i c
  ·obtain rfl:i=k+1:=by omega
   exact h2
theorem Xsg (l:T)(hl:l.len≤9223372036854775807):Ev fun N=>Xfa (K N) l=ri (mayV (Xaa l)):=by
 have hf:Ev fun N=>∀ i,i≤l.len→∀ s,Xfh (K N) (preT l i) s=ri (findE (Xaa (preT l i)) s):=by
  refine (evAll (p:=fun i N=>i≤l.len→∀ s,Xfh (K N) (preT l i) s=ri (findE (Xaa (preT l i)) s)) l.len fun i=> ?_).imp fun N h i hi=>h i hi hi
  by_cases c:i≤l.len
  ·exact (refFind_sp (preT l i) (by show i≤_;omega)).imp fun N h _=>h
  ·exact ⟨0,fun N _ h=>absurd h c⟩
 refine Ev.step (Ev.imp2 (Ev.imp4 refName_sp hf refSize_sp (refProd_sp l hl) fun N h1 h2 h3 h4=>(⟨h1,h2,h3,h4⟩:_∧_∧_∧_)) (Ev.ge (l.len*(l.len+5)+1)) fun N h hN=> ?_)
 rw[Xpo]
 have:=refMayB hl h.1 h.2.1 h.2.2.1 h.2.2.2 l.len 0 (by omega) (fun v hv=>by simp at hv) N (by omega)
 simpa [mayV] using this
end Go.Proofs.YtpjedhbfkfobcaaGreatDoor
set_option linter.unusedVariables false
set_option linter.unusedSimpArgs false
namespace Go.Proofs.YtpjedhbfkfobcaaGreatDoor
open Go.AM
theorem un28:Tryz.prog.underlying 23=some (.slice 25):=by kernel_rfl
theorem WT_kids:∀ {t:TypeId} {x:T},WT Tryz.prog t x→t=23→KW x:=by
 intro t x h
 induction h with
 | int h hw=>intro e;subst e;rw[un28] at h;cases h
 | bool h=>intro e;subst e;rw[un28] at h;cases h
 | str h hs=>intro e;subst e;rw[un28] at h;cases h
 | @sl t e n g h hn hg ih=>
  intro he
  subst he
  rw[un28] at h
  have e30:e=25:=by injection h with h;injection h with h;exact h.symm
  subst e30
  have h2:lv Tryz.prog 25=[3,3,23]:=by kernel_rfl
  refine ⟨Nat.le_trans hn (Nat.le_refl _),fun i hi=>ih i 2 23 hi (by rw[h2];rfl) rfl⟩
theorem WT_KW {x:T}(h:WT Tryz.prog 23 x):KW x:=WT_kids h rfl
theorem WT_len {t:TypeId}{x:T}(h:WT Tryz.prog t x):x.len≤9223372036854775807:=by
 cases h with
 | sl h hn hg=>exact Nat.le_trans hn (Nat.le_refl _)
 | _=>exact Nat.zero_le _
theorem heavyB {h:H}{l:T}(hl:l.len≤9223372036854775807):∀ (m i:Nat),i+m=l.len→∀ N,m<N→∃ x,Xcp.B0 h N l (l.len:Int) (i:Int)=ri x
 | 0,i,hi,N,hN=>by
  obtain ⟨N,rfl⟩:∃ M,N=M+1:=⟨N-1,by omega⟩
  rw[Xcp.B0_eq]
  exact ⟨0,Xag (decide_eq_false (by omega)) rfl⟩
 | m+1,i,hi,N,hN=>by
  obtain ⟨N,rfl⟩:∃ M,N=M+1:=⟨N-1,by omega⟩
  obtain ⟨x,hx⟩:=heavyB (h:=h) hl m (i+1) (by omega) N (by omega)
  rw[Xcp.B0_eq,Xbh (a:=(i:Int)+1) (by omega) (by omega)]
  have hx:Xcp.B0 h N l (l.len:Int) ((i:Int)+1)=ri x:=hx
  rw[hx]
  by_cases c1:(i:Int)≥10
  ·exact ⟨_,if_of (decide_eq_true (by omega)) (if_of (by simp;omega) (if_of (decide_eq_true c1) rfl))⟩
  ·by_cases c2:(((l.el (i:Int).toNat 0).str.size:Nat):Int)>100
   ·exact ⟨_,if_of (decide_eq_true (by omega)) (if_of (by simp;omega) (Xag (decide_eq_false c1) (if_of (decide_eq_true c2) rfl)))⟩
   ·exact ⟨x,if_of (decide_eq_true (by omega)) (if_of (by simp;omega) (Xag (decide_eq_false c1) (Xag (decide_eq_false c2) rfl)))⟩
theorem heavyV_sp (l:T)(hl:l.len≤9223372036854775807):Ev fun N=>∃ x,Xji (K N) l=ri x:=by
 refine Ev.step ((Ev.ge (l.len+1)).imp fun N hN=> ?_)
 rw[Xrq]
 exact heavyB hl l.len 0 (by omega) N (by omega)
theorem weighB {h:H}{k:T}(hk:KW k){d r:Int}(hc:∀ i,i<k.len→∀ op n d r,∃ x,Xfz h op n (k.el i 2) d r=ri x):∀ (m i:Nat),i+m=k.len→∀ N n,m<N→∃ x,Xco.B0 h N d r n k (k.len:Int) (i:Int)=ri x
 | 0,i,hi,N,n,hN=>by
  obtain ⟨N,rfl⟩:∃ M,N=M+1:=⟨N-1,by omega⟩
  rw[Xco.B0_eq]
  exact ⟨n,Xag (decide_eq_false (by omega)) rfl⟩
 | m+1,i,hi,N,n,hN=>by
  obtain ⟨N,rfl⟩:∃ M,N=M+1:=⟨N-1,by omega⟩
  have hl:=hk.len
  obtain ⟨y,hy⟩:=hc i (by omega) (k.el i 0).int (k.el i 1).int (IntKind.wrap .i64 (d+1)) (IntKind.wrap .i64 (r-n))
  obtain ⟨x,hx⟩:=weighB (h:=h) (d:=d) (r:=r) hk hc m (i+1) (by omega) N (IntKind.wrap .i64 (n+y)) (by omega)
  rw[Xco.B0_eq,Xbh (a:=(i:Int)+1) (by omega) (by omega),Int.toNat_natCast,hy,Xgv,Xar,int_i]
  have hx:Xco.B0 h N d r (IntKind.wrap .i64 (n+y)) k (k.len:Int) ((i:Int)+1)=ri x:=hx
  rw[hx]
  by_cases c1:IntKind.wrap .i64 (n+y)>r
  ·exact ⟨_,if_of (decide_eq_true (by omega)) (if_of (by simp;omega) (if_of (decide_eq_true c1) rfl))⟩
  ·exact ⟨x,if_of (decide_eq_true (by omega)) (if_of (by simp;omega) (Xag (decide_eq_false c1) rfl))⟩
theorem weigh_sp:∀ k,KW k→Ev fun N=>∀ op n d r,∃ x,Xfz (K N) op n k d r=ri x:=by
 refine Xha fun k ih hk=> ?_
 refine Ev.step ((Ev.all (k:=k.len) fun i hi=>ih i hi (hk.el hi)).imp2 (Ev.ge (k.len+1)) fun N hc hN op n d r=> ?_)
 rw[Xro]
 by_cases c1:d>40
 ·exact ⟨1000,if_of (decide_eq_true c1) rfl⟩
 ·by_cases c2:r<1
  ·exact ⟨1000,Xag (decide_eq_false c1) (if_of (decide_eq_true c2) rfl)⟩
  ·obtain ⟨x,hx⟩:=weighB (d:=d) (r:=r) hk hc k.len 0 (by omega) N 1 (by omega)
   exact ⟨x,Xag (decide_eq_false c1) (Xag (decide_eq_false c2) hx)⟩
theorem Xpd (k:T)(hk:KW k):Ev fun N=>∀ op n,∃ x,Xbt (K N) op n k=ri x:=by
 refine Ev.step ((weigh_sp k hk).imp fun N h op n=> ?_)
 obtain ⟨x,hx⟩:=h op n 0 500
 rw[Xrp,hx,Xgv,Xar,int_i]
 by_cases c:x>300
 ·exact ⟨x,if_of (decide_eq_true c) rfl⟩
 ·exact ⟨0,Xag (decide_eq_false c) rfl⟩
theorem Xfs {α:Type}{c:Bool}{x y z:α}(h:c=true→x=z)(k:c=false→y=z):(bif c then x else y)=z:=by
 cases c with
 | true=>exact h rfl
 | false=>exact k rfl
theorem Xes {l:List Va}{e:Ex}{s:Int}(hm:mayV l=0)(he:mayE e=0)(ht:Typed l e s):sortE l e=(s,0):=by
 have hs:Xed e=true:=by
  unfold mayE at he
  split at he
  ·split at he
   ·assumption
   ·cases he
  ·cases he
 unfold sortE
 rw[if_neg (by simp[hm]),if_neg (by simp[he])]
 exact (Xsj (mayV_sorts hm) e hs).2 _ ht
end Go.Proofs.YtpjedhbfkfobcaaGreatDoor
set_option linter.unusedVariables false
set_option linter.unusedSimpArgs false
namespace Go.Proofs.YtpjedhbfkfobcaaGreatDoor
open Go.AM
end Go.Proofs.YtpjedhbfkfobcaaGreatDoor
set_option linter.unusedVariables false
set_option linter.unusedSimpArgs false
namespace Go.Proofs.YtpjedhbfkfobcaaGreatDoor
open Go.AM
end Go.Proofs.YtpjedhbfkfobcaaGreatDoor
set_option linter.unusedVariables false
set_option linter.unusedSimpArgs false
namespace Go.AM
mutual
def cntE:Ex→Int
 | .mk _ _ ks=>1+cntL ks
def cntL:List Ex→Int
 | []=>0
 | k::ks=>cntE k+cntL ks
end
mutual
theorem Xre:∀ e:Ex,0≤cntE e
 | .mk _ _ ks=>by simp only[cntE];have:=Xfn ks;omega
theorem Xfn:∀ l:List Ex,0≤cntL l
 | []=>Int.le_refl _
 | k::ks=>by simp only[cntL];have:=Xre k;have:=Xfn ks;omega
end
mutual
theorem goesE_cnt:∀ (e:Ex) (d n m:Int) (b:Bool),goesE e d n b=(m,false)→m≤60→b=false∧m=n+cntE e
 | .mk _ _ ks,d,n,m,b,h,hm=>by
  simp only[goesE] at h
  split at h
  ·cases h
  ·split at h
   ·cases h;omega
   ·obtain ⟨h1,h2⟩:=goesL_cnt ks d (n+1) m b h hm
    exact ⟨h1,by simp only[cntE];omega⟩
theorem goesL_cnt:∀ (l:List Ex) (d n m:Int) (b:Bool),goesL l d n b=(m,false)→m≤60→b=false∧m=n+cntL l
 | [],d,n,m,b,h,hm=>by
  simp only[goesL] at h
  cases h
  exact ⟨rfl,by simp[cntL]⟩
 | k::ks,d,n,m,b,h,hm=>by
  simp only[goesL] at h
  split at h
  ·cases h;omega
  ·obtain ⟨h1,h2⟩:=goesL_cnt ks d _ m _ h hm
   have h3:=Xfn ks
   obtain ⟨h4,h5⟩:=goesE_cnt k (d+1) n (goesE k (d+1) n b).1 b (by rw[←h1]) (by omega)
   exact ⟨h4,by simp only[cntL];omega⟩
end
theorem light_cnt {e:Ex}(h:Xfi e=true):nodesE e=cntE e∧nodesE e≤60:=by
 unfold Xfi at h
 rw[Bool.and_eq_true] at h
 obtain ⟨h1,h2⟩:=h
 have h1:nodesE e≤60:=of_decide_eq_true h1
 have h2:(goesE e 1 0 false).2=false:=by simpa using h2
 have:=goesE_cnt e 1 0 (nodesE e) false (Prod.ext rfl h2) h1
 exact ⟨by omega,h1⟩
theorem Xso {e:Ex}(h:mayE e=0):Xed e=true∧Xfi e=true:=by
 unfold mayE at h
 split at h
 ·split at h
  ·exact ⟨by assumption,by assumption⟩
  ·cases h
 ·cases h
end Go.AM
namespace Go.Proofs.YtpjedhbfkfobcaaGreatDoor
open Go.AM
end Go.Proofs.YtpjedhbfkfobcaaGreatDoor
set_option linter.unusedVariables false
set_option linter.unusedSimpArgs false
namespace Go.AM
mutual
def sameE:Ex→Ex→Bool
 | .mk o n ks,.mk p m ls=>decide (o=p)&&(decide (n=m)&&sameL ks ls)
def sameL:List Ex→List Ex→Bool
 | [],[]=>true
 | k::ks,l::ls=>sameE k l&&sameL ks ls
 | _,_=>false
end
mutual
theorem Xsc:∀ a b:Ex,sameE a b=true↔a=b
 | .mk o n ks,.mk p m ls=>by
  have ih:=sameL_iff ks ls
  simp only[sameE,Bool.and_eq_true,decide_eq_true_eq,ih,Ex.mk.injEq]
theorem sameL_iff:∀ a b:List Ex,sameL a b=true↔a=b
 | [],[]=>by simp[sameL]
 | [],_::_=>by simp[sameL]
 | _::_,[]=>by simp[sameL]
 | k::ks,l::ls=>by
  have h1:=Xsc k l
  have h2:=sameL_iff ks ls
  simp only[sameL,Bool.and_eq_true,h1,h2,List.cons.injEq]
end
theorem sameL_len:∀ (a b:List Ex),a.length≠b.length→sameL a b=false:=by
 intro a b h
 cases hs:sameL a b with
 | false=>rfl
 | true=>rw[sameL_iff] at hs;exact absurd (congrArg List.length hs) h
theorem sameE_self (a:Ex):sameE a a=true:=(Xsc a a).2 rfl
end Go.AM
namespace Go.Proofs.YtpjedhbfkfobcaaGreatDoor
open Go.AM
theorem alikeB {h:H}{k k2:T}(hk:KW k)(hl:k.len=k2.len)(hc:∀ i,i<k.len→∀ o n p m,Xjv h o n (k.el i 2) p m (k2.el i 2)=rb (sameE (.mk o n (Xab (k.el i 2))) (.mk p m (Xab (k2.el i 2))))):
  ∀ (m i:Nat),i+m=k.len→∀ N,m<N→Xbb.B0 h N k2 k (k.len:Int) (i:Int)=rb (sameL ((Xab k).drop i) ((Xab k2).drop i))
 | 0,i,hi,N,hN=>by
  obtain ⟨N,rfl⟩:∃ M,N=M+1:=⟨N-1,by omega⟩
  rw[Xbb.B0_eq,List.drop_of_length_le (by rw[Xbd];omega),List.drop_of_length_le (by rw[Xbd];omega)]
  exact Xag (decide_eq_false (by omega)) rfl
 | m+1,i,hi,N,hN=>by
  obtain ⟨N,rfl⟩:∃ M,N=M+1:=⟨N-1,by omega⟩
  have hlen:=hk.len
  have ih:=alikeB (h:=h) hk hl hc m (i+1) (by omega) N (by omega)
  have e1:=hc i (by omega) (k.el i 0).int (k.el i 1).int (k2.el i 0).int (k2.el i 1).int
  have x1:Ex.mk (k.el i 0).int (k.el i 1).int (Xab (k.el i 2))=exAt k i:=rfl
  have x2:Ex.mk (k2.el i 0).int (k2.el i 1).int (Xab (k2.el i 2))=exAt k2 i:=rfl
  rw[x1,x2] at e1
  rw[Xbb.B0_eq,Xca k i (by omega),Xca k2 i (by omega),Xbh (by omega) (by omega),Int.toNat_natCast]
  refine if_of (decide_eq_true (by omega)) (if_of (by simp;omega) (if_of (by simp;omega) (Xaj e1 ?_)))
  simp only[sameL]
  cases hs:sameE (exAt k i) (exAt k2 i) with
  | false=>exact if_of rfl rfl
  | true=>exact Xag rfl ih
theorem alike_sp:∀ k,KW k→∀ k2,KW k2→Ev fun N=>∀ o n p m,Xjv (K N) o n k p m k2=rb (sameE (.mk o n (Xab k)) (.mk p m (Xab k2))):=by
 refine Xha fun k ih hk k2 hk2=> ?_
 by_cases hl:k.len=k2.len
 ·refine Ev.step (Ev.step ((Ev.all (k:=k.len) fun i hi=>ih i hi (hk.el hi) (k2.el i 2) (hk2.el (by omega))).imp2 (Ev.ge (k.len+1)) fun N hc hN o n p m=> ?_))
  have hb:=alikeB (h:=K N) hk hl hc k.len 0 (by omega) N (by omega)
  rw[Xqw,Xeg]
  simp only[sameE]
  by_cases c1:o=p
  ·by_cases c2:n=m
   ·refine if_of (by simpa using c1) (if_of (by simpa using c2) (Xaj (r:=lookR [(0,.b (sameL (Xab k) (Xab k2)))]) (Xag (by simp[hl]) hb) ?_))
    rw[decide_eq_true c1,decide_eq_true c2]
    rfl
   ·refine if_of (by simpa using c1) (Xag (by simpa using c2) ?_)
    rw[decide_eq_true c1,decide_eq_false c2]
    rfl
  ·refine Xag (by simpa using c1) ?_
   rw[decide_eq_false c1]
   rfl
 ·refine Ev.step (Ev.step (Ev.of fun N o n p m=> ?_))
  have hs:=sameL_len (Xab k) (Xab k2) (by rw[Xbd,Xbd];exact hl)
  rw[Xqw,Xeg]
  simp only[sameE,hs,Bool.and_false]
  have hl':¬((k.len:Int)=(k2.len:Int)):=by omega
  refine Xfs (fun _=>Xfs (fun _=>Xaj (r:=lookR [(0,.b false)]) (if_of (by simpa using hl') rfl) rfl) fun _=>rfl) fun _=>rfl
theorem Same_sp (k k2:T)(hk:KW k)(hk2:KW k2):Ev fun N=>∀ o n p m,Xfp (K N) o n k p m k2=rb (Xfi (.mk o n (Xab k))&&Xfi (.mk p m (Xab k2))&&sameE (.mk o n (Xab k)) (.mk p m (Xab k2))):=by
 refine Ev.step (Ev.imp3 (light_sp k hk) (light_sp k2 hk2) (alike_sp k hk k2 hk2) fun N h1 h2 h3 o n p m=> ?_)
 rw[C_expr_Same_K]
 refine Xaj (h1 _ _) ?_
 cases c1:Xfi (.mk o n (Xab k)) with
 | false=>exact Xag rfl rfl
 | true=>
  refine if_of rfl (Xaj (h2 _ _) ?_)
  cases c2:Xfi (.mk p m (Xab k2)) with
  | false=>exact Xag rfl rfl
  | true=>exact if_of rfl (Xaj (h3 _ _ _ _) rfl)
end Go.Proofs.YtpjedhbfkfobcaaGreatDoor
set_option linter.unusedVariables false
set_option linter.unusedSimpArgs false
namespace Go.AM
mutual
def fitD:Ex→Int→Bool
 | .mk _ _ ks,d=>decide (d≤12)&&fitL ks (d+1)
def fitL:List Ex→Int→Bool
 | [],_=>true
 | k::ks,d=>fitD k d&&fitL ks d
end
mutual
theorem goesE_fit:∀ (e:Ex) (d n:Int) (b:Bool),fitD e d=true→n+cntE e≤60→goesE e d n b=(n+cntE e,b)
 | .mk o m ks,d,n,b,h,hn=>by
  simp only[fitD,Bool.and_eq_true,decide_eq_true_eq] at h
  have hc:=Xfn ks
  simp only[cntE] at hn ⊢
  simp only[goesE]
  rw[if_neg (by omega),if_neg (by omega),goesL_fit ks d (n+1) b h.2 (by omega)]
  exact Prod.ext (by show n+1+cntL ks=n+(1+cntL ks);omega) rfl
theorem goesL_fit:∀ (l:List Ex) (d n:Int) (b:Bool),fitL l (d+1)=true→n+cntL l≤60→goesL l d n b=(n+cntL l,b)
 | [],d,n,b,h,hn=>by simp[goesL,cntL]
 | k::ks,d,n,b,h,hn=>by
  simp only[fitL,Bool.and_eq_true] at h
  have hc:=Xfn ks
  have hk:=Xre k
  simp only[cntL] at hn ⊢
  simp only[goesL]
  rw[if_neg (by omega),goesE_fit k (d+1) n b h.1 (by omega)]
  simp only
  rw[goesL_fit ks d (n+cntE k) b h.2 (by omega)]
  exact Prod.ext (by show n+cntE k+cntL ks=n+(cntE k+cntL ks);omega) rfl
end
mutual
theorem goesE_fits:∀ (e:Ex) (d n m:Int) (b:Bool),goesE e d n b=(m,false)→m≤60→fitD e d=true
 | .mk _ _ ks,d,n,m,b,h,hm=>by
  simp only[goesE] at h
  split at h
  ·cases h
  ·split at h
   ·cases h;omega
   ·simp only[fitD,Bool.and_eq_true,decide_eq_true_eq]
    exact ⟨by omega,goesL_fits ks d (n+1) m b h hm⟩
theorem goesL_fits:∀ (l:List Ex) (d n m:Int) (b:Bool),goesL l d n b=(m,false)→m≤60→fitL l (d+1)=true
 | [],d,n,m,b,h,hm=>rfl
 | k::ks,d,n,m,b,h,hm=>by
  simp only[goesL] at h
  split at h
  ·cases h;omega
  ·have h1:=goesL_cnt ks d _ m _ h hm
   have h2:=goesL_fits ks d _ m _ h hm
   have h3:=Xfn ks
   simp only[fitL,Bool.and_eq_true]
   exact ⟨goesE_fits k (d+1) n (goesE k (d+1) n b).1 b (Prod.ext rfl h1.1) (by omega),h2⟩
end
theorem light_iff (e:Ex):Xfi e=true↔fitD e 1=true∧cntE e≤60:=by
 constructor
 ·intro h
  have h1:=light_cnt h
  refine ⟨?_,by omega⟩
  unfold Xfi at h
  rw[Bool.and_eq_true] at h
  have h2:(goesE e 1 0 false).2=false:=by simpa using h.2
  exact goesE_fits e 1 0 (nodesE e) false (Prod.ext rfl h2) h1.2
 ·rintro ⟨h1,h2⟩
  have h3:=goesE_fit e 1 0 false h1 (by omega)
  unfold Xfi nodesE
  rw[h3]
  simp
  omega
mutual
def rcE:Ex→Int→Int→Int×Bool
 | .mk _ _ ks,d,r=>if d=12 then (1,decide ((0:Int)<ks.length)) else rcL ks d r 1 false
def rcL:List Ex→Int→Int→Int→Bool→Int×Bool
 | [],_,r,n,o=>(if r+1<n then r+1 else n,o)
 | k::ks,d,r,n,o=>if r<n then (r+1,o) else rcL ks d r (n+(rcE k (d+1) (r-n)).1) (o||(rcE k (d+1) (r-n)).2)
end
mutual
theorem rcE_range:∀ (e:Ex) (d r:Int),0≤r→1≤(rcE e d r).1∧(rcE e d r).1≤r+1
 | .mk _ _ ks,d,r,h=>by
  simp only[rcE]
  split
  ·exact ⟨Int.le_refl _,by show (1:Int)≤r+1;omega⟩
  ·exact rcL_range ks d r 1 false h (by omega) (by omega)
theorem rcL_range:∀ (l:List Ex) (d r n:Int) (o:Bool),0≤r→1≤n→n≤r+1→1≤(rcL l d r n o).1∧(rcL l d r n o).1≤r+1
 | [],d,r,n,o,h,h1,h2=>by
  simp only[rcL]
  split<;>omega
 | k::ks,d,r,n,o,h,h1,h2=>by
  simp only[rcL]
  split
  ·exact ⟨by show 1≤r+1;omega,Int.le_refl _⟩
  ·have h3:=rcE_range k (d+1) (r-n) (by omega)
   exact rcL_range ks d r _ _ h (by omega) (by omega)
end
mutual
theorem rcE_fit:∀ (e:Ex) (d r:Int),d≤12→fitD e d=true→cntE e≤r→rcE e d r=(cntE e,false)
 | .mk _ _ ks,d,r,hd,h,hr=>by
  simp only[fitD,Bool.and_eq_true,decide_eq_true_eq] at h
  simp only[cntE] at hr ⊢
  simp only[rcE]
  split
  ·rename_i hd12
   subst hd12
   cases ks with
   | nil=>simp[cntL]
   | cons k ks=>
    exfalso
    have h2:=h.2
    cases k with
    | mk a b c=>
     simp only[fitL,fitD,Bool.and_eq_true,decide_eq_true_eq] at h2
     omega
  ·rw[rcL_fit ks d r 1 (by omega) h.2 (by omega)]
theorem rcL_fit:∀ (l:List Ex) (d r n:Int),d+1≤12→fitL l (d+1)=true→n+cntL l≤r→rcL l d r n false=(n+cntL l,false)
 | [],d,r,n,hd,h,hr=>by
  simp only[rcL,cntL] at hr ⊢
  rw[if_neg (by omega)]
  simp
 | k::ks,d,r,n,hd,h,hr=>by
  simp only[fitL,Bool.and_eq_true] at h
  have hc:=Xfn ks
  have hk:=Xre k
  simp only[cntL] at hr ⊢
  simp only[rcL]
  rw[if_neg (by omega),rcE_fit k (d+1) (r-n) hd h.1 (by omega)]
  simp only[Bool.or_false]
  rw[rcL_fit ks d r (n+cntE k) hd h.2 (by omega)]
  exact Prod.ext (by show n+cntE k+cntL ks=n+(cntE k+cntL ks);omega) rfl
end
mutual
theorem rcE_fits:∀ (e:Ex) (d r m:Int),d≤12→rcE e d r=(m,false)→m≤r→fitD e d=true∧m=cntE e
 | .mk _ _ ks,d,r,m,hd,h,hm=>by
  simp only[rcE] at h
  split at h
  ·rename_i hd12
   cases ks with
   | nil=>
    cases h
    subst hd12
    exact ⟨rfl,by simp[cntE,cntL]⟩
   | cons k ks=>
    have h2:=congrArg Prod.snd h
    simp at h2
  ·obtain ⟨_,h2,h3⟩:=rcL_fits ks d r 1 m false (by omega) h hm
   simp only[fitD,Bool.and_eq_true,decide_eq_true_eq,cntE]
   exact ⟨⟨hd,h2⟩,h3⟩
theorem rcL_fits:∀ (l:List Ex) (d r n m:Int) (o:Bool),d+1≤12→rcL l d r n o=(m,false)→m≤r→o=false∧fitL l (d+1)=true∧m=n+cntL l
 | [],d,r,n,m,o,hd,h,hm=>by
  simp only[rcL] at h
  have h1:=congrArg Prod.fst h
  have h2:=congrArg Prod.snd h
  simp only at h1 h2
  refine ⟨h2,rfl,?_⟩
  simp only[cntL]
  split at h1<;>omega
 | k::ks,d,r,n,m,o,hd,h,hm=>by
  simp only[rcL] at h
  split at h
  ·cases h;omega
  ·obtain ⟨h1,h2,h3⟩:=rcL_fits ks d r _ m _ hd h hm
   rw[Bool.or_eq_false_iff] at h1
   have h4:=Xfn ks
   obtain ⟨h5,h6⟩:=rcE_fits k (d+1) (r-n) (rcE k (d+1) (r-n)).1 hd (Prod.ext rfl h1.2) (by omega)
   simp only[fitL,Bool.and_eq_true,cntL]
   exact ⟨h1.1,⟨h5,h2⟩,by omega⟩
end
theorem fits_light (e:Ex):(decide ((rcE e 1 60).1≤60)&& !(rcE e 1 60).2)=Xfi e:=by
 rw[Bool.eq_iff_iff,light_iff,Bool.and_eq_true,decide_eq_true_eq]
 constructor
 ·rintro ⟨h1,h2⟩
  have h2:(rcE e 1 60).2=false:=by simpa using h2
  obtain ⟨h3,h4⟩:=rcE_fits e 1 60 (rcE e 1 60).1 (by omega) (Prod.ext rfl h2) h1
  exact ⟨h3,by omega⟩
 ·rintro ⟨h1,h2⟩
  rw[rcE_fit e 1 60 (by omega) h1 h2]
  exact ⟨h2,rfl⟩
end Go.AM
namespace Go.Proofs.YtpjedhbfkfobcaaGreatDoor
open Go.AM
theorem countB {h:H}{k:T}(hk:KW k){d r:Int}(hd:0≤d∧d≤12)(hr:0≤r∧r≤60)
  (hc:∀ i,i<k.len→∀ op m r,0≤r→r≤60→Xfx h op m (k.el i 2) (d+1) r=rib (rcE (.mk op m (Xab (k.el i 2))) (d+1) r).1 (rcE (.mk op m (Xab (k.el i 2))) (d+1) r).2):
  ∀ (m i:Nat),i+m=k.len→∀ (N:Nat) (n:Int) (o:Bool),2*m<N→1≤n→n≤r+1→Xbo.B0 h N d r n o k (k.len:Int) (i:Int)=rib (rcL ((Xab k).drop i) d r n o).1 (rcL ((Xab k).drop i) d r n o).2
 | 0,i,hi,N,n,o,hN,hn0,hn1=>by
  obtain ⟨N,rfl⟩:∃ M,N=M+1:=⟨N-1,by omega⟩
  rw[Xbo.B0_eq,List.drop_of_length_le (by rw[Xbd];omega),Xbh (a:=r+1) (by omega) (by omega)]
  exact Xag (decide_eq_false (by omega)) rfl
 | m+1,i,hi,N,n,o,hN,hn0,hn1=>by
  obtain ⟨N,rfl⟩:∃ M,N=M+2:=⟨N-2,by omega⟩
  have hlen:=hk.len
  rw[Xbo.B0_eq,Xca k i (by omega),Int.toNat_natCast,Xbh (a:=r+1) (by omega) (by omega),Xbh (a:=d+1) (by omega) (by omega),Xbh (a:=r-n) (by omega) (by omega)]
  simp only[rcL]
  refine if_of (decide_eq_true (by omega)) (if_of (by simp;omega) ?_)
  by_cases c:r<n
  ·rw[if_pos c]
   exact if_of (decide_eq_true c) rfl
  ·rw[if_neg c]
   have e1:=hc i (by omega) (k.el i 0).int (k.el i 1).int (r-n) (by omega) (by omega)
   have x1:Ex.mk (k.el i 0).int (k.el i 1).int (Xab (k.el i 2))=exAt k i:=rfl
   rw[x1] at e1
   have hx:=rcE_range (exAt k i) (d+1) (r-n) (by omega)
   refine Xag (decide_eq_false c) (Xaj e1 ?_)
   have ih:=fun o=>countB hk hd hr hc m (i+1) (by omega) N (n+(rcE (exAt k i) (d+1) (r-n)).1) o (by omega) (by omega) (by omega)
   have ew:∀ p:Bool,Xbo.B1 h (N+1) d r (IntKind.wrap .i64 (n+(rcE (exAt k i) (d+1) (r-n)).1)) p k (k.len:Int) (i:Int)=rib (rcL ((Xab k).drop (i+1)) d r (n+(rcE (exAt k i) (d+1) (r-n)).1) p).1 (rcL ((Xab k).drop (i+1)) d r (n+(rcE (exAt k i) (d+1) (r-n)).1) p).2:=by
    intro p
    rw[Xbo.B1_eq,Xbh (a:=n+(rcE (exAt k i) (d+1) (r-n)).1) (by omega) (by omega),Xbh (a:=(i:Int)+1) (by omega) (by omega)]
    exact ih p
   cases o with
   | true=>exact if_of rfl (ew true)
   | false=>exact Xag rfl (ew _)
theorem count_sp:∀ k,KW k→∀ d:Int,1≤d→d≤12→Ev fun N=>∀ op m r,0≤r→r≤60→Xfx (K N) op m k d r=rib (rcE (.mk op m (Xab k)) d r).1 (rcE (.mk op m (Xab k)) d r).2:=by
 refine Xha fun k ih hk d h0 h1=> ?_
 by_cases hd:d=12
 ·refine Ev.step (Ev.of fun N op m r _ _=> ?_)
  rw[Xky]
  simp only[rcE,if_pos hd,Xbd]
  exact if_of (by simpa using hd) rfl
 ·refine Ev.step ((Ev.all (k:=k.len) fun i hi=>ih i hi (hk.el hi) (d+1) (by omega) (by omega)).imp2 (Ev.ge (2*k.len+2)) fun N hc hN op m r hr0 hr1=> ?_)
  rw[Xky]
  simp only[rcE,if_neg hd]
  refine Xag (by simpa using hd) ?_
  have:=countB (h:=K N) hk (d:=d) (r:=r) ⟨by omega,h1⟩ ⟨hr0,hr1⟩ hc k.len 0 (by omega) N 1 false (by omega) (by omega) (by omega)
  simpa using this
theorem refFits_sp (k:T)(hk:KW k):Ev fun N=>∀ op m,Xgq (K N) op m k=rb (Xfi (.mk op m (Xab k))):=by
 refine Ev.step ((count_sp k hk 1 (by omega) (by omega)).imp fun N h op m=> ?_)
 rw[Xtm,←fits_light]
 refine Xaj (h op m 60 (by omega) (by omega)) ?_
 by_cases c:(rcE (.mk op m (Xab k)) 1 60).1≤60
 ·rw[decide_eq_true c]
  exact if_of (decide_eq_true c) rfl
 ·rw[decide_eq_false c]
  exact Xag (decide_eq_false c) rfl
theorem refKids_sp:Ev fun N=>∀ op,Xib (K N) op=ri (kidsN op):=by
 refine ⟨2,fun N hN op=> ?_⟩
 obtain ⟨N,rfl⟩:∃ M,N=M+2:=⟨N-2,by omega⟩
 rw[Xtq,Xdq.B0_eq]
 unfold kidsN ri
 simp only[Bool.cond_eq_ite,decide_eq_true_eq,beq_iff_eq]
 repeat' split
 all_goals first|rfl|(exfalso;omega)
theorem refNode_sp:Ev fun N=>∀ op n k,Xka (K N) op n k=rb (decide (0≤kidsN op)&&decide ((k.len:Int)=kidsN op)&&Xgw op n):=by
 refine Ev.step (refKids_sp.imp2 (Ev.ge 3) fun N h hN op n k=> ?_)
 obtain ⟨N,rfl⟩:∃ M,N=M+1:=⟨N-1,by omega⟩
 rw[Xtl]
 refine Xaj (h op) ?_
 by_cases c1:kidsN op<0
 ·rw[decide_eq_false (show ¬0≤kidsN op by omega)]
  exact if_of (decide_eq_true c1) rfl
 ·rw[decide_eq_true (show 0≤kidsN op by omega)]
  refine Xag (decide_eq_false c1) (Xaj (h op) ?_)
  by_cases c2:(k.len:Int)=kidsN op
  ·rw[decide_eq_true c2]
   refine Xag (by simpa [Xar,int_i] using c2) ?_
   rw[Xdo.B0_eq,Xdo.B0_eq]
   unfold Xgw
   simp only[Bool.cond_eq_ite,decide_eq_true_eq,beq_iff_eq,Bool.true_and]
   by_cases d1:op=1
   ·subst d1
    by_cases e1:n≥-1000
    ·simp[e1];rfl
    ·simp[e1];rfl
   ·by_cases d2:op=2
    ·subst d2
     by_cases e1:n=0
     ·simp[e1];rfl
     ·simp[e1];rfl
    ·by_cases d3:op=3
     ·subst d3
      by_cases e1:n≥0
      ·simp[e1];rfl
      ·simp[e1];rfl
     ·by_cases d4:op=4
      ·subst d4
       by_cases e1:n≥0
       ·simp[e1];rfl
       ·simp[e1];rfl
      ·simp[d1,d2,d3,d4];rfl
  ·rw[decide_eq_false c2]
   exact if_of (by simpa [Xar,int_i] using c2) rfl
theorem soundB {h:H}{k:T}(hk:KW k)(hc:∀ i,i<k.len→∀ op m,Xfw h op m (k.el i 2)=rb (Xed (.mk op m (Xab (k.el i 2))))):
  ∀ (m i:Nat),i+m=k.len→∀ N,m<N→Xcs.B0 h N k (k.len:Int) (i:Int)=rb (Xhr ((Xab k).drop i))
 | 0,i,hi,N,hN=>by
  obtain ⟨N,rfl⟩:∃ M,N=M+1:=⟨N-1,by omega⟩
  rw[Xcs.B0_eq,List.drop_of_length_le (by rw[Xbd];omega)]
  exact Xag (decide_eq_false (by omega)) rfl
 | m+1,i,hi,N,hN=>by
  obtain ⟨N,rfl⟩:∃ M,N=M+1:=⟨N-1,by omega⟩
  have hlen:=hk.len
  have ih:=soundB hk hc m (i+1) (by omega) N (by omega)
  have e1:=hc i (by omega) (k.el i 0).int (k.el i 1).int
  have x1:Ex.mk (k.el i 0).int (k.el i 1).int (Xab (k.el i 2))=exAt k i:=rfl
  rw[x1] at e1
  rw[Xcs.B0_eq,Xca k i (by omega),Xbh (by omega) (by omega),Int.toNat_natCast]
  refine if_of (decide_eq_true (by omega)) (if_of (by simp;omega) (Xaj e1 ?_))
  simp only[Xhr]
  cases hs:Xed (exAt k i) with
  | false=>exact if_of rfl rfl
  | true=>exact Xag rfl ih
theorem refSound_sp:∀ k,KW k→Ev fun N=>∀ op m,Xfw (K N) op m k=rb (Xed (.mk op m (Xab k))):=by
 refine Xha fun k ih hk=> ?_
 refine Ev.step (Ev.imp3 (Ev.all (k:=k.len) fun i hi=>ih i hi (hk.el hi)) refNode_sp (Ev.ge (k.len+1)) fun N hc hn hN op m=> ?_)
 rw[Xri]
 refine Xaj (hn op m k) ?_
 simp only[Xed,Xbd]
 cases hq:(decide (0≤kidsN op)&&decide ((k.len:Int)=kidsN op)&&Xgw op m) with
 | false=>exact if_of rfl rfl
 | true=>
  refine Xag rfl ?_
  have:=soundB (h:=K N) hk hc k.len 0 (by omega) N (by omega)
  simpa using this
theorem refMayE_sp (k:T)(hk:KW k):Ev fun N=>∀ op m,Xgi (K N) op m k=ri (mayE (.mk op m (Xab k))):=by
 refine Ev.step (Ev.imp2 (refFits_sp k hk) (refSound_sp k hk) fun N h1 h2 op m=> ?_)
 rw[Xpp]
 refine Xaj (h1 op m) ?_
 unfold mayE
 cases c1:Xfi (.mk op m (Xab k)) with
 | false=>exact if_of rfl rfl
 | true=>
  refine Xag rfl (Xaj (h2 op m) ?_)
  cases c2:Xed (.mk op m (Xab k)) with
  | false=>exact if_of rfl rfl
  | true=>exact Xag rfl rfl
end Go.Proofs.YtpjedhbfkfobcaaGreatDoor
