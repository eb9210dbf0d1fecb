/- show.Module = showM. -/
import Derived.Test.YtpjedhbfkfobcaaGreatDoorSh2
set_option linter.unusedVariables false
set_option linter.unusedSimpArgs false
namespace Go.AM
theorem Xdb (x:List UInt8)(r:List (List UInt8)):joinW (x::r)=x++(10::joinW r):=rfl
theorem Xbm (x:List UInt8)(r:List (List UInt8)):(joinW (x::r)).length=x.length+1+(joinW r).length:=by
 rw[Xdb,List.length_append,List.length_cons];omega
theorem Xss (a b:List (List UInt8)):(joinW (a++b)).length=(joinW a).length+(joinW b).length:=by rw[joinW_app,List.length_append]
theorem joinW_len {c:Nat}:∀ {L:List (List UInt8)},(∀ x∈L,x.length≤c)→(joinW L).length≤L.length*(c+1)
 | [],_=>by simp[joinW]
 | x::r,h=>by
  have a:=h x (List.mem_cons_self ..)
  have b:=joinW_len (L:=r) fun y hy=>h y (List.mem_cons_of_mem _ hy)
  rw[Xbm,List.length_cons,Nat.succ_mul]
  omega
theorem Xho {α:Type}{c k:Nat}{L:List α}{f:α→List UInt8}(hk:L.length≤k)(h:∀ x∈L,(f x).length≤c):(joinW (L.map f)).length≤k*(c+1):=by
 have:=joinW_len (c:=c) (L:=L.map f) fun x hx=>by
  obtain ⟨y,hy,rfl⟩:=List.mem_map.1 hx
  exact h y hy
 rw[List.length_map] at this
 exact Nat.le_trans this (Nat.mul_le_mul_right _ hk)
theorem fullM_of {m:Md}(h:mayM m=0):m.env.length≤12∧m.sys.length≤12∧m.assume.length≤4∧m.ensure.length≤4∧m.prio.length≤6:=by
 unfold mayM at h
 by_cases c1:mayV m.vars=0
 case neg=>rw[if_pos c1] at h;exact absurd h c1
 rw[if_neg (by simpa using c1)] at h
 by_cases c2:Xcb m.vars m.ie 1 false false false=0
 case neg=>rw[if_pos c2] at h;exact absurd h c2
 rw[if_neg (by simpa using c2)] at h
 by_cases c3:Xcb m.vars m.is 1 true false false=0
 case neg=>rw[if_pos c3] at h;exact absurd h c3
 rw[if_neg (by simpa using c3)] at h
 by_cases c4:fullM m=true
 ·rw[if_pos c4] at h;exact absurd h (by omega)
 unfold fullM at c4
 simp only[Bool.or_eq_true,decide_eq_true_eq] at c4
 omega
theorem vars_six {l:List Va}(h:mayV l=0):l.length≤6:=by
 have:=(mayV_iff.1 h).2
 unfold Xlc at this
 by_cases c:6<(l.length:Int)
 ·rw[if_pos c] at this;exact absurd rfl this
 ·omega
structure ModWalk (m:Md):Prop where
 vars:∀ v∈m.vars,VarOk v
 n:m.vars.length≤6∧m.env.length≤12∧m.sys.length≤12∧m.assume.length≤4∧m.ensure.length≤4∧m.prio.length≤6
 ie:(sortE m.vars m.ie).2=0
 is:(sortE m.vars m.is).2=0
 env:∀ c∈m.env,Xdx m.vars true c=0
 sys:∀ c∈m.sys,Xdx m.vars false c=0
 goals:∀ e∈m.assume++m.ensure++m.prio,(sortE m.vars e).2=0
theorem mod_walk {m:Md}(h:mayM m=0):ModWalk m:=by
 obtain ⟨h1,h2,h3,h4,h5,h6⟩:=mayM_zero h
 exact ⟨fun v hv=>var_ok h1 hv,⟨vars_six h1,fullM_of h⟩,(Xhe h2).1,(Xhe h3).1,firstE_zero.1 h4,firstE_zero.1 h5,fun e he=>(Xhe (firstE_zero.1 h6 e he)).1⟩
theorem var_len {v:Va}(h:VarOk v):(varW v).length≤40:=by
 have l1:=h.name.len
 have l2:(Xlg v).length≤12:=by
  unfold Xlg
  rcases h.sort with ⟨a,b,c⟩|⟨a,b,c,d⟩
  ·rw[if_pos a];simp
  ·have m1:=Xnq (x:=v.lo) (by omega) (by omega)
   have m2:=Xnq (x:=v.hi) (by omega) (by omega)
   rw[if_neg (by omega)]
   simp only[List.length_append,List.length_cons]
   omega
 have l3:(sideW v.env).length=3:=by cases v.env<;>rfl
 unfold varW
 simp only[List.length_append,List.length_cons,List.length_nil]
 omega
theorem Xsv {l:List Va}{e:Ex}{w:List UInt8}(hw:w.length≤10)(h:(sortE l e).2=0):(goalW l w e).length≤1812:=by
 have:=(Xkr h).2
 unfold goalW
 simp only[List.length_append,List.length_cons,List.length_nil]
 omega
theorem sets_len {l:List Va}:∀ {f:Bool} {ss:List Se},(∀ s∈ss,(Xdw l s.var).length≤16∧(s.any=false→(textE l s.e).length≤1800))→(setsW l f ss).length≤ss.length*1824
 | _,[],_=>by simp[setsW]
 | f,s::r,h=>by
  obtain ⟨a,b⟩:=h s (List.mem_cons_self ..)
  have c:=sets_len (f:=false) (ss:=r) fun x hx=>h x (List.mem_cons_of_mem _ hx)
  have d:(toW l s).length≤1800:=by
   unfold toW
   cases e:s.any with
   | true=>exact (by decide:anyW.length≤1800)
   | false=>exact b e
  have g:(bif f then [32,100,111,32] else [44,32]:List UInt8).length≤4:=by cases f<;>decide
  rw[setsW_cons,List.length_cons,Nat.succ_mul]
  simp only[List.length_append,List.length_cons,List.length_nil]
  omega
theorem sets_typed {l:List Va}{env:Bool}(hm:mayV l=0){ss:List Se}(hs:Xhw l env ss []=0):∀ s∈ss,(Xdw l s.var).length≤16∧(s.any=false→(textE l s.e).length≤1800):=by
 have key:∀ {ss:List Se} {was:List Int},Xhw l env ss was=0→∀ s∈ss,s.any=false→(sortE l s.e).2=0:=by
  intro ss
  induction ss with
  | nil=>intro was _ s hs;cases hs
  | cons x r ih=>
   intro was h s hs ha
   simp only[Xhw] at h
   by_cases c:setE l env was x=0
   case neg=>rw[if_pos c] at h;exact absurd h c
   rw[if_neg (by simpa using c)] at h
   rcases List.mem_cons.1 hs with rfl|hs
   ·unfold setE at c
    split at c
    ·exact absurd c (by omega)
    ·split at c
     ·exact absurd c (by omega)
     ·rw[if_neg (by simp[ha])] at c
      exact (Xhe c).1
   ·exact ih h s hs ha
 intro s hm'
 have ho:=(Go.Proofs.YtpjedhbfkfobcaaGreatDoor.setsGo_ok hs).1 s hm'
 exact ⟨(Xoz (Xsk hm) ho.1 ho.2.1).len,fun ha=>(Xkr (key hs s hm' ha)).2⟩
theorem cmd_len {l:List Va}{env:Bool}{c:Cm}(h:Xdx l env c=0):(cmdW l env c).length≤13000:=by
 obtain ⟨h1,h2,h3,h4⟩:=Go.Proofs.YtpjedhbfkfobcaaGreatDoor.mayCmd_zero h
 have a:=(Xkr (Xhe h2).1).2
 have b:=sets_len (l:=l) (f:=true) (sets_typed h1 h4)
 have l3:(sideW env).length=3:=by cases env<;>rfl
 have d:c.sets.length*1824≤6*1824:=Nat.mul_le_mul_right _ h3
 unfold cmdW
 simp only[List.length_append,List.length_cons,List.length_nil]
 omega
theorem textM_len {m:Md}(h:ModWalk m):(textM m).length≤1000000:=by
 obtain ⟨n1,n2,n3,n4,n5,n6⟩:=h.n
 have a1:=Xho (f:=varW) n1 fun v hv=>var_len (h.vars v hv)
 have a2:=Xsv (w:=ieW) (by decide) h.ie
 have a3:=Xsv (w:=isW) (by decide) h.is
 have a4:=Xho (f:=cmdW m.vars true) n2 fun c hc=>cmd_len (h.env c hc)
 have a5:=Xho (f:=cmdW m.vars false) n3 fun c hc=>cmd_len (h.sys c hc)
 have a6:=Xho (f:=goalW m.vars assumeW) n4 fun e he=>Xsv (by decide) (h.goals e (by simp[he]))
 have a7:=Xho (f:=goalW m.vars ensureW) n5 fun e he=>Xsv (by decide) (h.goals e (by simp[he]))
 have a8:=Xho (f:=goalW m.vars prioW) n6 fun e he=>Xsv (by decide) (h.goals e (by simp[he]))
 unfold textM Xpb
 simp only[Xss,Xbm]
 omega
end Go.AM
namespace Go.Proofs.YtpjedhbfkfobcaaGreatDoor
open Go.AM
section
variable {N:Nat}{l row k1 k2 te ts ta tn tp:T}{o1 n1 o2 n2:Int}
theorem saidB {w:List UInt8}(hw:w.length≤10)(hlen:row.len≤100)(hx:∀ i,i<row.len→Xcj (K (N+3)) l (row.el i 0).int (row.el i 1).int (row.el i 2)=rs (textE (Xaa l) (exAt row i))∧(textE (Xaa l) (exAt row i)).length≤1800):
  ∀ (m i:Nat),i+m=row.len→∀ M n g acc,4*m+3<M→Bytes (T.l n g) acc→acc.length+(joinW (((Xab row).drop i).map (goalW (Xaa l) w))).length≤1000000→
  ∃ n' g',Xat.B0 (K (N+3)) M n (bs w) row (row.len:Int) (i:Int) g l o1 n1 k1 o2 n2 k2 te ts ta tn tp=some (lookR [(0,l),(1,T.i o1),(2,T.i n1),(3,k1),(4,T.i o2),(5,T.i n2),(6,k2),(7,te),(8,ts),(9,ta),(10,tn),(11,tp),(12,T.l n' g')])∧Bytes (T.l n' g') (acc++joinW (((Xab row).drop i).map (goalW (Xaa l) w)))
 | 0,i,hi,M,n,g,acc,hM,hB,hb=>by
  obtain ⟨M,rfl⟩:∃ M',M=M'+2:=⟨M-2,by omega⟩
  refine ⟨n,g,?_,?_⟩
  ·rw[Xat.B0_eq,Xat.B1_eq]
   exact Xag (decide_eq_false (by omega)) rfl
  ·rw[List.drop_of_length_le (by rw[Xbd];omega)]
   simpa [joinW] using hB
 | m+1,i,hi,M,n,g,acc,hM,hB,hb=>by
  obtain ⟨M,rfl⟩:∃ M',M=M'+4:=⟨M-4,by omega⟩
  obtain ⟨x1,x2⟩:=hx i (by omega)
  rw[Xca row i (by omega),List.map_cons,Xbm] at hb
  have hg:(goalW (Xaa l) w (exAt row i)).length=w.length+(textE (Xaa l) (exAt row i)).length+2:=by
   unfold goalW
   simp only[List.length_append,List.length_cons,List.length_nil]
   omega
  obtain ⟨n',g',e1,e2⟩:=line_sp N n g (((w++[32])++textE (Xaa l) (exAt row i))++[59]) hB (by
   have:((((w++[32])++textE (Xaa l) (exAt row i))++[59])).length=(goalW (Xaa l) w (exAt row i)).length:=by
    unfold goalW
    simp only[List.length_append,List.length_cons,List.length_nil]
    omega
   omega)
  have ea:((w++[32])++textE (Xaa l) (exAt row i))++[59]=goalW (Xaa l) w (exAt row i):=by unfold goalW;simp
  obtain ⟨n'',g'',f1,f2⟩:=saidB hw hlen hx m (i+1) (by omega) M n' g' _ (by omega) e2 (by
   rw[ea]
   simp only[List.length_append,List.length_cons,List.length_nil]
   omega)
  refine ⟨n'',g'',?_,?_⟩
  ·rw[Xat.B0_eq,Xat.B1_eq,Xat.B2_eq,Int.toNat_natCast,show ByteArray.mk #[32]=bs [32] from rfl,show ByteArray.mk #[59]=bs [59] from rfl]
   simp only[Xdi]
   refine if_of (decide_eq_true (by omega)) (if_of (by simp;omega) (if_of (Xbr (by simp only[List.length_cons,List.length_nil];omega)) (Xaj x1 ?_)))
   rw[Xar,str_s]
   simp only[Xdi]
   refine if_of (Xbr (by simp only[List.length_append,List.length_cons,List.length_nil];omega)) (if_of (Xbr (by simp only[List.length_append,List.length_cons,List.length_nil];omega)) (Xaj e1 ?_))
   rw[Xat.B3_eq,Xbh (a:=(i:Int)+1) (by omega) (by omega)]
   exact f1
  ·rw[Xca row i (by omega),List.map_cons,Xdb]
   rw[ea] at f2
   simpa only[List.append_assoc,List.cons_append,List.nil_append] using f2
theorem said1 {w:List UInt8}(hw:w.length≤10)(hlen:row.len=1)(hx:Xcj (K (N+3)) l (row.el 0 0).int (row.el 0 1).int (row.el 0 2)=rs (textE (Xaa l) (exAt row 0))∧(textE (Xaa l) (exAt row 0)).length≤1800)
  {M n:Nat} {g:Nat→Nat→T} {acc:List UInt8} (hM:5<M) (hB:Bytes (T.l n g) acc) (hb:acc.length≤10):
  ∃ n' g',Xap.B0 (K (N+3)) M n (bs w) row (row.len:Int) 0 g l o1 n1 k1 o2 n2 k2 te ts ta tn tp=some (lookR [(0,l),(1,T.i o1),(2,T.i n1),(3,k1),(4,T.i o2),(5,T.i n2),(6,k2),(7,te),(8,ts),(9,ta),(10,tn),(11,tp),(12,T.l n' g')])∧Bytes (T.l n' g') (acc++joinW [goalW (Xaa l) w (exAt row 0)]):=by
 obtain ⟨M,rfl⟩:∃ M',M=M'+6:=⟨M-6,by omega⟩
 obtain ⟨x1,x2⟩:=hx
 obtain ⟨n',g',e1,e2⟩:=line_sp1 N n g (((w++[32])++textE (Xaa l) (exAt row 0))++[59]) hB (by
  simp only[List.length_append,List.length_cons,List.length_nil]
  omega)
 have ea:((w++[32])++textE (Xaa l) (exAt row 0))++[59]=goalW (Xaa l) w (exAt row 0):=by unfold goalW;simp
 refine ⟨n',g',?_,?_⟩
 ·rw[Xap.B0_eq,Xap.B1_eq,Xap.B2_eq,show ByteArray.mk #[32]=bs [32] from rfl,show ByteArray.mk #[59]=bs [59] from rfl]
  simp only[Xdi]
  refine if_of (decide_eq_true (by omega)) (if_of (by simp;omega) (if_of (Xbr (by simp only[List.length_cons,List.length_nil];omega)) (Xaj x1 ?_)))
  rw[Xar,str_s]
  simp only[Xdi]
  refine if_of (Xbr (by simp only[List.length_append,List.length_cons,List.length_nil];omega)) (if_of (Xbr (by simp only[List.length_append,List.length_cons,List.length_nil];omega)) (Xaj e1 ?_))
  rw[Xap.B3_eq,Xap.B4_eq,Xap.B5_eq,Xbh (a:=(0:Int)+1) (by omega) (by omega)]
  exact Xag (decide_eq_false (by omega)) rfl
 ·rw[ea] at e2
  exact e2
theorem said_sp {w:List UInt8}(hw:w.length≤10)(hlen:row.len≤100)(hN:500≤N)(hx:∀ i,i<row.len→Xcj (K (N+3)) l (row.el i 0).int (row.el i 1).int (row.el i 2)=rs (textE (Xaa l) (exAt row i))∧(textE (Xaa l) (exAt row i)).length≤1800)
  {n:Nat} {g:Nat→Nat→T} {acc:List UInt8} (hB:Bytes (T.l n g) acc) (hb:acc.length+(joinW ((Xab row).map (goalW (Xaa l) w))).length≤1000000):
  ∃ n' g',Xdm (K (N+4)) n (bs w) row l o1 n1 k1 o2 n2 k2 te ts ta tn tp g=some (lookR [(0,l),(1,T.i o1),(2,T.i n1),(3,k1),(4,T.i o2),(5,T.i n2),(6,k2),(7,te),(8,ts),(9,ta),(10,tn),(11,tp),(12,T.l n' g')])∧Bytes (T.l n' g') (acc++joinW ((Xab row).map (goalW (Xaa l) w))):=by
 rw[Xqp]
 have:=saidB (o1:=o1) (n1:=n1) (k1:=k1) (o2:=o2) (n2:=n2) (k2:=k2) (te:=te) (ts:=ts) (ta:=ta) (tn:=tn) (tp:=tp) hw hlen hx row.len 0 (by omega) (N+3) n g acc (by omega) hB (by rw[List.drop_zero];exact hb)
 rw[List.drop_zero] at this
 exact this
end
end Go.Proofs.YtpjedhbfkfobcaaGreatDoor
