/- The document's text of a module = showM; ShowForms. -/
import Derived.Test.YtpjedhbfkfobcaaGreatDoorSh6
set_option linter.unusedVariables false
set_option linter.unusedSimpArgs false
namespace Go.Proofs.YtpjedhbfkfobcaaGreatDoor
open Go.AM
section
variable {h:H}{l k1 k2 te ts ta tn tp:T}{o1 n1 o2 n2:Int}
structure RCalls (h:H)(l:T)(o1 n1:Int)(k1:T)(o2 n2:Int)(k2 te ts ta tn tp:T):Prop where
 ie:Xbj h l o1 n1 k1=rs (textE (Xaa l) (.mk o1 n1 (Xab k1)))∧(textE (Xaa l) (.mk o1 n1 (Xab k1))).length≤1800
 is:Xbj h l o2 n2 k2=rs (textE (Xaa l) (.mk o2 n2 (Xab k2)))∧(textE (Xaa l) (.mk o2 n2 (Xab k2))).length≤1800
 assume:∀ i,i<ta.len→Xbj h l (ta.el i 0).int (ta.el i 1).int (ta.el i 2)=rs (textE (Xaa l) (exAt ta i))∧(textE (Xaa l) (exAt ta i)).length≤1800
 ensure:∀ i,i<tn.len→Xbj h l (tn.el i 0).int (tn.el i 1).int (tn.el i 2)=rs (textE (Xaa l) (exAt tn i))∧(textE (Xaa l) (exAt tn i)).length≤1800
 prio:∀ i,i<tp.len→Xbj h l (tp.el i 0).int (tp.el i 1).int (tp.el i 2)=rs (textE (Xaa l) (exAt tp i))∧(textE (Xaa l) (exAt tp i)).length≤1800
 env:∀ i,i<te.len→Xcg h l (te.el i 0).int (te.el i 1).int (te.el i 2) (te.el i 3) true=rs (cmdW (Xaa l) true (cmAt te i))
 sys:∀ i,i<ts.len→Xcg h l (ts.el i 0).int (ts.el i 1).int (ts.el i 2) (ts.el i 3) false=rs (cmdW (Xaa l) false (cmAt ts i))
 vars:∀ v∈Xaa l,VarOk v
 itoa:∀ x:Int,-1000≤x→x≤1000→Xec h x=rs (Lib.itoa x)
 n:l.len≤100∧te.len≤100∧ts.len≤100∧ta.len≤100∧tn.len≤100∧tp.len≤100
variable (hc:RCalls h l o1 n1 k1 o2 n2 k2 te ts ta tn tp)
include hc
theorem rB6:∀ (m i:Nat),i+m=tp.len→∀ M acc,m<M→acc.length+(joinW (((Xab tp).drop i).map (goalW (Xaa l) prioW))).length≤1000000→
  Xac.B6 h M (bs acc) tp (tp.len:Int) (i:Int) l o1 n1 k1 o2 n2 k2 te ts ta tn tp=rs (acc++joinW (((Xab tp).drop i).map (goalW (Xaa l) prioW)))
 | 0,i,hi,M,acc,hM,hb=>by
  obtain ⟨M,rfl⟩:∃ M',M=M'+1:=⟨M-1,by omega⟩
  rw[Xac.B6_eq,List.drop_of_length_le (by rw[Xbd];omega)]
  refine Xag (decide_eq_false (by omega)) ?_
  rw[List.map_nil,joinW,List.append_nil];rfl
 | m+1,i,hi,M,acc,hM,hb=>by
  obtain ⟨M,rfl⟩:∃ M',M=M'+1:=⟨M-1,by omega⟩
  obtain ⟨_,_,_,_,_,q⟩:=hc.n
  obtain ⟨x1,x2⟩:=hc.prio i (by omega)
  rw[Xca tp i (by omega),List.map_cons,Xbm] at hb
  have eg:(prioW++[32])++(textE (Xaa l) (exAt tp i)++[59,10])=goalW (Xaa l) prioW (exAt tp i)++[10]:=by unfold goalW;simp
  have lg:(goalW (Xaa l) prioW (exAt tp i)).length=(textE (Xaa l) (exAt tp i)).length+6:=by
   unfold goalW
   simp only[List.length_append,List.length_cons,List.length_nil,show prioW.length=4 from rfl]
   omega
  have ih:=rB6 m (i+1) (by omega) M (acc++(((prioW++[32])++textE (Xaa l) (exAt tp i))++[59,10])) (by omega) (by simp only[List.length_append,List.length_cons,List.length_nil,show prioW.length=4 from rfl] at hb ⊢;omega)
  rw[Xac.B6_eq,Int.toNat_natCast,Xbh (a:=(i:Int)+1) (by omega) (by omega),show ByteArray.mk #[112,114,105,111,32]=bs (prioW++[32]) from rfl,show ByteArray.mk #[59,10]=bs [59,10] from rfl]
  refine if_of (decide_eq_true (by omega)) (if_of (by simp;omega) (Xaj x1 ?_))
  rw[Xar,str_s]
  simp only[Xdi]
  refine if_of (Xbr ?_) (if_of (Xbr ?_) (if_of (Xbr ?_) (Eq.trans ih ?_)))
  any_goals (simp only[List.length_append,List.length_cons,List.length_nil,show prioW.length=4 from rfl];omega)
  rw[Xca tp i (by omega),List.map_cons,Xdb]
  unfold goalW
  simp only[List.append_assoc,List.cons_append,List.nil_append]
theorem rB5:∀ (m i:Nat),i+m=tn.len→∀ M acc,m+101<M→acc.length+(joinW (((Xab tn).drop i).map (goalW (Xaa l) ensureW)++(Xab tp).map (goalW (Xaa l) prioW))).length≤1000000→
  Xac.B5 h M (bs acc) tn (tn.len:Int) (i:Int) l o1 n1 k1 o2 n2 k2 te ts ta tn tp=rs (acc++joinW (((Xab tn).drop i).map (goalW (Xaa l) ensureW)++(Xab tp).map (goalW (Xaa l) prioW)))
 | 0,i,hi,M,acc,hM,hb=>by
  obtain ⟨M,rfl⟩:∃ M',M=M'+1:=⟨M-1,by omega⟩
  obtain ⟨_,_,_,_,_,q⟩:=hc.n
  rw[List.drop_of_length_le (by rw[Xbd];omega),List.map_nil,List.nil_append] at hb ⊢
  have:=rB6 hc tp.len 0 (by omega) M acc (by omega) (by rw[List.drop_zero];exact hb)
  rw[List.drop_zero] at this
  rw[Xac.B5_eq]
  exact Xag (decide_eq_false (by omega)) this
 | m+1,i,hi,M,acc,hM,hb=>by
  obtain ⟨M,rfl⟩:∃ M',M=M'+1:=⟨M-1,by omega⟩
  obtain ⟨_,_,_,_,q,_⟩:=hc.n
  obtain ⟨x1,x2⟩:=hc.ensure i (by omega)
  rw[Xca tn i (by omega),List.map_cons,List.cons_append,Xbm] at hb
  have lg:(goalW (Xaa l) ensureW (exAt tn i)).length=(textE (Xaa l) (exAt tn i)).length+8:=by
   unfold goalW
   simp only[List.length_append,List.length_cons,List.length_nil,show ensureW.length=6 from rfl]
   omega
  have ih:=rB5 m (i+1) (by omega) M (acc++(((ensureW++[32])++textE (Xaa l) (exAt tn i))++[59,10])) (by omega) (by simp only[List.length_append,List.length_cons,List.length_nil,show ensureW.length=6 from rfl] at hb ⊢;omega)
  rw[Xac.B5_eq,Int.toNat_natCast,Xbh (a:=(i:Int)+1) (by omega) (by omega),show ByteArray.mk #[101,110,115,117,114,101,32]=bs (ensureW++[32]) from rfl,show ByteArray.mk #[59,10]=bs [59,10] from rfl]
  refine if_of (decide_eq_true (by omega)) (if_of (by simp;omega) (Xaj x1 ?_))
  rw[Xar,str_s]
  simp only[Xdi]
  refine if_of (Xbr ?_) (if_of (Xbr ?_) (if_of (Xbr ?_) (Eq.trans ih ?_)))
  any_goals (simp only[List.length_append,List.length_cons,List.length_nil,show ensureW.length=6 from rfl];omega)
  rw[Xca tn i (by omega),List.map_cons,List.cons_append,Xdb]
  unfold goalW
  simp only[List.append_assoc,List.cons_append,List.nil_append]
theorem rB4:∀ (m i:Nat),i+m=ta.len→∀ M acc,m+202<M→acc.length+(joinW (((Xab ta).drop i).map (goalW (Xaa l) assumeW)++((Xab tn).map (goalW (Xaa l) ensureW)++(Xab tp).map (goalW (Xaa l) prioW)))).length≤1000000→
  Xac.B4 h M (bs acc) ta (ta.len:Int) (i:Int) l o1 n1 k1 o2 n2 k2 te ts ta tn tp=rs (acc++joinW (((Xab ta).drop i).map (goalW (Xaa l) assumeW)++((Xab tn).map (goalW (Xaa l) ensureW)++(Xab tp).map (goalW (Xaa l) prioW))))
 | 0,i,hi,M,acc,hM,hb=>by
  obtain ⟨M,rfl⟩:∃ M',M=M'+1:=⟨M-1,by omega⟩
  obtain ⟨_,_,_,_,q,_⟩:=hc.n
  rw[List.drop_of_length_le (by rw[Xbd];omega),List.map_nil,List.nil_append] at hb ⊢
  have:=rB5 hc tn.len 0 (by omega) M acc (by omega) (by rw[List.drop_zero];exact hb)
  rw[List.drop_zero] at this
  rw[Xac.B4_eq]
  exact Xag (decide_eq_false (by omega)) this
 | m+1,i,hi,M,acc,hM,hb=>by
  obtain ⟨M,rfl⟩:∃ M',M=M'+1:=⟨M-1,by omega⟩
  obtain ⟨_,_,_,q,_,_⟩:=hc.n
  obtain ⟨x1,x2⟩:=hc.assume i (by omega)
  rw[Xca ta i (by omega),List.map_cons,List.cons_append,Xbm] at hb
  have lg:(goalW (Xaa l) assumeW (exAt ta i)).length=(textE (Xaa l) (exAt ta i)).length+8:=by
   unfold goalW
   simp only[List.length_append,List.length_cons,List.length_nil,show assumeW.length=6 from rfl]
   omega
  have ih:=rB4 m (i+1) (by omega) M (acc++(((assumeW++[32])++textE (Xaa l) (exAt ta i))++[59,10])) (by omega) (by simp only[List.length_append,List.length_cons,List.length_nil,show assumeW.length=6 from rfl] at hb ⊢;omega)
  rw[Xac.B4_eq,Int.toNat_natCast,Xbh (a:=(i:Int)+1) (by omega) (by omega),show ByteArray.mk #[97,115,115,117,109,101,32]=bs (assumeW++[32]) from rfl,show ByteArray.mk #[59,10]=bs [59,10] from rfl]
  refine if_of (decide_eq_true (by omega)) (if_of (by simp;omega) (Xaj x1 ?_))
  rw[Xar,str_s]
  simp only[Xdi]
  refine if_of (Xbr ?_) (if_of (Xbr ?_) (if_of (Xbr ?_) (Eq.trans ih ?_)))
  any_goals (simp only[List.length_append,List.length_cons,List.length_nil,show assumeW.length=6 from rfl];omega)
  rw[Xca ta i (by omega),List.map_cons,List.cons_append,Xdb]
  unfold goalW
  simp only[List.append_assoc,List.cons_append,List.nil_append]
theorem rB3:∀ (m i:Nat),i+m=ts.len→∀ M acc,m+303<M→acc.length+(joinW (((Xbn ts).drop i).map (cmdW (Xaa l) false)++Xhs (Xaa l) (Xab ta) (Xab tn) (Xab tp))).length≤1000000→
  Xac.B3 h M (bs acc) ts (ts.len:Int) (i:Int) l o1 n1 k1 o2 n2 k2 te ts ta tn tp=rs (acc++joinW (((Xbn ts).drop i).map (cmdW (Xaa l) false)++Xhs (Xaa l) (Xab ta) (Xab tn) (Xab tp)))
 | 0,i,hi,M,acc,hM,hb=>by
  obtain ⟨M,rfl⟩:∃ M',M=M'+1:=⟨M-1,by omega⟩
  obtain ⟨_,_,_,q,_,_⟩:=hc.n
  rw[List.drop_of_length_le (by rw[Xdk];omega),List.map_nil,List.nil_append] at hb ⊢
  have:=rB4 hc ta.len 0 (by omega) M acc (by omega) (by rw[List.drop_zero];exact hb)
  rw[List.drop_zero] at this
  rw[Xac.B3_eq]
  exact Xag (decide_eq_false (by omega)) this
 | m+1,i,hi,M,acc,hM,hb=>by
  obtain ⟨M,rfl⟩:∃ M',M=M'+1:=⟨M-1,by omega⟩
  obtain ⟨_,_,q,_,_,_⟩:=hc.n
  rw[Xeo ts (i:=i) (by omega),List.map_cons,List.cons_append,Xbm] at hb
  have ih:=rB3 m (i+1) (by omega) M (acc++(cmdW (Xaa l) false (cmAt ts i)++[10])) (by omega) (by simp only[List.length_append,List.length_cons,List.length_nil] at hb ⊢;omega)
  rw[Xac.B3_eq,Int.toNat_natCast,Xbh (a:=(i:Int)+1) (by omega) (by omega),show ByteArray.mk #[10]=bs [10] from rfl]
  refine if_of (decide_eq_true (by omega)) (if_of (by simp;omega) (Xaj (hc.sys i (by omega)) ?_))
  rw[Xar,str_s]
  simp only[Xdi]
  refine if_of (Xbr ?_) (if_of (Xbr ?_) (Eq.trans ih ?_))
  any_goals (simp only[List.length_append,List.length_cons,List.length_nil];omega)
  rw[Xeo ts (i:=i) (by omega),List.map_cons,List.cons_append,Xdb]
  simp only[List.append_assoc,List.cons_append,List.nil_append]
theorem rB2:∀ (m i:Nat),i+m=te.len→∀ M acc,m+404<M→acc.length+(joinW (((Xbn te).drop i).map (cmdW (Xaa l) true)++((Xbn ts).map (cmdW (Xaa l) false)++Xhs (Xaa l) (Xab ta) (Xab tn) (Xab tp)))).length≤1000000→
  Xac.B2 h M (bs acc) te (te.len:Int) (i:Int) l o1 n1 k1 o2 n2 k2 te ts ta tn tp=rs (acc++joinW (((Xbn te).drop i).map (cmdW (Xaa l) true)++((Xbn ts).map (cmdW (Xaa l) false)++Xhs (Xaa l) (Xab ta) (Xab tn) (Xab tp))))
 | 0,i,hi,M,acc,hM,hb=>by
  obtain ⟨M,rfl⟩:∃ M',M=M'+1:=⟨M-1,by omega⟩
  obtain ⟨_,_,q,_,_,_⟩:=hc.n
  rw[List.drop_of_length_le (by rw[Xdk];omega),List.map_nil,List.nil_append] at hb ⊢
  have:=rB3 hc ts.len 0 (by omega) M acc (by omega) (by rw[List.drop_zero];exact hb)
  rw[List.drop_zero] at this
  rw[Xac.B2_eq]
  exact Xag (decide_eq_false (by omega)) this
 | m+1,i,hi,M,acc,hM,hb=>by
  obtain ⟨M,rfl⟩:∃ M',M=M'+1:=⟨M-1,by omega⟩
  obtain ⟨_,q,_,_,_,_⟩:=hc.n
  rw[Xeo te (i:=i) (by omega),List.map_cons,List.cons_append,Xbm] at hb
  have ih:=rB2 m (i+1) (by omega) M (acc++(cmdW (Xaa l) true (cmAt te i)++[10])) (by omega) (by simp only[List.length_append,List.length_cons,List.length_nil] at hb ⊢;omega)
  rw[Xac.B2_eq,Int.toNat_natCast,Xbh (a:=(i:Int)+1) (by omega) (by omega),show ByteArray.mk #[10]=bs [10] from rfl]
  refine if_of (decide_eq_true (by omega)) (if_of (by simp;omega) (Xaj (hc.env i (by omega)) ?_))
  rw[Xar,str_s]
  simp only[Xdi]
  refine if_of (Xbr ?_) (if_of (Xbr ?_) (Eq.trans ih ?_))
  any_goals (simp only[List.length_append,List.length_cons,List.length_nil];omega)
  rw[Xeo te (i:=i) (by omega),List.map_cons,List.cons_append,Xdb]
  simp only[List.append_assoc,List.cons_append,List.nil_append]
theorem rB1 {i:Nat}(hi:i<l.len){M:Nat}{acc:List UInt8}{Q:Option R}(ha:acc.length≤1000000)(hk:Xac.B7 h M (bs (acc++(32::((vaAt l i).name.data.toList++(32::58::32::(Xlg (vaAt l i)++[59,10])))))) l (l.len:Int) (i:Int) l o1 n1 k1 o2 n2 k2 te ts ta tn tp=Q):
  Xac.B1 h (M+1) (bs (acc++[32])) l (l.len:Int) (i:Int) l o1 n1 k1 o2 n2 k2 te ts ta tn tp (l.el i 0).str (l.el i 1).bool (l.el i 2).int (l.el i 3).int (l.el i 4).int=Q:=by
 have hv:=hc.vars _ (List.mem_of_getElem? (Xfd l hi))
 have l2:=hv.name.len
 have en:(l.el i 0).str=bs (vaAt l i).name.data.toList:=(bs_eq _).symm
 rw[Xac.B1_eq,en,show ByteArray.mk #[32,58,32]=bs [32,58,32] from rfl,show ByteArray.mk #[98,111,111,108,59,10]=bs [98,111,111,108,59,10] from rfl,show ByteArray.mk #[46,46]=bs [46,46] from rfl,show ByteArray.mk #[59,10]=bs [59,10] from rfl]
 generalize (vaAt l i).name.data.toList=w at *
 simp only[Xdi]
 refine if_of (Xbr ?_) (if_of (Xbr ?_) ?_)
 any_goals (simp only[List.length_append,List.length_cons,List.length_nil];omega)
 rcases hv.sort with ⟨a,b,c⟩|⟨a,b,c,d⟩
 ·have a':(l.el i 2).int=1:=a
  refine if_of (by rw[a'];rfl) (if_of (Xbr (by simp only[List.length_append,List.length_cons,List.length_nil];omega)) (Eq.trans ?_ hk))
  unfold Xlg
  rw[if_pos a]
  simp only[List.append_assoc,List.cons_append,List.nil_append]
 ·have a':(l.el i 2).int=2:=a
  have b': -1000≤(l.el i 3).int:=b
  have c':(l.el i 3).int≤(l.el i 4).int:=c
  have d':(l.el i 4).int≤1000:=d
  have m1:=Xnq (x:=(l.el i 3).int) (by omega) (by omega)
  have m2:=Xnq (x:=(l.el i 4).int) (by omega) (by omega)
  refine Xag (by rw[a'];rfl) (Xaj (hc.itoa (l.el i 3).int (by omega) (by omega)) ?_)
  rw[Xar,str_s]
  simp only[Xdi]
  refine if_of (Xbr ?_) (Xaj (hc.itoa (l.el i 4).int (by omega) (by omega)) ?_)
  ·simp only[List.length_append,List.length_cons,List.length_nil];omega
  rw[Xar,str_s]
  simp only[Xdi]
  refine if_of (Xbr ?_) (if_of (Xbr ?_) (if_of (Xbr ?_) (Eq.trans ?_ hk)))
  any_goals (simp only[List.length_append,List.length_cons,List.length_nil];omega)
  unfold Xlg
  rw[if_neg (by rw[a];decide)]
  simp only[List.append_assoc,List.cons_append,List.nil_append]
  rfl
theorem rB0:∀ (m i:Nat),i+m=l.len→∀ M acc,3*m+506<M→acc.length+(joinW (((Xaa l).drop i).map varW++restL (Xaa l) (.mk o1 n1 (Xab k1)) (.mk o2 n2 (Xab k2)) (Xbn te) (Xbn ts) (Xhs (Xaa l) (Xab ta) (Xab tn) (Xab tp)))).length≤1000000→
  Xac.B0 h M (bs acc) l (l.len:Int) (i:Int) l o1 n1 k1 o2 n2 k2 te ts ta tn tp=rs (acc++joinW (((Xaa l).drop i).map varW++restL (Xaa l) (.mk o1 n1 (Xab k1)) (.mk o2 n2 (Xab k2)) (Xbn te) (Xbn ts) (Xhs (Xaa l) (Xab ta) (Xab tn) (Xab tp))))
 | 0,i,hi,M,acc,hM,hb=>by
  obtain ⟨M,rfl⟩:∃ M',M=M'+1:=⟨M-1,by omega⟩
  obtain ⟨_,q,_,_,_,_⟩:=hc.n
  obtain ⟨x1,x2⟩:=hc.ie
  obtain ⟨y1,y2⟩:=hc.is
  rw[List.drop_of_length_le (by rw[Xcc];omega),List.map_nil,List.nil_append] at hb ⊢
  unfold restL at hb ⊢
  rw[Xbm,Xbm] at hb
  have l1:(goalW (Xaa l) ieW (.mk o1 n1 (Xab k1))).length=(textE (Xaa l) (.mk o1 n1 (Xab k1))).length+10:=by
   unfold goalW
   simp only[List.length_append,List.length_cons,List.length_nil,show ieW.length=8 from rfl]
   omega
  have l2:(goalW (Xaa l) isW (.mk o2 n2 (Xab k2))).length=(textE (Xaa l) (.mk o2 n2 (Xab k2))).length+10:=by
   unfold goalW
   simp only[List.length_append,List.length_cons,List.length_nil,show isW.length=8 from rfl]
   omega
  have fin:=rB2 hc te.len 0 (by omega) M (acc++(((((ieW++[32])++textE (Xaa l) (.mk o1 n1 (Xab k1)))++(59::10::(isW++[32])))++textE (Xaa l) (.mk o2 n2 (Xab k2)))++[59,10])) (by omega) (by rw[List.drop_zero];simp only[List.length_append,List.length_cons,List.length_nil,show ieW.length=8 from rfl,show isW.length=8 from rfl] at hb ⊢;omega)
  rw[List.drop_zero] at fin
  rw[Xac.B0_eq,show ByteArray.mk #[105,110,105,116,32,101,110,118,32]=bs (ieW++[32]) from rfl,show ByteArray.mk #[59,10,105,110,105,116,32,115,121,115,32]=bs (59::10::(isW++[32])) from rfl,show ByteArray.mk #[59,10]=bs [59,10] from rfl]
  refine Xag (decide_eq_false (by omega)) (Xaj x1 ?_)
  rw[Xar,str_s]
  simp only[Xdi]
  refine if_of (Xbr ?_) (if_of (Xbr ?_) (Xaj y1 ?_))
  any_goals (simp only[List.length_append,List.length_cons,List.length_nil,show ieW.length=8 from rfl,show isW.length=8 from rfl];omega)
  rw[Xar,str_s]
  simp only[Xdi]
  refine if_of (Xbr ?_) (if_of (Xbr ?_) (if_of (Xbr ?_) (Eq.trans fin ?_)))
  any_goals (simp only[List.length_append,List.length_cons,List.length_nil,show ieW.length=8 from rfl,show isW.length=8 from rfl];omega)
  rw[Xdb,Xdb]
  unfold goalW
  simp only[List.append_assoc,List.cons_append,List.nil_append]
 | m+1,i,hi,M,acc,hM,hb=>by
  obtain ⟨M,rfl⟩:∃ M',M=M'+3:=⟨M-3,by omega⟩
  obtain ⟨q,_,_,_,_,_⟩:=hc.n
  have ef:(Xaa l).drop i=vaAt l i::(Xaa l).drop (i+1):=by unfold Xaa;exact Xdy _ (by omega)
  rw[ef,List.map_cons,List.cons_append,Xbm] at hb
  have ih:=rB0 m (i+1) (by omega) M (acc++(varW (vaAt l i)++[10])) (by omega) (by simp only[List.length_append,List.length_cons,List.length_nil] at hb ⊢;omega)
  have fin:∀ s:List UInt8,s=sideW (vaAt l i).env→Xac.B1 h (M+2) (bs ((acc++s)++[32])) l (l.len:Int) (i:Int) l o1 n1 k1 o2 n2 k2 te ts ta tn tp (l.el i 0).str (l.el i 1).bool (l.el i 2).int (l.el i 3).int (l.el i 4).int=rs (acc++joinW (((Xaa l).drop i).map varW++restL (Xaa l) (.mk o1 n1 (Xab k1)) (.mk o2 n2 (Xab k2)) (Xbn te) (Xbn ts) (Xhs (Xaa l) (Xab ta) (Xab tn) (Xab tp)))):=by
   intro s hs
   have ls:s.length=3:=by rw[hs];exact side_len _
   have lv:3≤(varW (vaAt l i)).length:=by
    unfold varW
    rw[List.length_append,side_len]
    omega
   refine rB1 hc (by omega) (by rw[List.length_append];omega) ?_
   rw[Xac.B7_eq,Xbh (a:=(i:Int)+1) (by omega) (by omega)]
   have e1:(acc++s)++(32::((vaAt l i).name.data.toList++(32::58::32::(Xlg (vaAt l i)++[59,10]))))=acc++(varW (vaAt l i)++[10]):=by
    unfold varW
    rw[hs]
    simp only[List.append_assoc,List.cons_append,List.nil_append]
   rw[e1]
   refine Eq.trans ih ?_
   rw[ef,List.map_cons,List.cons_append,Xdb]
   simp only[List.append_assoc,List.cons_append,List.nil_append]
  rw[Xac.B0_eq,Int.toNat_natCast,show ByteArray.mk #[101,110,118,32]=bs (envW++[32]) from rfl,show ByteArray.mk #[115,121,115,32]=bs (sysW++[32]) from rfl]
  refine if_of (decide_eq_true (by omega)) (if_of (by simp;omega) ?_)
  simp only[Xdi,←List.append_assoc]
  cases he:(l.el i 1).bool with
  | true=>
   have f:=fin envW (by rw[show (vaAt l i).env=true from he];rfl)
   rw[he] at f
   exact if_of rfl (if_of (Xbr (by simp only[List.length_append,List.length_cons,List.length_nil,show envW.length=3 from rfl];omega)) f)
  | false=>
   have f:=fin sysW (by rw[show (vaAt l i).env=false from he];rfl)
   rw[he] at f
   exact Xag rfl (if_of (Xbr (by simp only[List.length_append,List.length_cons,List.length_nil,show sysW.length=3 from rfl];omega)) f)
end
theorem Xsf (l k:T):Ev fun N=>∀ o n,(sortE (Xaa l) (.mk o n (Xab k))).2=0→Xbj (K N) l o n k=rs (textE (Xaa l) (.mk o n (Xab k)))∧(textE (Xaa l) (.mk o n (Xab k))).length≤1800:=
 (Xnj l k).imp fun N h o n hs=>by
  obtain ⟨a,b⟩:=Xkr hs
  exact ⟨h o n _ a (by omega),b⟩
theorem rcmd_ev (l:T)(hl:l.len≤9223372036854775807)(k t:T)(hk:KW k)(ht:KS t):Ev fun N=>∀ o n env,Xdx (Xaa l) env ⟨.mk o n (Xab k),Xcr t⟩=0→Xcg (K N) l o n k t env=rs (cmdW (Xaa l) env ⟨.mk o n (Xab k),Xcr t⟩):=
 (Xsh l hl k t hk ht).imp fun N h o n env hm=>by
  rw[h o n env]
  unfold showC
  rw[if_neg (by simpa using hm)]
theorem refModule_sp (l:T)(hl:l.len≤9223372036854775807)(k1 k2 te ts ta tn tp:T)(h1:KW k1)(h2:KW k2)(he:KC te)(hs:KC ts)(ha:KW ta)(hn:KW tn)(hp:KW tp):
  Ev fun N=>∀ o1 n1 o2 n2,Xgz (K N) l o1 n1 k1 o2 n2 k2 te ts ta tn tp=rs (showM (mdOf l o1 n1 k1 o2 n2 k2 te ts ta tn tp)):=by
 have base:=Ev.imp4 (refMayM_sp l hl k1 k2 te ts ta tn tp h1 h2 he hs ha hn hp) (Ev.and (Xsf l k1) (Xsf l k2)) (Ev.and (Ev.all (k:=te.len) fun i hi=>rcmd_ev l hl (te.el i 2) (te.el i 3) (he.2 i hi).1 (he.2 i hi).2) (Ev.all (k:=ts.len) fun i hi=>rcmd_ev l hl (ts.el i 2) (ts.el i 3) (hs.2 i hi).1 (hs.2 i hi).2)) (Ev.and (Ev.all (k:=ta.len) fun i hi=>Xsf l (ta.el i 2)) (Ev.and (Ev.all (k:=tn.len) fun i hi=>Xsf l (tn.el i 2)) (Ev.all (k:=tp.len) fun i hi=>Xsf l (tp.el i 2)))) fun N a b c d=>(⟨a,b,c,d⟩:_∧_∧_∧_)
 refine Ev.step (base.imp2 (Ev.ge 2000) fun N hbase hN o1 n1 o2 n2=> ?_)
 obtain ⟨b1,⟨b2,b3⟩,⟨b4,b5⟩,b6,b7,b8⟩:=hbase
 rw[Xnb]
 refine Xaj (b1 o1 n1 o2 n2) ?_
 unfold showM
 by_cases c:mayM (mdOf l o1 n1 k1 o2 n2 k2 te ts ta tn tp)=0
 ·rw[if_neg (by simpa using c)]
  have w:=mod_walk c
  have wl:=textM_len w
  have hgo:∀ t:T,(∀ e∈Xab t,e∈(mdOf l o1 n1 k1 o2 n2 k2 te ts ta tn tp).assume++(mdOf l o1 n1 k1 o2 n2 k2 te ts ta tn tp).ensure++(mdOf l o1 n1 k1 o2 n2 k2 te ts ta tn tp).prio)→∀ i,i<t.len→(sortE (Xaa l) (exAt t i)).2=0:=fun t ht i hi=>w.goals _ (ht _ (List.mem_of_getElem? (Xkk t hi)))
  obtain ⟨q1,q2,q3,q4,q5,q6⟩:=w.n
  have hlens:l.len≤100∧te.len≤100∧ts.len≤100∧ta.len≤100∧tn.len≤100∧tp.len≤100:=by
   simp only[mdOf,Xcc,Xdk,Xbd] at q1 q2 q3 q4 q5 q6
   omega
  have hcalls:RCalls (K N) l o1 n1 k1 o2 n2 k2 te ts ta tn tp:=by
   constructor
   ·exact b2 _ _ w.ie
   ·exact b3 _ _ w.is
   ·exact fun i hi=>b6 i hi _ _ (hgo ta (fun e he=>by simp only[mdOf];simp[he]) i hi)
   ·exact fun i hi=>b7 i hi _ _ (hgo tn (fun e he=>by simp only[mdOf];simp[he]) i hi)
   ·exact fun i hi=>b8 i hi _ _ (hgo tp (fun e he=>by simp only[mdOf];simp[he]) i hi)
   ·exact fun i hi=>b4 i hi _ _ true (w.env _ (List.mem_of_getElem? (Xqj te hi)))
   ·exact fun i hi=>b5 i hi _ _ false (w.sys _ (List.mem_of_getElem? (Xqj ts hi)))
   ·exact w.vars
   ·intro x hx0 hx1
    obtain ⟨M,rfl⟩:∃ M,N=M+1:=⟨N-1,by omega⟩
    exact itoa_sp M x (by omega) (by omega)
   ·exact hlens
  have fin:=rB0 hcalls l.len 0 (by omega) N [] (by omega) (by rw[List.drop_zero,List.length_nil,Nat.zero_add];exact wl)
  rw[List.drop_zero,List.nil_append] at fin
  refine Xag ?_ fin
  rw[Xar,int_i,show mayM ⟨Xaa l,.mk o1 n1 (Xab k1),.mk o2 n2 (Xab k2),Xbn te,Xbn ts,Xab ta,Xab tn,Xab tp⟩=0 from c];rfl
 ·rw[if_pos c]
  refine if_of ?_ rfl
  rw[Xar,int_i]
  have c':¬mayM ⟨Xaa l,.mk o1 n1 (Xab k1),.mk o2 n2 (Xab k2),Xbn te,Xbn ts,Xab ta,Xab tn,Xab tp⟩=0:=c
  simpa using c'
end Go.Proofs.YtpjedhbfkfobcaaGreatDoor
