/- show.Module = showM. -/
import Derived.Test.YtpjedhbfkfobcaaGreatDoorSh5
set_option linter.unusedVariables false
set_option linter.unusedSimpArgs false
namespace Go.AM
def Xhs (l:List Va)(a n p:List Ex):List (List UInt8):=a.map (goalW l assumeW)++(n.map (goalW l ensureW)++p.map (goalW l prioW))
def mdOf (l:T)(o1 n1:Int)(k1:T)(o2 n2:Int)(k2 te ts ta tn tp:T):Md:=⟨Xaa l,.mk o1 n1 (Xab k1),.mk o2 n2 (Xab k2),Xbn te,Xbn ts,Xab ta,Xab tn,Xab tp⟩
end Go.AM
namespace Go.Proofs.YtpjedhbfkfobcaaGreatDoor
open Go.AM
section
variable {N:Nat}{l k1 k2 te ts ta tn tp:T}{o1 n1 o2 n2:Int}
structure Calls (N:Nat)(l:T)(o1 n1:Int)(k1:T)(o2 n2:Int)(k2 te ts ta tn tp:T):Prop where
 big:500≤N
 ie:Xcj (K (N+3)) l o1 n1 k1=rs (textE (Xaa l) (.mk o1 n1 (Xab k1)))∧(textE (Xaa l) (.mk o1 n1 (Xab k1))).length≤1800
 is:Xcj (K (N+3)) l o2 n2 k2=rs (textE (Xaa l) (.mk o2 n2 (Xab k2)))∧(textE (Xaa l) (.mk o2 n2 (Xab k2))).length≤1800
 assume:∀ i,i<ta.len→Xcj (K (N+3)) l (ta.el i 0).int (ta.el i 1).int (ta.el i 2)=rs (textE (Xaa l) (exAt ta i))∧(textE (Xaa l) (exAt ta i)).length≤1800
 ensure:∀ i,i<tn.len→Xcj (K (N+3)) l (tn.el i 0).int (tn.el i 1).int (tn.el i 2)=rs (textE (Xaa l) (exAt tn i))∧(textE (Xaa l) (exAt tn i)).length≤1800
 prio:∀ i,i<tp.len→Xcj (K (N+3)) l (tp.el i 0).int (tp.el i 1).int (tp.el i 2)=rs (textE (Xaa l) (exAt tp i))∧(textE (Xaa l) (exAt tp i)).length≤1800
 env:∀ i,i<te.len→Xfo (K (N+4)) l (te.el i 0).int (te.el i 1).int (te.el i 2) (te.el i 3) true=rs (cmdW (Xaa l) true (cmAt te i))
 sys:∀ i,i<ts.len→Xfo (K (N+4)) l (ts.el i 0).int (ts.el i 1).int (ts.el i 2) (ts.el i 3) false=rs (cmdW (Xaa l) false (cmAt ts i))
 vars:∀ v∈Xaa l,VarOk v
 n:l.len≤100∧te.len≤100∧ts.len≤100∧ta.len≤100∧tn.len≤100∧tp.len≤100
variable (hc:Calls N l o1 n1 k1 o2 n2 k2 te ts ta tn tp)
include hc
theorem shB5:∀ (m i:Nat),i+m=ts.len→∀ M n g acc,m<M→Bytes (T.l n g) acc→0<acc.length→acc.length+(joinW (((Xbn ts).drop i).map (cmdW (Xaa l) false)++Xhs (Xaa l) (Xab ta) (Xab tn) (Xab tp))).length≤1000000→
  Xak.B5 (K (N+4)) M n ts (ts.len:Int) (i:Int) l o1 n1 k1 o2 n2 k2 te ts ta tn tp g=rs (acc++joinW (((Xbn ts).drop i).map (cmdW (Xaa l) false)++Xhs (Xaa l) (Xab ta) (Xab tn) (Xab tp)))
 | 0,i,hi,M,n,g,acc,hM,hB,h0,hb=>by
  obtain ⟨M,rfl⟩:∃ M',M=M'+1:=⟨M-1,by omega⟩
  obtain ⟨_,_,_,q1,q2,q3⟩:=hc.n
  rw[List.drop_of_length_le (by rw[Xdk];omega),List.map_nil,List.nil_append] at hb ⊢
  unfold Xhs at hb ⊢
  simp only[Xss] at hb
  obtain ⟨n',g',e1,e2⟩:=said_sp (o1:=o1) (n1:=n1) (k1:=k1) (o2:=o2) (n2:=n2) (k2:=k2) (te:=te) (ts:=ts) (ta:=ta) (tn:=tn) (tp:=tp) (w:=assumeW) (by decide) q1 hc.big hc.assume hB (by omega)
  obtain ⟨n'',g'',f1,f2⟩:=said_sp (o1:=o1) (n1:=n1) (k1:=k1) (o2:=o2) (n2:=n2) (k2:=k2) (te:=te) (ts:=ts) (ta:=ta) (tn:=tn) (tp:=tp) (w:=ensureW) (by decide) q2 hc.big hc.ensure e2 (by rw[List.length_append];omega)
  obtain ⟨n3,g3,r1,r2⟩:=said_sp (o1:=o1) (n1:=n1) (k1:=k1) (o2:=o2) (n2:=n2) (k2:=k2) (te:=te) (ts:=ts) (ta:=ta) (tn:=tn) (tp:=tp) (w:=prioW) (by decide) q3 hc.big hc.prio f2 (by rw[List.length_append,List.length_append];omega)
  have hl:n3=_:=r2.1
  have hs:=string_sp (N+3) n3 g3 r2 (by rw[hl];simp only[List.length_append];omega)
  rw[Xak.B5_eq]
  refine Xag (decide_eq_false (by omega)) (Xaj e1 (Xaj f1 (Xaj r1 (Xaj hs ?_))))
  simp only[joinW_app,List.append_assoc]
  rfl
 | m+1,i,hi,M,n,g,acc,hM,hB,h0,hb=>by
  obtain ⟨M,rfl⟩:∃ M',M=M'+1:=⟨M-1,by omega⟩
  obtain ⟨_,_,q,_,_,_⟩:=hc.n
  rw[Xeo ts (i:=i) (by omega),List.map_cons,List.cons_append,Xbm] at hb
  obtain ⟨n',g',e1,e2⟩:=line_sp (N+1) n g (cmdW (Xaa l) false (cmAt ts i)) hB (by omega)
  have ih:=shB5 m (i+1) (by omega) M n' g' _ (by omega) e2 (by simp only[List.length_append];omega) (by simp only[List.length_append,List.length_cons,List.length_nil] at hb ⊢;omega)
  rw[Xak.B5_eq,Int.toNat_natCast,Xbh (a:=(i:Int)+1) (by omega) (by omega)]
  refine if_of (decide_eq_true (by omega)) (if_of (by simp;omega) (Xaj (hc.sys i (by omega)) (Xaj e1 (Eq.trans ih ?_))))
  rw[Xeo ts (i:=i) (by omega),List.map_cons,List.cons_append,Xdb]
  simp only[List.append_assoc,List.cons_append,List.nil_append]
theorem shB4:∀ (m i:Nat),i+m=te.len→∀ M n g acc,m+200<M→Bytes (T.l n g) acc→0<acc.length→acc.length+(joinW (((Xbn te).drop i).map (cmdW (Xaa l) true)++((Xbn ts).map (cmdW (Xaa l) false)++Xhs (Xaa l) (Xab ta) (Xab tn) (Xab tp)))).length≤1000000→
  Xak.B4 (K (N+4)) M n te (te.len:Int) (i:Int) l o1 n1 k1 o2 n2 k2 te ts ta tn tp g=rs (acc++joinW (((Xbn te).drop i).map (cmdW (Xaa l) true)++((Xbn ts).map (cmdW (Xaa l) false)++Xhs (Xaa l) (Xab ta) (Xab tn) (Xab tp))))
 | 0,i,hi,M,n,g,acc,hM,hB,h0,hb=>by
  obtain ⟨M,rfl⟩:∃ M',M=M'+1:=⟨M-1,by omega⟩
  obtain ⟨_,_,q,_,_,_⟩:=hc.n
  rw[List.drop_of_length_le (by rw[Xdk];omega),List.map_nil,List.nil_append] at hb ⊢
  have:=shB5 hc ts.len 0 (by omega) M n g acc (by omega) hB h0 (by rw[List.drop_zero];exact hb)
  rw[List.drop_zero] at this
  rw[Xak.B4_eq]
  exact Xag (decide_eq_false (by omega)) this
 | m+1,i,hi,M,n,g,acc,hM,hB,h0,hb=>by
  obtain ⟨M,rfl⟩:∃ M',M=M'+1:=⟨M-1,by omega⟩
  obtain ⟨_,q,_,_,_,_⟩:=hc.n
  rw[Xeo te (i:=i) (by omega),List.map_cons,List.cons_append,Xbm] at hb
  obtain ⟨n',g',e1,e2⟩:=line_sp (N+1) n g (cmdW (Xaa l) true (cmAt te i)) hB (by omega)
  have ih:=shB4 m (i+1) (by omega) M n' g' _ (by omega) e2 (by simp only[List.length_append];omega) (by simp only[List.length_append,List.length_cons,List.length_nil] at hb ⊢;omega)
  rw[Xak.B4_eq,Int.toNat_natCast,Xbh (a:=(i:Int)+1) (by omega) (by omega)]
  refine if_of (decide_eq_true (by omega)) (if_of (by simp;omega) (Xaj (hc.env i (by omega)) (Xaj e1 (Eq.trans ih ?_))))
  rw[Xeo te (i:=i) (by omega),List.map_cons,List.cons_append,Xdb]
  simp only[List.append_assoc,List.cons_append,List.nil_append]
theorem shB4' (M n:Nat)(g:Nat→Nat→T)(acc:List UInt8)(hM:400<M)(hB:Bytes (T.l n g) acc)(h0:0<acc.length)(hb:acc.length+(joinW ((Xbn te).map (cmdW (Xaa l) true)++((Xbn ts).map (cmdW (Xaa l) false)++Xhs (Xaa l) (Xab ta) (Xab tn) (Xab tp)))).length≤1000000):
  Xak.B4 (K (N+4)) M n te (te.len:Int) 0 l o1 n1 k1 o2 n2 k2 te ts ta tn tp g=rs (acc++joinW ((Xbn te).map (cmdW (Xaa l) true)++((Xbn ts).map (cmdW (Xaa l) false)++Xhs (Xaa l) (Xab ta) (Xab tn) (Xab tp)))):=by
 obtain ⟨_,q,_,_,_,_⟩:=hc.n
 have:=shB4 hc te.len 0 (by omega) M n g acc (by omega) hB h0 (by rw[List.drop_zero];exact hb)
 rw[List.drop_zero] at this
 exact this
def restL (l:List Va)(a b:Ex)(e s:List Cm)(g:List (List UInt8)):List (List UInt8):=goalW l ieW a::goalW l isW b::(e.map (cmdW l true)++(s.map (cmdW l false)++g))
omit hc in
theorem Xqc (o n:Int)(k:T):Xab (T.l 1 (fun i j=>((([[(T.i o),(T.i n),k]]:List (List T)).getD (0+i) []).getD j (.b false))))=[.mk o n (Xab k)]:=by simp only[Xab];rfl
omit hc in
theorem one_el {o n:Int}{k:T}{N:Nat}(h:Xcj (K N) l o n k=rs (textE (Xaa l) (.mk o n (Xab k)))∧(textE (Xaa l) (.mk o n (Xab k))).length≤1800):
  let row:=T.l 1 (fun i j=>((([[(T.i o),(T.i n),k]]:List (List T)).getD (0+i) []).getD j (.b false)))
  ∀ i,i<row.len→Xcj (K N) l (row.el i 0).int (row.el i 1).int (row.el i 2)=rs (textE (Xaa l) (exAt row i))∧(textE (Xaa l) (exAt row i)).length≤1800:=by
 intro row i hi
 obtain rfl:i=0:=by
  have:i<1:=hi
  omega
 exact h
theorem shB10 (M n:Nat)(g:Nat→Nat→T)(acc:List UInt8)(hM:420<M)(hB:Bytes (T.l n g) acc)(hb:acc.length+(joinW (restL (Xaa l) (.mk o1 n1 (Xab k1)) (.mk o2 n2 (Xab k2)) (Xbn te) (Xbn ts) (Xhs (Xaa l) (Xab ta) (Xab tn) (Xab tp)))).length≤1000000):
  Xak.B10 (K (N+4)) M n l o1 n1 k1 o2 n2 k2 te ts ta tn tp g=rs (acc++joinW (restL (Xaa l) (.mk o1 n1 (Xab k1)) (.mk o2 n2 (Xab k2)) (Xbn te) (Xbn ts) (Xhs (Xaa l) (Xab ta) (Xab tn) (Xab tp)))):=by
 obtain ⟨M,rfl⟩:∃ M',M=M'+1:=⟨M-1,by omega⟩
 unfold restL at hb ⊢
 rw[Xbm,Xbm] at hb
 obtain ⟨n',g',e1,e2⟩:=said_sp (o1:=o1) (n1:=n1) (k1:=k1) (o2:=o2) (n2:=n2) (k2:=k2) (te:=te) (ts:=ts) (ta:=ta) (tn:=tn) (tp:=tp) (w:=ieW) (by decide) (by show 1≤100;omega) hc.big (one_el hc.ie) hB (by rw[Xqc];simp only[List.map_cons,List.map_nil,Xbm,joinW,List.length_nil,List.length_append,List.length_cons];omega)
 rw[Xqc] at e2
 obtain ⟨n'',g'',f1,f2⟩:=said_sp (o1:=o1) (n1:=n1) (k1:=k1) (o2:=o2) (n2:=n2) (k2:=k2) (te:=te) (ts:=ts) (ta:=ta) (tn:=tn) (tp:=tp) (w:=isW) (by decide) (by show 1≤100;omega) hc.big (one_el hc.is) e2 (by rw[Xqc];simp only[List.map_cons,List.map_nil,Xbm,joinW,List.length_nil,List.length_append,List.length_cons];omega)
 rw[Xqc] at f2
 have fin:=shB4' hc M n'' g'' _ (by omega) f2 (by simp only[List.map_cons,List.map_nil,List.length_append,Xbm,joinW,List.length_cons,List.length_nil];omega) (by simp only[List.map_cons,List.map_nil,List.length_append,Xbm,joinW,List.length_nil,List.length_cons] at hb ⊢;omega)
 rw[Xak.B10_eq]
 refine Xaj e1 (Xaj f1 (Eq.trans fin ?_))
 simp only[List.map_cons,List.map_nil,Xdb,joinW,List.append_assoc,List.cons_append,List.nil_append]
theorem shB3 (M:Nat)(g:Nat→Nat→T)(hM:420<M)(hB:Bytes (T.l 0 g) [])(hb:(joinW (restL (Xaa l) (.mk o1 n1 (Xab k1)) (.mk o2 n2 (Xab k2)) (Xbn te) (Xbn ts) (Xhs (Xaa l) (Xab ta) (Xab tn) (Xab tp)))).length≤1000000):
  Xak.B3 (K (N+4)) M 0 l o1 n1 k1 o2 n2 k2 te ts ta tn tp g=rs (joinW (restL (Xaa l) (.mk o1 n1 (Xab k1)) (.mk o2 n2 (Xab k2)) (Xbn te) (Xbn ts) (Xhs (Xaa l) (Xab ta) (Xab tn) (Xab tp)))):=by
 obtain ⟨M,rfl⟩:∃ M',M=M'+1:=⟨M-1,by omega⟩
 have hbig:=hc.big
 unfold restL at hb ⊢
 rw[Xbm,Xbm] at hb
 obtain ⟨n',g',e1,e2⟩:=said1 (N:=N) (l:=l) (o1:=o1) (n1:=n1) (k1:=k1) (o2:=o2) (n2:=n2) (k2:=k2) (te:=te) (ts:=ts) (ta:=ta) (tn:=tn) (tp:=tp) (w:=ieW) (row:=T.l 1 (fun i j=>((([[(T.i o1),(T.i n1),k1]]:List (List T)).getD (0+i) []).getD j (.b false)))) (by decide) rfl (one_el hc.ie 0 (by show 0<1;omega)) (M:=N+3) (by omega) hB (by simp)
 have e2:Bytes (T.l n' g') (joinW [goalW (Xaa l) ieW (.mk o1 n1 (Xab k1))]):=e2
 obtain ⟨n'',g'',f1,f2⟩:=said_sp (o1:=o1) (n1:=n1) (k1:=k1) (o2:=o2) (n2:=n2) (k2:=k2) (te:=te) (ts:=ts) (ta:=ta) (tn:=tn) (tp:=tp) (w:=isW) (by decide) (by show 1≤100;omega) hc.big (one_el hc.is) e2 (by rw[Xqc];simp only[List.map_cons,List.map_nil,Xbm,joinW,List.length_nil,List.length_append,List.length_cons];omega)
 rw[Xqc] at f2
 have fin:=shB4' hc M n'' g'' _ (by omega) f2 (by simp only[List.map_cons,List.map_nil,List.length_append,Xbm,joinW,List.length_cons,List.length_nil];omega) (by simp only[List.map_cons,List.map_nil,List.length_append,Xbm,joinW,List.length_nil,List.length_cons] at hb ⊢;omega)
 rw[Xak.B3_eq]
 refine Xaj (Eq.trans (C_show_Module_2_K ..) e1) (Xaj f1 (Eq.trans fin ?_))
 simp only[List.map_cons,List.map_nil,Xdb,joinW,List.append_assoc,List.cons_append,List.nil_append]
theorem shB7:∀ (m i:Nat),i+m=l.len→∀ M n g acc,4*m+430<M→Bytes (T.l n g) acc→acc.length+(joinW (((Xaa l).drop i).map varW++restL (Xaa l) (.mk o1 n1 (Xab k1)) (.mk o2 n2 (Xab k2)) (Xbn te) (Xbn ts) (Xhs (Xaa l) (Xab ta) (Xab tn) (Xab tp)))).length≤1000000→
  Xak.B7 (K (N+4)) M n l (l.len:Int) (i:Int) l o1 n1 k1 o2 n2 k2 te ts ta tn tp g=rs (acc++joinW (((Xaa l).drop i).map varW++restL (Xaa l) (.mk o1 n1 (Xab k1)) (.mk o2 n2 (Xab k2)) (Xbn te) (Xbn ts) (Xhs (Xaa l) (Xab ta) (Xab tn) (Xab tp))))
 | 0,i,hi,M,n,g,acc,hM,hB,hb=>by
  obtain ⟨M,rfl⟩:∃ M',M=M'+2:=⟨M-2,by omega⟩
  rw[List.drop_of_length_le (by rw[Xcc];omega),List.map_nil,List.nil_append] at hb ⊢
  have:=shB10 hc M n g acc (by omega) hB hb
  rw[Xak.B7_eq,Xak.B8_eq]
  exact Xag (decide_eq_false (by omega)) this
 | m+1,i,hi,M,n,g,acc,hM,hB,hb=>by
  obtain ⟨M,rfl⟩:∃ M',M=M'+4:=⟨M-4,by omega⟩
  obtain ⟨q,_,_,_,_,_⟩:=hc.n
  have ef:(Xaa l).drop i=vaAt l i::(Xaa l).drop (i+1):=by unfold Xaa;exact Xdy _ (by omega)
  rw[ef,List.map_cons,List.cons_append,Xbm] at hb
  obtain ⟨n',g',e1,e2⟩:=line_sp (N+1) n g (varW (vaAt l i)) hB (by omega)
  have ih:=shB7 m (i+1) (by omega) M n' g' _ (by omega) e2 (by simp only[List.length_append,List.length_cons,List.length_nil] at hb ⊢;omega)
  have hv:=variable_sp (N+2) (vaAt l i) (hc.vars _ (List.mem_of_getElem? (Xfd l (by omega))))
  rw[Xak.B7_eq,Xak.B8_eq]
  refine if_of (decide_eq_true (by omega)) ?_
  rw[Xak.B9_eq,Int.toNat_natCast]
  refine if_of (by simp;omega) (Xaj hv (Xaj e1 ?_))
  rw[Xak.B6_eq,Xbh (a:=(i:Int)+1) (by omega) (by omega)]
  refine Eq.trans ih ?_
  rw[ef,List.map_cons,List.cons_append,Xdb]
  simp only[List.append_assoc,List.cons_append,List.nil_append]
theorem shB0 (M:Nat)(g:Nat→Nat→T)(hM:1000<M)(hb:(joinW ((Xaa l).map varW++restL (Xaa l) (.mk o1 n1 (Xab k1)) (.mk o2 n2 (Xab k2)) (Xbn te) (Xbn ts) (Xhs (Xaa l) (Xab ta) (Xab tn) (Xab tp)))).length≤1000000):
  Xak.B0 (K (N+4)) M 0 l (l.len:Int) 0 l o1 n1 k1 o2 n2 k2 te ts ta tn tp g=rs (joinW ((Xaa l).map varW++restL (Xaa l) (.mk o1 n1 (Xab k1)) (.mk o2 n2 (Xab k2)) (Xbn te) (Xbn ts) (Xhs (Xaa l) (Xab ta) (Xab tn) (Xab tp)))):=by
 obtain ⟨M,rfl⟩:∃ M',M=M'+4:=⟨M-4,by omega⟩
 obtain ⟨q,_,_,_,_,_⟩:=hc.n
 have hB:Bytes (T.l 0 g) []:=⟨rfl,fun i b h=>by cases h⟩
 rw[Xak.B0_eq,Xak.B1_eq]
 by_cases c:l.len=0
 ·have e:(Xaa l).map varW=[]:=by
   have:=Xcc l
   rw[c] at this
   rw[List.eq_nil_of_length_eq_zero this];rfl
  rw[e,List.nil_append] at hb ⊢
  exact Xag (decide_eq_false (by omega)) (shB3 hc (M+2) g (by omega) hB hb)
 ·have ef:Xaa l=vaAt l 0::(Xaa l).drop 1:=by
   have:(Xaa l).drop 0=vaAt l 0::(Xaa l).drop (0+1):=by unfold Xaa;exact Xdy _ (by omega)
   rw[List.drop_zero] at this
   exact this
  have em:(Xaa l).map varW=varW (vaAt l 0)::((Xaa l).drop 1).map varW:=by rw[←List.map_cons,←ef]
  rw[em,List.cons_append,Xbm] at hb
  obtain ⟨n',g',e1,e2⟩:=line_sp1 (N+1) 0 g (varW (vaAt l 0)) hB (by simp only[List.length_nil];omega)
  rw[List.nil_append] at e2
  have ih:=shB7 hc (l.len-1) 1 (by omega) M n' g' _ (by omega) e2 (by simp only[List.length_append,List.length_cons,List.length_nil] at hb ⊢;omega)
  have hv:=variable_sp (N+2) (vaAt l 0) (hc.vars _ (List.mem_of_getElem? (Xfd l (by omega))))
  refine if_of (decide_eq_true (by omega)) ?_
  rw[Xak.B2_eq]
  refine if_of (by simp;omega) (Xaj hv (Xaj e1 ?_))
  rw[Xak.B6_eq,Xbh (a:=(0:Int)+1) (by omega) (by omega)]
  refine Eq.trans ih ?_
  rw[em,List.cons_append,Xdb]
  simp only[List.append_assoc,List.cons_append,List.nil_append]
end
theorem text_ev (l k:T):Ev fun N=>∀ o n,(sortE (Xaa l) (.mk o n (Xab k))).2=0→Xcj (K N) l o n k=rs (textE (Xaa l) (.mk o n (Xab k)))∧(textE (Xaa l) (.mk o n (Xab k))).length≤1800:=
 (text_sp l k).imp fun N h o n hs=>by
  obtain ⟨a,b⟩:=Xkr hs
  exact ⟨h o n _ a (by omega),b⟩
theorem Xpk (l:T)(hl:l.len≤9223372036854775807)(k1 k2 te ts ta tn tp:T)(h1:KW k1)(h2:KW k2)(he:KC te)(hs:KC ts)(ha:KW ta)(hn:KW tn)(hp:KW tp):
  Ev fun N=>∀ o1 n1 o2 n2,Xgg (K N) l o1 n1 k1 o2 n2 k2 te ts ta tn tp=rs (showM (mdOf l o1 n1 k1 o2 n2 k2 te ts ta tn tp)):=by
 have base:=Ev.imp4 ((MayM_sp l hl k1 k2 te ts ta tn tp h1 h2 he hs ha hn hp).up 4) (Ev.and ((text_ev l k1).up 3) ((text_ev l k2).up 3)) (Ev.and ((Ev.all (k:=te.len) fun i hi=>command_sp l (te.el i 2) (te.el i 3)).up 4) ((Ev.all (k:=ts.len) fun i hi=>command_sp l (ts.el i 2) (ts.el i 3)).up 4)) (Ev.and ((Ev.all (k:=ta.len) fun i hi=>text_ev l (ta.el i 2)).up 3) (Ev.and ((Ev.all (k:=tn.len) fun i hi=>text_ev l (tn.el i 2)).up 3) ((Ev.all (k:=tp.len) fun i hi=>text_ev l (tp.el i 2)).up 3))) fun N a b c d=>(⟨a,b,c,d⟩:_∧_∧_∧_)
 refine Ev.step (Ev.step (Ev.step (Ev.step (Ev.step (base.imp2 (Ev.ge 2000) fun N hbase hN o1 n1 o2 n2=> ?_)))))
 obtain ⟨b1,⟨b2,b3⟩,⟨b4,b5⟩,b6,b7,b8⟩:=hbase
 rw[C_show_Module_K]
 refine Xaj (b1 o1 n1 o2 n2) ?_
 unfold showM
 by_cases c:mayM (mdOf l o1 n1 k1 o2 n2 k2 te ts ta tn tp)=0
 ·rw[if_neg (by simpa using c)]
  have w:=mod_walk c
  have wl:=textM_len w
  have hgo:∀ t:T,(∀ e∈Xab t,e∈(mdOf l o1 n1 k1 o2 n2 k2 te ts ta tn tp).assume++(mdOf l o1 n1 k1 o2 n2 k2 te ts ta tn tp).ensure++(mdOf l o1 n1 k1 o2 n2 k2 te ts ta tn tp).prio)→∀ i,i<t.len→(sortE (Xaa l) (exAt t i)).2=0:=fun t ht i hi=>w.goals _ (ht _ (List.mem_of_getElem? (Xkk t hi)))
  obtain ⟨q1,q2,q3,q4,q5,q6⟩:=w.n
  have hcalls:Calls N l o1 n1 k1 o2 n2 k2 te ts ta tn tp:=by
   constructor
   ·omega
   ·exact b2 _ _ w.ie
   ·exact b3 _ _ w.is
   ·exact fun i hi=>b6 i hi _ _ (hgo ta (fun e he=>by simp only[mdOf];simp[he]) i hi)
   ·exact fun i hi=>b7 i hi _ _ (hgo tn (fun e he=>by simp only[mdOf];simp[he]) i hi)
   ·exact fun i hi=>b8 i hi _ _ (hgo tp (fun e he=>by simp only[mdOf];simp[he]) i hi)
   ·exact fun i hi=>b4 i hi _ _ true (w.env _ (List.mem_of_getElem? (Xqj te hi)))
   ·exact fun i hi=>b5 i hi _ _ false (w.sys _ (List.mem_of_getElem? (Xqj ts hi)))
   ·exact w.vars
   ·simp only[mdOf,Xcc,Xdk,Xbd] at q1 q2 q3 q4 q5 q6
    omega
  refine Xag ?_ ?_
  ·rw[Xar,int_i,show mayM ⟨Xaa l,.mk o1 n1 (Xab k1),.mk o2 n2 (Xab k2),Xbn te,Xbn ts,Xab ta,Xab tn,Xab tp⟩=0 from c];rfl
  ·exact shB0 hcalls (N+4) _ (by omega) wl
 ·rw[if_pos c]
  refine if_of ?_ rfl
  rw[Xar,int_i]
  have c':¬mayM ⟨Xaa l,.mk o1 n1 (Xab k1),.mk o2 n2 (Xab k2),Xbn te,Xbn ts,Xab ta,Xab tn,Xab tp⟩=0:=c
  simpa using c'
end Go.Proofs.YtpjedhbfkfobcaaGreatDoor
