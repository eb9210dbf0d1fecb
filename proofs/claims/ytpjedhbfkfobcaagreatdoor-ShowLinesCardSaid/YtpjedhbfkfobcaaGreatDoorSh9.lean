/- The law ShowLines, on the engine's side. -/
import Derived.Test.YtpjedhbfkfobcaaGreatDoorSh8
set_option linter.unusedVariables false
set_option linter.unusedSimpArgs false
namespace Go.AM
open Go.Proofs.YtpjedhbfkfobcaaGreatDoor
theorem count_from {S:List UInt8}{i:Nat}(h:i<S.length):(S.drop i).count 10=(S.drop (i+1)).count 10+(if S[i]=10 then 1 else 0):=by
 rw[List.drop_eq_getElem_cons h,List.count_cons]
 by_cases c:S[i]=10
 ·rw[if_pos c,c];rfl
 ·rw[if_neg c]
  have:(S[i]==(10:UInt8))=false:=by simpa using c
  rw[this];rfl
end Go.AM
namespace Go.Proofs.YtpjedhbfkfobcaaGreatDoor
open Go.AM
section
variable {h:H}{S:List UInt8}{l k1 k2 te ts ta tn tp:T}{o1 n1 o2 n2:Int}
theorem linesB (hS:S.length≤1000000)(hE:EndsSemi S){Q:Option R}(hend:∀ M,Xbg.B0 h (M+1) (bs S) ((S.count 10:Nat):Int) (S.length:Int) (S.length:Int) l o1 n1 k1 o2 n2 k2 te ts ta tn tp=Q):
  ∀ (m i:Nat),i+m=S.length→∀ M c,2*m<M→c+(S.drop i).count 10=S.count 10→Xbg.B0 h M (bs S) (c:Int) (S.length:Int) (i:Int) l o1 n1 k1 o2 n2 k2 te ts ta tn tp=Q
 | 0,i,hi,M,c,hM,hc=>by
  obtain ⟨M,rfl⟩:∃ M',M=M'+1:=⟨M-1,by omega⟩
  rw[List.drop_of_length_le (by omega)] at hc
  obtain rfl:i=S.length:=by omega
  obtain rfl:c=S.count 10:=by simpa using hc
  exact hend M
 | m+1,i,hi,M,c,hM,hc=>by
  obtain ⟨M,rfl⟩:∃ M',M=M'+2:=⟨M-2,by omega⟩
  have hlt:i<S.length:=by omega
  have hcl:S.count 10≤S.length:=List.count_le_length
  rw[count_from hlt] at hc
  rw[Xbg.B0_eq,Xrf,Int.toNat_natCast,bt_bs hlt]
  refine if_of (decide_eq_true (by omega)) (if_of (by simp;omega) ?_)
  have hb:=toNat_eq (c:=S[i]) (k:=10) (by omega)
  have hb:((S[i].toNat:Int)==(10:Int))=(S[i]==(10:UInt8)):=hb
  by_cases e:S[i]=10
  ·rw[if_pos e] at hc
   obtain ⟨j,hj,f⟩:=hE i (by rw[List.getElem?_eq_getElem hlt,e])
   subst hj
   obtain ⟨hjl,fj⟩:=List.getElem?_eq_some_iff.1 f
   have ih:=linesB hS hE hend m (j+1+1) (by omega) M (c+1) (by omega) (by omega)
   refine if_of (by rw[hb,e];rfl) (Xag (by simp;omega) ?_)
   rw[Xbh (a:=((j+1:Nat):Int)-1) (by omega) (by omega),show ((j+1:Nat):Int)-1=(j:Int) by omega,Int.toNat_natCast,bt_bs hjl,Xbh (a:=(c:Int)+1) (by omega) (by omega)]
   refine if_of (by simp;omega) (Xag (by rw[fj];rfl) ?_)
   rw[Xbg.B1_eq,Xbh (a:=((j+1:Nat):Int)+1) (by omega) (by omega)]
   exact ih
  ·rw[if_neg e] at hc
   have ih:=linesB hS hE hend m (i+1) (by omega) M c (by omega) (by omega)
   refine Xag (by rw[hb];simpa using e) ?_
   rw[Xbg.B1_eq,Xbh (a:=(i:Int)+1) (by omega) (by omega)]
   exact ih
end
theorem ShowLines_sp (l:T)(o1 n1:Int)(k1:T)(o2 n2:Int)(k2 te ts ta tn tp:T)(wl:WT Tryz.prog 22 l)(w1:WT Tryz.prog 23 k1)(w2:WT Tryz.prog 23 k2)(we:WT Tryz.prog 27 te)(ws:WT Tryz.prog 27 ts)(wa:WT Tryz.prog 23 ta)(wn:WT Tryz.prog 23 tn)(wp:WT Tryz.prog 23 tp):
  Ev fun N=>Xhg (K N) l o1 n1 k1 o2 n2 k2 te ts ta tn tp=rb true:=by
 have hl:=WT_len wl
 have h1:=WT_KW w1
 have h2:=WT_KW w2
 have he:=WT_KC we
 have hs:=WT_KC ws
 have ha:=WT_KW wa
 have hn:=WT_KW wn
 have hp:=WT_KW wp
 refine Ev.step (Ev.imp4 (Ev.and (Xmr l k1 k2 te ts ta tn tp hl h1 h2 he hs ha hn hp) Xtd) (Xpk l hl k1 k2 te ts ta tn tp h1 h2 he hs ha hn hp) (refMayM_sp l hl k1 k2 te ts ta tn tp h1 h2 he hs ha hn hp) (Ev.ge 3000000) fun N q1 q2 q3 hN=> ?_)
 obtain ⟨hh,haw⟩:=q1
 obtain ⟨y,hy⟩:=hh o1 n1 o2 n2
 have aw:((Xbq (K N)).bind fun r=>some (lookR [(0,T.b (r 0).bool)]))=rb true:=by rw[haw];rfl
 rw[Xnx]
 refine Xaj hy (Xfs (fun _=>aw) fun _=>Xaj (q3 o1 n1 o2 n2) ?_)
 by_cases c:mayM (mdOf l o1 n1 k1 o2 n2 k2 te ts ta tn tp)=0
 ·have c':mayM ⟨Xaa l,.mk o1 n1 (Xab k1),.mk o2 n2 (Xab k2),Xbn te,Xbn ts,Xab ta,Xab tn,Xab tp⟩=0:=c
  have w:=mod_walk c
  have ok:=mod_ok c
  have wlen:=textM_len w
  obtain ⟨t1,t2,t3,t4,t5,t6⟩:=w.n
  have es:showM (mdOf l o1 n1 k1 o2 n2 k2 te ts ta tn tp)=textM (mdOf l o1 n1 k1 o2 n2 k2 te ts ta tn tp):=by
   unfold showM
   rw[if_neg (by simpa using c)]
  have hcnt:=count_join (lines_nl ok)
  rw[linesM_len] at hcnt
  have hcnt:(textM (mdOf l o1 n1 k1 o2 n2 k2 te ts ta tn tp)).count 10=_:=hcnt
  have hE:EndsSemi (textM (mdOf l o1 n1 k1 o2 n2 k2 te ts ta tn tp)):=join_semi (lines_nl ok) (lines_semi _)
  have hne:Xpb (mdOf l o1 n1 k1 o2 n2 k2 te ts ta tn tp)≠[]:=by
   intro e
   have:=linesM_len (mdOf l o1 n1 k1 o2 n2 k2 te ts ta tn tp)
   rw[e] at this
   simp only[List.length_nil] at this
   omega
  obtain ⟨j1,j2⟩:=join_last hne
  have j1:0<(textM (mdOf l o1 n1 k1 o2 n2 k2 te ts ta tn tp)).length:=j1
  have j2:(textM (mdOf l o1 n1 k1 o2 n2 k2 te ts ta tn tp))[(textM (mdOf l o1 n1 k1 o2 n2 k2 te ts ta tn tp)).length-1]? =some 10:=j2
  have fm:=q2 o1 n1 o2 n2
  rw[es] at fm
  refine Xag (by rw[Xar,int_i,c'];rfl) (Xaj fm ?_)
  rw[Xar,str_s,Xrf]
  simp only[mdOf,Xcc,Xdk,Xbd] at t1 t2 t3 t4 t5 t6 hcnt
  refine linesB wlen hE ?_ (textM (mdOf l o1 n1 k1 o2 n2 k2 te ts ta tn tp)).length 0 (by omega) N 0 (by omega) (by rw[List.drop_zero];omega)
  intro M
  rw[Xbg.B0_eq,Xrf]
  have hcnt:(textM (mdOf l o1 n1 k1 o2 n2 k2 te ts ta tn tp)).count 10=l.len+2+te.len+ts.len+ta.len+tn.len+tp.len:=hcnt
  rw[hcnt]
  generalize textM (mdOf l o1 n1 k1 o2 n2 k2 te ts ta tn tp)=S at *
  obtain ⟨jl,je⟩:=List.getElem?_eq_some_iff.1 j2
  rw[Xbh (a:=(l.len:Int)+2) (by omega) (by omega),Xbh (a:=(l.len:Int)+2+(te.len:Int)) (by omega) (by omega),Xbh (a:=(l.len:Int)+2+(te.len:Int)+(ts.len:Int)) (by omega) (by omega),Xbh (a:=(l.len:Int)+2+(te.len:Int)+(ts.len:Int)+(ta.len:Int)) (by omega) (by omega),Xbh (a:=(l.len:Int)+2+(te.len:Int)+(ts.len:Int)+(ta.len:Int)+(tn.len:Int)) (by omega) (by omega),Xbh (a:=(l.len:Int)+2+(te.len:Int)+(ts.len:Int)+(ta.len:Int)+(tn.len:Int)+(tp.len:Int)) (by omega) (by omega),Xbh (a:=(S.length:Int)-1) (by omega) (by omega)]
  refine Xag (decide_eq_false (by omega)) (if_of (by rw[beq_iff_eq];omega) (if_of (decide_eq_true (by omega)) (if_of (by simp;omega) (if_of ?_ aw))))
  rw[show ((S.length:Int)-1).toNat=S.length-1 by omega,bt_bs jl,je]
  rfl
 ·have c':¬mayM ⟨Xaa l,.mk o1 n1 (Xab k1),.mk o2 n2 (Xab k2),Xbn te,Xbn ts,Xab ta,Xab tn,Xab tp⟩=0:=c
  exact if_of (by rw[Xar,int_i];simpa using c') aw
end Go.Proofs.YtpjedhbfkfobcaaGreatDoor
