/- What package sort's functions come to. -/
import Derived.Test.YtpjedhbfkfobcaaGreatDoorMo4
import Derived.Test.YtpjedhbfkfobcaaGreatDoorSp3
set_option linter.unusedVariables false
set_option linter.unusedSimpArgs false
namespace Go.Proofs.YtpjedhbfkfobcaaGreatDoor
open Go.AM
theorem ints1 (a:Int):Ints (T.l 1 fun i j=>([[T.i a]].getD i []).getD j (.b false)) [a]:=⟨rfl,fun i v h=>by match i,h with|0,h=>exact Option.some.inj h⟩
theorem ints2 (a b:Int):Ints (T.l 2 fun i j=>([[T.i a],[T.i b]].getD i []).getD j (.b false)) [a,b]:=⟨rfl,fun i v h=>by match i,h with|0,h=>exact Option.some.inj h|1,h=>exact Option.some.inj h⟩
theorem ints3 (a b c:Int):Ints (T.l 3 fun i j=>([[T.i a],[T.i b],[T.i c]].getD i []).getD j (.b false)) [a,b,c]:=⟨rfl,fun i v h=>by match i,h with|0,h=>exact Option.some.inj h|1,h=>exact Option.some.inj h|2,h=>exact Option.some.inj h⟩
theorem ints0 (g:Nat→Nat→T):Ints (T.l 0 g) []:=⟨rfl,fun i v h=>by simp at h⟩
theorem needs_sp:Ev fun N=>∀ op,∃ t,Xij (K N) op=some (lookR [(0,t)])∧Ints t (Xfc op):=by
 refine ⟨9,fun N hN op=> ?_⟩
 obtain ⟨N,rfl⟩:∃ M,N=M+3:=⟨N-3,by omega⟩
 simp only[C_sort_needs_K,Xcn.B0_eq,Xcn.B1_eq]
 simp only[Bool.cond_eq_ite,decide_eq_true_eq,beq_iff_eq]
 have hop:op=5∨op=6∨op=7∨op=8∨op=9∨op=10∨op=11∨op=12∨op=13∨op=14∨op=15∨(op<5∨15<op):=by omega
 rcases hop with rfl|rfl|rfl|rfl|rfl|rfl|rfl|rfl|rfl|rfl|rfl|hop
 all_goals first
  | exact ⟨_,rfl,ints1 _⟩
  | exact ⟨_,rfl,ints2 _ _⟩
  | exact ⟨_,rfl,ints3 _ _ _⟩
  | skip
 have e:∀ k:Int,5≤k→k≤15→¬op=k:=fun k h1 h2=>by omega
 simp only[e 5 (by omega) (by omega),e 6 (by omega) (by omega),e 7 (by omega) (by omega),e 8 (by omega) (by omega),e 9 (by omega) (by omega),e 10 (by omega) (by omega),e 11 (by omega) (by omega),e 12 (by omega) (by omega),e 13 (by omega) (by omega),e 14 (by omega) (by omega),e 15 (by omega) (by omega),if_false]
 refine ⟨_,rfl,?_⟩
 unfold Xfc
 rw[if_neg (by omega),if_neg (by omega),if_neg (by omega),if_neg (by omega),if_neg (by omega)]
 exact ints0 _
theorem fitsB_sp {h:H}{tw tg:T}{want got:List Int}(hw:Ints tw want)(hg:Ints tg got)(hl:want.length=got.length)(h3:want.length≤3):
  ∀ (m i:Nat),i+m=want.length→∀ N same,2*m<N→Xbz.B0 h N tg same tw (tw.len:Int) (i:Int)=rb (Xds (want.drop i) (got.drop i) same)
 | 0,i,hi,N,same,hN=>by
  obtain ⟨N,rfl⟩:∃ M,N=M+1:=⟨N-1,by omega⟩
  have h1:=hw.1
  rw[Xbz.B0_eq,List.drop_of_length_le (l:=want) (by omega)]
  simp only[Bool.cond_eq_ite,decide_eq_true_eq]
  rw[if_neg (by omega)]
  rfl
 | m+1,i,hi,N,same,hN=>by
  obtain ⟨N,rfl⟩:∃ M,N=M+2:=⟨N-2,by omega⟩
  have h1:=hw.1
  have h2:=hg.1
  have hlt:i<want.length:=by omega
  have hlt2:i<got.length:=by omega
  have ih:=fun s=>fitsB_sp (h:=h) hw hg hl h3 m (i+1) (by omega) N s (by omega)
  rw[List.drop_eq_getElem_cons hlt,List.drop_eq_getElem_cons hlt2]
  have ew:(tw.el i 0).int=want[i]:=hw.2 i _ (List.getElem?_eq_getElem hlt)
  have eg:(tg.el i 0).int=got[i]:=hg.2 i _ (List.getElem?_eq_getElem hlt2)
  rw[Xbz.B0_eq]
  simp only[Xbz.B1_eq,Int.toNat_natCast,ew,eg]
  rw[Xbh (by omega) (by omega)]
  have ih':∀ s,Xbz.B0 h N tg s tw (tw.len:Int) ((i:Int)+1)=rb (Xds (want.drop (i+1)) (got.drop (i+1)) s):=ih
  simp only[ih',Bool.cond_eq_ite,decide_eq_true_eq,Bool.and_eq_true,beq_iff_eq,bne_iff_ne,ne_eq,Xds]
  generalize want[i]=x
  generalize got[i]=y
  have g1:(i:Int)<(tw.len:Int):=by omega
  have g2:(0:Int)≤(i:Int)∧(i:Int)<(tw.len:Int):=by omega
  have g3:(0:Int)≤(i:Int)∧(i:Int)<(tg.len:Int):=by omega
  simp only[g1,g2,g3,if_true,and_self,true_and]
  by_cases c1:x=0
  ·simp only[c1,not_true_eq_false,if_false,if_true,false_and,true_and,and_true]
   by_cases c2:same=0
   ·simp[c2]
   ·by_cases c3:y=same
    ·simp[c2,c3]
    ·simp[c2,c3,rb]
  ·simp only[c1,not_false_eq_true,if_true,if_false,false_and,true_and]
   by_cases c2:y=x
   ·simp[c2]
   ·simp[c2,rb]
theorem fits_sp:Ev fun N=>∀ tw tg want got,Ints tw want→Ints tg got→want.length=got.length→want.length≤3→Xjf (K N) tw tg=rb (Xds want got 0):=by
 refine Ev.step ((Ev.ge 20).imp fun N hN tw tg want got hw hg hl h3=> ?_)
 rw[C_sort_fits_K]
 have:=fitsB_sp (h:=K N) hw hg hl h3 want.length 0 (by omega) N 0 (by omega)
 simpa using this
theorem told_sp (l:T):Ev fun N=>∀ op n k tg got,Ints tg got→(op=3∨op=4→0≤n∧n<(l.len:Int))→(op=15→got.length=3)→Xkw (K N) l op n k tg=ri (toldE (Xaa l) op n got):=by
 refine ⟨9,fun N hN op n k tg got hg hv hi=> ?_⟩
 obtain ⟨N,rfl⟩:∃ M,N=M+3:=⟨N-3,by omega⟩
 have hlen:=hg.1
 simp only[C_sort_told_K,Xdn.B0_eq,Xdn.B1_eq]
 simp only[Bool.cond_eq_ite,decide_eq_true_eq,beq_iff_eq,Bool.and_eq_true]
 unfold toldE
 by_cases c1:op=1∨12≤op∧op≤14
 ·rw[if_pos c1]
  repeat' split
  all_goals first
   | rfl
   | (exfalso;omega)
 ·rw[if_neg c1]
  by_cases c2:op=3∨op=4
  ·rw[if_pos c2]
   have h1:=hv c2
   have h2:n.toNat<l.len:=by omega
   rw[Xfd l h2]
   have e:((l.el n.toNat 2).int)=(vaAt l n.toNat).sort:=rfl
   simp only[e,Option.map_some,Option.getD_some,h1,and_self,if_true]
   rcases c2 with rfl|rfl<;>rfl
  ·rw[if_neg c2]
   by_cases c3:op=15
   ·rw[if_pos c3]
    have h3:=hi c3
    have h4:(1:Int)<(tg.len:Int):=by omega
    have e:(tg.el 1 0).int=got.getD 1 0:=by
     rw[List.getD_eq_getElem?_getD,List.getElem?_eq_getElem (by omega)]
     exact hg.2 1 _ (List.getElem?_eq_getElem (by omega))
    simp only[c3,h4,if_true,e]
    rfl
   ·rw[if_neg c3]
    repeat' split
    all_goals first
     | rfl
     | (exfalso;omega)
end Go.Proofs.YtpjedhbfkfobcaaGreatDoor
set_option linter.unusedVariables false
set_option linter.unusedSimpArgs false
namespace Go.Proofs.YtpjedhbfkfobcaaGreatDoor
open Go.AM
structure SortFacts (h:H)(l:T):Prop where
 needs:∀ op,∃ t,Xij h op=some (lookR [(0,t)])∧Ints t (Xfc op)
 fits:∀ tw tg want got,Ints tw want→Ints tg got→want.length=got.length→want.length≤3→Xjf h tw tg=rb (Xds want got 0)
 told:∀ op n k tg got,Ints tg got→(op=3∨op=4→0≤n∧n<(l.len:Int))→(op=15→got.length=3)→Xkw h l op n k tg=ri (toldE (Xaa l) op n got)
theorem ofEnd_sp {h:H}{l k:T}(F:SortFacts h l){op m:Int}{cnt:Nat}{g:Nat→Nat→T}{ss:List Int}(hs:Ints (T.l cnt g) ss)(hk:(ss.length:Int)=kidsN op)(hn:Xgw op m=true)(N:Nat){len i:Int}(hi:¬i<len){k2:T}:
  Xes.B0 h (N+2) cnt l k2 len i op m k g=rii (nodeE (Xaa l) op m ss).1 (nodeE (Xaa l) op m ss).2:=by
 obtain ⟨t,h1,h2⟩:=F.needs op
 have h3:Ints (T.l cnt fun i j=>g (0+i) j) ss:=by
  have:=hs.shift
  exact this
 have hkn:0≤kidsN op:=by omega
 have h4:=kidsN_needs hkn
 have h5:=kidsN_le op
 have hf:=F.fits _ _ _ _ h2.shift h3 (by omega) (by omega)
 rw[Xes.B0_eq,Xes.B1_eq,h1,some_bind,Xar,hf,Xlv,Xar,Xmw]
 simp only[Bool.cond_eq_ite,decide_eq_true_eq,beq_iff_eq,hi,if_false]
 unfold nodeE
 rw[Xcc]
 have hnum:op=3∨op=4→0≤m∧m<6:=by
  intro ho
  unfold Xgw at hn
  rw[if_neg (by omega),if_neg (by omega),if_pos ho] at hn
  exact of_decide_eq_true hn
 have hl15:op=15→ss.length=3:=by
  rintro rfl
  have:kidsN 15=3:=rfl
  omega
 by_cases c1:(op=3∨op=4)∧(l.len:Int)≤m
 ·rw[if_pos c1]
  obtain ⟨rfl|rfl,c2⟩:=c1
  ·simp only[if_true,ge_iff_le,c2];rfl
  ·simp only[if_true,ge_iff_le,c2];rfl
 ·rw[if_neg c1]
  have ht:Xds (Xfc op) ss 0=true→Xkw h l op m k (T.l cnt fun i j=>g (0+i) j)=ri (toldE (Xaa l) op m ss):=fun _=>
   F.told op m k _ ss h3 (fun ho=>⟨(hnum ho).1,by omega⟩) hl15
  cases c3:Xds (Xfc op) ss 0 with
  | false=>
   simp only[Bool.not_false,if_true]
   by_cases c4:op=3
   ·have c5:¬m≥(l.len:Int):=by omega
    rw[if_pos c4,if_neg c5];rfl
   ·rw[if_neg c4]
    by_cases c6:op=4
    ·have c5:¬m≥(l.len:Int):=by omega
     rw[if_pos c6,if_neg c5];rfl
    ·rw[if_neg c6];rfl
  | true=>
   rw[ht c3,Xgv,Xar,int_i]
   simp only[Bool.not_true,Bool.false_eq_true,if_false,Bool.true_eq_false]
   by_cases c4:op=3
   ·have c5:¬m≥(l.len:Int):=by omega
    rw[if_pos c4,if_neg c5];rfl
   ·rw[if_neg c4]
    by_cases c6:op=4
    ·have c5:¬m≥(l.len:Int):=by omega
     rw[if_pos c6,if_neg c5];rfl
    ·rw[if_neg c6];rfl
theorem ofB_sp {h:H}{l k:T}(F:SortFacts h l){op m:Int}(hk:(k.len:Int)=kidsN op)(hn:Xgw op m=true)
  (hc:∀ i,i<k.len→Xpl h l (k.el i 0).int (k.el i 1).int (k.el i 2)=rii (ofE (Xaa l) (exAt k i)).1 (ofE (Xaa l) (exAt k i)).2):
  ∀ (q i:Nat),i+q=k.len→∀ N g prev,q+1<N→Ints (T.l i g) prev→Xes.B0 h N i l k (k.len:Int) (i:Int) op m k g =
   (if (ofL (Xaa l) ((Xab k).drop i)).1≠0 then rii 0 (ofL (Xaa l) ((Xab k).drop i)).1 else rii (nodeE (Xaa l) op m (prev++(ofL (Xaa l) ((Xab k).drop i)).2)).1 (nodeE (Xaa l) op m (prev++(ofL (Xaa l) ((Xab k).drop i)).2)).2)
 | 0,i,hi,N,g,prev,hN,hp=>by
  obtain ⟨N,rfl⟩:∃ M,N=M+2:=⟨N-2,by omega⟩
  have hpl:=hp.1
  have hpl:i=prev.length:=hpl
  rw[List.drop_of_length_le (by rw[Xbd];omega),ofEnd_sp F hp (by omega) hn N (by omega)]
  simp[ofL]
 | q+1,i,hi,N,g,prev,hN,hp=>by
  obtain ⟨N,rfl⟩:∃ M,N=M+1:=⟨N-1,by omega⟩
  have hlt:i<k.len:=by omega
  have h3:=kidsN_le op
  have hpl:i=prev.length:=hp.1
  rw[Xca k i hlt,Xes.B0_eq,Int.toNat_natCast,hc i hlt,rii_bind,Xar,Xno,int_i,int_i]
  have g1:(i:Int)<(k.len:Int):=by omega
  have g2:(0:Int)≤(i:Int):=by omega
  have g3:(i+1)*8≤140737488355328:=by omega
  rw[Xbh (by omega) (by omega)]
  simp only[ofL]
  by_cases c1:(ofE (Xaa l) (exAt k i)).2=0
  ·have hp':Ints (T.l (i+1) fun i565 j546=>(bif Nat.blt i565 i then (g i565 j546) else ((([[(T.i (ofE (Xaa l) (exAt k i)).1)]]:List (List T)).getD (0+(i565-i)) []).getD j546 (.b false)))) (prev++[(ofE (Xaa l) (exAt k i)).1]):=by
    refine ⟨by simp[T.len,hpl],fun j v hj=> ?_⟩
    show ((bif Nat.blt j i then (g j 0) else ((([[(T.i (ofE (Xaa l) (exAt k i)).1)]]:List (List T)).getD (0+(j-i)) []).getD 0 (.b false)))).int=v
    by_cases hji:j<i
    ·have e:Nat.blt j i=true:=by rw[Nat.blt_eq];exact hji
     rw[e]
     rw[List.getElem?_append_left (by omega)] at hj
     exact hp.2 j v hj
    ·have e:Nat.blt j i=false:=by
      cases hb:Nat.blt j i with
      | false=>rfl
      | true=>rw[Nat.blt_eq] at hb;omega
     rw[e]
     rw[List.getElem?_append_right (by omega)] at hj
     have hjl:j-prev.length=0:=by
      have:=(List.getElem?_eq_some_iff.1 hj).1
      simp at this
      omega
     rw[hjl] at hj
     have e2:j-i=0:=by omega
     rw[e2]
     exact Option.some.inj hj
   have ih:=ofB_sp F hk hn hc q (i+1) (by omega) N _ _ (by omega) hp'
   simp only[c1,Bool.cond_eq_ite,decide_eq_true_eq,Bool.and_eq_true,bne_iff_ne,ne_eq,not_true_eq_false,if_false,g1,g2,g3,if_true,and_self] at ih ⊢
   have ih':=ih
   rw[show ((i:Int)+1)=((i+1:Nat):Int) from rfl,ih']
   by_cases c2:(ofL (Xaa l) ((Xab k).drop (i+1))).1=0
   ·simp[c2]
   ·simp[c2]
  ·simp only[c1,Bool.cond_eq_ite,decide_eq_true_eq,Bool.and_eq_true,bne_iff_ne,ne_eq,not_false_eq_true,g1,g2,g3,if_true,and_self]
   rfl
theorem Xpu {k:T}(h:Xhr (Xab k)=true){i:Nat}(hi:i<k.len):Xed (exAt k i)=true:=by
 have key:∀ (l:List Ex) (i:Nat) (x:Ex),Xhr l=true→l[i]? =some x→Xed x=true:=by
  intro l
  induction l with
  | nil=>intro i x _ h;simp at h
  | cons y l ih=>
   intro i x h hx
   simp only[Xhr,Bool.and_eq_true] at h
   cases i with
   | zero=>
    obtain rfl:y=x:=by simpa using hx
    exact h.1
   | succ i=>exact ih i x h.2 (by simpa using hx)
 exact key _ i _ h (Xkk k hi)
theorem soundE_inv {op m:Int}{k:T}(h:Xed (.mk op m (Xab k))=true):(k.len:Int)=kidsN op∧Xgw op m=true∧Xhr (Xab k)=true:=by
 simp only[Xed,Bool.and_eq_true,decide_eq_true_eq,Xbd] at h
 exact ⟨h.1.1.2,h.1.2,h.2⟩
theorem of_sp (l:T)(hl:l.len≤9223372036854775807):∀ k,KW k→Ev fun N=>∀ op m,Xed (.mk op m (Xab k))=true→Xpl (K N) l op m k=rii (ofE (Xaa l) (.mk op m (Xab k))).1 (ofE (Xaa l) (.mk op m (Xab k))).2:=by
 refine Xha fun k ih hk=> ?_
 have hF:Ev fun N=>SortFacts (K N) l:=Ev.imp3 needs_sp fits_sp (told_sp l) fun N a b c=>⟨a,b,c⟩
 refine Ev.step (Ev.imp3 hF (Ev.all fun i hi=>ih i hi (hk.el hi)) (Ev.ge (k.len+3)) fun N F hc hN op m hs=> ?_)
 obtain ⟨h1,h2,h3⟩:=soundE_inv hs
 rw[C_sort_of_K]
 have:=ofB_sp F h1 h2 (fun i hi=>hc i hi _ _ (Xpu h3 hi)) k.len 0 (by omega) N (fun _ _=> .b false) [] (by omega) ⟨rfl,fun i v h=>by simp at h⟩
 have e:Xes.B0 (K N) N 0 l k (k.len:Int) 0 op m k (fun _ _=> .b false)=_:=this
 rw[e]
 simp only[List.drop_zero,List.nil_append,ofE]
 split<;>rfl
theorem Of_sp (l:T)(hl:l.len≤9223372036854775807)(k:T)(hk:KW k):Ev fun N=>∀ op m,Xth (K N) l op m k=rii (sortE (Xaa l) (.mk op m (Xab k))).1 (sortE (Xaa l) (.mk op m (Xab k))).2:=by
 refine Ev.step (Ev.imp3 (MayV_sp l hl) (May_sp k hk) (of_sp l hl k hk) fun N h1 h2 h3 op m=> ?_)
 rw[C_sort_Of_K,h1,Xgv,Xar,int_i,h2,Xgv,Xar,int_i]
 unfold sortE
 simp only[Bool.cond_eq_ite,bne_iff_ne,ne_eq]
 by_cases c1:mayV (Xaa l)=0
 ·simp only[c1,not_true_eq_false,if_false]
  by_cases c2:mayE (.mk op m (Xab k))=0
  ·simp only[c2,not_true_eq_false,if_false]
   have hs:Xed (.mk op m (Xab k))=true:=by
    unfold mayE at c2
    split at c2
    ·split at c2
     ·assumption
     ·cases c2
    ·cases c2
   rw[h3 op m hs]
   rfl
  ·simp only[c2,not_false_eq_true,if_true];rfl
 ·simp only[c1,not_false_eq_true,if_true];rfl
end Go.Proofs.YtpjedhbfkfobcaaGreatDoor
