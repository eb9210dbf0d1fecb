/- The document's own answers: MayCommand, MayModule. -/
import Derived.Test.YtnjandhaeojieaaGreatLa33
set_option linter.unusedVariables false
set_option linter.unusedSimpArgs false
namespace Go.AM
theorem firstE_c0 {α:Type}{f:α→Int}{x:α}{r:List α}(h:f x=0):Xeg f (x::r)=Xeg f r:=if_neg (by simpa using h)
theorem firstE_c1 {α:Type}{f:α→Int}{x:α}{r:List α}(h:f x≠0):Xeg f (x::r)=f x:=if_pos h
theorem firstE_app {α:Type}{f:α→Int}:∀ {l r:List α},Xeg f (l++r)=if Xeg f l≠0 then Xeg f l else Xeg f r
 | [],r=>by simp[Xeg]
 | x::l,r=>by
  by_cases c:f x=0
  ·have e:∀ q,Xeg f (x::q)=Xeg f q:=fun q=>if_neg (by simpa using c)
   rw[List.cons_append,e,e];exact firstE_app
  ·have e:∀ q,Xeg f (x::q)=f x:=fun q=>if_pos c
   rw[List.cons_append,e,e,if_pos c]
end Go.AM
namespace Go.Proofs.YtnjandhaeojieaaGreat
open Go.AM
theorem rzero_sp (N:Nat)(o n:Int)(k:T):Xdr (K (N+1)) o n k=rb (bareE (.mk o n (Xad k))):=by
 rw[Xwk]
 simp only[bareE,Xbn]
 by_cases c1:o=0
 ·refine if_of (by simpa using c1) ?_
  by_cases c2:n=0
  ·refine if_of (by simpa using c2) ?_
   have:(((k.len:Nat):Int)==0)=(decide (o=0)&&decide (n=0)&&decide (k.len=0)):=by rw[Bool.eq_iff_iff];simp[c1,c2]
   rw[this];rfl
  ·refine Xac (by simpa using c2) ?_
   rw[decide_eq_false c2,Bool.and_false,Bool.false_and];rfl
 ·refine Xac (by simpa using c1) ?_
  rw[decide_eq_false c1,Bool.false_and,Bool.false_and];rfl
section
variable {h:H}{l t:T}{env:Bool}
theorem refMC0 (hl:l.len≤6)(ht:t.len≤6){i:Nat}(hi:i<t.len){was:List Int}(h0:0≤(t.el i 0).int)(h1:(t.el i 0).int<(l.len:Int))(he:(l.el (t.el i 0).int.toNat 1).bool=env)(M:Nat):
  Xak.B0 h (M+1) l env t (t.len:Int) (i:Int) (decide ((0:Int)∈was)) (decide ((1:Int)∈was)) (decide ((2:Int)∈was)) (decide ((3:Int)∈was)) (decide ((4:Int)∈was)) (decide ((5:Int)∈was)) =
  bif decide ((t.el i 0).int∈was) then ri 3 else Xak.B1 h M l env t (t.len:Int) (i:Int) (decide ((0:Int)∈was)) (decide ((1:Int)∈was)) (decide ((2:Int)∈was)) (decide ((3:Int)∈was)) (decide ((4:Int)∈was)) (decide ((5:Int)∈was)) (t.el i 0).int (t.el i 1).bool (t.el i 2).int (t.el i 3).int (t.el i 4):=by
 rw[Xak.B0_eq,Int.toNat_natCast]
 refine if_of (decide_eq_true (by omega)) (if_of (by simp;omega) (Xac (decide_eq_false (by omega)) (Xac (decide_eq_false (by omega)) (if_of (by simp;omega) (Xac (by rw[he];simp) ?_)))))
 have hv:(t.el i 0).int=0∨(t.el i 0).int=1∨(t.el i 0).int=2∨(t.el i 0).int=3∨(t.el i 0).int=4∨(t.el i 0).int=5:=by omega
 rcases hv with hv|hv|hv|hv|hv|hv
 all_goals
  rw[hv]
  repeat refine Xac (by decide) ?_
  refine if_of (by decide) ?_
  rfl
theorem refMC1 (hl:l.len≤6)(ht:t.len≤6){i:Nat}(hi:i<t.len){was:List Int}(h0:0≤(t.el i 0).int)(h1:(t.el i 0).int<(l.len:Int))
  (hn:∀ op m want now env sys,Xcf h l op m (t.el i 4) want now env sys=ri (Xcu (Xaa l) (.mk op m (Xad (t.el i 4))) want now env sys)) (hz:∀ o n,Xdr h o n (t.el i 4)=rb (bareE (.mk o n (Xad (t.el i 4))))) {Q:Option R} {M:Nat}
  (next:Xak.B0 h M l env t (t.len:Int) ((i+1:Nat):Int) (decide ((0:Int)∈was++[(t.el i 0).int])) (decide ((1:Int)∈was++[(t.el i 0).int])) (decide ((2:Int)∈was++[(t.el i 0).int])) (decide ((3:Int)∈was++[(t.el i 0).int])) (decide ((4:Int)∈was++[(t.el i 0).int])) (decide ((5:Int)∈was++[(t.el i 0).int]))=Q):
  Xak.B1 h (M+1+1) l env t (t.len:Int) (i:Int) (decide ((0:Int)∈was)) (decide ((1:Int)∈was)) (decide ((2:Int)∈was)) (decide ((3:Int)∈was)) (decide ((4:Int)∈was)) (decide ((5:Int)∈was)) (t.el i 0).int (t.el i 1).bool (t.el i 2).int (t.el i 3).int (t.el i 4) =
  if (t.el i 1).bool=true∧bareE (.mk (t.el i 2).int (t.el i 3).int (Xad (t.el i 4)))=false then ri 1 else if (t.el i 1).bool=true then Q else
   if Xcu (Xaa l) (.mk (t.el i 2).int (t.el i 3).int (Xad (t.el i 4))) (l.el (t.el i 0).int.toNat 2).int true (!env) false≠0 then ri (Xcu (Xaa l) (.mk (t.el i 2).int (t.el i 3).int (Xad (t.el i 4))) (l.el (t.el i 0).int.toNat 2).int true (!env) false) else Q:=by
 have hv:(t.el i 0).int=0∨(t.el i 0).int=1∨(t.el i 0).int=2∨(t.el i 0).int=3∨(t.el i 0).int=4∨(t.el i 0).int=5:=by omega
 have core:∀ {x:Option R},x=Q→(bif (t.el i 1).bool then (Xdr h (t.el i 2).int (t.el i 3).int (t.el i 4)).bind fun r=>(bif (!((r 0).bool)) then some (lookR [(0,(T.i 1))]) else x) else (bif decide ((0:Int)≤(t.el i 0).int)&&decide ((t.el i 0).int<((l.len:Nat):Int)) then (Xcf h l (t.el i 2).int (t.el i 3).int (t.el i 4) ((l.el (t.el i 0).int.toNat 2).int) true (!env) false).bind fun r=>(bif (((r 0).int) != (0:Int)) then some (lookR [(0,(T.i ((r 0).int)))]) else x) else none)) =
   if (t.el i 1).bool=true∧bareE (.mk (t.el i 2).int (t.el i 3).int (Xad (t.el i 4)))=false then ri 1 else if (t.el i 1).bool=true then Q else
   if Xcu (Xaa l) (.mk (t.el i 2).int (t.el i 3).int (Xad (t.el i 4))) (l.el (t.el i 0).int.toNat 2).int true (!env) false≠0 then ri (Xcu (Xaa l) (.mk (t.el i 2).int (t.el i 3).int (Xad (t.el i 4))) (l.el (t.el i 0).int.toNat 2).int true (!env) false) else Q:=by
  intro x hx
  cases c:(t.el i 1).bool with
  | true=>
   refine if_of rfl (Xag (hz _ _) ?_)
   cases d:bareE (.mk (t.el i 2).int (t.el i 3).int (Xad (t.el i 4))) with
   | true=>rw[if_neg (by simp),if_pos rfl];exact Xac rfl hx
   | false=>rw[if_pos (by simp)];exact if_of rfl rfl
  | false=>
   refine Xac rfl (if_of (by simp;omega) (Xag (hn _ _ _ _ _ _) ?_))
   rw[if_neg (by simp),if_neg (by simp)]
   by_cases d:Xcu (Xaa l) (.mk (t.el i 2).int (t.el i 3).int (Xad (t.el i 4))) (l.el (t.el i 0).int.toNat 2).int true (!env) false=0
   ·rw[if_neg (by simpa using d)]
    exact Xac (by simp[Xal,int_i,d]) hx
   ·rw[if_pos d]
    exact if_of (by simp[Xal,int_i,d]) rfl
 rw[Xak.B1_eq]
 rcases hv with hv|hv|hv|hv|hv|hv
 all_goals
  rw[hv] at core next ⊢
  repeat refine Xac (by decide) ?_
  refine if_of (by decide) ?_
  refine core ?_
  rw[Xak.B2_eq,Xaq (a:=(i:Int)+1) (by omega) (by omega)]
  rw[←next]
  simp
theorem refMC (hl:l.len≤6)(ht:t.len≤6)(hn:∀ i,i<t.len→∀ op m want now env sys,Xcf h l op m (t.el i 4) want now env sys=ri (Xcu (Xaa l) (.mk op m (Xad (t.el i 4))) want now env sys))(hz:∀ o n k,Xdr h o n k=rb (bareE (.mk o n (Xad k)))):
  ∀ m i,i+m=t.len→∀ was N,3*m+1≤N→Xak.B0 h N l env t (t.len:Int) (i:Int) (decide ((0:Int)∈was)) (decide ((1:Int)∈was)) (decide ((2:Int)∈was)) (decide ((3:Int)∈was)) (decide ((4:Int)∈was)) (decide ((5:Int)∈was))=ri (Xqy (Xaa l) env ((Xhy t).drop i) was)
 | 0,i,hi,was,N,hN=>by
  obtain ⟨N,rfl⟩:∃ M,N=M+1:=⟨N-1,by omega⟩
  rw[Xak.B0_eq,List.drop_of_length_le (by rw[Xhm];omega)]
  exact Xac (decide_eq_false (by omega)) rfl
 | m+1,i,hi,was,N,hN=>by
  obtain ⟨N,rfl⟩:∃ M,N=M+1+1+1:=⟨N-3,by omega⟩
  have hlt:i<t.len:=by omega
  have ih:=refMC hl ht hn hz m (i+1) (by omega) (was++[(t.el i 0).int]) N (by omega)
  rw[Xqd t hlt]
  simp only[Xqy]
  by_cases c1:(t.el i 0).int<0
  ·have e:setE (Xaa l) env was (seAt t i)=3:=by unfold setE;rw[if_pos (.inl c1)]
   rw[e,if_pos (by omega),Xak.B0_eq,Int.toNat_natCast]
   exact if_of (decide_eq_true (by omega)) (if_of (by simp;omega) (if_of (decide_eq_true c1) rfl))
  by_cases c2:(l.len:Int)≤(t.el i 0).int
  ·have e:setE (Xaa l) env was (seAt t i)=3:=by unfold setE;rw[if_pos (.inr (.inl (by rw[Xbj];exact c2)))]
   rw[e,if_pos (by omega),Xak.B0_eq,Int.toNat_natCast]
   exact if_of (decide_eq_true (by omega)) (if_of (by simp;omega) (Xac (decide_eq_false c1) (if_of (decide_eq_true (by omega)) rfl)))
  have ee:=Xql (l:=l) (v:=(t.el i 0).int) (by omega) (by omega)
  by_cases c3:(l.el (t.el i 0).int.toNat 1).bool=env
  case neg=>
   have e:setE (Xaa l) env was (seAt t i)=3:=by unfold setE;rw[if_pos (.inr (.inr (.inl (by show envAt _ (t.el i 0).int≠_;rw[ee];exact c3))))]
   rw[e,if_pos (by omega),Xak.B0_eq,Int.toNat_natCast]
   exact if_of (decide_eq_true (by omega)) (if_of (by simp;omega) (Xac (decide_eq_false c1) (Xac (decide_eq_false (by omega)) (if_of (by simp;omega) (if_of (by simpa using c3) rfl)))))
  rw[refMC0 hl ht hlt (by omega) (by omega) c3]
  by_cases c4:(t.el i 0).int∈was
  ·have e:setE (Xaa l) env was (seAt t i)=3:=by unfold setE;rw[if_pos (.inr (.inr (.inr c4)))]
   rw[e,if_pos (by omega)]
   exact if_of (decide_eq_true c4) rfl
  refine Xac (decide_eq_false c4) ?_
  have so:sortAt (Xaa l) (t.el i 0).int=(l.el (t.el i 0).int.toNat 2).int:=by
   unfold sortAt
   rw[Xds l (by omega)];rfl
  have e:setE (Xaa l) env was (seAt t i)=if (t.el i 1).bool=true∧bareE (.mk (t.el i 2).int (t.el i 3).int (Xad (t.el i 4)))=false then 1 else if (t.el i 1).bool=true then 0 else Xcu (Xaa l) (.mk (t.el i 2).int (t.el i 3).int (Xad (t.el i 4))) (l.el (t.el i 0).int.toNat 2).int true (!env) false:=by
   rw[←so]
   unfold setE
   rw[if_neg]
   ·rfl
   ·rw[Xbj]
    rintro (q|q|q|q)
    ·exact c1 q
    ·exact c2 q
    ·exact q (by show envAt _ (t.el i 0).int=_;rw[ee];exact c3)
    ·exact c4 q
  rw[refMC1 hl ht hlt (by omega) (by omega) (hn i hlt) (fun o n=>hz o n _) ih,e]
  split
  ·rw[if_pos (by omega)]
  ·split
   ·rw[if_neg (by simp)];rfl
   ·split
    ·rfl
    ·rfl
end
theorem refMayCmd_sp (l:T)(hl:l.len≤9223372036854775807)(k t:T)(hk:KW k)(ht:KS t):Ev fun N=>∀ o n env,Xel (K N) l o n k t env=ri (Xff (Xaa l) env ⟨.mk o n (Xad k),Xhy t⟩):=by
 refine Ev.step (Ev.imp4 (Xkx l hl) (Xkl l hl k hk) (Ev.all (k:=t.len) fun i hi=>Xkl l hl (t.el i 4) (ht.2 i hi)) (Ev.ge 100) fun N h1 h2 h3 hN o n env=> ?_)
 rw[Xpw]
 unfold Xff
 simp only[Xhm]
 refine Xag h1 ?_
 by_cases c1:mayV (Xaa l)=0
 case neg=>rw[if_pos c1];exact if_of (by simpa [Xal,int_i] using c1) rfl
 rw[if_neg (by simpa using c1)]
 refine Xac (by simp[Xal,int_i,c1]) (Xag (h2 o n 1 true (!env) false) ?_)
 by_cases c2:Xcu (Xaa l) (.mk o n (Xad k)) 1 true (!env) false=0
 case neg=>rw[if_pos c2];exact if_of (by simpa [Xal,int_i] using c2) rfl
 rw[if_neg (by simpa using c2)]
 refine Xac (by simp[Xal,int_i,c2]) ?_
 have h6:=Xhl (Xfa c1)
 rw[Xbj] at h6
 by_cases c3:6<(t.len:Int)
 ·rw[if_pos c3]
  exact if_of (decide_eq_true c3) rfl
 ·rw[if_neg c3]
  refine Xac (decide_eq_false c3) ?_
  obtain ⟨N,rfl⟩:∃ M,N=M+1:=⟨N-1,by omega⟩
  exact refMC (h:=K (N+1)) (env:=env) h6 (by omega) h3 (fun o n k=>rzero_sp N o n k) t.len 0 (by omega) [] (N+1) (by omega)
section
variable {h:H}{l k1 k2 te ts ta tn tp:T}{o1 n1 o2 n2:Int}
theorem rmX {t:T}(ht:t.len≤100)(hn:∀ i,i<t.len→∀ op m want now env sys,Xcf h l op m (t.el i 2) want now env sys=ri (Xcu (Xaa l) (.mk op m (Xad (t.el i 2))) want now env sys)){q:Int}(hq:q≤2){c:Nat}{x:Int}(hk:∀ M,c≤M→Xah.B3 h M l ta tn tp (IntKind.wrap .i64 (q+1))=ri x):
  ∀ m i,i+m=t.len→∀ M,c+m+1≤M→Xah.B4 h M l ta tn tp q t (t.len:Int) (i:Int)=ri (if Xeg (fun e=>Xcu (Xaa l) e 1 true false false) ((Xad t).drop i)≠0 then Xeg (fun e=>Xcu (Xaa l) e 1 true false false) ((Xad t).drop i) else x)
 | 0,i,hi,M,hM=>by
  obtain ⟨M,rfl⟩:∃ M',M=M'+1:=⟨M-1,by omega⟩
  rw[Xah.B4_eq,List.drop_of_length_le (by rw[Xbn];omega)]
  exact Xac (decide_eq_false (by omega)) (by rw[hk M (by omega)];rfl)
 | m+1,i,hi,M,hM=>by
  obtain ⟨M,rfl⟩:∃ M',M=M'+1:=⟨M-1,by omega⟩
  have hlt:i<t.len:=by omega
  have ih:=rmX ht hn hq hk m (i+1) (by omega) M (by omega)
  rw[Xah.B4_eq,Xhg t i hlt,Int.toNat_natCast,Xaq (a:=(i:Int)+1) (by omega) (by omega)]
  refine if_of (decide_eq_true (by omega)) (if_of (by simp;omega) (Xag (hn i hlt _ _ 1 true false false) ?_))
  by_cases d:Xcu (Xaa l) (exAt t i) 1 true false false=0
  ·rw[firstE_c0 (f:=fun e=>Xcu (Xaa l) e 1 true false false) d]
   exact Xac (by simp only[Xal,int_i];show (Xcu (Xaa l) (exAt t i) 1 true false false != 0)=false;rw[d];rfl) ih
  ·rw[firstE_c1 (f:=fun e=>Xcu (Xaa l) e 1 true false false) d,if_pos d]
   exact if_of (by simp only[Xal,int_i];show (Xcu (Xaa l) (exAt t i) 1 true false false != 0)=true;simpa using d) rfl
theorem rmC {t:T}{env:Bool}(ht:t.len≤100)(hn:∀ i,i<t.len→∀ o n env,Xel h l o n (t.el i 2) (t.el i 3) env=ri (Xff (Xaa l) env ⟨.mk o n (Xad (t.el i 2)),Xhy (t.el i 3)⟩)){B:Nat→Int→Option R}{E:Nat→Option R}{c:Nat}{x:Int}
  (hB:∀ M i,B (M+1) i=(bif decide (i<(t.len:Int)) then (bif decide ((0:Int)≤i)&&decide (i<((t.len:Nat):Int)) then (Xel h l ((t.el i.toNat 0).int) ((t.el i.toNat 1).int) (t.el i.toNat 2) (t.el i.toNat 3) env).bind fun r=>(bif (((r 0).int) != (0:Int)) then some (lookR [(0,(T.i ((r 0).int)))]) else B M (IntKind.wrap .i64 (i+(1:Int)))) else none) else E M))
  (hk:∀ M,c≤M→E M=ri x):
  ∀ m i,i+m=t.len→∀ M,c+m+1≤M→B M (i:Int)=ri (if Xeg (Xff (Xaa l) env) ((Xca t).drop i)≠0 then Xeg (Xff (Xaa l) env) ((Xca t).drop i) else x)
 | 0,i,hi,M,hM=>by
  obtain ⟨M,rfl⟩:∃ M',M=M'+1:=⟨M-1,by omega⟩
  rw[hB,List.drop_of_length_le (by rw[Xes];omega)]
  exact Xac (decide_eq_false (by omega)) (by rw[hk M (by omega)];rfl)
 | m+1,i,hi,M,hM=>by
  obtain ⟨M,rfl⟩:∃ M',M=M'+1:=⟨M-1,by omega⟩
  have hlt:i<t.len:=by omega
  have ih:=rmC ht hn hB hk m (i+1) (by omega) M (by omega)
  rw[hB,Xuq t hlt,Int.toNat_natCast,Xaq (a:=(i:Int)+1) (by omega) (by omega)]
  refine if_of (decide_eq_true (by omega)) (if_of (by simp;omega) (Xag (hn i hlt _ _ env) ?_))
  by_cases d:Xff (Xaa l) env (cmAt t i)=0
  ·rw[firstE_c0 d]
   exact Xac (by simp only[Xal,int_i];show (Xff (Xaa l) env (cmAt t i) != 0)=false;rw[d];rfl) ih
  ·rw[firstE_c1 d,if_pos d]
   exact if_of (by simp only[Xal,int_i];show (Xff (Xaa l) env (cmAt t i) != 0)=true;simpa using d) rfl
end
theorem Xgf (l:T)(hl:l.len≤9223372036854775807)(k1 k2 te ts ta tn tp:T)(h1:KW k1)(h2:KW k2)(he:KC te)(hs:KC ts)(ha:KW ta)(hn:KW tn)(hp:KW tp):
  Ev fun N=>∀ o1 n1 o2 n2,Xcw (K N) l o1 n1 k1 o2 n2 k2 te ts ta tn tp=ri (mayM ⟨Xaa l,.mk o1 n1 (Xad k1),.mk o2 n2 (Xad k2),Xca te,Xca ts,Xad ta,Xad tn,Xad tp⟩):=by
 have base:=Ev.imp4 (Xkx l hl) (Ev.and (Xkl l hl k1 h1) (Xkl l hl k2 h2)) (Ev.and (Ev.all (k:=te.len) fun i hi=>refMayCmd_sp l hl _ _ (he.2 i hi).1 (he.2 i hi).2) (Ev.all (k:=ts.len) fun i hi=>refMayCmd_sp l hl _ _ (hs.2 i hi).1 (hs.2 i hi).2)) (Ev.and (Ev.all (k:=ta.len) fun i hi=>Xkl l hl (ta.el i 2) (ha.el hi)) (Ev.and (Ev.all (k:=tn.len) fun i hi=>Xkl l hl (tn.el i 2) (hn.el hi)) (Ev.all (k:=tp.len) fun i hi=>Xkl l hl (tp.el i 2) (hp.el hi)))) fun N a b c d=>(⟨a,b,c,d⟩:_∧_∧_∧_)
 refine Ev.step ((base.and (Ev.ge 1000)).imp fun N hb o1 n1 o2 n2=> ?_)
 obtain ⟨⟨b1,⟨b2,b3⟩,⟨b4,b5⟩,b6,b7,b8⟩,hN⟩:=hb
 rw[Xqo]
 unfold mayM
 simp only
 refine Xag b1 ?_
 by_cases c1:mayV (Xaa l)=0
 case neg=>rw[if_pos c1];exact if_of (by simpa [Xal,int_i] using c1) rfl
 rw[if_neg (by simpa using c1)]
 refine Xac (by simp[Xal,int_i,c1]) (Xag (b2 o1 n1 1 false false false) ?_)
 by_cases c2:Xcu (Xaa l) (.mk o1 n1 (Xad k1)) 1 false false false=0
 case neg=>rw[if_pos c2];exact if_of (by simpa [Xal,int_i] using c2) rfl
 rw[if_neg (by simpa using c2)]
 refine Xac (by simp[Xal,int_i,c2]) (Xag (b3 o2 n2 1 true false false) ?_)
 by_cases c3:Xcu (Xaa l) (.mk o2 n2 (Xad k2)) 1 true false false=0
 case neg=>rw[if_pos c3];exact if_of (by simpa [Xal,int_i] using c3) rfl
 rw[if_neg (by simpa using c3)]
 refine Xac (by simp[Xal,int_i,c3]) ?_
 have hf:(fullM ⟨Xaa l,.mk o1 n1 (Xad k1),.mk o2 n2 (Xad k2),Xca te,Xca ts,Xad ta,Xad tn,Xad tp⟩=true)↔(12<te.len∨12<ts.len∨4<ta.len∨4<tn.len∨6<tp.len):=by
  unfold fullM
  simp only[Xes,Xbn]
  rw[Bool.or_eq_true,Bool.or_eq_true,decide_eq_true_eq,decide_eq_true_eq,decide_eq_true_eq]
  omega
 by_cases c4:12<te.len∨12<ts.len∨4<ta.len∨4<tn.len∨6<tp.len
 ·rw[if_pos (hf.2 c4)]
  refine Xnk (fun _=>rfl) fun d1=>Xnk (fun _=>rfl) fun d2=>Xnk (fun _=>rfl) fun d3=>Xnk (fun _=>rfl) fun d4=>if_of (decide_eq_true ?_) rfl
  have d1:=of_decide_eq_false d1
  have d2:=of_decide_eq_false d2
  have d3:=of_decide_eq_false d3
  have d4:=of_decide_eq_false d4
  omega
 rw[if_neg fun q=>c4 (hf.1 q)]
 refine Xac (decide_eq_false (by omega)) (Xac (decide_eq_false (by omega)) (Xac (decide_eq_false (by omega)) (Xac (decide_eq_false (by omega)) (Xac (decide_eq_false (by omega)) ?_))))
 have e3:∀ M,1≤M→Xah.B3 (K N) M l ta tn tp (IntKind.wrap .i64 (2+1))=ri 0:=by
  intro M hM
  obtain ⟨M,rfl⟩:∃ M',M=M'+1:=⟨M-1,by omega⟩
  rw[Xah.B3_eq]
  exact Xac (by decide) rfl
 have e2:∀ M,20≤M→Xah.B3 (K N) M l ta tn tp (IntKind.wrap .i64 (1+1))=ri (Xeg (fun e=>Xcu (Xaa l) e 1 true false false) (Xad tp)):=by
  intro M hM
  obtain ⟨M,rfl⟩:∃ M',M=M'+1:=⟨M-1,by omega⟩
  rw[Xah.B3_eq]
  refine if_of (by decide) (Xac (by decide) (Xac (by decide) (if_of (by decide) ?_)))
  have:=rmX (h:=K N) (ta:=ta) (tn:=tn) (tp:=tp) (t:=tp) (by omega) b8 (q:=2) (by omega) e3 tp.len 0 (by omega) M (by omega)
  rw[List.drop_zero] at this
  refine this.trans (congrArg ri ?_)
  split<;>simp_all
 have e1:∀ M,40≤M→Xah.B3 (K N) M l ta tn tp (IntKind.wrap .i64 (0+1))=ri (Xeg (fun e=>Xcu (Xaa l) e 1 true false false) (Xad tn++Xad tp)):=by
  intro M hM
  obtain ⟨M,rfl⟩:∃ M',M=M'+1:=⟨M-1,by omega⟩
  rw[Xah.B3_eq]
  refine if_of (by decide) (Xac (by decide) (if_of (by decide) ?_))
  have:=rmX (h:=K N) (ta:=ta) (tn:=tn) (tp:=tp) (t:=tn) (by omega) b7 (q:=1) (by omega) e2 tn.len 0 (by omega) M (by omega)
  rw[List.drop_zero] at this
  exact this.trans (congrArg ri firstE_app.symm)
 have e0:∀ M,60≤M→Xah.B3 (K N) M l ta tn tp 0=ri (Xeg (fun e=>Xcu (Xaa l) e 1 true false false) (Xad ta++Xad tn++Xad tp)):=by
  intro M hM
  obtain ⟨M,rfl⟩:∃ M',M=M'+1:=⟨M-1,by omega⟩
  rw[Xah.B3_eq]
  refine if_of (by decide) (if_of (by decide) ?_)
  have:=rmX (h:=K N) (ta:=ta) (tn:=tn) (tp:=tp) (t:=ta) (by omega) b6 (q:=0) (by omega) e1 ta.len 0 (by omega) M (by omega)
  rw[List.drop_zero] at this
  refine this.trans (congrArg ri ?_)
  rw[List.append_assoc]
  exact firstE_app.symm
 have tail:∀ M,70≤M→(bif decide (((tp.len:Nat):Int)>(0:Int)) then (bif decide ((IntKind.wrap .i64 (((ta.len:Nat):Int)+((tn.len:Nat):Int)))>(0:Int)) then some (lookR [(0,(T.i 1))]) else Xah.B2 (K N) M l l o1 n1 k1 o2 n2 k2 te ts ta tn tp) else Xah.B2 (K N) M l l o1 n1 k1 o2 n2 k2 te ts ta tn tp)=ri (if 0<(Xad tp).length∧0<(Xad ta).length+(Xad tn).length then 1 else Xeg (fun e=>Xcu (Xaa l) e 1 true false false) (Xad ta++Xad tn++Xad tp)):=by
  intro M hM
  obtain ⟨M,rfl⟩:∃ M',M=M'+1:=⟨M-1,by omega⟩
  rw[Xah.B2_eq,Xaq (by omega) (by omega),Xbn,Xbn,Xbn]
  by_cases d1:0<tp.len
  ·refine if_of (decide_eq_true (by omega)) ?_
   by_cases d2:0<ta.len+tn.len
   ·rw[if_pos ⟨d1,d2⟩]
    exact if_of (decide_eq_true (by omega)) rfl
   ·rw[if_neg (fun q=>d2 q.2)]
    exact Xac (decide_eq_false (by omega)) (e0 M (by omega))
  ·rw[if_neg (fun q=>d1 q.1)]
   exact Xac (decide_eq_false (by omega)) (e0 M (by omega))
 have sys:∀ M,70+ts.len+1≤M→Xah.B1 (K N) M l ts (ts.len:Int) (0:Int) l o1 n1 k1 o2 n2 k2 te ts ta tn tp=_:=
  rmC (h:=K N) (t:=ts) (env:=false) (by omega) b5 (B:=fun M i=>Xah.B1 (K N) M l ts (ts.len:Int) i l o1 n1 k1 o2 n2 k2 te ts ta tn tp) (fun M i=>Xah.B1_eq (K N) M l ts (ts.len:Int) i l o1 n1 k1 o2 n2 k2 te ts ta tn tp) tail ts.len 0 (by omega)
 have envs:Xah.B0 (K N) N l te (te.len:Int) (0:Int) l o1 n1 k1 o2 n2 k2 te ts ta tn tp=_:=
  rmC (h:=K N) (t:=te) (env:=true) (by omega) b4 (B:=fun M i=>Xah.B0 (K N) M l te (te.len:Int) i l o1 n1 k1 o2 n2 k2 te ts ta tn tp) (E:=fun M=>Xah.B1 (K N) M l ts (ts.len:Int) (0:Int) l o1 n1 k1 o2 n2 k2 te ts ta tn tp) (fun M i=>Xah.B0_eq (K N) M l te (te.len:Int) i l o1 n1 k1 o2 n2 k2 te ts ta tn tp) sys te.len 0 (by omega) N (by omega)
 rw[List.drop_zero,List.drop_zero] at envs
 exact envs
end Go.Proofs.YtnjandhaeojieaaGreat
set_option linter.unusedVariables false
set_option linter.unusedSimpArgs false
namespace Go.AM
open Go.Proofs.YtnjandhaeojieaaGreat
def stripV (v:Va):Bool×Int×Int×Int:=(v.env,v.sort,v.lo,v.hi)
section
variable {l l':List Va}(h:l.map stripV=l'.map stripV)(m:mayV l=0)(m':mayV l'=0)
include h m m'
end
theorem Xfe {m:Md}(h:mayM m=0):mayV m.vars=0∧Xcu m.vars m.ie 1 false false false=0∧Xcu m.vars m.is 1 true false false=0∧Xeg (Xff m.vars true) m.env=0∧Xeg (Xff m.vars false) m.sys=0∧Xeg (fun e=>Xcu m.vars e 1 true false false) (m.assume++m.ensure++m.prio)=0:=by
 unfold mayM at h
 by_cases c1:mayV m.vars=0
 case neg=>rw[if_pos c1] at h;exact absurd h c1
 rw[if_neg (by simpa using c1)] at h
 by_cases c2:Xcu m.vars m.ie 1 false false false=0
 case neg=>rw[if_pos c2] at h;exact absurd h c2
 rw[if_neg (by simpa using c2)] at h
 by_cases c3:Xcu m.vars m.is 1 true false false=0
 case neg=>rw[if_pos c3] at h;exact absurd h c3
 rw[if_neg (by simpa using c3)] at h
 by_cases c4:fullM m=true
 ·rw[if_pos c4] at h;exact absurd h (by omega)
 rw[if_neg c4] at h
 by_cases c5:Xeg (Xff m.vars true) m.env=0
 case neg=>rw[if_pos c5] at h;exact absurd h c5
 rw[if_neg (by simpa using c5)] at h
 by_cases c6:Xeg (Xff m.vars false) m.sys=0
 case neg=>rw[if_pos c6] at h;exact absurd h c6
 rw[if_neg (by simpa using c6)] at h
 by_cases c7:0<m.prio.length∧0<m.assume.length+m.ensure.length
 ·rw[if_pos c7] at h;exact absurd h (by omega)
 rw[if_neg c7] at h
 exact ⟨c1,c2,c3,c5,c6,h⟩
end Go.AM
set_option linter.unusedVariables false
set_option linter.unusedSimpArgs false
namespace Go.Proofs.YtnjandhaeojieaaGreat
open Go.AM
end Go.Proofs.YtnjandhaeojieaaGreat
