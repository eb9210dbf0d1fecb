/- The document's own answers: MayCommand, MayModule. -/
import Derived.Test.YtpjedhbfkfobcaaGreatDoorLa30
set_option linter.unusedVariables false
set_option linter.unusedSimpArgs false
namespace Go.AM
theorem firstE_c0 {α:Type}{f:α→Int}{x:α}{r:List α}(h:f x=0):Xdr f (x::r)=Xdr f r:=if_neg (by simpa using h)
theorem firstE_c1 {α:Type}{f:α→Int}{x:α}{r:List α}(h:f x≠0):Xdr f (x::r)=f x:=if_pos h
theorem firstE_app {α:Type}{f:α→Int}:∀ {l r:List α},Xdr f (l++r)=if Xdr f l≠0 then Xdr f l else Xdr f r
 | [],r=>by simp[Xdr]
 | x::l,r=>by
  by_cases c:f x=0
  ·have e:∀ q,Xdr f (x::q)=Xdr f q:=fun q=>if_neg (by simpa using c)
   rw[List.cons_append,e,e];exact firstE_app
  ·have e:∀ q,Xdr f (x::q)=f x:=fun q=>if_pos c
   rw[List.cons_append,e,e,if_pos c]
end Go.AM
namespace Go.Proofs.YtpjedhbfkfobcaaGreatDoor
open Go.AM
theorem rzero_sp (N:Nat)(o n:Int)(k:T):Xcv (K (N+1)) o n k=rb (bareE (.mk o n (Xab k))):=by
 rw[Xti]
 simp only[bareE,Xbd]
 by_cases c1:o=0
 ·refine if_of (by simpa using c1) ?_
  by_cases c2:n=0
  ·refine if_of (by simpa using c2) ?_
   have:(((k.len:Nat):Int)==0)=(decide (o=0)&&decide (n=0)&&decide (k.len=0)):=by rw[Bool.eq_iff_iff];simp[c1,c2]
   rw[this];rfl
  ·refine Xag (by simpa using c2) ?_
   rw[decide_eq_false c2,Bool.and_false,Bool.false_and];rfl
 ·refine Xag (by simpa using c1) ?_
  rw[decide_eq_false c1,Bool.false_and,Bool.false_and];rfl
section
variable {h:H}{l t:T}{env:Bool}
theorem refMC0 (hl:l.len≤6)(ht:t.len≤6){i:Nat}(hi:i<t.len){was:List Int}(h0:0≤(t.el i 0).int)(h1:(t.el i 0).int<(l.len:Int))(he:(l.el (t.el i 0).int.toNat 1).bool=env)(M:Nat):
  Xai.B0 h (M+1) l env t (t.len:Int) (i:Int) (decide ((0:Int)∈was)) (decide ((1:Int)∈was)) (decide ((2:Int)∈was)) (decide ((3:Int)∈was)) (decide ((4:Int)∈was)) (decide ((5:Int)∈was)) =
  bif decide ((t.el i 0).int∈was) then ri 3 else Xai.B1 h M l env t (t.len:Int) (i:Int) (decide ((0:Int)∈was)) (decide ((1:Int)∈was)) (decide ((2:Int)∈was)) (decide ((3:Int)∈was)) (decide ((4:Int)∈was)) (decide ((5:Int)∈was)) (t.el i 0).int (t.el i 1).bool (t.el i 2).int (t.el i 3).int (t.el i 4):=by
 rw[Xai.B0_eq,Int.toNat_natCast]
 refine if_of (decide_eq_true (by omega)) (if_of (by simp;omega) (Xag (decide_eq_false (by omega)) (Xag (decide_eq_false (by omega)) (if_of (by simp;omega) (Xag (by rw[he];simp) ?_)))))
 have hv:(t.el i 0).int=0∨(t.el i 0).int=1∨(t.el i 0).int=2∨(t.el i 0).int=3∨(t.el i 0).int=4∨(t.el i 0).int=5:=by omega
 rcases hv with hv|hv|hv|hv|hv|hv
 all_goals
  rw[hv]
  repeat refine Xag (by decide) ?_
  refine if_of (by decide) ?_
  rfl
theorem refMC1 (hl:l.len≤6)(ht:t.len≤6){i:Nat}(hi:i<t.len){was:List Int}(h0:0≤(t.el i 0).int)(h1:(t.el i 0).int<(l.len:Int))
  (hn:∀ op m want now env sys,Xbu h l op m (t.el i 4) want now env sys=ri (Xcb (Xaa l) (.mk op m (Xab (t.el i 4))) want now env sys)) (hz:∀ o n,Xcv h o n (t.el i 4)=rb (bareE (.mk o n (Xab (t.el i 4))))) {Q:Option R} {M:Nat}
  (next:Xai.B0 h M l env t (t.len:Int) ((i+1:Nat):Int) (decide ((0:Int)∈was++[(t.el i 0).int])) (decide ((1:Int)∈was++[(t.el i 0).int])) (decide ((2:Int)∈was++[(t.el i 0).int])) (decide ((3:Int)∈was++[(t.el i 0).int])) (decide ((4:Int)∈was++[(t.el i 0).int])) (decide ((5:Int)∈was++[(t.el i 0).int]))=Q):
  Xai.B1 h (M+1+1) l env t (t.len:Int) (i:Int) (decide ((0:Int)∈was)) (decide ((1:Int)∈was)) (decide ((2:Int)∈was)) (decide ((3:Int)∈was)) (decide ((4:Int)∈was)) (decide ((5:Int)∈was)) (t.el i 0).int (t.el i 1).bool (t.el i 2).int (t.el i 3).int (t.el i 4) =
  if (t.el i 1).bool=true∧bareE (.mk (t.el i 2).int (t.el i 3).int (Xab (t.el i 4)))=false then ri 1 else if (t.el i 1).bool=true then Q else
   if Xcb (Xaa l) (.mk (t.el i 2).int (t.el i 3).int (Xab (t.el i 4))) (l.el (t.el i 0).int.toNat 2).int true (!env) false≠0 then ri (Xcb (Xaa l) (.mk (t.el i 2).int (t.el i 3).int (Xab (t.el i 4))) (l.el (t.el i 0).int.toNat 2).int true (!env) false) else Q:=by
 have hv:(t.el i 0).int=0∨(t.el i 0).int=1∨(t.el i 0).int=2∨(t.el i 0).int=3∨(t.el i 0).int=4∨(t.el i 0).int=5:=by omega
 have core:∀ {x:Option R},x=Q→(bif (t.el i 1).bool then (Xcv h (t.el i 2).int (t.el i 3).int (t.el i 4)).bind fun r=>(bif (!((r 0).bool)) then some (lookR [(0,(T.i 1))]) else x) else (bif decide ((0:Int)≤(t.el i 0).int)&&decide ((t.el i 0).int<((l.len:Nat):Int)) then (Xbu h l (t.el i 2).int (t.el i 3).int (t.el i 4) ((l.el (t.el i 0).int.toNat 2).int) true (!env) false).bind fun r=>(bif (((r 0).int) != (0:Int)) then some (lookR [(0,(T.i ((r 0).int)))]) else x) else none)) =
   if (t.el i 1).bool=true∧bareE (.mk (t.el i 2).int (t.el i 3).int (Xab (t.el i 4)))=false then ri 1 else if (t.el i 1).bool=true then Q else
   if Xcb (Xaa l) (.mk (t.el i 2).int (t.el i 3).int (Xab (t.el i 4))) (l.el (t.el i 0).int.toNat 2).int true (!env) false≠0 then ri (Xcb (Xaa l) (.mk (t.el i 2).int (t.el i 3).int (Xab (t.el i 4))) (l.el (t.el i 0).int.toNat 2).int true (!env) false) else Q:=by
  intro x hx
  cases c:(t.el i 1).bool with
  | true=>
   refine if_of rfl (Xaj (hz _ _) ?_)
   cases d:bareE (.mk (t.el i 2).int (t.el i 3).int (Xab (t.el i 4))) with
   | true=>rw[if_neg (by simp),if_pos rfl];exact Xag rfl hx
   | false=>rw[if_pos (by simp)];exact if_of rfl rfl
  | false=>
   refine Xag rfl (if_of (by simp;omega) (Xaj (hn _ _ _ _ _ _) ?_))
   rw[if_neg (by simp),if_neg (by simp)]
   by_cases d:Xcb (Xaa l) (.mk (t.el i 2).int (t.el i 3).int (Xab (t.el i 4))) (l.el (t.el i 0).int.toNat 2).int true (!env) false=0
   ·rw[if_neg (by simpa using d)]
    exact Xag (by simp[Xar,int_i,d]) hx
   ·rw[if_pos d]
    exact if_of (by simp[Xar,int_i,d]) rfl
 rw[Xai.B1_eq]
 rcases hv with hv|hv|hv|hv|hv|hv
 all_goals
  rw[hv] at core next ⊢
  repeat refine Xag (by decide) ?_
  refine if_of (by decide) ?_
  refine core ?_
  rw[Xai.B2_eq,Xbh (a:=(i:Int)+1) (by omega) (by omega)]
  rw[←next]
  simp
theorem refMC (hl:l.len≤6)(ht:t.len≤6)(hn:∀ i,i<t.len→∀ op m want now env sys,Xbu h l op m (t.el i 4) want now env sys=ri (Xcb (Xaa l) (.mk op m (Xab (t.el i 4))) want now env sys))(hz:∀ o n k,Xcv h o n k=rb (bareE (.mk o n (Xab k)))):
  ∀ m i,i+m=t.len→∀ was N,3*m+1≤N→Xai.B0 h N l env t (t.len:Int) (i:Int) (decide ((0:Int)∈was)) (decide ((1:Int)∈was)) (decide ((2:Int)∈was)) (decide ((3:Int)∈was)) (decide ((4:Int)∈was)) (decide ((5:Int)∈was))=ri (Xhw (Xaa l) env ((Xcr t).drop i) was)
 | 0,i,hi,was,N,hN=>by
  obtain ⟨N,rfl⟩:∃ M,N=M+1:=⟨N-1,by omega⟩
  rw[Xai.B0_eq,List.drop_of_length_le (by rw[Xfe];omega)]
  exact Xag (decide_eq_false (by omega)) rfl
 | m+1,i,hi,was,N,hN=>by
  obtain ⟨N,rfl⟩:∃ M,N=M+1+1+1:=⟨N-3,by omega⟩
  have hlt:i<t.len:=by omega
  have ih:=refMC hl ht hn hz m (i+1) (by omega) (was++[(t.el i 0).int]) N (by omega)
  rw[Xiz t hlt]
  simp only[Xhw]
  by_cases c1:(t.el i 0).int<0
  ·have e:setE (Xaa l) env was (seAt t i)=3:=by unfold setE;rw[if_pos (.inl c1)]
   rw[e,if_pos (by omega),Xai.B0_eq,Int.toNat_natCast]
   exact if_of (decide_eq_true (by omega)) (if_of (by simp;omega) (if_of (decide_eq_true c1) rfl))
  by_cases c2:(l.len:Int)≤(t.el i 0).int
  ·have e:setE (Xaa l) env was (seAt t i)=3:=by unfold setE;rw[if_pos (.inr (.inl (by rw[Xcc];exact c2)))]
   rw[e,if_pos (by omega),Xai.B0_eq,Int.toNat_natCast]
   exact if_of (decide_eq_true (by omega)) (if_of (by simp;omega) (Xag (decide_eq_false c1) (if_of (decide_eq_true (by omega)) rfl)))
  have ee:=Xqg (l:=l) (v:=(t.el i 0).int) (by omega) (by omega)
  by_cases c3:(l.el (t.el i 0).int.toNat 1).bool=env
  case neg=>
   have e:setE (Xaa l) env was (seAt t i)=3:=by unfold setE;rw[if_pos (.inr (.inr (.inl (by show envAt _ (t.el i 0).int≠_;rw[ee];exact c3))))]
   rw[e,if_pos (by omega),Xai.B0_eq,Int.toNat_natCast]
   exact if_of (decide_eq_true (by omega)) (if_of (by simp;omega) (Xag (decide_eq_false c1) (Xag (decide_eq_false (by omega)) (if_of (by simp;omega) (if_of (by simpa using c3) rfl)))))
  rw[refMC0 hl ht hlt (by omega) (by omega) c3]
  by_cases c4:(t.el i 0).int∈was
  ·have e:setE (Xaa l) env was (seAt t i)=3:=by unfold setE;rw[if_pos (.inr (.inr (.inr c4)))]
   rw[e,if_pos (by omega)]
   exact if_of (decide_eq_true c4) rfl
  refine Xag (decide_eq_false c4) ?_
  have so:sortAt (Xaa l) (t.el i 0).int=(l.el (t.el i 0).int.toNat 2).int:=by
   unfold sortAt
   rw[Xfd l (by omega)];rfl
  have e:setE (Xaa l) env was (seAt t i)=if (t.el i 1).bool=true∧bareE (.mk (t.el i 2).int (t.el i 3).int (Xab (t.el i 4)))=false then 1 else if (t.el i 1).bool=true then 0 else Xcb (Xaa l) (.mk (t.el i 2).int (t.el i 3).int (Xab (t.el i 4))) (l.el (t.el i 0).int.toNat 2).int true (!env) false:=by
   rw[←so]
   unfold setE
   rw[if_neg]
   ·rfl
   ·rw[Xcc]
    rintro (q|q|q|q)
    ·exact c1 q
    ·exact c2 q
    ·exact q (by show envAt _ (t.el i 0).int=_;rw[ee];exact c3)
    ·exact c4 q
  rw[refMC1 hl ht hlt (by omega) (by omega) (hn i hlt) (fun o n=>hz o n _) ih,e]
  split
  ·rw[if_pos (by omega)]
  ·split
   ·rw[if_neg (by simp)];rfl
   ·split
    ·rfl
    ·rfl
end
theorem Xov (l:T)(hl:l.len≤9223372036854775807)(k t:T)(hk:KW k)(ht:KS t):Ev fun N=>∀ o n env,Xcy (K N) l o n k t env=ri (Xdx (Xaa l) env ⟨.mk o n (Xab k),Xcr t⟩):=by
 refine Ev.step (Ev.imp4 (Xsg l hl) (Xie l hl k hk) (Ev.all (k:=t.len) fun i hi=>Xie l hl (t.el i 4) (ht.2 i hi)) (Ev.ge 100) fun N h1 h2 h3 hN o n env=> ?_)
 rw[Xnc]
 unfold Xdx
 simp only[Xfe]
 refine Xaj h1 ?_
 by_cases c1:mayV (Xaa l)=0
 case neg=>rw[if_pos c1];exact if_of (by simpa [Xar,int_i] using c1) rfl
 rw[if_neg (by simpa using c1)]
 refine Xag (by simp[Xar,int_i,c1]) (Xaj (h2 o n 1 true (!env) false) ?_)
 by_cases c2:Xcb (Xaa l) (.mk o n (Xab k)) 1 true (!env) false=0
 case neg=>rw[if_pos c2];exact if_of (by simpa [Xar,int_i] using c2) rfl
 rw[if_neg (by simpa using c2)]
 refine Xag (by simp[Xar,int_i,c2]) ?_
 have h6:=totalE_len (mayV_total c1)
 rw[Xcc] at h6
 by_cases c3:6<(t.len:Int)
 ·rw[if_pos c3]
  exact if_of (decide_eq_true c3) rfl
 ·rw[if_neg c3]
  refine Xag (decide_eq_false c3) ?_
  obtain ⟨N,rfl⟩:∃ M,N=M+1:=⟨N-1,by omega⟩
  exact refMC (h:=K (N+1)) (env:=env) h6 (by omega) h3 (fun o n k=>rzero_sp N o n k) t.len 0 (by omega) [] (N+1) (by omega)
section
variable {h:H}{l k1 k2 te ts ta tn tp:T}{o1 n1 o2 n2:Int}
theorem rmX {t:T}(ht:t.len≤100)(hn:∀ i,i<t.len→∀ op m want now env sys,Xbu h l op m (t.el i 2) want now env sys=ri (Xcb (Xaa l) (.mk op m (Xab (t.el i 2))) want now env sys)){q:Int}(hq:q≤2){c:Nat}{x:Int}(hk:∀ M,c≤M→Xae.B3 h M l ta tn tp (IntKind.wrap .i64 (q+1))=ri x):
  ∀ m i,i+m=t.len→∀ M,c+m+1≤M→Xae.B4 h M l ta tn tp q t (t.len:Int) (i:Int)=ri (if Xdr (fun e=>Xcb (Xaa l) e 1 true false false) ((Xab t).drop i)≠0 then Xdr (fun e=>Xcb (Xaa l) e 1 true false false) ((Xab t).drop i) else x)
 | 0,i,hi,M,hM=>by
  obtain ⟨M,rfl⟩:∃ M',M=M'+1:=⟨M-1,by omega⟩
  rw[Xae.B4_eq,List.drop_of_length_le (by rw[Xbd];omega)]
  exact Xag (decide_eq_false (by omega)) (by rw[hk M (by omega)];rfl)
 | m+1,i,hi,M,hM=>by
  obtain ⟨M,rfl⟩:∃ M',M=M'+1:=⟨M-1,by omega⟩
  have hlt:i<t.len:=by omega
  have ih:=rmX ht hn hq hk m (i+1) (by omega) M (by omega)
  rw[Xae.B4_eq,Xca t i hlt,Int.toNat_natCast,Xbh (a:=(i:Int)+1) (by omega) (by omega)]
  refine if_of (decide_eq_true (by omega)) (if_of (by simp;omega) (Xaj (hn i hlt _ _ 1 true false false) ?_))
  by_cases d:Xcb (Xaa l) (exAt t i) 1 true false false=0
  ·rw[firstE_c0 (f:=fun e=>Xcb (Xaa l) e 1 true false false) d]
   exact Xag (by simp only[Xar,int_i];show (Xcb (Xaa l) (exAt t i) 1 true false false != 0)=false;rw[d];rfl) ih
  ·rw[firstE_c1 (f:=fun e=>Xcb (Xaa l) e 1 true false false) d,if_pos d]
   exact if_of (by simp only[Xar,int_i];show (Xcb (Xaa l) (exAt t i) 1 true false false != 0)=true;simpa using d) rfl
theorem rmC {t:T}{env:Bool}(ht:t.len≤100)(hn:∀ i,i<t.len→∀ o n env,Xcy h l o n (t.el i 2) (t.el i 3) env=ri (Xdx (Xaa l) env ⟨.mk o n (Xab (t.el i 2)),Xcr (t.el i 3)⟩)){B:Nat→Int→Option R}{E:Nat→Option R}{c:Nat}{x:Int}
  (hB:∀ M i,B (M+1) i=(bif decide (i<(t.len:Int)) then (bif decide ((0:Int)≤i)&&decide (i<((t.len:Nat):Int)) then (Xcy h l ((t.el i.toNat 0).int) ((t.el i.toNat 1).int) (t.el i.toNat 2) (t.el i.toNat 3) env).bind fun r=>(bif (((r 0).int) != (0:Int)) then some (lookR [(0,(T.i ((r 0).int)))]) else B M (IntKind.wrap .i64 (i+(1:Int)))) else none) else E M))
  (hk:∀ M,c≤M→E M=ri x):
  ∀ m i,i+m=t.len→∀ M,c+m+1≤M→B M (i:Int)=ri (if Xdr (Xdx (Xaa l) env) ((Xbn t).drop i)≠0 then Xdr (Xdx (Xaa l) env) ((Xbn t).drop i) else x)
 | 0,i,hi,M,hM=>by
  obtain ⟨M,rfl⟩:∃ M',M=M'+1:=⟨M-1,by omega⟩
  rw[hB,List.drop_of_length_le (by rw[Xdk];omega)]
  exact Xag (decide_eq_false (by omega)) (by rw[hk M (by omega)];rfl)
 | m+1,i,hi,M,hM=>by
  obtain ⟨M,rfl⟩:∃ M',M=M'+1:=⟨M-1,by omega⟩
  have hlt:i<t.len:=by omega
  have ih:=rmC ht hn hB hk m (i+1) (by omega) M (by omega)
  rw[hB,Xeo t hlt,Int.toNat_natCast,Xbh (a:=(i:Int)+1) (by omega) (by omega)]
  refine if_of (decide_eq_true (by omega)) (if_of (by simp;omega) (Xaj (hn i hlt _ _ env) ?_))
  by_cases d:Xdx (Xaa l) env (cmAt t i)=0
  ·rw[firstE_c0 d]
   exact Xag (by simp only[Xar,int_i];show (Xdx (Xaa l) env (cmAt t i) != 0)=false;rw[d];rfl) ih
  ·rw[firstE_c1 d,if_pos d]
   exact if_of (by simp only[Xar,int_i];show (Xdx (Xaa l) env (cmAt t i) != 0)=true;simpa using d) rfl
end
theorem refMayM_sp (l:T)(hl:l.len≤9223372036854775807)(k1 k2 te ts ta tn tp:T)(h1:KW k1)(h2:KW k2)(he:KC te)(hs:KC ts)(ha:KW ta)(hn:KW tn)(hp:KW tp):
  Ev fun N=>∀ o1 n1 o2 n2,Xfk (K N) l o1 n1 k1 o2 n2 k2 te ts ta tn tp=ri (mayM ⟨Xaa l,.mk o1 n1 (Xab k1),.mk o2 n2 (Xab k2),Xbn te,Xbn ts,Xab ta,Xab tn,Xab tp⟩):=by
 have base:=Ev.imp4 (Xsg l hl) (Ev.and (Xie l hl k1 h1) (Xie l hl k2 h2)) (Ev.and (Ev.all (k:=te.len) fun i hi=>Xov l hl _ _ (he.2 i hi).1 (he.2 i hi).2) (Ev.all (k:=ts.len) fun i hi=>Xov l hl _ _ (hs.2 i hi).1 (hs.2 i hi).2)) (Ev.and (Ev.all (k:=ta.len) fun i hi=>Xie l hl (ta.el i 2) (ha.el hi)) (Ev.and (Ev.all (k:=tn.len) fun i hi=>Xie l hl (tn.el i 2) (hn.el hi)) (Ev.all (k:=tp.len) fun i hi=>Xie l hl (tp.el i 2) (hp.el hi)))) fun N a b c d=>(⟨a,b,c,d⟩:_∧_∧_∧_)
 refine Ev.step ((base.and (Ev.ge 1000)).imp fun N hb o1 n1 o2 n2=> ?_)
 obtain ⟨⟨b1,⟨b2,b3⟩,⟨b4,b5⟩,b6,b7,b8⟩,hN⟩:=hb
 rw[Xnw]
 unfold mayM
 simp only
 refine Xaj b1 ?_
 by_cases c1:mayV (Xaa l)=0
 case neg=>rw[if_pos c1];exact if_of (by simpa [Xar,int_i] using c1) rfl
 rw[if_neg (by simpa using c1)]
 refine Xag (by simp[Xar,int_i,c1]) (Xaj (b2 o1 n1 1 false false false) ?_)
 by_cases c2:Xcb (Xaa l) (.mk o1 n1 (Xab k1)) 1 false false false=0
 case neg=>rw[if_pos c2];exact if_of (by simpa [Xar,int_i] using c2) rfl
 rw[if_neg (by simpa using c2)]
 refine Xag (by simp[Xar,int_i,c2]) (Xaj (b3 o2 n2 1 true false false) ?_)
 by_cases c3:Xcb (Xaa l) (.mk o2 n2 (Xab k2)) 1 true false false=0
 case neg=>rw[if_pos c3];exact if_of (by simpa [Xar,int_i] using c3) rfl
 rw[if_neg (by simpa using c3)]
 refine Xag (by simp[Xar,int_i,c3]) ?_
 have hf:(fullM ⟨Xaa l,.mk o1 n1 (Xab k1),.mk o2 n2 (Xab k2),Xbn te,Xbn ts,Xab ta,Xab tn,Xab tp⟩=true)↔(12<te.len∨12<ts.len∨4<ta.len∨4<tn.len∨6<tp.len):=by
  unfold fullM
  simp only[Xdk,Xbd]
  rw[Bool.or_eq_true,Bool.or_eq_true,decide_eq_true_eq,decide_eq_true_eq,decide_eq_true_eq]
  omega
 by_cases c4:12<te.len∨12<ts.len∨4<ta.len∨4<tn.len∨6<tp.len
 ·rw[if_pos (hf.2 c4)]
  refine Xfs (fun _=>rfl) fun d1=>Xfs (fun _=>rfl) fun d2=>Xfs (fun _=>rfl) fun d3=>Xfs (fun _=>rfl) fun d4=>if_of (decide_eq_true ?_) rfl
  have d1:=of_decide_eq_false d1
  have d2:=of_decide_eq_false d2
  have d3:=of_decide_eq_false d3
  have d4:=of_decide_eq_false d4
  omega
 rw[if_neg fun q=>c4 (hf.1 q)]
 refine Xag (decide_eq_false (by omega)) (Xag (decide_eq_false (by omega)) (Xag (decide_eq_false (by omega)) (Xag (decide_eq_false (by omega)) (Xag (decide_eq_false (by omega)) ?_))))
 have e3:∀ M,1≤M→Xae.B3 (K N) M l ta tn tp (IntKind.wrap .i64 (2+1))=ri 0:=by
  intro M hM
  obtain ⟨M,rfl⟩:∃ M',M=M'+1:=⟨M-1,by omega⟩
  rw[Xae.B3_eq]
  exact Xag (by decide) rfl
 have e2:∀ M,20≤M→Xae.B3 (K N) M l ta tn tp (IntKind.wrap .i64 (1+1))=ri (Xdr (fun e=>Xcb (Xaa l) e 1 true false false) (Xab tp)):=by
  intro M hM
  obtain ⟨M,rfl⟩:∃ M',M=M'+1:=⟨M-1,by omega⟩
  rw[Xae.B3_eq]
  refine if_of (by decide) (Xag (by decide) (Xag (by decide) (if_of (by decide) ?_)))
  have:=rmX (h:=K N) (ta:=ta) (tn:=tn) (tp:=tp) (t:=tp) (by omega) b8 (q:=2) (by omega) e3 tp.len 0 (by omega) M (by omega)
  rw[List.drop_zero] at this
  refine this.trans (congrArg ri ?_)
  split<;>simp_all
 have e1:∀ M,40≤M→Xae.B3 (K N) M l ta tn tp (IntKind.wrap .i64 (0+1))=ri (Xdr (fun e=>Xcb (Xaa l) e 1 true false false) (Xab tn++Xab tp)):=by
  intro M hM
  obtain ⟨M,rfl⟩:∃ M',M=M'+1:=⟨M-1,by omega⟩
  rw[Xae.B3_eq]
  refine if_of (by decide) (Xag (by decide) (if_of (by decide) ?_))
  have:=rmX (h:=K N) (ta:=ta) (tn:=tn) (tp:=tp) (t:=tn) (by omega) b7 (q:=1) (by omega) e2 tn.len 0 (by omega) M (by omega)
  rw[List.drop_zero] at this
  exact this.trans (congrArg ri firstE_app.symm)
 have e0:∀ M,60≤M→Xae.B3 (K N) M l ta tn tp 0=ri (Xdr (fun e=>Xcb (Xaa l) e 1 true false false) (Xab ta++Xab tn++Xab tp)):=by
  intro M hM
  obtain ⟨M,rfl⟩:∃ M',M=M'+1:=⟨M-1,by omega⟩
  rw[Xae.B3_eq]
  refine if_of (by decide) (if_of (by decide) ?_)
  have:=rmX (h:=K N) (ta:=ta) (tn:=tn) (tp:=tp) (t:=ta) (by omega) b6 (q:=0) (by omega) e1 ta.len 0 (by omega) M (by omega)
  rw[List.drop_zero] at this
  refine this.trans (congrArg ri ?_)
  rw[List.append_assoc]
  exact firstE_app.symm
 have tail:∀ M,70≤M→(bif decide (((tp.len:Nat):Int)>(0:Int)) then (bif decide ((IntKind.wrap .i64 (((ta.len:Nat):Int)+((tn.len:Nat):Int)))>(0:Int)) then some (lookR [(0,(T.i 1))]) else Xae.B2 (K N) M l l o1 n1 k1 o2 n2 k2 te ts ta tn tp) else Xae.B2 (K N) M l l o1 n1 k1 o2 n2 k2 te ts ta tn tp)=ri (if 0<(Xab tp).length∧0<(Xab ta).length+(Xab tn).length then 1 else Xdr (fun e=>Xcb (Xaa l) e 1 true false false) (Xab ta++Xab tn++Xab tp)):=by
  intro M hM
  obtain ⟨M,rfl⟩:∃ M',M=M'+1:=⟨M-1,by omega⟩
  rw[Xae.B2_eq,Xbh (by omega) (by omega),Xbd,Xbd,Xbd]
  by_cases d1:0<tp.len
  ·refine if_of (decide_eq_true (by omega)) ?_
   by_cases d2:0<ta.len+tn.len
   ·rw[if_pos ⟨d1,d2⟩]
    exact if_of (decide_eq_true (by omega)) rfl
   ·rw[if_neg (fun q=>d2 q.2)]
    exact Xag (decide_eq_false (by omega)) (e0 M (by omega))
  ·rw[if_neg (fun q=>d1 q.1)]
   exact Xag (decide_eq_false (by omega)) (e0 M (by omega))
 have sys:∀ M,70+ts.len+1≤M→Xae.B1 (K N) M l ts (ts.len:Int) (0:Int) l o1 n1 k1 o2 n2 k2 te ts ta tn tp=_:=
  rmC (h:=K N) (t:=ts) (env:=false) (by omega) b5 (B:=fun M i=>Xae.B1 (K N) M l ts (ts.len:Int) i l o1 n1 k1 o2 n2 k2 te ts ta tn tp) (fun M i=>Xae.B1_eq (K N) M l ts (ts.len:Int) i l o1 n1 k1 o2 n2 k2 te ts ta tn tp) tail ts.len 0 (by omega)
 have envs:Xae.B0 (K N) N l te (te.len:Int) (0:Int) l o1 n1 k1 o2 n2 k2 te ts ta tn tp=_:=
  rmC (h:=K N) (t:=te) (env:=true) (by omega) b4 (B:=fun M i=>Xae.B0 (K N) M l te (te.len:Int) i l o1 n1 k1 o2 n2 k2 te ts ta tn tp) (E:=fun M=>Xae.B1 (K N) M l ts (ts.len:Int) (0:Int) l o1 n1 k1 o2 n2 k2 te ts ta tn tp) (fun M i=>Xae.B0_eq (K N) M l te (te.len:Int) i l o1 n1 k1 o2 n2 k2 te ts ta tn tp) sys te.len 0 (by omega) N (by omega)
 rw[List.drop_zero,List.drop_zero] at envs
 exact envs
end Go.Proofs.YtpjedhbfkfobcaaGreatDoor
set_option linter.unusedVariables false
set_option linter.unusedSimpArgs false
namespace Go.AM
open Go.Proofs.YtpjedhbfkfobcaaGreatDoor
def stripV (v:Va):Bool×Int×Int×Int:=(v.env,v.sort,v.lo,v.hi)
section
variable {l l':List Va}(h:l.map stripV=l'.map stripV)(m:mayV l=0)(m':mayV l'=0)
include h m m'
end
theorem mayFrom_go {all:List Va}:∀ (a:List Va) (b:List Va) (i:Int),(∀ j (hj:j<a.length),nameE a[j].name=true∧¬findE all a[j].name<i+(j:Int)∧Xdu a[j]=0)→Xgd all (a++b) i=Xgd all b (i+a.length)
 | [],b,i,h=>by simp
 | v::a,b,i,h=>by
  obtain ⟨h1,h2,h3⟩:=h 0 (by simp)
  simp only[List.getElem_cons_zero,Int.natCast_zero,Int.add_zero] at h1 h2 h3
  simp only[List.cons_append,Xgd]
  rw[if_neg (by simp[h1]),if_neg h2,if_neg (by simpa using h3),mayFrom_go a b (i+1) (fun j hj=> ?_)]
  ·congr 1
   simp only[List.length_cons]
   omega
  ·have:=h (j+1) (by simpa using hj)
   simp only[List.getElem_cons_succ] at this
   refine ⟨this.1,?_,this.2.2⟩
   have h4:=this.2.1
   rw[show i+((j+1:Nat):Int)=i+1+(j:Int) by omega] at h4
   exact h4
theorem mayFrom_ok {all:List Va}:∀ (a:List Va) (i:Int),Xgd all a i=0→∀ j (hj:j<a.length),nameE a[j].name=true∧¬findE all a[j].name<i+(j:Int)∧Xdu a[j]=0
 | [],i,h,j,hj=>absurd hj (Nat.not_lt_zero _)
 | v::a,i,h,j,hj=>by
  simp only[Xgd] at h
  by_cases c1:nameE v.name=false
  ·rw[if_pos c1] at h;exact absurd h (by omega)
  rw[if_neg c1] at h
  by_cases c2:findE all v.name<i
  ·rw[if_pos c2] at h;exact absurd h (by omega)
  rw[if_neg c2] at h
  by_cases c3:Xdu v=0
  case neg=>rw[if_pos c3] at h;exact absurd h c3
  rw[if_neg (by simpa using c3)] at h
  cases j with
  | zero=>exact ⟨by simpa using c1,by simpa using c2,c3⟩
  | succ j=>
   obtain ⟨h1,h2,h3⟩:=mayFrom_ok a (i+1) h j (by simpa using hj)
   refine ⟨h1,?_,h3⟩
   rw[show i+((j+1:Nat):Int)=i+1+(j:Int) by omega]
   exact h2
theorem find_at (a:List Va)(v:Va)(r:List Va):findE (a++v::r) v.name<(a.length:Int)↔∃ w∈a,strEq w.name v.name=true:=by
 have:=Xpg a v r v.name 0 (strEq_self _)
 rw[Int.zero_add] at this
 unfold findE
 rw[this,List.any_eq_true]
theorem find_in {l:List Va}{j:Nat}(hj:j<l.length)(r:List Va):findE (l++r) l[j].name<(j:Int)↔∃ m,∃ _:m<l.length,m<j∧strEq l[m].name l[j].name=true:=by
 have e:l++r=l.take j++l[j]::(l.drop (j+1)++r):=by
  rw[←List.cons_append,←List.drop_eq_getElem_cons hj,←List.append_assoc,List.take_append_drop]
 have:=find_at (l.take j) l[j] (l.drop (j+1)++r)
 rw[←e,List.length_take,Nat.min_eq_left (by omega)] at this
 rw[this]
 constructor
 ·rintro ⟨w,hw,hs⟩
  obtain ⟨m,hm,rfl⟩:=List.getElem_of_mem hw
  rw[List.length_take] at hm
  rw[List.getElem_take] at hs
  exact ⟨m,by omega,by omega,hs⟩
 ·rintro ⟨m,hm,hmj,hs⟩
  exact ⟨l[m],List.mem_of_getElem? (i:=m) (by rw[List.getElem?_take_of_lt hmj,List.getElem?_eq_getElem hm]),hs⟩
theorem mayV_iff {l:List Va}:mayV l=0↔(∀ j (hj:j<l.length),nameE l[j].name=true∧(∀ m (hm:m<l.length),m<j→strEq l[m].name l[j].name=false)∧Xdu l[j]=0)∧Xlc l≠0:=by
 constructor
 ·intro h
  refine ⟨fun j hj=> ?_,mayV_total h⟩
  obtain ⟨h1,h2,h3⟩:=mayFrom_ok l 0 h j hj
  refine ⟨h1,fun m hm hmj=> ?_,h3⟩
  rw[Int.zero_add] at h2
  have:=fun q=>h2 (by have:=(find_in hj []).2 q;rwa [List.append_nil] at this)
  cases c:strEq l[m].name l[j].name with
  | false=>rfl
  | true=>exact absurd ⟨m,hm,hmj,c⟩ this
 ·rintro ⟨h,ht⟩
  unfold mayV
  have:=mayFrom_go (all:=l) l [] 0 fun j hj=> ?_
  ·rw[List.append_nil] at this
   rw[this]
   simp only[Xgd]
   rw[if_neg ht]
  ·obtain ⟨h1,h2,h3⟩:=h j hj
   refine ⟨h1,?_,h3⟩
   rw[Int.zero_add]
   intro q
   obtain ⟨m,hm,hmj,c⟩:=(find_in hj []).1 (by rwa [List.append_nil])
   rw[h2 m hm hmj] at c
   cases c
theorem Xif {l:List Va}{e:Ex}{want:Int}{now env sys:Bool}(h:Xcb l e want now env sys=0):sameX e e=true:=by
 have e1:(sortE l e).2=0:=by
  unfold Xcb at h
  by_cases c:(sortE l e).2=0
  ·exact c
  ·rw[if_pos c] at h;exact h
 have e2:mayE e=0:=by
  unfold sortE at e1
  by_cases c:mayV l=0
  ·rw[if_neg (by simpa using c)] at e1
   by_cases d:mayE e=0
   ·exact d
   ·rw[if_pos d] at e1;exact e1
  ·rw[if_pos c] at e1;exact absurd e1 c
 have e3:Xfi e=true:=by
  unfold mayE at e2
  cases c:Xfi e with
  | true=>rfl
  | false=>rw[c] at e2;simp at e2
 unfold sameX
 rw[e3,sameE_self]
 rfl
theorem Xlm {α:Type}{p:α→α→Bool}:∀ {l:List α},(∀ x∈l,p x x=true)→eqL p l l=true
 | [],_=>rfl
 | x::l,h=>by
  simp only[eqL]
  rw[h x (List.mem_cons_self ..),Xlm fun y hy=>h y (List.mem_cons_of_mem _ hy)]
  rfl
theorem sets_same {l:List Va}{env:Bool}:∀ {ss:List Se} {was:List Int},Xhw l env ss was=0→∀ s∈ss,sameS s s=true
 | [],_,_,s,hs=>absurd hs (List.not_mem_nil)
 | s::r,was,h,x,hx=>by
  simp only[Xhw] at h
  by_cases c:setE l env was s=0
  case neg=>rw[if_pos c] at h;exact absurd h c
  rw[if_neg (by simpa using c)] at h
  rcases List.mem_cons.1 hx with rfl|hx
  ·unfold sameS
   rw[decide_eq_true rfl,beq_self_eq_true]
   unfold setE at c
   split at c
   ·exact absurd c (by omega)
   ·split at c
    ·exact absurd c (by omega)
    ·rename_i d1 d2
     split at c
     ·rename_i d3
      have:bareE x.e=true:=by
       cases d:bareE x.e with
       | true=>rfl
       | false=>exact absurd ⟨d3,d⟩ d2
      rw[this];rfl
     ·rw[Xif c]
      simp
  ·exact sets_same h x hx
theorem cmd_same {l:List Va}{env:Bool}{c:Cm}(h:Xdx l env c=0):sameC c c=true:=by
 obtain ⟨h1,h2,h3,h4⟩:=mayCmd_zero h
 unfold sameC
 rw[Xif h2,Xlm (sets_same h4)]
 rfl
theorem sameV_self (v:Va):sameV v v=true:=by
 unfold sameV
 simp[strEq_self]
theorem mayM_zero {m:Md}(h:mayM m=0):mayV m.vars=0∧Xcb m.vars m.ie 1 false false false=0∧Xcb m.vars m.is 1 true false false=0∧Xdr (Xdx m.vars true) m.env=0∧Xdr (Xdx m.vars false) m.sys=0∧Xdr (fun e=>Xcb m.vars e 1 true false false) (m.assume++m.ensure++m.prio)=0:=by
 unfold mayM at h
 by_cases c1:mayV m.vars=0
 case neg=>rw[if_pos c1] at h;exact absurd h c1
 rw[if_neg (by simpa using c1)] at h
 by_cases c2:Xcb m.vars m.ie 1 false false false=0
 case neg=>rw[if_pos c2] at h;exact absurd h c2
 rw[if_neg (by simpa using c2)] at h
 by_cases c3:Xcb m.vars m.is 1 true false false=0
 case neg=>rw[if_pos c3] at h;exact absurd h c3
 rw[if_neg (by simpa using c3)] at h
 by_cases c4:fullM m=true
 ·rw[if_pos c4] at h;exact absurd h (by omega)
 rw[if_neg c4] at h
 by_cases c5:Xdr (Xdx m.vars true) m.env=0
 case neg=>rw[if_pos c5] at h;exact absurd h c5
 rw[if_neg (by simpa using c5)] at h
 by_cases c6:Xdr (Xdx m.vars false) m.sys=0
 case neg=>rw[if_pos c6] at h;exact absurd h c6
 rw[if_neg (by simpa using c6)] at h
 by_cases c7:0<m.prio.length∧0<m.assume.length+m.ensure.length
 ·rw[if_pos c7] at h;exact absurd h (by omega)
 rw[if_neg c7] at h
 exact ⟨c1,c2,c3,c5,c6,h⟩
theorem sameM_vars {l l':List Va}{ie is:Ex}{te ts:List Cm}{ta tn tp:List Ex}(h:mayM ⟨l,ie,is,te,ts,ta,tn,tp⟩=0):sameM ⟨l,ie,is,te,ts,ta,tn,tp⟩ ⟨l',ie,is,te,ts,ta,tn,tp⟩=eqL sameV l l':=by
 obtain ⟨h1,h2,h3,h4,h5,h6⟩:=mayM_zero h
 unfold sameM
 simp only at h1 h2 h3 h4 h5 h6 ⊢
 have h4:=firstE_zero.1 h4
 have h5:=firstE_zero.1 h5
 have h6:=firstE_zero.1 h6
 rw[Xif h2,Xif h3,Xlm fun c hc=>cmd_same (h4 c hc),Xlm fun c hc=>cmd_same (h5 c hc),Xlm fun e he=>Xif (h6 e (by simp[he])),Xlm fun e he=>Xif (h6 e (by simp[he])),Xlm fun e he=>Xif (h6 e (by simp[he]))]
 simp
end Go.AM
set_option linter.unusedVariables false
set_option linter.unusedSimpArgs false
namespace Go.Proofs.YtpjedhbfkfobcaaGreatDoor
open Go.AM
def q7:ByteArray:=ByteArray.mk #[113,95,55]
end Go.Proofs.YtpjedhbfkfobcaaGreatDoor
