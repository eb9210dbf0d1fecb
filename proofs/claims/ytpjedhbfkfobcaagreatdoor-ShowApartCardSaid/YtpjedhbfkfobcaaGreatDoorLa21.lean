/- The law ExprKids: what may be has kids that may be. -/
import Derived.Test.YtpjedhbfkfobcaaGreatDoorLa20
import Derived.Test.YtpjedhbfkfobcaaGreatDoorLa5
set_option linter.unusedVariables false
set_option linter.unusedSimpArgs false
namespace Go.AM
theorem readsE_mem {t:Int}{e:Ex}(h:mayE e=0)(x:Int):x∈Xgl t e↔x∈rdE t e:=by
 unfold Xgl
 rw[if_neg (by simpa using h)]
 exact (sortUp (rdE t e)).2 x
end Go.AM
namespace Go.Proofs.YtpjedhbfkfobcaaGreatDoor
open Go.AM
theorem Ints.el0 {t:T}{l:List Int}(h:Ints t l){j:Nat}(hj:j<l.length):(t.el j 0).int=l[j]:=h.2 j _ (List.getElem?_eq_getElem hj)
end Go.Proofs.YtpjedhbfkfobcaaGreatDoor
set_option linter.unusedVariables false
set_option linter.unusedSimpArgs false
namespace Go.AM
def envAt (l:List Va)(v:Int):Bool:=((l[v.toNat]?).map Va.env).getD false
def Xip (l:List Va)(env sys:Bool)(v:Int):Bool:=if envAt l v then !env else !sys
def Xkc (l:List Va)(now:Bool)(v:Int):Bool:= !envAt l v&& !now
def Xcb (l:List Va)(e:Ex)(want:Int)(now env sys:Bool):Int:=
 if (sortE l e).2≠0 then (sortE l e).2 else if (sortE l e).1≠want then 4 else
 bif (Xgl 4 e).any (Xip l env sys) then 5 else bif (Xgl 3 e).any (Xkc l now) then 3 else 0
theorem typed_reads {l:List Va}{e:Ex}{s:Int}(h:Typed l e s){t:Int}(ht:t=3∨t=4):∀ x∈rdE t e,0≤x∧x<(l.length:Int):=by
 induction h with
 | num=>intro x hx;simp only[rdE,rdL,List.append_nil] at hx;rw[if_neg (by omega)] at hx;cases hx
 | bool=>intro x hx;simp only[rdE,rdL,List.append_nil] at hx;rw[if_neg (by omega)] at hx;cases hx
 | @var op i v ho h hi=>
  intro x hx
  simp only[rdE,rdL,List.append_nil] at hx
  split at hx
  ·obtain rfl:x=(i:Int):=by simpa using hx
   have:=(List.getElem?_eq_some_iff.1 h).1
   omega
  ·cases hx
 | not _ ih=>
  intro x hx
  simp only[rdE,rdL,List.append_nil,List.mem_append] at hx
  rw[if_neg (by omega)] at hx
  rcases hx with hx|hx
  ·cases hx
  ·exact ih x hx
 | @logic op a b ho _ _ iha ihb=>
  intro x hx
  simp only[rdE,rdL,List.append_nil,List.mem_append] at hx
  rw[if_neg (by omega)] at hx
  rcases hx with hx|hx|hx
  ·cases hx
  ·exact iha x hx
  ·exact ihb x hx
 | same _ _ iha ihb=>
  intro x hx
  simp only[rdE,rdL,List.append_nil,List.mem_append] at hx
  rw[if_neg (by omega)] at hx
  rcases hx with hx|hx|hx
  ·cases hx
  ·exact iha x hx
  ·exact ihb x hx
 | less _ _ _ iha ihb=>
  intro x hx
  simp only[rdE,rdL,List.append_nil,List.mem_append] at hx
  rw[if_neg (by omega)] at hx
  rcases hx with hx|hx|hx
  ·cases hx
  ·exact iha x hx
  ·exact ihb x hx
 | sum _ _ _ iha ihb=>
  intro x hx
  simp only[rdE,rdL,List.append_nil,List.mem_append] at hx
  rw[if_neg (by omega)] at hx
  rcases hx with hx|hx|hx
  ·cases hx
  ·exact iha x hx
  ·exact ihb x hx
 | ite _ _ _ iha ihb ihc=>
  intro x hx
  simp only[rdE,rdL,List.append_nil,List.mem_append] at hx
  rw[if_neg (by omega)] at hx
  rcases hx with hx|hx|hx|hx
  ·cases hx
  ·exact iha x hx
  ·exact ihb x hx
  ·exact ihc x hx
def refEnd (l:List Va)(op n s0 s1 s2:Int):Int×Int:=
 if op=1 then (2,0) else if op=2 then (1,0) else if op=3∨op=4 then (if (l.length:Int)≤n then (0,3) else (((l[n.toNat]?).map Va.sort).getD 0,0)) else
 if op=5 then (if s0≠1 then (0,4) else (1,0)) else if op=6∨op=7∨op=8 then (if s0≠1 then (0,4) else if s1≠1 then (0,4) else (1,0)) else
 if op=9 then (if s0≠s1 then (0,4) else (1,0)) else if op=15 then (if s0≠1 then (0,4) else if s1≠s2 then (0,4) else (s1,0)) else
 if s0≠2 then (0,4) else if s1≠2 then (0,4) else if op=10∨op=11 then (1,0) else (2,0)
theorem len0 {ss:List Int}(h:(ss.length:Int)=0):ss=[]:=List.eq_nil_of_length_eq_zero (by omega)
theorem len1 {ss:List Int}(h:(ss.length:Int)=1):∃ a,ss=[a]:=by
 match ss,h with
 | [a],_=>exact ⟨a,rfl⟩
 | [],h=>simp at h
 | a::b::r,h=>simp at h;omega
theorem len2 {ss:List Int}(h:(ss.length:Int)=2):∃ a b,ss=[a,b]:=by
 match ss,h with
 | [a,b],_=>exact ⟨a,b,rfl⟩
 | [],h=>simp at h
 | [a],h=>simp at h
 | a::b::c::r,h=>simp at h;omega
theorem len3 {ss:List Int}(h:(ss.length:Int)=3):∃ a b c,ss=[a,b,c]:=by
 match ss,h with
 | [a,b,c],_=>exact ⟨a,b,c,rfl⟩
 | [],h=>simp at h
 | [a],h=>simp at h
 | [a,b],h=>simp at h
 | a::b::c::d::r,h=>simp at h;omega
theorem refEnd_node {l:List Va}{op n:Int}{ss:List Int}(hk:(ss.length:Int)=kidsN op)(h12:∀ s∈ss,s=1∨s=2):refEnd l op n (ss.getD 0 0) (ss.getD 1 0) (ss.getD 2 0)=nodeE l op n ss:=by
 unfold kidsN at hk
 unfold refEnd nodeE
 by_cases c0:1≤op∧op≤4
 ·rw[if_pos c0] at hk
  obtain rfl:=len0 hk
  have hn:Xfc op=[]:=by unfold Xfc;repeat' rw[if_neg (by omega)]
  have hf:Xds (Xfc op) [] 0=true:=by rw[hn];rfl
  by_cases c1:op=1
  ·subst c1;rw[if_pos rfl,if_neg (by omega),hf,if_neg (by simp)];rfl
  ·by_cases c2:op=2
   ·subst c2;rw[if_neg (by omega),if_pos rfl,if_neg (by omega),hf,if_neg (by simp)];rfl
   ·rw[if_neg c1,if_neg c2,if_pos (by omega)]
    by_cases c3:(l.length:Int)≤n
    ·rw[if_pos c3,if_pos ⟨by omega,c3⟩]
    ·rw[if_neg c3,if_neg (by omega),hf,if_neg (by simp)]
     unfold toldE
     rw[if_neg (by omega),if_pos (by omega)]
 ·rw[if_neg c0] at hk
  have e34:¬((op=3∨op=4)∧(l.length:Int)≤n):=by omega
  rw[if_neg (by omega),if_neg (by omega),if_neg (by omega),if_neg e34]
  by_cases c5:op=5
  ·rw[if_pos c5] at hk
   obtain ⟨a,rfl⟩:=len1 hk
   subst c5
   rw[if_pos rfl,show Xfc 5=[1] from rfl,fits1 1 a (by omega)]
   show (if a≠1 then _ else _)=_
   by_cases ca:a=1
   ·rw[if_neg (by simpa using ca),if_neg (by simpa using ca)];rfl
   ·rw[if_pos ca,if_pos (by simpa using ca)]
  ·rw[if_neg c5] at hk
   rw[if_neg c5]
   by_cases c6:6≤op∧op≤14
   ·rw[if_pos c6] at hk
    obtain ⟨a,b,rfl⟩:=len2 hk
    have ha:=h12 a (by simp)
    have hb:=h12 b (by simp)
    show (if op=6∨op=7∨op=8 then if a≠1 then _ else if b≠1 then _ else _ else _)=_
    by_cases c8:op≤8
    ·rw[if_pos (by omega)]
     have hn:Xfc op=[1,1]:=by unfold Xfc;rw[if_neg (by omega),if_pos (by omega)]
     have ht:toldE l op n [a,b]=1:=by unfold toldE;rw[if_neg (by omega),if_neg (by omega),if_neg (by omega)]
     rw[hn,fits2 1 a b (by omega),ht]
     by_cases ca:a=1
     ·rw[if_neg (by simpa using ca)]
      by_cases cb:b=1
      ·rw[if_neg (by simpa using cb),if_neg (by simp[ca,cb])]
      ·rw[if_pos cb,if_pos (by simp[cb])]
     ·rw[if_pos ca,if_pos (by simp[ca])]
    ·rw[if_neg (by omega)]
     show (if op=9 then if a≠b then _ else _ else if op=15 then _ else if a≠2 then _ else if b≠2 then _ else if op=10∨op=11 then _ else _)=_
     by_cases c9:op=9
     ·subst c9
      rw[if_pos rfl,show Xfc 9=[0,0] from rfl,fits00 a b (by omega)]
      by_cases cab:a=b
      ·rw[if_neg (by simpa using cab),if_neg (by simp[cab])];rfl
      ·rw[if_pos cab,if_pos (by simp;omega)]
     ·rw[if_neg c9,if_neg (by omega)]
      have hn:Xfc op=[2,2]:=by unfold Xfc;rw[if_neg (by omega),if_neg (by omega),if_pos (by omega)]
      rw[hn,fits2 2 a b (by omega)]
      by_cases ca:a=2
      ·rw[if_neg (by simpa using ca)]
       by_cases cb:b=2
       ·rw[if_neg (by simpa using cb)]
        have hf:decide (a=2∧b=2)=true:=by simp[ca,cb]
        rw[hf]
        by_cases c12:12≤op
        ·have ht:toldE l op n [a,b]=2:=by unfold toldE;rw[if_pos (by omega)]
         rw[ht,if_neg (show ¬(op=10∨op=11) by omega)];rfl
        ·have ht:toldE l op n [a,b]=1:=by unfold toldE;rw[if_neg (by omega),if_neg (by omega),if_neg (by omega)]
         rw[ht,if_pos (show op=10∨op=11 by omega)];rfl
       ·rw[if_pos cb,if_pos (by simp[cb])]
      ·rw[if_pos ca,if_pos (by simp[ca])]
   ·rw[if_neg c6] at hk
    by_cases c15:op=15
    ·rw[if_pos c15] at hk
     obtain ⟨a,b,c,rfl⟩:=len3 hk
     have hb:=h12 b (by simp)
     subst c15
     rw[if_neg (by omega),if_neg (by omega),if_pos rfl,show Xfc 15=[1,0,0] from rfl,fits100 a b c (by omega)]
     show (if a≠1 then _ else if b≠c then _ else (b,0))=_
     by_cases ca:a=1
     ·rw[if_neg (by simpa using ca)]
      by_cases cb:b=c
      ·rw[if_neg (by simpa using cb),if_neg (by simp[ca,cb])];rfl
      ·rw[if_pos cb,if_pos (by simp;omega)]
     ·rw[if_pos ca,if_pos (by simp[ca])]
    ·rw[if_neg c15] at hk
     omega
end Go.AM
namespace Go.Proofs.YtpjedhbfkfobcaaGreatDoor
open Go.AM
theorem Xpv {l:List Va}{e:Ex}(h:(sortE l e).2=0){t:Int}(ht:t=3∨t=4):∀ x∈Xgl t e,0≤x∧x<(l.length:Int):=by
 obtain ⟨_,h2,_,_,_,h6⟩:=Xpw h
 intro x hx
 exact typed_reads h6 ht x ((readsE_mem h2 x).1 hx)
theorem Xqg {l:T}{v:Int}(h0:0≤v)(h1:v<(l.len:Int)):envAt (Xaa l) v=(l.el v.toNat 1).bool:=by
 unfold envAt
 rw[Xfd l (by omega)]
 rfl
theorem needs1_sp (N:Nat)(l:T)(env sys:Bool){v:Int}(h0:0≤v)(h1:v<(l.len:Int)):Xly (K (N+1)) v (fun j=>([l]:List T).getD j (.b false)) (fun j=>([T.b env]:List T).getD j (.b false)) (fun j=>([T.b sys]:List T).getD j (.b false))=rb (Xip (Xaa l) env sys v):=by
 have hg:(decide (0≤v)&&decide (v<(l.len:Int)))=true:=by simp;omega
 rw[C_sort_Needs_1_K]
 unfold Xip
 rw[Xqg h0 h1]
 refine if_of hg (Xfs (fun c=> ?_) fun c=> ?_)
 ·have c:(l.el v.toNat 1).bool=true:=c
  rw[if_pos c]
  cases env with
  | false=>exact if_of rfl rfl
  | true=>refine Xag rfl (if_of hg (Xag ?_ rfl));show (!(l.el v.toNat 1).bool)=false;rw[c];rfl
 ·have c:(l.el v.toNat 1).bool=false:=c
  rw[if_neg (by rw[c];simp)]
  refine if_of hg (if_of ?_ rfl)
  show (!(l.el v.toNat 1).bool)=true
  rw[c];rfl
theorem needs2_sp (N:Nat)(l:T)(now:Bool){v:Int}(h0:0≤v)(h1:v<(l.len:Int)):Xlx (K (N+1)) v (fun j=>([l]:List T).getD j (.b false)) (fun j=>([T.b now]:List T).getD j (.b false))=rb (Xkc (Xaa l) now v):=by
 have hg:(decide (0≤v)&&decide (v<(l.len:Int)))=true:=by simp;omega
 rw[C_sort_Needs_2_K]
 unfold Xkc
 rw[Xqg h0 h1]
 refine if_of hg (Xfs (fun c=> ?_) fun c=> ?_)
 ·have c:(!(l.el v.toNat 1).bool)=true:=c
  rw[c];rfl
 ·have c:(!(l.el v.toNat 1).bool)=false:=c
  rw[c];rfl
theorem needsI1 {N:Nat}{l t:T}{env sys:Bool}{xs:List Int}(hx:Ints t xs)(hl:xs.length≤60)(hr:∀ x∈xs,0≤x∧x<(l.len:Int)):∀ (m i:Nat),i+m=xs.length→∀ M,m<M→
  ∃ x,Xba.B0 (K (N+1)) M t (fun j=>([l]:List T).getD j (.b false)) (fun j=>([T.b env]:List T).getD j (.b false)) (fun j=>([T.b sys]:List T).getD j (.b false)) (t.len:Int) (i:Int)=ri x∧decide (x≥0)=(xs.drop i).any (Xip (Xaa l) env sys)
 | 0,i,hi,M,hM=>by
  obtain ⟨M,rfl⟩:∃ M',M=M'+1:=⟨M-1,by omega⟩
  rw[Xba.B0_eq,List.drop_of_length_le (by omega),hx.1]
  exact ⟨-1,Xag (decide_eq_false (by omega)) rfl,rfl⟩
 | m+1,i,hi,M,hM=>by
  obtain ⟨M,rfl⟩:∃ M',M=M'+1:=⟨M-1,by omega⟩
  have hlt:i<xs.length:=by omega
  have hb:=hr xs[i] (List.getElem_mem hlt)
  obtain ⟨x,e1,e2⟩:=needsI1 (N:=N) (env:=env) (sys:=sys) hx hl hr m (i+1) (by omega) M (by omega)
  have e3:=needs1_sp N l env sys hb.1 hb.2
  rw[Xba.B0_eq,Int.toNat_natCast,hx.el0 hlt,List.drop_eq_getElem_cons hlt,Xbh (a:=(i:Int)+1) (by omega) (by omega)]
  simp only[List.any_cons]
  cases c:Xip (Xaa l) env sys xs[i] with
  | true=>
   rw[c] at e3
   exact ⟨i,if_of (decide_eq_true (by rw[hx.1];omega)) (if_of (by simp[hx.1];omega) (Xaj e3 (if_of rfl rfl))),by simp⟩
  | false=>
   rw[c] at e3
   exact ⟨x,if_of (decide_eq_true (by rw[hx.1];omega)) (if_of (by simp[hx.1];omega) (Xaj e3 (Xag rfl e1))),by rw[Bool.false_or];exact e2⟩
theorem needsI2 {N:Nat}{l t:T}{now:Bool}{xs:List Int}(hx:Ints t xs)(hl:xs.length≤60)(hr:∀ x∈xs,0≤x∧x<(l.len:Int)):∀ (m i:Nat),i+m=xs.length→∀ M,m<M→
  ∃ x,Xaz.B0 (K (N+1)) M t (fun j=>([l]:List T).getD j (.b false)) (fun j=>([T.b now]:List T).getD j (.b false)) (t.len:Int) (i:Int)=ri x∧decide (x≥0)=(xs.drop i).any (Xkc (Xaa l) now)
 | 0,i,hi,M,hM=>by
  obtain ⟨M,rfl⟩:∃ M',M=M'+1:=⟨M-1,by omega⟩
  rw[Xaz.B0_eq,List.drop_of_length_le (by omega),hx.1]
  exact ⟨-1,Xag (decide_eq_false (by omega)) rfl,rfl⟩
 | m+1,i,hi,M,hM=>by
  obtain ⟨M,rfl⟩:∃ M',M=M'+1:=⟨M-1,by omega⟩
  have hlt:i<xs.length:=by omega
  have hb:=hr xs[i] (List.getElem_mem hlt)
  obtain ⟨x,e1,e2⟩:=needsI2 (N:=N) (now:=now) hx hl hr m (i+1) (by omega) M (by omega)
  have e3:=needs2_sp N l now hb.1 hb.2
  rw[Xaz.B0_eq,Int.toNat_natCast,hx.el0 hlt,List.drop_eq_getElem_cons hlt,Xbh (a:=(i:Int)+1) (by omega) (by omega)]
  simp only[List.any_cons]
  cases c:Xkc (Xaa l) now xs[i] with
  | true=>
   rw[c] at e3
   exact ⟨i,if_of (decide_eq_true (by rw[hx.1];omega)) (if_of (by simp[hx.1];omega) (Xaj e3 (if_of rfl rfl))),by simp⟩
  | false=>
   rw[c] at e3
   exact ⟨x,if_of (decide_eq_true (by rw[hx.1];omega)) (if_of (by simp[hx.1];omega) (Xaj e3 (Xag rfl e1))),by rw[Bool.false_or];exact e2⟩
theorem needsC1 (l:T):Ev fun N=>∀ env sys t xs,Ints t xs→xs.length≤60→(∀ x∈xs,0≤x∧x<(l.len:Int))→Xcx (K N) t (fun j=>([l]:List T).getD j (.b false)) (fun j=>([T.b env]:List T).getD j (.b false)) (fun j=>([T.b sys]:List T).getD j (.b false))=rb (xs.any (Xip (Xaa l) env sys)):=by
 refine Ev.step ((Ev.ge 100).imp fun N hN env sys t xs hx hl hr=> ?_)
 obtain ⟨N,rfl⟩:∃ M,N=M+1+1:=⟨N-2,by omega⟩
 rw[Xgf]
 obtain ⟨x,e1,e2⟩:=needsI1 (N:=N) (l:=l) (env:=env) (sys:=sys) hx hl hr xs.length 0 (by omega) (N+1) (by omega)
 refine Xaj (r:=lookR [(0,.i x)]) ?_ ?_
 ·rw[Xhd];exact e1
 ·rw[List.drop_zero] at e2
  rw[←e2];rfl
theorem needsC2 (l:T):Ev fun N=>∀ now t xs,Ints t xs→xs.length≤60→(∀ x∈xs,0≤x∧x<(l.len:Int))→Xcw (K N) t (fun j=>([l]:List T).getD j (.b false)) (fun j=>([T.b now]:List T).getD j (.b false))=rb (xs.any (Xkc (Xaa l) now)):=by
 refine Ev.step ((Ev.ge 100).imp fun N hN now t xs hx hl hr=> ?_)
 obtain ⟨N,rfl⟩:∃ M,N=M+1+1:=⟨N-2,by omega⟩
 rw[Xge]
 obtain ⟨x,e1,e2⟩:=needsI2 (N:=N) (l:=l) (now:=now) hx hl hr xs.length 0 (by omega) (N+1) (by omega)
 refine Xaj (r:=lookR [(0,.i x)]) ?_ ?_
 ·rw[Xhc];exact e1
 ·rw[List.drop_zero] at e2
  rw[←e2];rfl
theorem Xtg (l:T)(hl:l.len≤9223372036854775807)(k:T)(hk:KW k):Ev fun N=>∀ op m want now env sys,Xgc (K N) l op m k want now env sys=ri (Xcb (Xaa l) (.mk op m (Xab k)) want now env sys):=by
 refine Ev.step (Ev.imp4 (Of_sp l hl k hk) (Reads_sp k hk) (needsC1 l) (needsC2 l) fun N h1 h2 h3 h4 op m want now env sys=> ?_)
 rw[C_sort_Needs_K]
 refine Xaj (h1 op m) ?_
 unfold Xcb
 by_cases c1:(sortE (Xaa l) (.mk op m (Xab k))).2=0
 ·rw[if_neg (by simpa using c1)]
  refine Xag (by simpa [Xno,int_i] using c1) ?_
  by_cases c2:(sortE (Xaa l) (.mk op m (Xab k))).1=want
  ·rw[if_neg (by simpa using c2)]
   refine Xag (by simpa [Xar,int_i] using c2) ?_
   obtain ⟨t4,r4,i4⟩:=h2 op m true
   obtain ⟨t3,r3,i3⟩:=h2 op m false
   have b4:=Xpv c1 (t:=4) (.inr rfl)
   have b3:=Xpv c1 (t:=3) (.inl rfl)
   rw[Xcc] at b4 b3
   refine Xaj r4 (Xaj (h3 env sys t4 _ i4 (Xmj ..) b4) ?_)
   refine Xfs (fun c=> ?_) fun c=> ?_
   ·have c:(Xgl 4 (.mk op m (Xab k))).any (Xip (Xaa l) env sys)=true:=c
    rw[c];rfl
   ·have c:(Xgl 4 (.mk op m (Xab k))).any (Xip (Xaa l) env sys)=false:=c
    rw[c]
    refine Xaj r3 (Xaj (h4 now t3 _ i3 (Xmj ..) b3) ?_)
    refine Xfs (fun c=> ?_) fun c=> ?_
    ·have c:(Xgl 3 (.mk op m (Xab k))).any (Xkc (Xaa l) now)=true:=c
     rw[c];rfl
    ·have c:(Xgl 3 (.mk op m (Xab k))).any (Xkc (Xaa l) now)=false:=c
     rw[c];rfl
  ·rw[if_pos c2]
   exact if_of (by simpa [Xar,int_i] using c2) rfl
 ·rw[if_pos c1]
  exact if_of (by simpa [Xno,int_i] using c1) rfl
theorem typedEnd {h:H}{N:Nat}{l k:T}{op n s0 s1 s2:Int}{len i:Int}{q:T}(hi:¬i<len)(hn:Xgw op n=true):Xan.B0 h (N+1+1+1) l q len i op n k s0 s1 s2=rii (refEnd (Xaa l) op n s0 s1 s2).1 (refEnd (Xaa l) op n s0 s1 s2).2:=by
 rw[Xan.B0_eq]
 refine Xag (decide_eq_false hi) ?_
 unfold refEnd
 by_cases c1:op=1
 ·rw[if_pos c1];exact if_of (by simpa using c1) rfl
 rw[if_neg c1]
 refine Xag (by simpa using c1) ?_
 by_cases c2:op=2
 ·rw[if_pos c2];exact if_of (by simpa using c2) rfl
 rw[if_neg c2]
 refine Xag (by simpa using c2) ?_
 have var:(op=3∨op=4)→∀ b,b=true→Xan.B2 h (N+1+1) l op b op n k s0 s1 s2=rii (if (Xaa l).length≤n then ((0:Int),(3:Int)) else ((((Xaa l)[n.toNat]?).map Va.sort).getD 0,0)).1 (if (Xaa l).length≤n then ((0:Int),(3:Int)) else ((((Xaa l)[n.toNat]?).map Va.sort).getD 0,0)).2:=by
  intro ho b hb
  subst hb
  have hb:0≤n∧n<6:=by
   unfold Xgw at hn
   rw[if_neg (by omega),if_neg (by omega),if_pos (by omega)] at hn
   exact of_decide_eq_true hn
  rw[Xan.B2_eq,Xcc]
  refine if_of rfl ?_
  by_cases c:(l.len:Int)≤n
  ·rw[if_pos c];exact if_of (decide_eq_true (by omega)) rfl
  ·rw[if_neg c]
   refine Xag (decide_eq_false (by omega)) (if_of (by simp;omega) ?_)
   rw[Xfd l (by omega)]
   rfl
 by_cases c3:op=3
 ·rw[if_pos (.inl c3)]
  exact if_of (by simpa using c3) (var (.inl c3) _ (by simpa using c3))
 refine Xag (by simpa using c3) ?_
 by_cases c4:op=4
 ·rw[if_pos (.inr c4)]
  exact var (.inr c4) _ (by simpa using c4)
 rw[if_neg (by omega),Xan.B2_eq]
 refine Xag (by simpa using c4) ?_
 by_cases c5:op=5
 ·rw[if_pos c5]
  refine if_of (by simpa using c5) ?_
  by_cases ca:s0=1
  ·rw[if_neg (by simpa using ca)];exact Xag (by simpa using ca) rfl
  ·rw[if_pos ca];exact if_of (by simpa using ca) rfl
 rw[if_neg c5]
 refine Xag (by simpa using c5) ?_
 have log:(op=6∨op=7∨op=8)→∀ b,b=true→Xan.B3 h (N+1) op b op n k s0 s1 s2=rii (if s0≠1 then ((0:Int),(4:Int)) else if s1≠1 then (0,4) else (1,0)).1 (if s0≠1 then ((0:Int),(4:Int)) else if s1≠1 then (0,4) else (1,0)).2:=by
  intro ho b hb
  subst hb
  rw[Xan.B3_eq]
  refine if_of rfl ?_
  by_cases ca:s0=1
  ·rw[if_neg (by simpa using ca)]
   refine Xag (by simpa using ca) ?_
   by_cases cb:s1=1
   ·rw[if_neg (by simpa using cb)];exact Xag (by simpa using cb) rfl
   ·rw[if_pos cb];exact if_of (by simpa using cb) rfl
  ·rw[if_pos ca];exact if_of (by simpa using ca) rfl
 by_cases c6:op=6
 ·rw[if_pos (.inl c6)]
  exact if_of (by simpa using c6) (log (.inl c6) _ (by simpa using c6))
 refine Xag (by simpa using c6) ?_
 by_cases c7:op=7
 ·rw[if_pos (.inr (.inl c7))]
  exact if_of (by simpa using c7) (log (.inr (.inl c7)) _ (by simpa using c7))
 refine Xag (by simpa using c7) ?_
 by_cases c8:op=8
 ·rw[if_pos (.inr (.inr c8))]
  exact log (.inr (.inr c8)) _ (by simpa using c8)
 rw[if_neg (by omega),Xan.B3_eq]
 refine Xag (by simpa using c8) ?_
 by_cases c9:op=9
 ·rw[if_pos c9]
  refine if_of (by simpa using c9) ?_
  by_cases ca:s0=s1
  ·rw[if_neg (by simpa using ca)];exact Xag (by simpa using ca) rfl
  ·rw[if_pos ca];exact if_of (by simpa using ca) rfl
 rw[if_neg c9]
 refine Xag (by simpa using c9) ?_
 by_cases c15:op=15
 ·rw[if_pos c15]
  refine if_of (by simpa using c15) ?_
  by_cases ca:s0=1
  ·rw[if_neg (by simpa using ca)]
   refine Xag (by simpa using ca) ?_
   by_cases cb:s1=s2
   ·rw[if_neg (by simpa using cb)];exact Xag (by simpa using cb) rfl
   ·rw[if_pos cb];exact if_of (by simpa using cb) rfl
  ·rw[if_pos ca];exact if_of (by simpa using ca) rfl
 rw[if_neg c15]
 refine Xag (by simpa using c15) ?_
 by_cases ca:s0=2
 ·rw[if_neg (by simpa using ca)]
  refine Xag (by simpa using ca) ?_
  by_cases cb:s1=2
  ·rw[if_neg (by simpa using cb)]
   refine Xag (by simpa using cb) ?_
   by_cases c10:op=10
   ·rw[if_pos (.inl c10)];exact if_of (by simpa using c10) rfl
   refine Xag (by simpa using c10) ?_
   by_cases c11:op=11
   ·rw[if_pos (.inr c11)];exact if_of (by simpa using c11) rfl
   ·rw[if_neg (by omega)];exact Xag (by simpa using c11) rfl
  ·rw[if_pos cb];exact if_of (by simpa using cb) rfl
 ·rw[if_pos ca];exact if_of (by simpa using ca) rfl
theorem getD_push {ss:List Int}{x:Int}{j:Nat}:(ss++[x]).getD j 0=if j=ss.length then x else ss.getD j 0:=by
 rw[List.getD_eq_getElem?_getD,List.getD_eq_getElem?_getD]
 split
 ·rename_i h;subst h;simp
 ·rename_i h
  by_cases c:j<ss.length
  ·rw[List.getElem?_append_left c]
  ·rw[List.getElem?_eq_none (by simp;omega),List.getElem?_eq_none (by omega)]
theorem typedB {h:H}{l k:T}(hs:Sorts (Xaa l)){op n:Int}(hq:(k.len:Int)=kidsN op)(hn:Xgw op n=true)(hsl:Xhr (Xab k)=true)
  (hc:∀ i,i<k.len→Xfv h l (k.el i 0).int (k.el i 1).int (k.el i 2)=rii (ofE (Xaa l) (exAt k i)).1 (ofE (Xaa l) (exAt k i)).2):
  ∀ (m i:Nat),i+m=k.len→∀ N (ss:List Int),2*m+3≤N→ss.length=i→(∀ s∈ss,s=1∨s=2)→Xan.B0 h N l k (k.len:Int) (i:Int) op n k (ss.getD 0 0) (ss.getD 1 0) (ss.getD 2 0) =
   (let x:=if (ofL (Xaa l) ((Xab k).drop i)).1≠0 then (0,(ofL (Xaa l) ((Xab k).drop i)).1) else nodeE (Xaa l) op n (ss++(ofL (Xaa l) ((Xab k).drop i)).2);rii x.1 x.2)
 | 0,i,hi,N,ss,hN,hl,h12=>by
  obtain ⟨N,rfl⟩:∃ M,N=M+1+1+1:=⟨N-3,by omega⟩
  rw[List.drop_of_length_le (by rw[Xbd];omega)]
  simp only[ofL,ne_eq,not_true_eq_false,if_false,List.append_nil]
  rw[←refEnd_node (by omega) h12]
  exact typedEnd (by omega) hn
 | m+1,i,hi,N,ss,hN,hl,h12=>by
  obtain ⟨N,rfl⟩:∃ M,N=M+1+1:=⟨N-2,by omega⟩
  have h3:=kidsN_le op
  rw[Xca k i (by omega),Xan.B0_eq,Int.toNat_natCast]
  refine if_of (decide_eq_true (by omega)) (if_of (by simp;omega) (Xaj (hc i (by omega)) ?_))
  simp only[ofL]
  by_cases c:(ofE (Xaa l) (exAt k i)).2=0
  ·simp only[c,ne_eq,not_true_eq_false,if_false]
   refine Xag (by simp[Xno,int_i,c]) ?_
   have hs1:(ofE (Xaa l) (exAt k i)).1=1∨(ofE (Xaa l) (exAt k i)).1=2:=((Xsj hs (exAt k i) (Xpu hsl (by omega))).1 c).sort hs
   have ih:=typedB hs hq hn hsl hc m (i+1) (by omega) N (ss++[(ofE (Xaa l) (exAt k i)).1]) (by omega) (by simp[hl]) (by
    intro s h
    rcases List.mem_append.1 h with h|h
    ·exact h12 s h
    ·obtain rfl:s=_:=by simpa using h
     exact hs1)
   rw[getD_push,getD_push,getD_push,hl] at ih
   have fin:(let x:=if (ofL (Xaa l) ((Xab k).drop (i+1))).1≠0 then (0,(ofL (Xaa l) ((Xab k).drop (i+1))).1) else nodeE (Xaa l) op n ((ss++[(ofE (Xaa l) (exAt k i)).1])++(ofL (Xaa l) ((Xab k).drop (i+1))).2);rii x.1 x.2) =
     (let x:=if ¬(if (ofL (Xaa l) ((Xab k).drop (i+1))).1=0 then ((0:Int),(ofE (Xaa l) (exAt k i)).1::(ofL (Xaa l) ((Xab k).drop (i+1))).2) else ((ofL (Xaa l) ((Xab k).drop (i+1))).1,[])).1=0 then (0,(if (ofL (Xaa l) ((Xab k).drop (i+1))).1=0 then ((0:Int),(ofE (Xaa l) (exAt k i)).1::(ofL (Xaa l) ((Xab k).drop (i+1))).2) else ((ofL (Xaa l) ((Xab k).drop (i+1))).1,[])).1) else nodeE (Xaa l) op n (ss++(if (ofL (Xaa l) ((Xab k).drop (i+1))).1=0 then ((0:Int),(ofE (Xaa l) (exAt k i)).1::(ofL (Xaa l) ((Xab k).drop (i+1))).2) else ((ofL (Xaa l) ((Xab k).drop (i+1))).1,[])).2);rii x.1 x.2):=by
    by_cases c2:(ofL (Xaa l) ((Xab k).drop (i+1))).1=0
    ·simp[c2]
    ·simp[c2]
   have go:∀ a b c:Int,Xan.B1 h (N+1) l k (k.len:Int) (i:Int) op n k a b c=Xan.B0 h N l k (k.len:Int) ((i+1:Nat):Int) op n k a b c:=by
    intro a b c
    rw[Xan.B1_eq,Xbh (a:=(i:Int)+1) (by omega) (by omega)]
    rfl
   have hi3:i=0∨i=1∨i=2:=by omega
   rcases hi3 with rfl|rfl|rfl
   ·refine if_of rfl ?_
    refine (go _ _ _).trans (Eq.trans ?_ (ih.trans (by simpa using fin)))
    rfl
   ·refine Xag rfl (if_of rfl ?_)
    refine (go _ _ _).trans (Eq.trans ?_ (ih.trans (by simpa using fin)))
    rfl
   ·refine Xag rfl (Xag rfl (if_of rfl ?_))
    refine (go _ _ _).trans (Eq.trans ?_ (ih.trans (by simpa using fin)))
    rfl
  ·simp only[c,ne_eq,not_false_eq_true,if_true]
   exact if_of (by simpa [Xno,int_i] using c) rfl
theorem typed_sp (l:T)(hs:Sorts (Xaa l)):∀ k,KW k→Ev fun N=>∀ op m,Xed (.mk op m (Xab k))=true→Xfv (K N) l op m k=rii (ofE (Xaa l) (.mk op m (Xab k))).1 (ofE (Xaa l) (.mk op m (Xab k))).2:=by
 refine Xha fun k ih hk=> ?_
 refine Ev.step (Ev.imp2 (Ev.all fun i hi=>ih i hi (hk.el hi)) (Ev.ge (2*k.len+9)) fun N hc hN op m hsd=> ?_)
 obtain ⟨h1,h2,h3⟩:=soundE_inv hsd
 rw[Xrh]
 have:=typedB hs h1 h2 h3 (h:=K N) (fun i hi=>hc i hi _ _ (Xpu h3 hi)) k.len 0 (by omega) N [] (by omega) rfl (fun s h=>by cases h)
 refine Eq.trans this ?_
 simp only[List.drop_zero,List.nil_append,ofE]
theorem Xqb (l:T)(hl:l.len≤9223372036854775807)(k:T)(hk:KW k):Ev fun N=>∀ op m,Xfg (K N) l op m k=rii (sortE (Xaa l) (.mk op m (Xab k))).1 (sortE (Xaa l) (.mk op m (Xab k))).2:=by
 by_cases c1:mayV (Xaa l)=0
 ·refine Ev.step (Ev.imp3 (Xsg l hl) (refMayE_sp k hk) (typed_sp l (mayV_sorts c1) k hk) fun N h1 h2 h3 op m=> ?_)
  rw[Xls]
  unfold sortE
  rw[if_neg (by simpa using c1)]
  refine Xaj h1 (Xag (by simp[Xar,int_i,c1]) (Xaj (h2 op m) ?_))
  by_cases c2:mayE (.mk op m (Xab k))=0
  ·rw[if_neg (by simpa using c2)]
   exact Xag (by simp[Xar,int_i,c2]) (Xaj (h3 op m (Xso c2).1) rfl)
  ·rw[if_pos c2]
   exact if_of (by simpa [Xar,int_i] using c2) rfl
 ·refine Ev.step ((Xsg l hl).imp fun N h1 op m=> ?_)
  rw[Xls]
  unfold sortE
  rw[if_pos c1]
  exact Xaj h1 (if_of (by simpa [Xar,int_i] using c1) rfl)
theorem refNeedsB2 {h:H}{l t:T}{now:Bool}{xs:List Int}(hx:Ints t xs)(hl:xs.length≤60)(hr:∀ x∈xs,0≤x∧x<(l.len:Int)):∀ (m i:Nat),i+m=xs.length→∀ M,2*m<M→
  Xao.B2 h M t.len l now (t.len:Int) (i:Int) (fun a b=>t.el a b)=ri (bif (xs.drop i).any (Xkc (Xaa l) now) then 3 else 0)
 | 0,i,hi,M,hM=>by
  obtain ⟨M,rfl⟩:∃ M',M=M'+1:=⟨M-1,by omega⟩
  have h1:=hx.1
  rw[Xao.B2_eq,List.drop_of_length_le (by omega)]
  exact Xag (decide_eq_false (by omega)) rfl
 | m+1,i,hi,M,hM=>by
  obtain ⟨M,rfl⟩:∃ M',M=M'+1+1:=⟨M-2,by omega⟩
  have h1:=hx.1
  have hlt:i<xs.length:=by omega
  have hb:=hr xs[i] (List.getElem_mem hlt)
  have ih:=refNeedsB2 (h:=h) (now:=now) hx hl hr m (i+1) (by omega) M (by omega)
  rw[Xao.B2_eq,Int.toNat_natCast,Nat.zero_add,hx.el0 hlt,List.drop_eq_getElem_cons hlt]
  simp only[List.any_cons]
  refine if_of (decide_eq_true (by omega)) (if_of (by simp;omega) (if_of (decide_eq_true (by omega)) (if_of (by simp;omega) ?_)))
  have e:Xkc (Xaa l) now xs[i]=(!(l.el xs[i].toNat 1).bool&& !now):=by unfold Xkc;rw[Xqg hb.1 hb.2]
  rw[e]
  have b3:Xao.B3 h (M+1) t.len l now (t.len:Int) (i:Int) (fun a b=>t.el a b)=ri (bif (xs.drop (i+1)).any (Xkc (Xaa l) now) then 3 else 0):=by
   rw[Xao.B3_eq,Xbh (a:=(i:Int)+1) (by omega) (by omega)]
   exact ih
  cases c:(l.el xs[i].toNat 1).bool with
  | true=>exact Xag rfl b3
  | false=>
   cases now with
   | false=>exact if_of rfl (if_of rfl rfl)
   | true=>exact if_of rfl (Xag rfl b3)
theorem refNeedsB0 {h:H}{l t k:T}{op m0:Int}{now env sys:Bool}{xs ys:List Int}(hx:Ints t xs)(hl:xs.length≤60)(hr:∀ x∈xs,0≤x∧x<(l.len:Int))
  (hy:∃ t',Xfy h op m0 k false=some (lookR [(0,t')])∧Ints t' ys) (hl2:ys.length≤60) (hr2:∀ x∈ys,0≤x∧x<(l.len:Int)):∀ (m i:Nat),i+m=xs.length→∀ M,2*m+200<M→
  Xao.B0 h M t.len l now env sys (t.len:Int) (i:Int) op m0 k (fun a b=>t.el a b)=ri (bif (xs.drop i).any (Xip (Xaa l) env sys) then 5 else bif ys.any (Xkc (Xaa l) now) then 3 else 0)
 | 0,i,hi,M,hM=>by
  obtain ⟨M,rfl⟩:∃ M',M=M'+1:=⟨M-1,by omega⟩
  have h1:=hx.1
  obtain ⟨t',e1,e2⟩:=hy
  have:=refNeedsB2 (h:=h) (now:=now) e2 hl2 hr2 ys.length 0 (by omega) M (by omega)
  rw[Xao.B0_eq,List.drop_of_length_le (by omega)]
  rw[List.drop_zero] at this
  exact Xag (decide_eq_false (by omega)) (Xaj e1 this)
 | m+1,i,hi,M,hM=>by
  obtain ⟨M,rfl⟩:∃ M',M=M'+1+1:=⟨M-2,by omega⟩
  have h1:=hx.1
  have hlt:i<xs.length:=by omega
  have hb:=hr xs[i] (List.getElem_mem hlt)
  have ih:=refNeedsB0 (h:=h) (now:=now) (env:=env) (sys:=sys) hx hl hr hy hl2 hr2 m (i+1) (by omega) M (by omega)
  rw[Xao.B0_eq,Int.toNat_natCast,Nat.zero_add,hx.el0 hlt,List.drop_eq_getElem_cons hlt]
  simp only[List.any_cons]
  have hg:(decide (0≤xs[i])&&decide (xs[i]<(l.len:Int)))=true:=by simp;omega
  refine if_of (decide_eq_true (by omega)) (if_of (by simp;omega) (if_of (decide_eq_true (by omega)) (if_of hg ?_)))
  have e:Xip (Xaa l) env sys xs[i]=(if (l.el xs[i].toNat 1).bool then !env else !sys):=by unfold Xip;rw[Xqg hb.1 hb.2]
  rw[e]
  have b1:Xao.B1 h (M+1) t.len l now env sys (t.len:Int) (i:Int) op m0 k (fun a b=>t.el a b)=ri (bif (xs.drop (i+1)).any (Xip (Xaa l) env sys) then 5 else bif ys.any (Xkc (Xaa l) now) then 3 else 0):=by
   rw[Xao.B1_eq,Xbh (a:=(i:Int)+1) (by omega) (by omega)]
   exact ih
  cases c:(l.el xs[i].toNat 1).bool with
  | true=>
   refine if_of rfl ?_
   cases env with
   | false=>exact if_of rfl rfl
   | true=>exact Xag rfl (if_of hg (Xag rfl b1))
  | false=>
   refine Xag rfl (if_of hg (if_of rfl ?_))
   cases sys with
   | false=>exact if_of rfl rfl
   | true=>exact Xag rfl b1
theorem Xie (l:T)(hl:l.len≤9223372036854775807)(k:T)(hk:KW k):Ev fun N=>∀ op m want now env sys,Xbu (K N) l op m k want now env sys=ri (Xcb (Xaa l) (.mk op m (Xab k)) want now env sys):=by
 refine Ev.step (Ev.imp3 (Xqb l hl k hk) (refReads_sp k hk) (Ev.ge 400) fun N h1 h2 hN op m want now env sys=> ?_)
 rw[Xrl]
 refine Xaj (h1 op m) ?_
 unfold Xcb
 by_cases c1:(sortE (Xaa l) (.mk op m (Xab k))).2=0
 ·rw[if_neg (by simpa using c1)]
  refine Xag (by simpa [Xno,int_i] using c1) ?_
  by_cases c2:(sortE (Xaa l) (.mk op m (Xab k))).1=want
  ·rw[if_neg (by simpa using c2)]
   refine Xag (by simpa [Xar,int_i] using c2) ?_
   obtain ⟨t4,r4,i4⟩:=h2 op m true
   have b4:=Xpv c1 (t:=4) (.inr rfl)
   have b3:=Xpv c1 (t:=3) (.inl rfl)
   rw[Xcc] at b4 b3
   have l4:=Xmj 4 (.mk op m (Xab k))
   have:=refNeedsB0 (h:=K N) (now:=now) (env:=env) (sys:=sys) i4 (Xmj ..) b4 (h2 op m false) (Xmj ..) b3 (Xgl 4 (.mk op m (Xab k))).length 0 (by show 0+_=_;rw[Nat.zero_add];rfl) N (by omega)
   exact Xaj r4 this
  ·rw[if_pos c2]
   exact if_of (by simpa [Xar,int_i] using c2) rfl
 ·rw[if_pos c1]
  exact if_of (by simpa [Xno,int_i] using c1) rfl
end Go.Proofs.YtpjedhbfkfobcaaGreatDoor
set_option linter.unusedVariables false
set_option linter.unusedSimpArgs false
namespace Go.AM
theorem any_false {l:List Int}{p:Int→Bool}(h:l.any p≠true):∀ x∈l,p x=false:=by
 intro x hx
 cases c:p x with
 | false=>rfl
 | true=>exact absurd (List.any_eq_true.2 ⟨x,hx,c⟩) h
theorem Xhe {l:List Va}{e:Ex}{want:Int}{now env sys:Bool}(h:Xcb l e want now env sys=0):(sortE l e).2=0∧(sortE l e).1=want∧(∀ x∈Xgl 4 e,Xip l env sys x=false)∧(∀ x∈Xgl 3 e,Xkc l now x=false):=by
 unfold Xcb at h
 by_cases c1:(sortE l e).2=0
 ·rw[if_neg (by simpa using c1)] at h
  by_cases c2:(sortE l e).1=want
  ·rw[if_neg (by simpa using c2)] at h
   cases c3:(Xgl 4 e).any (Xip l env sys) with
   | true=>rw[c3] at h;cases h
   | false=>
    cases c4:(Xgl 3 e).any (Xkc l now) with
    | true=>rw[c3,c4] at h;cases h
    | false=>exact ⟨c1,c2,any_false (by rw[c3];simp),any_false (by rw[c4];simp)⟩
  ·rw[if_pos c2] at h;cases h
 ·rw[if_pos c1] at h;exact absurd h c1
end Go.AM
namespace Go.Proofs.YtpjedhbfkfobcaaGreatDoor
open Go.AM
end Go.Proofs.YtpjedhbfkfobcaaGreatDoor
