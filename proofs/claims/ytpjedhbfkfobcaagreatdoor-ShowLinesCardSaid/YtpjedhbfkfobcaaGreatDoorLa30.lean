/- Modules: what may be one, and which are the same. -/
import Derived.Test.YtpjedhbfkfobcaaGreatDoorLa26
set_option linter.unusedVariables false
set_option linter.unusedSimpArgs false
namespace Go.AM
theorem Ev.up {p:Nat→Prop}(h:Ev p)(k:Nat):Ev fun n=>p (n+k):=by
 obtain ⟨N,hN⟩:=h
 exact ⟨N,fun n hn=>hN (n+k) (by omega)⟩
structure Se where
 var:Int
 any:Bool
 e:Ex
structure Cm where
 guard:Ex
 sets:List Se
structure Md where
 vars:List Va
 ie:Ex
 is:Ex
 env:List Cm
 sys:List Cm
 assume:List Ex
 ensure:List Ex
 prio:List Ex
def seAt (t:T)(i:Nat):Se:=⟨(t.el i 0).int,(t.el i 1).bool,Ex.mk (t.el i 2).int (t.el i 3).int (Xab (t.el i 4))⟩
def Xcr (t:T):List Se:=(List.range t.len).map (seAt t)
def cmAt (t:T)(i:Nat):Cm:=⟨Ex.mk (t.el i 0).int (t.el i 1).int (Xab (t.el i 2)),Xcr (t.el i 3)⟩
def Xbn (t:T):List Cm:=(List.range t.len).map (cmAt t)
theorem Xfe (t:T):(Xcr t).length=t.len:=by simp[Xcr]
theorem Xdk (t:T):(Xbn t).length=t.len:=by simp[Xbn]
theorem setsOf_get (t:T){i:Nat}(h:i<t.len):(Xcr t)[i]? =some (seAt t i):=by simp[Xcr,h]
theorem Xqj (t:T){i:Nat}(h:i<t.len):(Xbn t)[i]? =some (cmAt t i):=by simp[Xbn,h]
theorem Xiz (t:T){i:Nat}(h:i<t.len):(Xcr t).drop i=seAt t i::(Xcr t).drop (i+1):=by unfold Xcr;exact Xdy _ h
theorem Xeo (t:T){i:Nat}(h:i<t.len):(Xbn t).drop i=cmAt t i::(Xbn t).drop (i+1):=by unfold Xbn;exact Xdy _ h
def KS (t:T):Prop:=t.len≤9223372036854775807∧∀ i,i<t.len→KW (t.el i 4)
def KC (t:T):Prop:=t.len≤9223372036854775807∧∀ i,i<t.len→KW (t.el i 2)∧KS (t.el i 3)
def bareE:Ex→Bool
 | .mk o n ks=>decide (o=0)&&decide (n=0)&&decide (ks.length=0)
def sortAt (l:List Va)(v:Int):Int:=((l[v.toNat]?).map Va.sort).getD 0
def setE (l:List Va)(env:Bool)(was:List Int)(s:Se):Int:=
 if s.var<0∨(l.length:Int)≤s.var∨envAt l s.var≠env∨s.var∈was then 3 else if s.any=true∧bareE s.e=false then 1 else if s.any=true then 0 else Xcb l s.e (sortAt l s.var) true (!env) false
def Xhw (l:List Va)(env:Bool):List Se→List Int→Int
 | [],_=>0
 | s::r,was=>if setE l env was s≠0 then setE l env was s else Xhw l env r (was++[s.var])
def Xdx (l:List Va)(env:Bool)(c:Cm):Int:=
 if mayV l≠0 then mayV l else if Xcb l c.guard 1 true (!env) false≠0 then Xcb l c.guard 1 true (!env) false else if 6<(c.sets.length:Int) then 7 else Xhw l env c.sets []
def Xdr {α:Type}(f:α→Int):List α→Int
 | []=>0
 | x::r=>if f x≠0 then f x else Xdr f r
theorem firstE_zero {α:Type}{f:α→Int}:∀ {l:List α},Xdr f l=0↔∀ x∈l,f x=0
 | []=>by simp[Xdr]
 | x::r=>by
  simp only[Xdr,List.forall_mem_cons]
  by_cases c:f x=0
  ·rw[if_neg (by simpa using c),firstE_zero (l:=r)]
   exact ⟨fun h=>⟨c,h⟩,fun h=>h.2⟩
  ·rw[if_pos c]
   exact ⟨fun h=>absurd h c,fun h=>absurd h.1 c⟩
def fullM (m:Md):Bool:=decide (12<max m.env.length m.sys.length)||decide (4<max m.assume.length m.ensure.length)||decide (6<m.prio.length)
def mayM (m:Md):Int:=
 if mayV m.vars≠0 then mayV m.vars else if Xcb m.vars m.ie 1 false false false≠0 then Xcb m.vars m.ie 1 false false false else
 if Xcb m.vars m.is 1 true false false≠0 then Xcb m.vars m.is 1 true false false else if fullM m=true then 7 else
 if Xdr (Xdx m.vars true) m.env≠0 then Xdr (Xdx m.vars true) m.env else if Xdr (Xdx m.vars false) m.sys≠0 then Xdr (Xdx m.vars false) m.sys else
 if 0<m.prio.length∧0<m.assume.length+m.ensure.length then 1 else Xdr (fun e=>Xcb m.vars e 1 true false false) (m.assume++m.ensure++m.prio)
def eqL {α:Type}(p:α→α→Bool):List α→List α→Bool
 | [],[]=>true
 | a::l,b::r=>p a b&&eqL p l r
 | _,_=>false
theorem eqL_len {α:Type}{p:α→α→Bool}:∀ {l r:List α},l.length≠r.length→eqL p l r=false
 | [],[],h=>absurd rfl h
 | [],_::_,_=>rfl
 | _::_,[],_=>rfl
 | a::l,b::r,h=>by simp only[eqL];rw[eqL_len (fun e=>h (by simp[e])),Bool.and_false]
def sameX (a b:Ex):Bool:=Xfi a&&Xfi b&&sameE a b
def sameS (a b:Se):Bool:=(decide (a.var=b.var)&&(a.any==b.any))&&((bareE a.e&&bareE b.e)||sameX a.e b.e)
def sameC (a b:Cm):Bool:=sameX a.guard b.guard&&eqL sameS a.sets b.sets
def sameV (a b:Va):Bool:=strEq a.name b.name&&((a.env==b.env)&&((a.sort==b.sort)&&((a.lo==b.lo)&&((a.hi==b.hi)&&true))))
def sameM (a b:Md):Bool:=eqL sameV a.vars b.vars&&(sameX a.ie b.ie&&(sameX a.is b.is&&(eqL sameC a.env b.env&&(eqL sameC a.sys b.sys&&(eqL sameX a.assume b.assume&&(eqL sameX a.ensure b.ensure&&eqL sameX a.prio b.prio))))))
end Go.AM
namespace Go.Proofs.YtpjedhbfkfobcaaGreatDoor
open Go.AM
theorem bare_sp (N:Nat)(o n:Int)(k:T):Xix (K (N+1)) o n k=rb (bareE (.mk o n (Xab k))):=by
 rw[C_module_bare_K]
 simp only[bareE,Xbd]
 by_cases c1:o=0
 ·refine if_of (by simpa using c1) ?_
  by_cases c2:n=0
  ·refine if_of (by simpa using c2) ?_
   have:(((k.len:Nat):Int)==0)=(decide (o=0)&&decide (n=0)&&decide (k.len=0)):=by rw[Bool.eq_iff_iff];simp[c1,c2]
   rw[this];rfl
  ·refine Xag (by simpa using c2) ?_
   rw[decide_eq_false c2,Bool.and_false,Bool.false_and];rfl
 ·refine Xag (by simpa using c1) ?_
  rw[decide_eq_false c1,Bool.false_and,Bool.false_and];rfl
theorem indexI_sp {h:H}{t:T}{xs:List Int}(hx:Ints t xs)(hl:xs.length≤9223372036854775807)(v:Int):∀ (m i:Nat),i+m=xs.length→∀ N,m<N→∃ x,Xck.B0 h N t v (t.len:Int) (i:Int)=ri x∧(x≥0↔v∈xs.drop i)
 | 0,i,hi,N,hN=>by
  obtain ⟨N,rfl⟩:∃ M,N=M+1:=⟨N-1,by omega⟩
  have h1:=hx.1
  rw[Xck.B0_eq,List.drop_of_length_le (by omega)]
  exact ⟨-1,Xag (decide_eq_false (by omega)) rfl,by simp⟩
 | m+1,i,hi,N,hN=>by
  obtain ⟨N,rfl⟩:∃ M,N=M+1:=⟨N-1,by omega⟩
  have h1:=hx.1
  have hlt:i<xs.length:=by omega
  obtain ⟨x,e1,e2⟩:=indexI_sp (h:=h) hx hl v m (i+1) (by omega) N (by omega)
  rw[Xck.B0_eq,Int.toNat_natCast,hx.el0 hlt,List.drop_eq_getElem_cons hlt,Xbh (a:=(i:Int)+1) (by omega) (by omega)]
  by_cases c:v=xs[i]
  ·exact ⟨i,if_of (decide_eq_true (by omega)) (if_of (by simp;omega) (if_of (by simpa using c) rfl)),fun _=>by rw[c];exact List.mem_cons_self ..,fun _=>by omega⟩
  ·refine ⟨x,if_of (decide_eq_true (by omega)) (if_of (by simp;omega) (Xag (by simpa using c) e1)),?_⟩
   rw[e2,List.mem_cons]
   exact ⟨.inr,fun h=>h.resolve_left c⟩
theorem containsI_sp:Ev fun N=>∀ t xs v,Ints t xs→xs.length≤100→Xeh (K N) t v=rb (decide (v∈xs)):=by
 refine Ev.step (Ev.step ((Ev.ge 200).imp fun N hN t xs v hx hl=> ?_))
 obtain ⟨x,e1,e2⟩:=indexI_sp (h:=K N) hx (by omega) v xs.length 0 (by omega) N (by omega)
 rw[Xnv]
 refine Xaj (r:=lookR [(0,.i x)]) (by rw[Xqo];exact e1) ?_
 have:decide (x≥0)=decide (v∈xs):=by rw[Bool.eq_iff_iff];simpa using e2
 rw[←this];rfl
theorem mayC1_sp {N:Nat}{l k:T}{o n want:Int}{env:Bool}(h:∀ op m want now env sys,Xgc (K N) l op m k want now env sys=ri (Xcb (Xaa l) (.mk op m (Xab k)) want now env sys)){c1 c2:Nat→T}(h1:c1 0=l)(h2:c2 0= .b env):Xfl (K (N+1)) o n k want c1 c2=ri (Xcb (Xaa l) (.mk o n (Xab k)) want true (!env) false):=by
 rw[Xoe,h1,h2]
 exact Xaj (h o n want true (!env) false) rfl
theorem mayC2_sp {N:Nat}{l k:T}(hl:l.len≤9223372036854775807)(h:∀ op m want now env sys,Xgc (K N) l op m k want now env sys=ri (Xcb (Xaa l) (.mk op m (Xab k)) want now env sys))(hc:∀ t xs v,Ints t xs→xs.length≤100→Xeh (K (N+1)) t v=rb (decide (v∈xs)))
  {p:Nat} {v:Int} {any env:Bool} {o n:Int} {g:Nat→Nat→T} {was:List Int} (hw:intsR p g=was) (hp:p≤6):
  ∃ p' g',Xhm (K (N+1+1)) p v any o n k l env g=some (lookR [(0,.i (setE (Xaa l) env was ⟨v,any,.mk o n (Xab k)⟩)),(1,l),(2,.b env),(3,.l p' g')])∧(setE (Xaa l) env was ⟨v,any,.mk o n (Xab k)⟩=0→p'=p+1∧intsR p' g'=was++[v]):=by
 rw[Xod]
 unfold setE
 simp only
 by_cases c1:v<0
 ·rw[if_pos (.inl c1)]
  exact ⟨p,g,if_of (decide_eq_true c1) rfl,fun h=>by cases h⟩
 by_cases c2:(l.len:Int)≤v
 ·rw[if_pos (.inr (.inl (by rw[Xcc];exact c2)))]
  exact ⟨p,g,Xag (decide_eq_false c1) (if_of (decide_eq_true c2) rfl),fun h=>by cases h⟩
 have hg:(decide (0≤v)&&decide (v<(l.len:Int)))=true:=by simp;omega
 have he:envAt (Xaa l) v=(l.el v.toNat 1).bool:=Xqg (by omega) (by omega)
 by_cases c3:(l.el v.toNat 1).bool=env
 ·have hplen:was.length=p:=by rw[←hw];exact Xkl p g
  have hcon:=hc (T.l p fun i j=>g (0+i) j) was v (by rw[shift0];exact Ints_intsR hw) (by omega)
  by_cases c4:v∈was
  ·rw[if_pos (.inr (.inr (.inr c4)))]
   rw[decide_eq_true c4] at hcon
   exact ⟨p,g,Xag (decide_eq_false c1) (Xag (decide_eq_false c2) (if_of hg (Xag (by rw[c3];simp) (Xaj hcon (if_of rfl rfl))))),fun h=>by cases h⟩
  ·rw[if_neg (by rw[Xcc,he];intro h;rcases h with h|h|h|h;exact c1 h;exact c2 h;exact h c3;exact c4 h)]
   rw[decide_eq_false c4] at hcon
   have tail:∀ e:Int,((any=true∧e=0)∨(any=false∧e=Xcb (Xaa l) (.mk o n (Xab k)) (sortAt (Xaa l) v) true (!env) false))→Xci.B0 (K (N+1)) (N+1) p v any o n k g l env=some (lookR [(0,.i e),(1,l),(2,.b env),(3,.l (p+1) (pushG p g v))]):=by
    intro e he2
    rw[Xci.B0_eq]
    refine if_of (decide_eq_true (by omega)) ?_
    rcases he2 with ⟨ha,he2⟩|⟨ha,he2⟩
    ·subst ha he2;exact if_of rfl rfl
    ·subst ha he2
     refine Xag rfl (if_of hg (Xaj (mayC1_sp (want:=(l.el v.toNat 2).int) (env:=env) h rfl rfl) ?_))
     have es:sortAt (Xaa l) v=(l.el v.toNat 2).int:=by unfold sortAt;rw[Xfd l (by omega)];rfl
     rw[es];rfl
   cases any with
   | true=>
    cases cb:bareE (.mk o n (Xab k)) with
    | false=>
     rw[if_pos ⟨rfl,rfl⟩]
     have hb:=bare_sp N o n k
     rw[cb] at hb
     exact ⟨p,g,Xag (decide_eq_false c1) (Xag (decide_eq_false c2) (if_of hg (Xag (by rw[c3];simp) (Xaj hcon (Xag rfl (if_of rfl (Xaj hb (if_of rfl rfl)))))))),fun h=>by cases h⟩
    | true=>
     rw[if_neg (by simp),if_pos rfl]
     have hb:=bare_sp N o n k
     rw[cb] at hb
     exact ⟨p+1,pushG p g v,Xag (decide_eq_false c1) (Xag (decide_eq_false c2) (if_of hg (Xag (by rw[c3];simp) (Xaj hcon (Xag rfl (if_of rfl (Xaj hb (Xag rfl (tail 0 (.inl ⟨rfl,rfl⟩)))))))))),fun _=>⟨rfl,by rw[Xnr,hw]⟩⟩
   | false=>
    rw[if_neg (by simp),if_neg (by simp)]
    exact ⟨p+1,pushG p g v,Xag (decide_eq_false c1) (Xag (decide_eq_false c2) (if_of hg (Xag (by rw[c3];simp) (Xaj hcon (Xag rfl (Xag rfl (tail _ (.inr ⟨rfl,rfl⟩)))))))),fun _=>⟨rfl,by rw[Xnr,hw]⟩⟩
 ·rw[if_pos (.inr (.inr (.inl (by rw[he];exact c3))))]
  refine ⟨p,g,Xag (decide_eq_false c1) (Xag (decide_eq_false c2) (if_of hg (if_of ?_ rfl))),fun h=>by cases h⟩
  cases env<;>simp_all
theorem firstSet_sp {N:Nat}{l t:T}(hl:l.len≤9223372036854775807)(ht:t.len≤6){env:Bool}(h:∀ i,i<t.len→∀ op m want now env sys,Xgc (K N) l op m (t.el i 4) want now env sys=ri (Xcb (Xaa l) (.mk op m (Xab (t.el i 4))) want now env sys))(hc:∀ t xs v,Ints t xs→xs.length≤100→Xeh (K (N+1)) t v=rb (decide (v∈xs))):
  ∀ (m i:Nat),i+m=t.len→∀ M p g was,m<M→p=i→intsR p g=was→∃ a b c,Xau.B0 (K (N+1+1)) M p t (t.len:Int) (i:Int) g l env=some (lookR [(0,.i (Xhw (Xaa l) env ((Xcr t).drop i) was)),(1,a),(2,b),(3,c)])
 | 0,i,hi,M,p,g,was,hM,hp,hw=>by
  obtain ⟨M,rfl⟩:∃ M',M=M'+1:=⟨M-1,by omega⟩
  rw[Xau.B0_eq,List.drop_of_length_le (by rw[Xfe];omega)]
  exact ⟨_,_,_,Xag (decide_eq_false (by omega)) rfl⟩
 | m+1,i,hi,M,p,g,was,hM,hp,hw=>by
  obtain ⟨M,rfl⟩:∃ M',M=M'+1:=⟨M-1,by omega⟩
  obtain ⟨p',g',e1,e2⟩:=mayC2_sp (any:=(t.el i 1).bool) (v:=(t.el i 0).int) (o:=(t.el i 2).int) (n:=(t.el i 3).int) (env:=env) hl (h i (by omega)) hc hw (by omega)
  have es:(⟨(t.el i 0).int,(t.el i 1).bool,.mk (t.el i 2).int (t.el i 3).int (Xab (t.el i 4))⟩:Se)=seAt t i:=rfl
  rw[es] at e1 e2
  rw[Xau.B0_eq,Int.toNat_natCast,Xiz t (by omega),Xbh (a:=(i:Int)+1) (by omega) (by omega)]
  simp only[Xhw]
  by_cases c:setE (Xaa l) env was (seAt t i)=0
  ·rw[if_neg (by simpa using c)]
   obtain ⟨f1,f2⟩:=e2 c
   obtain ⟨a,b,d,ih⟩:=firstSet_sp hl ht h hc m (i+1) (by omega) M p' g' _ (by omega) (by omega) f2
   exact ⟨a,b,d,if_of (decide_eq_true (by omega)) (if_of (by simp;omega) (Xaj e1 (Xag (by simp[Xar,int_i,c]) ih)))⟩
  ·rw[if_pos c]
   exact ⟨_,_,_,if_of (decide_eq_true (by omega)) (if_of (by simp;omega) (Xaj e1 (if_of (by simpa [Xar,int_i] using c) rfl)))⟩
theorem Xnt (l:T)(hl:l.len≤9223372036854775807)(k t:T)(hk:KW k)(ht:KS t):Ev fun N=>∀ o n env,Xfb (K N) l o n k t env=ri (Xdx (Xaa l) env ⟨.mk o n (Xab k),Xcr t⟩):=by
 refine Ev.step (Ev.step (Ev.step (Ev.step (Ev.imp4 ((MayV_sp l hl).up 3) ((Xtg l hl k hk).up 2) (Ev.all (k:=t.len) fun i hi=>Xtg l hl (t.el i 4) (ht.2 i hi)) (Ev.and (containsI_sp.up 1) (Ev.ge (t.len+10))) fun N h1 h2 h3 h4 o n env=> ?_))))
 obtain ⟨h4,hN⟩:=h4
 rw[Xpq]
 unfold Xdx
 refine Xaj h1 ?_
 by_cases c1:mayV (Xaa l)=0
 ·rw[if_neg (by simpa using c1)]
  refine Xag (by simp[Xar,int_i,c1]) (Xaj (mayC1_sp (want:=1) (env:=env) (o:=o) (n:=n) h2 rfl rfl) ?_)
  by_cases c2:Xcb (Xaa l) (.mk o n (Xab k)) 1 true (!env) false=0
  ·rw[if_neg (by simpa using c2)]
   refine Xag (by simp[Xar,int_i,c2]) ?_
   by_cases c3:6<t.len
   ·rw[if_pos (by rw[Xfe];omega)]
    exact if_of (decide_eq_true (by omega)) rfl
   ·rw[if_neg (by rw[Xfe];omega)]
    obtain ⟨a,b,c,e⟩:=firstSet_sp (env:=env) hl (by omega) h3 h4 t.len 0 (by omega) (N+1+1) 0 (fun _ _=> .b false) [] (by omega) rfl rfl
    have e2:Xcz (K (N+1+1+1)) 0 t l env (fun _ _=> .b false)=some (lookR [(0,.i (Xhw (Xaa l) env (Xcr t) [])),(1,a),(2,b),(3,c)]):=by
     rw[Xgj]
     exact e
    exact Xag (decide_eq_false (by omega)) (Xaj e2 rfl)
  ·rw[if_pos c2]
   exact if_of (by simpa [Xar,int_i] using c2) rfl
 ·rw[if_pos c1]
  exact if_of (by simpa [Xar,int_i] using c1) rfl
theorem Xsp {N:Nat}{l k:T}{o n:Int}{now:Bool}(h:∀ op m want now env sys,Xgc (K N) l op m k want now env sys=ri (Xcb (Xaa l) (.mk op m (Xab k)) want now env sys)){c1 c2:Nat→T}(h1:c1 0=l)(h2:c2 0= .b now):Xep (K (N+1)) o n k c1 c2=ri (Xcb (Xaa l) (.mk o n (Xab k)) 1 now false false):=by
 rw[Xtu,h1,h2]
 exact Xaj (h o n 1 now false false) rfl
theorem mayB2_sp {N:Nat}{l k t:T}{o n:Int}{env:Bool}(h:∀ o n env,Xfb (K N) l o n k t env=ri (Xdx (Xaa l) env ⟨.mk o n (Xab k),Xcr t⟩)){c1 c2:Nat→T}(h1:c1 0=l)(h2:c2 0= .b env):Xid (K (N+1)) o n k t c1 c2=ri (Xdx (Xaa l) env ⟨.mk o n (Xab k),Xcr t⟩):=by
 rw[Xtt,h1,h2]
 exact Xaj (h o n env) rfl
theorem firstX_sp {h:H}{t:T}{c1 c2:Nat→T}{f:Ex→Int}(hl:t.len≤9223372036854775807)(hf:∀ i,i<t.len→Xep h (t.el i 0).int (t.el i 1).int (t.el i 2) c1 c2=ri (f (exAt t i))):
  ∀ (m i:Nat),i+m=t.len→∀ M,m<M→Xbc.B0 h M c1 c2 t (t.len:Int) (i:Int)=ri (Xdr f ((Xab t).drop i))
 | 0,i,hi,M,hM=>by
  obtain ⟨M,rfl⟩:∃ M',M=M'+1:=⟨M-1,by omega⟩
  rw[Xbc.B0_eq,List.drop_of_length_le (by rw[Xbd];omega)]
  exact Xag (decide_eq_false (by omega)) rfl
 | m+1,i,hi,M,hM=>by
  obtain ⟨M,rfl⟩:∃ M',M=M'+1:=⟨M-1,by omega⟩
  have ih:=firstX_sp hl hf m (i+1) (by omega) M (by omega)
  have e:=hf i (by omega)
  rw[Xbc.B0_eq,Int.toNat_natCast,Xca t i (by omega),Xbh (a:=(i:Int)+1) (by omega) (by omega)]
  simp only[Xdr]
  refine if_of (decide_eq_true (by omega)) (if_of (by simp;omega) (Xaj e ?_))
  by_cases c:f (exAt t i)=0
  ·rw[if_neg (by simpa using c)]
   exact Xag (by simp[Xar,int_i,c]) ih
  ·rw[if_pos c]
   exact if_of (by simpa [Xar,int_i] using c) rfl
theorem firstC_sp {h:H}{t:T}{c1 c2:Nat→T}{f:Cm→Int}(hl:t.len≤9223372036854775807)(hf:∀ i,i<t.len→Xid h (t.el i 0).int (t.el i 1).int (t.el i 2) (t.el i 3) c1 c2=ri (f (cmAt t i))):
  ∀ (m i:Nat),i+m=t.len→∀ M,m<M→Xaw.B0 h M c1 c2 t (t.len:Int) (i:Int)=ri (Xdr f ((Xbn t).drop i))
 | 0,i,hi,M,hM=>by
  obtain ⟨M,rfl⟩:∃ M',M=M'+1:=⟨M-1,by omega⟩
  rw[Xaw.B0_eq,List.drop_of_length_le (by rw[Xdk];omega)]
  exact Xag (decide_eq_false (by omega)) rfl
 | m+1,i,hi,M,hM=>by
  obtain ⟨M,rfl⟩:∃ M',M=M'+1:=⟨M-1,by omega⟩
  have ih:=firstC_sp hl hf m (i+1) (by omega) M (by omega)
  have e:=hf i (by omega)
  rw[Xaw.B0_eq,Int.toNat_natCast,Xeo t (by omega),Xbh (a:=(i:Int)+1) (by omega) (by omega)]
  simp only[Xdr]
  refine if_of (decide_eq_true (by omega)) (if_of (by simp;omega) (Xaj e ?_))
  by_cases c:f (cmAt t i)=0
  ·rw[if_neg (by simpa using c)]
   exact Xag (by simp[Xar,int_i,c]) ih
  ·rw[if_pos c]
   exact if_of (by simpa [Xar,int_i] using c) rfl
theorem exsR_app (n:Nat)(g:Nat→Nat→T)(x:T):exsR (n+x.len) (fun i j=>(bif Nat.blt i n then g i j else x.el (i-n) j))=exsR n g++Xab x:=by
 unfold exsR
 rw[List.range_add,List.map_append,Xmo]
 congr 1
 ·refine List.map_congr_left fun i hi=> ?_
  have hi:=List.mem_range.1 hi
  simp only[show Nat.blt i n=true from by rw[Nat.blt_eq];exact hi,cond_true]
 ·rw[List.map_map]
  refine List.map_congr_left fun i hi=> ?_
  have hb:Nat.blt (n+i) n=false:=by
   cases hc:Nat.blt (n+i) n with
   | false=>rfl
   | true=>rw[Nat.blt_eq] at hc;omega
  simp only[Function.comp,hb,cond_false,Nat.add_sub_cancel_left]
  rfl
theorem concat_sp {a b c:T}(ha:KW a)(hb:KW b)(hc:KW c)(la:a.len≤4)(lb:b.len≤4)(lc:c.len≤6):∃ t,(Ev fun N=>Xht (K N) (T.l 3 (fun i j=>(([[a],[b],[c]]:List (List T)).getD (0+i) []).getD j (.b false)))=some (lookR [(0,t)]))∧Xab t=Xab a++Xab b++Xab c∧KW t:=by
 have hw:∀ x:Nat,x≤100→IntKind.wrap .i64 (x:Int)=(x:Int):=fun x hx=>Xbh (by omega) (by omega)
 have grow:∃ g:Nat→Nat→T,Ev fun N=>Xit (K N) ((a.len+b.len+c.len:Nat):Int)=some (lookR [(0,T.l 0 g)]):=by
  by_cases h0:a.len+b.len+c.len=0
  ·refine ⟨fun _ _=> .b false,Ev.step ((Ev.ge 3).imp fun N hN=> ?_)⟩
   obtain ⟨N,rfl⟩:∃ M,N=M+1:=⟨N-1,by omega⟩
   rw[Xkd,h0,Xby.B1_eq]
   exact Xag (by decide) (Xag (by decide) rfl)
  ·refine ⟨fun _ j=>([T.i 0,T.i 0,noT]:List T).getD j (.b false),Ev.step ((Ev.ge 3).imp fun N hN=> ?_)⟩
   obtain ⟨N,rfl⟩:∃ M,N=M+1:=⟨N-1,by omega⟩
   have e0:IntKind.wrap .i64 (((a.len+b.len+c.len:Nat):Int)-0)=((a.len+b.len+c.len:Nat):Int):=Xbh (by omega) (by omega)
   rw[Xkd,e0,Xby.B0_eq]
   exact Xag (decide_eq_false (by omega)) (if_of (decide_eq_true (by omega)) (if_of (by simp;omega) (if_of (decide_eq_true (by omega)) rfl)))
 obtain ⟨g0,hg0⟩:=grow
 refine ⟨T.l (0+a.len+b.len+c.len) (fun i j=>(bif Nat.blt i (0+a.len+b.len) then (fun i j=>(bif Nat.blt i (0+a.len) then (fun i j=>(bif Nat.blt i 0 then g0 i j else a.el (i-0) j)) i j else b.el (i-(0+a.len)) j)) i j else c.el (i-(0+a.len+b.len)) j)),Ev.step ((hg0.and (Ev.ge 20)).imp fun N h=> ?_),?_,?_⟩
 ·obtain ⟨hg0,hN⟩:=h
  obtain ⟨N,rfl⟩:∃ M,N=M+15:=⟨N-15,by omega⟩
  rw[Xon]
  generalize hX:(T.l 3 (fun i j=>(([[a],[b],[c]]:List (List T)).getD (0+i) []).getD j (.b false)))=X
  have X0:X.el 0 0=a:=by rw[←hX];rfl
  have X1:X.el 1 0=b:=by rw[←hX];rfl
  have X2:X.el 2 0=c:=by rw[←hX];rfl
  have XL:X.len=3:=by rw[←hX];rfl
  have t0:Int.toNat 0=0:=rfl
  have t1:Int.toNat 1=1:=rfl
  have t2:Int.toNat 2=2:=rfl
  have w1:IntKind.wrap .i64 ((0:Int)+1)=1:=by decide
  have w2:IntKind.wrap .i64 ((1:Int)+1)=2:=by decide
  have w3:IntKind.wrap .i64 ((2:Int)+1)=3:=by decide
  rw[XL,Xbe.B0_eq,t0,X0,XL,Xbh (a:=0+(a.len:Int)) (by omega) (by omega),w1]
  refine if_of (by decide) (if_of (by decide) (Xag (decide_eq_false (by omega)) ?_))
  rw[Xbe.B0_eq,t1,X1,XL,Xbh (a:=0+(a.len:Int)+(b.len:Int)) (by omega) (by omega),w2]
  refine if_of (by decide) (if_of (by decide) (Xag (decide_eq_false (by omega)) ?_))
  rw[Xbe.B0_eq,t2,X2,XL,Xbh (a:=0+(a.len:Int)+(b.len:Int)+(c.len:Int)) (by omega) (by omega),w3]
  refine if_of (by decide) (if_of (by decide) (Xag (decide_eq_false (by omega)) ?_))
  rw[Xbe.B0_eq]
  refine Xag (by decide) ?_
  rw[show (0:Int)+(a.len:Int)+(b.len:Int)+(c.len:Int)=((a.len+b.len+c.len:Nat):Int) by omega]
  refine Xaj hg0 ?_
  show Xbe.B1 (K (N+15)) (N+11) 0 X (X.len:Int) 0 g0=_
  rw[XL,Xbe.B1_eq,t0,X0,XL,w1]
  refine if_of (by decide) (if_of (by decide) (if_of (decide_eq_true (by omega)) ?_))
  rw[Xbe.B1_eq,t1,X1,XL,w2]
  refine if_of (by decide) (if_of (by decide) (if_of (decide_eq_true (by omega)) ?_))
  rw[Xbe.B1_eq,t2,X2,XL,w3]
  refine if_of (by decide) (if_of (by decide) (if_of (decide_eq_true (by omega)) ?_))
  rw[Xbe.B1_eq]
  exact Xag (by decide) rfl
 ·rw[kidsOf_l,exsR_app,exsR_app,exsR_app]
  rfl
 ·refine KW_l (by omega) fun i hi=> ?_
  by_cases c1:i<0+a.len+b.len
  ·simp only[show Nat.blt i (0+a.len+b.len)=true from by rw[Nat.blt_eq];exact c1,cond_true]
   by_cases c2:i<0+a.len
   ·simp only[show Nat.blt i (0+a.len)=true from by rw[Nat.blt_eq];exact c2,cond_true]
    have:Nat.blt i 0=false:=by cases i<;>rfl
    simp only[this,cond_false]
    exact ha.el (by omega)
   ·have:Nat.blt i (0+a.len)=false:=by
     cases hc:Nat.blt i (0+a.len) with
     | false=>rfl
     | true=>rw[Nat.blt_eq] at hc;omega
    simp only[this,cond_false]
    exact hb.el (by omega)
  ·have:Nat.blt i (0+a.len+b.len)=false:=by
    cases hc:Nat.blt i (0+a.len+b.len) with
    | false=>rfl
    | true=>rw[Nat.blt_eq] at hc;omega
   simp only[this,cond_false]
   exact hc.el (by omega)
end Go.Proofs.YtpjedhbfkfobcaaGreatDoor
set_option linter.unusedVariables false
set_option linter.unusedSimpArgs false
namespace Go.Proofs.YtpjedhbfkfobcaaGreatDoor
open Go.AM
theorem full_sp (N:Nat)(l:T)(o1 n1:Int)(k1:T)(o2 n2:Int)(k2 te ts ta tn tp:T)(m:Md)(he:m.env.length=te.len)(hs:m.sys.length=ts.len)(ha:m.assume.length=ta.len)(hn:m.ensure.length=tn.len)(hp:m.prio.length=tp.len):Xob (K (N+1)) l o1 n1 k1 o2 n2 k2 te ts ta tn tp=rb (fullM m):=by
 rw[C_module_full_K]
 unfold fullM
 rw[he,hs,ha,hn,hp]
 have e1:(if (te.len:Int)<(ts.len:Int) then (ts.len:Int) else (te.len:Int))=((max te.len ts.len:Nat):Int):=by split<;>omega
 have e2:(if (ta.len:Int)<(tn.len:Int) then (tn.len:Int) else (ta.len:Int))=((max ta.len tn.len:Nat):Int):=by split<;>omega
 rw[e1,e2]
 by_cases c1:12<max te.len ts.len
 ·rw[decide_eq_true c1,Bool.true_or,Bool.true_or]
  exact if_of (decide_eq_true (by omega)) rfl
 ·rw[decide_eq_false c1,Bool.false_or]
  refine Xag (decide_eq_false (by omega)) ?_
  by_cases c2:4<max ta.len tn.len
  ·rw[decide_eq_true c2,Bool.true_or]
   exact if_of (decide_eq_true (by omega)) rfl
  ·rw[decide_eq_false c2,Bool.false_or]
   refine Xag (decide_eq_false (by omega)) ?_
   have:decide ((tp.len:Int)>6)=decide (6<tp.len):=by rw[Bool.eq_iff_iff,decide_eq_true_eq,decide_eq_true_eq];omega
   rw[this];rfl
theorem MayM_sp (l:T)(hl:l.len≤9223372036854775807)(k1 k2 te ts ta tn tp:T)(h1:KW k1)(h2:KW k2)(he:KC te)(hs:KC ts)(ha:KW ta)(hn:KW tn)(hp:KW tp):
  Ev fun N=>∀ o1 n1 o2 n2,Xjt (K N) l o1 n1 k1 o2 n2 k2 te ts ta tn tp=ri (mayM ⟨Xaa l,.mk o1 n1 (Xab k1),.mk o2 n2 (Xab k2),Xbn te,Xbn ts,Xab ta,Xab tn,Xab tp⟩):=by
 have base:=Ev.imp4 ((MayV_sp l hl).up 2) (Ev.and ((Xtg l hl k1 h1).up 1) ((Xtg l hl k2 h2).up 1)) (Ev.and (Ev.all (k:=te.len) fun i hi=>Xnt l hl _ _ (he.2 i hi).1 (he.2 i hi).2) (Ev.all (k:=ts.len) fun i hi=>Xnt l hl _ _ (hs.2 i hi).1 (hs.2 i hi).2)) (Ev.ge (te.len+ts.len+20)) fun N a b c d=>(⟨a,b,c,d⟩:_∧_∧_∧_)
 by_cases small:ta.len≤4∧tn.len≤4∧tp.len≤6
 ·obtain ⟨t,ct,kt,wt⟩:=concat_sp ha hn hp small.1 small.2.1 small.2.2
  have ltt:t.len=ta.len+tn.len+tp.len:=by
   have:=congrArg List.length kt
   simpa only[Xbd,List.length_append] using this
  refine Ev.step (Ev.step (Ev.step (Ev.imp3 base (ct.up 2) (Ev.and (Ev.all (k:=t.len) fun i hi=>Xtg l hl (t.el i 2) (wt.el hi)) (Ev.ge (t.len+20))) fun N hb hct h3 o1 n1 o2 n2=> ?_)))
  obtain ⟨hv,⟨hN1,hN2⟩,⟨hce,hcs⟩,hN⟩:=hb
  obtain ⟨hNt,hN'⟩:=h3
  rw[Xqv]
  unfold mayM
  simp only
  refine Xaj hv ?_
  by_cases c1:mayV (Xaa l)=0
  rotate_left
  ·rw[if_pos c1];exact if_of (by simpa [Xar,int_i] using c1) rfl
  rw[if_neg (by simpa using c1)]
  refine Xag (by simp[Xar,int_i,c1]) (Xaj (Xgr (N+1) false _) (Xaj (Xsp (N:=N+1) (now:=false) (o:=o1) (n:=n1) hN1 rfl rfl) ?_))
  by_cases c2:Xcb (Xaa l) (.mk o1 n1 (Xab k1)) 1 false false false=0
  rotate_left
  ·rw[if_pos c2];exact if_of (by simpa [Xar,int_i] using c2) rfl
  rw[if_neg (by simpa using c2)]
  refine Xag (by simp[Xar,int_i,c2]) (Xaj (Xgr (N+1) true _) (Xaj (Xsp (N:=N+1) (now:=true) (o:=o2) (n:=n2) hN2 rfl rfl) ?_))
  by_cases c3:Xcb (Xaa l) (.mk o2 n2 (Xab k2)) 1 true false false=0
  rotate_left
  ·rw[if_pos c3];exact if_of (by simpa [Xar,int_i] using c3) rfl
  rw[if_neg (by simpa using c3)]
  refine Xag (by simp[Xar,int_i,c3]) (Xaj (full_sp (N+1) l o1 n1 k1 o2 n2 k2 te ts ta tn tp ⟨Xaa l,.mk o1 n1 (Xab k1),.mk o2 n2 (Xab k2),Xbn te,Xbn ts,Xab ta,Xab tn,Xab tp⟩ (Xdk _) (Xdk _) (Xbd _) (Xbd _) (Xbd _)) ?_)
  by_cases c4:fullM ⟨Xaa l,.mk o1 n1 (Xab k1),.mk o2 n2 (Xab k2),Xbn te,Xbn ts,Xab ta,Xab tn,Xab tp⟩=true
  ·rw[if_pos c4];exact if_of c4 rfl
  rw[if_neg c4]
  have fe:∀ c1 c2:Nat→T,c1 0=l→c2 0= .b true→Xbx (K (N+1+1)) te c1 c2=ri (Xdr (Xdx (Xaa l) true) (Xbn te)):=by
   intro c1 c2 q1 q2
   rw[Xea]
   have:=firstC_sp (h:=K (N+1)) (t:=te) (c1:=c1) (c2:=c2) (f:=Xdx (Xaa l) true) he.1 (fun i hi=>mayB2_sp (hce i hi) q1 q2) te.len 0 (by omega) (N+1) (by omega)
   simpa using this
  have fs:∀ c1 c2:Nat→T,c1 0=l→c2 0= .b false→Xbx (K (N+1+1)) ts c1 c2=ri (Xdr (Xdx (Xaa l) false) (Xbn ts)):=by
   intro c1 c2 q1 q2
   rw[Xea]
   have:=firstC_sp (h:=K (N+1)) (t:=ts) (c1:=c1) (c2:=c2) (f:=Xdx (Xaa l) false) hs.1 (fun i hi=>mayB2_sp (hcs i hi) q1 q2) ts.len 0 (by omega) (N+1) (by omega)
   simpa using this
  refine Xag (by rw[Xar,Xmw];simpa using c4) (Xaj (Xom (N+1) true _) (Xaj (fe _ _ rfl rfl) ?_))
  by_cases c5:Xdr (Xdx (Xaa l) true) (Xbn te)=0
  rotate_left
  ·rw[if_pos c5];exact if_of (by simpa [Xar,int_i] using c5) rfl
  rw[if_neg (by simpa using c5)]
  refine Xag (by simp[Xar,int_i,c5]) (Xaj (Xom (N+1) false _) (Xaj (fs _ _ rfl rfl) ?_))
  by_cases c6:Xdr (Xdx (Xaa l) false) (Xbn ts)=0
  rotate_left
  ·rw[if_pos c6];exact if_of (by simpa [Xar,int_i] using c6) rfl
  rw[if_neg (by simpa using c6)]
  refine Xag (by simp[Xar,int_i,c6]) ?_
  have last:Xgs.B0 (K (N+1+1)) (N+1+1) (fun j=>([l,T.i o1,T.i n1,k1,T.i o2,T.i n2,k2,te,ts,ta,tn,tp]:List T).getD j (.b false)) (fun j=>([l,T.i o1,T.i n1,k1,T.i o2,T.i n2,k2,te,ts,ta,tn,tp]:List T).getD j (.b false))=ri (Xdr (fun e=>Xcb (Xaa l) e 1 true false false) (Xab ta++Xab tn++Xab tp)):=by
   have ff:∀ c1 c2:Nat→T,c1 0=l→c2 0= .b true→Xdl (K (N+1+1)) (T.l t.len fun i j=>t.el (0+i) j) c1 c2=ri (Xdr (fun e=>Xcb (Xaa l) e 1 true false false) (Xab ta++Xab tn++Xab tp)):=by
    intro c1 c2 q1 q2
    rw[Xhk]
    have hk:Xab (T.l t.len fun i j=>t.el (0+i) j)=Xab t:=by rw[Xmo,Xmo t];refine List.map_congr_left fun i _=> ?_;show Ex.mk (t.el (0+i) 0).int (t.el (0+i) 1).int (Xab (t.el (0+i) 2))=_;rw[Nat.zero_add];rfl
    have:=firstX_sp (h:=K (N+1)) (t:=T.l t.len fun i j=>t.el (0+i) j) (c1:=c1) (c2:=c2) (f:=fun e=>Xcb (Xaa l) e 1 true false false) (by show t.len≤_;omega) (fun i hi=>by
     show Xep (K (N+1)) (t.el (0+i) 0).int (t.el (0+i) 1).int (t.el (0+i) 2) _ _=ri (Xcb (Xaa l) (.mk (t.el (0+i) 0).int (t.el (0+i) 1).int (Xab (t.el (0+i) 2))) 1 true false false)
     rw[Nat.zero_add]
     exact Xsp (hNt i hi) q1 q2) t.len 0 (by show 0+t.len=t.len;omega) (N+1) (by omega)
    rw[hk,kt,List.drop_zero] at this
    exact this
   rw[Xgs.B0_eq]
   exact Xaj hct (Xaj (Xgr (N+1) true _) (Xaj (ff _ _ rfl rfl) rfl))
  by_cases c7:0<tp.len
  ·by_cases c8:0<ta.len+tn.len
   ·rw[if_pos ⟨by rw[Xbd];exact c7,by rw[Xbd,Xbd];exact c8⟩]
    refine if_of (decide_eq_true (by show (tp.len:Int)>0;omega)) (if_of (decide_eq_true ?_) rfl)
    show IntKind.wrap .i64 ((ta.len:Int)+(tn.len:Int))>0
    rw[Xbh (by omega) (by omega)];omega
   ·rw[if_neg (by rw[Xbd,Xbd,Xbd];omega)]
    refine if_of (decide_eq_true (by show (tp.len:Int)>0;omega)) (Xag (decide_eq_false ?_) last)
    show ¬IntKind.wrap .i64 ((ta.len:Int)+(tn.len:Int))>0
    rw[Xbh (by omega) (by omega)];omega
  ·rw[if_neg (by rw[Xbd,Xbd,Xbd];omega)]
   exact Xag (decide_eq_false (by show ¬(tp.len:Int)>0;omega)) last
 ·refine Ev.step (Ev.step (Ev.step (base.imp fun N hb o1 n1 o2 n2=> ?_)))
  obtain ⟨hv,⟨hN1,hN2⟩,⟨hce,hcs⟩,hN⟩:=hb
  have hf:fullM ⟨Xaa l,.mk o1 n1 (Xab k1),.mk o2 n2 (Xab k2),Xbn te,Xbn ts,Xab ta,Xab tn,Xab tp⟩=true:=by
   unfold fullM
   simp only[Xdk,Xbd,Bool.or_eq_true,decide_eq_true_eq]
   omega
  rw[Xqv]
  unfold mayM
  simp only
  refine Xaj hv ?_
  by_cases c1:mayV (Xaa l)=0
  rotate_left
  ·rw[if_pos c1];exact if_of (by simpa [Xar,int_i] using c1) rfl
  rw[if_neg (by simpa using c1)]
  refine Xag (by simp[Xar,int_i,c1]) (Xaj (Xgr (N+1) false _) (Xaj (Xsp (N:=N+1) (now:=false) (o:=o1) (n:=n1) hN1 rfl rfl) ?_))
  by_cases c2:Xcb (Xaa l) (.mk o1 n1 (Xab k1)) 1 false false false=0
  rotate_left
  ·rw[if_pos c2];exact if_of (by simpa [Xar,int_i] using c2) rfl
  rw[if_neg (by simpa using c2)]
  refine Xag (by simp[Xar,int_i,c2]) (Xaj (Xgr (N+1) true _) (Xaj (Xsp (N:=N+1) (now:=true) (o:=o2) (n:=n2) hN2 rfl rfl) ?_))
  by_cases c3:Xcb (Xaa l) (.mk o2 n2 (Xab k2)) 1 true false false=0
  rotate_left
  ·rw[if_pos c3];exact if_of (by simpa [Xar,int_i] using c3) rfl
  rw[if_neg (by simpa using c3)]
  have hfs:=full_sp (N+1) l o1 n1 k1 o2 n2 k2 te ts ta tn tp ⟨Xaa l,.mk o1 n1 (Xab k1),.mk o2 n2 (Xab k2),Xbn te,Xbn ts,Xab ta,Xab tn,Xab tp⟩ (Xdk _) (Xdk _) (Xbd _) (Xbd _) (Xbd _)
  rw[hf] at hfs ⊢
  rw[if_pos rfl]
  exact Xag (by simp[Xar,int_i,c3]) (Xaj hfs (if_of rfl rfl))
theorem eqSets_sp {h:H}{s t:T}(hl:s.len≤9223372036854775807)(hst:s.len=t.len)(hc:∀ i,i<s.len→Xic h (s.el i 0).int (s.el i 1).bool (s.el i 2).int (s.el i 3).int (s.el i 4) (t.el i 0).int (t.el i 1).bool (t.el i 2).int (t.el i 3).int (t.el i 4)=rb (sameS (seAt s i) (seAt t i))):
  ∀ (m i:Nat),i+m=s.len→∀ M,m<M→Xav.B0 h M t s (s.len:Int) (i:Int)=rb (eqL sameS ((Xcr s).drop i) ((Xcr t).drop i))
 | 0,i,hi,M,hM=>by
  obtain ⟨M,rfl⟩:∃ M',M=M'+1:=⟨M-1,by omega⟩
  rw[Xav.B0_eq,List.drop_of_length_le (by rw[Xfe];omega),List.drop_of_length_le (by rw[Xfe];omega)]
  exact Xag (decide_eq_false (by omega)) rfl
 | m+1,i,hi,M,hM=>by
  obtain ⟨M,rfl⟩:∃ M',M=M'+1:=⟨M-1,by omega⟩
  have ih:=eqSets_sp hl hst hc m (i+1) (by omega) M (by omega)
  have e:=hc i (by omega)
  rw[Xav.B0_eq,Int.toNat_natCast,Xiz s (by omega),Xiz t (by omega),Xbh (a:=(i:Int)+1) (by omega) (by omega)]
  simp only[eqL]
  refine if_of (decide_eq_true (by omega)) (if_of (by simp;omega) (if_of (by simp;omega) (Xaj e ?_)))
  cases c:sameS (seAt s i) (seAt t i) with
  | true=>exact Xag rfl ih
  | false=>exact if_of rfl rfl
theorem eqCmds_sp {h:H}{s t:T}(hl:s.len≤9223372036854775807)(hst:s.len=t.len)(hc:∀ i,i<s.len→Xfr h (s.el i 0).int (s.el i 1).int (s.el i 2) (s.el i 3) (t.el i 0).int (t.el i 1).int (t.el i 2) (t.el i 3)=rb (sameC (cmAt s i) (cmAt t i))):
  ∀ (m i:Nat),i+m=s.len→∀ M,m<M→Xaq.B0 h M t s (s.len:Int) (i:Int)=rb (eqL sameC ((Xbn s).drop i) ((Xbn t).drop i))
 | 0,i,hi,M,hM=>by
  obtain ⟨M,rfl⟩:∃ M',M=M'+1:=⟨M-1,by omega⟩
  rw[Xaq.B0_eq,List.drop_of_length_le (by rw[Xdk];omega),List.drop_of_length_le (by rw[Xdk];omega)]
  exact Xag (decide_eq_false (by omega)) rfl
 | m+1,i,hi,M,hM=>by
  obtain ⟨M,rfl⟩:∃ M',M=M'+1:=⟨M-1,by omega⟩
  have ih:=eqCmds_sp hl hst hc m (i+1) (by omega) M (by omega)
  have e:=hc i (by omega)
  rw[Xaq.B0_eq,Int.toNat_natCast,Xeo s (by omega),Xeo t (by omega),Xbh (a:=(i:Int)+1) (by omega) (by omega)]
  simp only[eqL]
  refine if_of (decide_eq_true (by omega)) (if_of (by simp;omega) (if_of (by simp;omega) (Xaj e ?_)))
  cases c:sameC (cmAt s i) (cmAt t i) with
  | true=>exact Xag rfl ih
  | false=>exact if_of rfl rfl
theorem eqRows_sp {h:H}{s t:T}(hl:s.len≤9223372036854775807)(hst:s.len=t.len)(hc:∀ i,i<s.len→Xfp h (s.el i 0).int (s.el i 1).int (s.el i 2) (t.el i 0).int (t.el i 1).int (t.el i 2)=rb (sameX (exAt s i) (exAt t i))):
  ∀ (m i:Nat),i+m=s.len→∀ M,m<M→Xbf.B0 h M t s (s.len:Int) (i:Int)=rb (eqL sameX ((Xab s).drop i) ((Xab t).drop i))
 | 0,i,hi,M,hM=>by
  obtain ⟨M,rfl⟩:∃ M',M=M'+1:=⟨M-1,by omega⟩
  rw[Xbf.B0_eq,List.drop_of_length_le (by rw[Xbd];omega),List.drop_of_length_le (by rw[Xbd];omega)]
  exact Xag (decide_eq_false (by omega)) rfl
 | m+1,i,hi,M,hM=>by
  obtain ⟨M,rfl⟩:∃ M',M=M'+1:=⟨M-1,by omega⟩
  have ih:=eqRows_sp hl hst hc m (i+1) (by omega) M (by omega)
  have e:=hc i (by omega)
  rw[Xbf.B0_eq,Int.toNat_natCast,Xca s i (by omega),Xca t i (by omega),Xbh (a:=(i:Int)+1) (by omega) (by omega)]
  simp only[eqL]
  refine if_of (decide_eq_true (by omega)) (if_of (by simp;omega) (if_of (by simp;omega) (Xaj e ?_)))
  cases c:sameX (exAt s i) (exAt t i) with
  | true=>exact Xag rfl ih
  | false=>exact if_of rfl rfl
theorem eqVars_sp {h:H}{s t:T}(hl:s.len≤9223372036854775807)(hst:s.len=t.len):
  ∀ (m i:Nat),i+m=s.len→∀ M,m<M→Xcl.B0 h M s t (s.len:Int) (i:Int)=rb (eqL sameV ((Xaa s).drop i) ((Xaa t).drop i))
 | 0,i,hi,M,hM=>by
  obtain ⟨M,rfl⟩:∃ M',M=M'+1:=⟨M-1,by omega⟩
  rw[Xcl.B0_eq,List.drop_of_length_le (by rw[Xcc];omega),List.drop_of_length_le (by rw[Xcc];omega)]
  exact Xag (decide_eq_false (by omega)) rfl
 | m+1,i,hi,M,hM=>by
  obtain ⟨M,rfl⟩:∃ M',M=M'+1:=⟨M-1,by omega⟩
  have ih:=eqVars_sp (h:=h) hl hst m (i+1) (by omega) M (by omega)
  have es:(Xaa s).drop i=vaAt s i::(Xaa s).drop (i+1):=by unfold Xaa;exact Xdy _ (by omega)
  have et:(Xaa t).drop i=vaAt t i::(Xaa t).drop (i+1):=by unfold Xaa;exact Xdy _ (by omega)
  rw[Xcl.B0_eq,Int.toNat_natCast,es,et,Xbh (a:=(i:Int)+1) (by omega) (by omega)]
  simp only[eqL]
  refine if_of (decide_eq_true (by omega)) (if_of (by simp;omega) (if_of (by simp;omega) ?_))
  have e:sameV (vaAt s i) (vaAt t i)=(strEq (s.el i 0).str (t.el i 0).str&&(((s.el i 1).bool==(t.el i 1).bool)&&(((s.el i 2).int==(t.el i 2).int)&&(((s.el i 3).int==(t.el i 3).int)&&(((s.el i 4).int==(t.el i 4).int)&&true))))):=rfl
  rw[←e]
  cases c:sameV (vaAt s i) (vaAt t i) with
  | true=>exact Xag rfl ih
  | false=>exact if_of rfl rfl
theorem Xsb (k k2:T)(hk:KW k)(hk2:KW k2):Ev fun N=>∀ o n p m,Xfp (K N) o n k p m k2=rb (sameX (.mk o n (Xab k)) (.mk p m (Xab k2))):=Same_sp k k2 hk hk2
theorem sameSet_sp (k k2:T)(hk:KW k)(hk2:KW k2):Ev fun N=>∀ v a o n w b p m,Xic (K N) v a o n k w b p m k2=rb (sameS ⟨v,a,.mk o n (Xab k)⟩ ⟨w,b,.mk p m (Xab k2)⟩):=by
 refine Ev.step (Ev.step (((Xsb k k2 hk hk2).up 1).imp fun N hs v a o n w b p m=> ?_))
 rw[Xts]
 have b1:=bare_sp N o n k
 have b2:=bare_sp N p m k2
 have es:sameS ⟨v,a,.mk o n (Xab k)⟩ ⟨w,b,.mk p m (Xab k2)⟩=((decide (v=w)&&(a==b))&&((bareE (.mk o n (Xab k))&&bareE (.mk p m (Xab k2)))||sameX (.mk o n (Xab k)) (.mk p m (Xab k2)))):=rfl
 rw[es]
 by_cases c1:v=w
 ·rw[decide_eq_true c1,Bool.true_and]
  refine if_of (by simpa using c1) ?_
  cases c2:(a==b) with
  | false=>exact Xag rfl rfl
  | true=>
   refine if_of rfl (Xaj b1 ?_)
   cases c3:bareE (.mk o n (Xab k)) with
   | false=>exact Xag rfl (Xaj (hs o n p m) rfl)
   | true=>
    refine if_of rfl (Xaj b2 ?_)
    cases c4:bareE (.mk p m (Xab k2)) with
    | false=>exact Xag rfl (Xaj (hs o n p m) rfl)
    | true=>exact if_of rfl rfl
 ·rw[decide_eq_false c1,Bool.false_and,Bool.false_and]
  exact Xag (by simpa using c1) rfl
theorem eqS_sp (s t:T)(hs:KS s)(ht:KS t):Ev fun N=>Xda (K N) s t=rb (eqL sameS (Xcr s) (Xcr t)):=by
 by_cases hst:s.len=t.len
 ·refine Ev.step (Ev.imp2 (Ev.all (k:=s.len) fun i hi=>sameSet_sp (s.el i 4) (t.el i 4) (hs.2 i hi) (ht.2 i (by omega))) (Ev.ge (s.len+5)) fun N hc hN=> ?_)
  have:=eqSets_sp (h:=K N) hs.1 hst (fun i hi=>hc i hi _ _ _ _ _ _ _ _) s.len 0 (by omega) N (by omega)
  rw[Xdz]
  refine Xag (by rw[hst];simp) ?_
  simpa using this
 ·refine Ev.step (Ev.of fun N=> ?_)
  rw[Xdz,eqL_len (by rw[Xfe,Xfe];exact hst)]
  exact if_of (by simp;omega) rfl
theorem sameCmd_sp (k k2 s t:T)(hk:KW k)(hk2:KW k2)(hs:KS s)(ht:KS t):Ev fun N=>∀ o n p m,Xfr (K N) o n k s p m k2 t=rb (sameC ⟨.mk o n (Xab k),Xcr s⟩ ⟨.mk p m (Xab k2),Xcr t⟩):=by
 refine Ev.step (Ev.imp2 (Xsb k k2 hk hk2) (eqS_sp s t hs ht) fun N h1 h2 o n p m=> ?_)
 rw[Xop]
 have es:sameC ⟨.mk o n (Xab k),Xcr s⟩ ⟨.mk p m (Xab k2),Xcr t⟩=(sameX (.mk o n (Xab k)) (.mk p m (Xab k2))&&eqL sameS (Xcr s) (Xcr t)):=rfl
 rw[es]
 refine Xaj (h1 o n p m) ?_
 cases sameX (.mk o n (Xab k)) (.mk p m (Xab k2)) with
 | true=>exact if_of rfl (Xaj h2 rfl)
 | false=>exact Xag rfl rfl
theorem eqC_sp (s t:T)(hs:KC s)(ht:KC t):Ev fun N=>Xiy (K N) s t=rb (eqL sameC (Xbn s) (Xbn t)):=by
 by_cases hst:s.len=t.len
 ·refine Ev.step (Ev.step (Ev.imp2 (Ev.all (k:=s.len) fun i hi=>sameCmd_sp (s.el i 2) (t.el i 2) (s.el i 3) (t.el i 3) (hs.2 i hi).1 (ht.2 i (by omega)).1 (hs.2 i hi).2 (ht.2 i (by omega)).2) (Ev.ge (s.len+5)) fun N hc hN=> ?_))
  have:=eqCmds_sp (h:=K N) hs.1 hst (fun i hi=>hc i hi _ _ _ _) s.len 0 (by omega) N (by omega)
  have e:Xbv (K (N+1)) s t=rb (eqL sameC (Xbn s) (Xbn t)):=by
   rw[Xdj]
   refine Xag (by rw[hst];simp) ?_
   simpa using this
  rw[Xne]
  exact Xaj e rfl
 ·refine Ev.step (Ev.step (Ev.of fun N=> ?_))
  have e:Xbv (K (N+1)) s t=rb (eqL sameC (Xbn s) (Xbn t)):=by
   rw[Xdj,eqL_len (by rw[Xdk,Xdk];exact hst)]
   exact if_of (by simp;omega) rfl
  rw[Xne]
  exact Xaj e rfl
theorem eqX_sp (s t:T)(hs:KW s)(ht:KW t):Ev fun N=>Xhl (K N) s t=rb (eqL sameX (Xab s) (Xab t)):=by
 by_cases hst:s.len=t.len
 ·refine Ev.step (Ev.step (Ev.imp2 (Ev.all (k:=s.len) fun i hi=>Xsb (s.el i 2) (t.el i 2) (hs.el hi) (ht.el (by omega))) (Ev.ge (s.len+5)) fun N hc hN=> ?_))
  have:=eqRows_sp (h:=K N) hs.len hst (fun i hi=>hc i hi _ _ _ _) s.len 0 (by omega) N (by omega)
  have e:Xcq (K (N+1)) s t=rb (eqL sameX (Xab s) (Xab t)):=by
   rw[Xem]
   refine Xag (by rw[hst];simp) ?_
   simpa using this
  rw[Xnd]
  exact Xaj e rfl
 ·refine Ev.step (Ev.step (Ev.of fun N=> ?_))
  have e:Xcq (K (N+1)) s t=rb (eqL sameX (Xab s) (Xab t)):=by
   rw[Xem,eqL_len (by rw[Xbd,Xbd];exact hst)]
   exact if_of (by simp;omega) rfl
  rw[Xnd]
  exact Xaj e rfl
theorem eqV_sp (s t:T)(hs:s.len≤9223372036854775807):Ev fun N=>Xiu (K N) s t=rb (eqL sameV (Xaa s) (Xaa t)):=by
 by_cases hst:s.len=t.len
 ·refine Ev.step ((Ev.ge (s.len+5)).imp fun N hN=> ?_)
  have:=eqVars_sp (h:=K N) hs hst s.len 0 (by omega) N (by omega)
  rw[Xke]
  refine Xag (by rw[hst];simp) ?_
  simpa using this
 ·refine Ev.step (Ev.of fun N=> ?_)
  rw[Xke,eqL_len (by rw[Xcc,Xcc];exact hst)]
  exact if_of (by simp;omega) rfl
theorem sameM_sp (l k1 k2 te ts ta tn tp l' k1' k2' te' ts' ta' tn' tp':T)(hl:l.len≤9223372036854775807)(h1:KW k1)(h2:KW k2)(he:KC te)(hs:KC ts)(ha:KW ta)(hn:KW tn)(hp:KW tp)(h1':KW k1')(h2':KW k2')(he':KC te')(hs':KC ts')(ha':KW ta')(hn':KW tn')(hp':KW tp'):
  Ev fun N=>∀ o1 n1 o2 n2 p1 m1 p2 m2,Xoc (K N) l o1 n1 k1 o2 n2 k2 te ts ta tn tp l' p1 m1 k1' p2 m2 k2' te' ts' ta' tn' tp'=rb (sameM ⟨Xaa l,.mk o1 n1 (Xab k1),.mk o2 n2 (Xab k2),Xbn te,Xbn ts,Xab ta,Xab tn,Xab tp⟩ ⟨Xaa l',.mk p1 m1 (Xab k1'),.mk p2 m2 (Xab k2'),Xbn te',Xbn ts',Xab ta',Xab tn',Xab tp'⟩):=by
 refine Ev.step (Ev.imp4 (Ev.and (eqV_sp l l' hl) (Ev.and (Xsb k1 k1' h1 h1') (Xsb k2 k2' h2 h2'))) (Ev.and (eqC_sp te te' he he') (eqC_sp ts ts' hs hs')) (Ev.and (eqX_sp ta ta' ha ha') (eqX_sp tn tn' hn hn')) (eqX_sp tp tp' hp hp') fun N a b c d o1 n1 o2 n2 p1 m1 p2 m2=> ?_)
 obtain ⟨a1,a2,a3⟩:=a
 obtain ⟨b1,b2⟩:=b
 obtain ⟨c1,c2⟩:=c
 rw[C_module_Same_K]
 unfold sameM
 simp only
 refine Xaj a1 ?_
 cases eqL sameV (Xaa l) (Xaa l') with
 | false=>exact Xag rfl rfl
 | true=>
 refine if_of rfl (Xaj (a2 ..) ?_)
 cases sameX (.mk o1 n1 (Xab k1)) (.mk p1 m1 (Xab k1')) with
 | false=>exact Xag rfl rfl
 | true=>
 refine if_of rfl (Xaj (a3 ..) ?_)
 cases sameX (.mk o2 n2 (Xab k2)) (.mk p2 m2 (Xab k2')) with
 | false=>exact Xag rfl rfl
 | true=>
 refine if_of rfl (Xaj b1 ?_)
 cases eqL sameC (Xbn te) (Xbn te') with
 | false=>exact Xag rfl rfl
 | true=>
 refine if_of rfl (Xaj b2 ?_)
 cases eqL sameC (Xbn ts) (Xbn ts') with
 | false=>exact Xag rfl rfl
 | true=>
 refine if_of rfl (Xaj c1 ?_)
 cases eqL sameX (Xab ta) (Xab ta') with
 | false=>exact Xag rfl rfl
 | true=>
 refine if_of rfl (Xaj c2 ?_)
 cases eqL sameX (Xab tn) (Xab tn') with
 | false=>exact Xag rfl rfl
 | true=>exact if_of rfl (Xaj d rfl)
end Go.Proofs.YtpjedhbfkfobcaaGreatDoor
set_option linter.unusedVariables false
set_option linter.unusedSimpArgs false
namespace Go.Proofs.YtpjedhbfkfobcaaGreatDoor
open Go.AM
theorem WT_row {t e:TypeId}{x:T}(hu:Tryz.prog.underlying t=some (.slice e))(h:WT Tryz.prog t x):x.len≤9223372036854775807∧∀ i,i<x.len→∀ j τ,(lv Tryz.prog e)[j]? =some τ→WT Tryz.prog τ (x.el i j):=by
 generalize Tryz.prog=P at *
 cases h with
 | int h hw=>rw[hu] at h;cases h
 | bool h=>rw[hu] at h;cases h
 | str h hs=>rw[hu] at h;cases h
 | @sl _ e' n g h hn hg=>
  rw[hu] at h
  have e1:e'=e:=by injection h with h;injection h with h;exact h.symm
  subst e1
  exact ⟨Nat.le_trans hn (Nat.le_refl _),fun i hi j τ hj=>hg i j τ hi hj⟩
theorem unSets:Tryz.prog.underlying 40=some (.slice 50):=by kernel_rfl
theorem unCmds:Tryz.prog.underlying 27=some (.slice 42):=by kernel_rfl
theorem lvSet:lv Tryz.prog 50=[3,4,3,3,23]:=by kernel_rfl
theorem lvCmd:lv Tryz.prog 42=[3,3,23,40]:=by kernel_rfl
theorem WT_KS {x:T}(h:WT Tryz.prog 40 x):KS x:=by
 obtain ⟨h1,h2⟩:=WT_row unSets h
 exact ⟨h1,fun i hi=>WT_KW (h2 i hi 4 23 (by rw[lvSet];rfl))⟩
theorem WT_KC {x:T}(h:WT Tryz.prog 27 x):KC x:=by
 obtain ⟨h1,h2⟩:=WT_row unCmds h
 exact ⟨h1,fun i hi=>⟨WT_KW (h2 i hi 2 23 (by rw[lvCmd];rfl)),WT_KS (h2 i hi 3 40 (by rw[lvCmd];rfl))⟩⟩
theorem hvB3 {h:H}{a b d t:T}{p4:Int}(ht:KW t)(hc:∀ i,i<t.len→∀ o n,∃ x,Xbt h o n (t.el i 2)=ri x){c:Nat}(hk:∀ M,c≤M→∀ n,∃ x,Xah.B2 h M n a b d (IntKind.wrap .i64 (p4+1))=ri x):
  ∀ (m i:Nat),i+m=t.len→∀ N n,c+m<N→∃ x,Xah.B3 h N n a b d p4 t (t.len:Int) (i:Int)=ri x
 | 0,i,hi,N,n,hN=>by
  obtain ⟨N,rfl⟩:∃ M,N=M+1:=⟨N-1,by omega⟩
  obtain ⟨x,hx⟩:=hk N (by omega) n
  rw[Xah.B3_eq]
  exact ⟨x,Xag (decide_eq_false (by omega)) hx⟩
 | m+1,i,hi,N,n,hN=>by
  obtain ⟨N,rfl⟩:∃ M,N=M+1:=⟨N-1,by omega⟩
  have hl:=ht.len
  obtain ⟨y,hy⟩:=hc i (by omega) (t.el i 0).int (t.el i 1).int
  obtain ⟨x,hx⟩:=hvB3 ht hc hk m (i+1) (by omega) N (IntKind.wrap .i64 (n+y)) (by omega)
  rw[Xah.B3_eq,Int.toNat_natCast,Xbh (a:=(i:Int)+1) (by omega) (by omega)]
  exact ⟨x,if_of (decide_eq_true (by omega)) (if_of (by simp;omega) (Xaj hy hx))⟩
theorem hvB2 {h:H}{a b d:T}(ha:KW a)(hb:KW b)(hd:KW d)(ca:∀ i,i<a.len→∀ o n,∃ x,Xbt h o n (a.el i 2)=ri x)(cb:∀ i,i<b.len→∀ o n,∃ x,Xbt h o n (b.el i 2)=ri x)(cd:∀ i,i<d.len→∀ o n,∃ x,Xbt h o n (d.el i 2)=ri x):
  ∀ N n,a.len+b.len+d.len+10≤N→∃ x,Xah.B2 h N n a b d 0=ri x:=by
 have k3:∀ M,1≤M→∀ n,∃ x,Xah.B2 h M n a b d (IntKind.wrap .i64 (2+1))=ri x:=by
  intro M hM n
  obtain ⟨M,rfl⟩:∃ M',M=M'+1:=⟨M-1,by omega⟩
  rw[show IntKind.wrap .i64 ((2:Int)+1)=3 by decide,Xah.B2_eq]
  exact ⟨n,Xag (by decide) rfl⟩
 have k2:∀ M,d.len+3≤M→∀ n,∃ x,Xah.B2 h M n a b d (IntKind.wrap .i64 (1+1))=ri x:=by
  intro M hM n
  obtain ⟨M,rfl⟩:∃ M',M=M'+1:=⟨M-1,by omega⟩
  obtain ⟨x,hx⟩:=hvB3 (h:=h) (a:=a) (b:=b) (d:=d) (p4:=2) hd cd k3 d.len 0 (by omega) M n (by omega)
  rw[show IntKind.wrap .i64 ((1:Int)+1)=2 by decide,Xah.B2_eq]
  exact ⟨x,if_of (by decide) (Xag (by decide) (Xag (by decide) (if_of (by decide) hx)))⟩
 have k1:∀ M,b.len+d.len+5≤M→∀ n,∃ x,Xah.B2 h M n a b d (IntKind.wrap .i64 (0+1))=ri x:=by
  intro M hM n
  obtain ⟨M,rfl⟩:∃ M',M=M'+1:=⟨M-1,by omega⟩
  obtain ⟨x,hx⟩:=hvB3 (h:=h) (a:=a) (b:=b) (d:=d) (p4:=1) hb cb k2 b.len 0 (by omega) M n (by omega)
  rw[show IntKind.wrap .i64 ((0:Int)+1)=1 by decide,Xah.B2_eq]
  exact ⟨x,if_of (by decide) (Xag (by decide) (if_of (by decide) hx))⟩
 intro N n hN
 obtain ⟨N,rfl⟩:∃ M',N=M'+1:=⟨N-1,by omega⟩
 obtain ⟨x,hx⟩:=hvB3 (h:=h) (a:=a) (b:=b) (d:=d) (p4:=0) ha ca k1 a.len 0 (by omega) N n (by omega)
 rw[Xah.B2_eq]
 exact ⟨x,if_of (by decide) (if_of (by decide) hx)⟩
theorem hvB4 {h:H}{te ts l k1 k2 e0 s0 ta tn tp t s:T}{p3 o1 n1 o2 n2 q:Int}{len:Int}(hs:KS s)(hc:∀ i,i<s.len→∀ o n,∃ x,Xbt h o n (s.el i 4)=ri x){c:Nat}(hk:∀ M,c≤M→∀ n,∃ x,Xah.B1 h M n te ts p3 t len (IntKind.wrap .i64 (q+1)) l o1 n1 k1 o2 n2 k2 e0 s0 ta tn tp=ri x):
  ∀ (m i:Nat),i+m=s.len→∀ N n,c+m<N→∃ x,Xah.B4 h N n te ts p3 t len q s (s.len:Int) (i:Int) l o1 n1 k1 o2 n2 k2 e0 s0 ta tn tp=ri x
 | 0,i,hi,N,n,hN=>by
  obtain ⟨N,rfl⟩:∃ M,N=M+1:=⟨N-1,by omega⟩
  obtain ⟨x,hx⟩:=hk N (by omega) n
  rw[Xah.B4_eq]
  exact ⟨x,Xag (decide_eq_false (by omega)) hx⟩
 | m+1,i,hi,N,n,hN=>by
  obtain ⟨N,rfl⟩:∃ M,N=M+1:=⟨N-1,by omega⟩
  have hl:=hs.1
  obtain ⟨y,hy⟩:=hc i (by omega) (s.el i 2).int (s.el i 3).int
  obtain ⟨x,hx⟩:=hvB4 hs hc hk m (i+1) (by omega) N (IntKind.wrap .i64 (n+y)) (by omega)
  rw[Xah.B4_eq,Int.toNat_natCast,Xbh (a:=(i:Int)+1) (by omega) (by omega)]
  exact ⟨x,if_of (decide_eq_true (by omega)) (if_of (by simp;omega) (Xaj hy hx))⟩
theorem hvB1 {h:H}{te ts l k1 k2 e0 s0 ta tn tp t:T}{p3 o1 n1 o2 n2:Int}(ht:KC t)(hg:∀ i,i<t.len→∀ o n,∃ x,Xbt h o n (t.el i 2)=ri x)(hc:∀ i,i<t.len→∀ j,j<(t.el i 3).len→∀ o n,∃ x,Xbt h o n ((t.el i 3).el j 4)=ri x){c:Nat}(hk:∀ M,c≤M→∀ n,∃ x,Xah.B0 h M n te ts (IntKind.wrap .i64 (p3+1)) l o1 n1 k1 o2 n2 k2 e0 s0 ta tn tp=ri x):
  ∀ (m i:Nat),i+m=t.len→∀ N n,c+20*m<N→∃ x,Xah.B1 h N n te ts p3 t (t.len:Int) (i:Int) l o1 n1 k1 o2 n2 k2 e0 s0 ta tn tp=ri x
 | 0,i,hi,N,n,hN=>by
  obtain ⟨N,rfl⟩:∃ M,N=M+1:=⟨N-1,by omega⟩
  obtain ⟨x,hx⟩:=hk N (by omega) n
  rw[Xah.B1_eq]
  exact ⟨x,Xag (decide_eq_false (by omega)) hx⟩
 | m+1,i,hi,N,n,hN=>by
  obtain ⟨N,rfl⟩:∃ M,N=M+1:=⟨N-1,by omega⟩
  have hl:=ht.1
  obtain ⟨y,hy⟩:=hg i (by omega) (t.el i 0).int (t.el i 1).int
  rw[Xah.B1_eq,Int.toNat_natCast]
  by_cases c12:(t.el i 3).len≤12
  ·obtain ⟨x,hx⟩:=hvB4 (h:=h) (te:=te) (ts:=ts) (l:=l) (k1:=k1) (k2:=k2) (e0:=e0) (s0:=s0) (ta:=ta) (tn:=tn) (tp:=tp) (t:=t) (p3:=p3) (o1:=o1) (n1:=n1) (o2:=o2) (n2:=n2) (q:=i) (len:=t.len) (ht.2 i (by omega)).2 (hc i (by omega)) (c:=c+20*m+1) (fun M hM n=>by
    rw[Xbh (a:=(i:Int)+1) (by omega) (by omega)]
    exact hvB1 ht hg hc hk m (i+1) (by omega) M n (by omega)) (t.el i 3).len 0 (by omega) N (IntKind.wrap .i64 (n+y)) (by omega)
   exact ⟨x,if_of (decide_eq_true (by omega)) (if_of (by simp;omega) (Xag (decide_eq_false (by omega)) (Xaj hy hx)))⟩
  ·exact ⟨1,if_of (decide_eq_true (by omega)) (if_of (by simp;omega) (if_of (decide_eq_true (by omega)) rfl))⟩
theorem Xmr (l k1 k2 te ts ta tn tp:T)(hl:l.len≤9223372036854775807)(h1:KW k1)(h2:KW k2)(he:KC te)(hs:KC ts)(ha:KW ta)(hn:KW tn)(hp:KW tp):Ev fun N=>∀ o1 n1 o2 n2,∃ x,Xdv (K N) l o1 n1 k1 o2 n2 k2 te ts ta tn tp=ri x:=by
 have hcs:∀ t,KC t→Ev fun N=>(∀ i,i<t.len→∀ o n,∃ x,Xbt (K N) o n (t.el i 2)=ri x)∧∀ i,i<t.len→∀ j,j<(t.el i 3).len→∀ o n,∃ x,Xbt (K N) o n ((t.el i 3).el j 4)=ri x:=fun t ht=>
  (Ev.all fun i hi=>Xpd _ (ht.2 i hi).1).and (Ev.all fun i hi=>Ev.all fun j hj=>Xpd _ ((ht.2 i hi).2.2 j hj))
 have hks:∀ t,KW t→Ev fun N=>∀ i,i<t.len→∀ o n,∃ x,Xbt (K N) o n (t.el i 2)=ri x:=fun t ht=>Ev.all fun i hi=>Xpd _ (ht.el hi)
 refine Ev.step (Ev.imp4 (Ev.and (heavyV_sp l hl) (Ev.and (Xpd k1 h1) (Xpd k2 h2))) (Ev.and (hcs te he) (hcs ts hs)) (Ev.and (hks ta ha) (Ev.and (hks tn hn) (hks tp hp))) (Ev.ge 5000) fun N q1 q2 q3 hN o1 n1 o2 n2=> ?_)
 obtain ⟨⟨y,hy⟩,hz1,hz2⟩:=q1
 obtain ⟨⟨ce1,ce2⟩,cs1,cs2⟩:=q2
 obtain ⟨ca,cn,cp⟩:=q3
 obtain ⟨z1,hz1⟩:=hz1 o1 n1
 obtain ⟨z2,hz2⟩:=hz2 o2 n2
 rw[Xrn]
 by_cases g0:y>0
 ·exact ⟨1,Xaj hy (if_of (decide_eq_true g0) rfl)⟩
 have n0:∀ {X Y Z:Option R},Y=Z→(bif decide (((lookR [(0,T.i y)]) 0).int>(0:Int)) then X else Y)=Z:=fun h=>Xag (decide_eq_false g0) h
 by_cases g1:te.len>16
 ·exact ⟨1,Xaj hy (n0 (if_of (decide_eq_true (by omega)) rfl))⟩
 by_cases g2:ts.len>16
 ·exact ⟨1,Xaj hy (n0 (Xag (decide_eq_false (by omega)) (if_of (decide_eq_true (by omega)) rfl)))⟩
 by_cases g3:ta.len>8
 ·exact ⟨1,Xaj hy (n0 (Xag (decide_eq_false (by omega)) (Xag (decide_eq_false (by omega)) (if_of (decide_eq_true (by omega)) rfl))))⟩
 by_cases g4:tn.len>8
 ·exact ⟨1,Xaj hy (n0 (Xag (decide_eq_false (by omega)) (Xag (decide_eq_false (by omega)) (Xag (decide_eq_false (by omega)) (if_of (decide_eq_true (by omega)) rfl)))))⟩
 by_cases g5:tp.len>8
 ·exact ⟨1,Xaj hy (n0 (Xag (decide_eq_false (by omega)) (Xag (decide_eq_false (by omega)) (Xag (decide_eq_false (by omega)) (Xag (decide_eq_false (by omega)) (if_of (decide_eq_true (by omega)) rfl))))))⟩
 have r2:∀ M,40≤M→∀ n,∃ x,Xah.B0 (K N) M n te ts (IntKind.wrap .i64 (1+1)) l o1 n1 k1 o2 n2 k2 te ts ta tn tp=ri x:=by
  intro M hM n
  obtain ⟨M,rfl⟩:∃ M',M=M'+1:=⟨M-1,by omega⟩
  obtain ⟨x,hx⟩:=hvB2 (h:=K N) ha hn hp ca cn cp M n (by omega)
  rw[show IntKind.wrap .i64 ((1:Int)+1)=2 by decide,Xah.B0_eq]
  exact ⟨x,Xag (by decide) hx⟩
 have r1:∀ M,400≤M→∀ n,∃ x,Xah.B0 (K N) M n te ts (IntKind.wrap .i64 (0+1)) l o1 n1 k1 o2 n2 k2 te ts ta tn tp=ri x:=by
  intro M hM n
  obtain ⟨M,rfl⟩:∃ M',M=M'+1:=⟨M-1,by omega⟩
  obtain ⟨x,hx⟩:=hvB1 (h:=K N) (te:=te) (ts:=ts) (l:=l) (k1:=k1) (k2:=k2) (e0:=te) (s0:=ts) (ta:=ta) (tn:=tn) (tp:=tp) (p3:=1) (o1:=o1) (n1:=n1) (o2:=o2) (n2:=n2) hs cs1 cs2 r2 ts.len 0 (by omega) M n (by omega)
  rw[show IntKind.wrap .i64 ((0:Int)+1)=1 by decide,Xah.B0_eq]
  exact ⟨x,if_of (by decide) (Xag (by decide) (if_of (by decide) hx))⟩
 obtain ⟨N',hN'⟩:∃ M,N=M+1:=⟨N-1,by omega⟩
 obtain ⟨x,hx⟩:=hvB1 (h:=K N) (te:=te) (ts:=ts) (l:=l) (k1:=k1) (k2:=k2) (e0:=te) (s0:=ts) (ta:=ta) (tn:=tn) (tp:=tp) (p3:=0) (o1:=o1) (n1:=n1) (o2:=o2) (n2:=n2) he ce1 ce2 r1 te.len 0 (by omega) N' (IntKind.wrap .i64 (z1+z2)) (by omega)
 have b0:Xah.B0 (K N) N (IntKind.wrap .i64 (z1+z2)) te ts 0 l o1 n1 k1 o2 n2 k2 te ts ta tn tp=ri x:=by
  have:=Xah.B0_eq (K N) N' (IntKind.wrap .i64 (z1+z2)) te ts 0 l o1 n1 k1 o2 n2 k2 te ts ta tn tp
  rw[←hN'] at this
  rw[this]
  exact if_of (by decide) (if_of (by decide) hx)
 exact ⟨x,Xaj hy (n0 (Xag (decide_eq_false (by omega)) (Xag (decide_eq_false (by omega)) (Xag (decide_eq_false (by omega)) (Xag (decide_eq_false (by omega)) (Xag (decide_eq_false (by omega)) (Xaj hz1 (Xaj hz2 b0))))))))⟩
theorem setE_zero {l:List Va}{env:Bool}{was:List Int}{s:Se}(h:setE l env was s=0):0≤s.var∧s.var<(l.length:Int)∧envAt l s.var=env∧s.var∉was:=by
 unfold setE at h
 split at h
 ·cases h
 ·rename_i c
  refine ⟨?_,?_,?_,?_⟩
  ·exact Int.not_lt.1 fun q=>c (.inl q)
  ·exact Int.not_le.1 fun q=>c (.inr (.inl q))
  ·exact Classical.byContradiction fun q=>c (.inr (.inr (.inl q)))
  ·exact fun q=>c (.inr (.inr (.inr q)))
theorem setsGo_ok {l:List Va}{env:Bool}:∀ {ss:List Se} {was:List Int},Xhw l env ss was=0→(∀ s∈ss,0≤s.var∧s.var<(l.length:Int)∧envAt l s.var=env∧s.var∉was)∧(ss.map Se.var).Pairwise (·≠·)
 | [],_,_=>⟨fun s hs=>(by cases hs),List.Pairwise.nil⟩
 | s::r,was,h=>by
  simp only[Xhw] at h
  by_cases c:setE l env was s=0
  ·rw[if_neg (by simpa using c)] at h
   obtain ⟨h1,h2⟩:=setsGo_ok h
   refine ⟨fun q hq=> ?_,?_⟩
   ·rcases List.mem_cons.1 hq with rfl|hq
    ·exact setE_zero c
    ·obtain ⟨a1,a2,a3,a4⟩:=h1 q hq
     exact ⟨a1,a2,a3,fun hm=>a4 (List.mem_append.2 (.inl hm))⟩
   ·simp only[List.map_cons,List.pairwise_cons]
    refine ⟨fun x hx=> ?_,h2⟩
    obtain ⟨q,hq,rfl⟩:=List.mem_map.1 hx
    intro e
    exact (h1 q hq).2.2.2 (List.mem_append.2 (.inr (by rw[e];exact List.mem_cons_self ..)))
  ·rw[if_pos c] at h
   exact absurd h c
theorem mayCmd_zero {l:List Va}{env:Bool}{c:Cm}(h:Xdx l env c=0):mayV l=0∧Xcb l c.guard 1 true (!env) false=0∧c.sets.length≤6∧Xhw l env c.sets []=0:=by
 unfold Xdx at h
 by_cases c1:mayV l=0
 ·rw[if_neg (by simpa using c1)] at h
  by_cases c2:Xcb l c.guard 1 true (!env) false=0
  ·rw[if_neg (by simpa using c2)] at h
   by_cases c3:6<(c.sets.length:Int)
   ·rw[if_pos c3] at h;cases h
   ·rw[if_neg c3] at h
    exact ⟨c1,c2,by omega,h⟩
  ·rw[if_pos c2] at h;exact absurd h c2
 ·rw[if_pos c1] at h;exact absurd h c1
section
variable {h:H}{env:Bool}{v:Int}{l k1 k2 te ts ta tn tp gk t:T}{o1 n1 o2 n2 go gn:Int}{Q:Option R}
end
end Go.Proofs.YtpjedhbfkfobcaaGreatDoor
