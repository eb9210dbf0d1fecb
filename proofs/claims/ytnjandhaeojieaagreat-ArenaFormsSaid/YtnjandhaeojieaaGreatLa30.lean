/- Modules: what may be one, and which are the same. -/
import Derived.Test.YtnjandhaeojieaaGreatLa26
set_option linter.unusedVariables false
set_option linter.unusedSimpArgs false
namespace Go.AM
theorem Ev.up {p:Nat→Prop}(h:Ev p)(k:Nat):Ev fun n=>p (n+k):=by
 obtain ⟨N,hN⟩:=h
 exact ⟨N,fun n hn=>hN (n+k) (by omega)⟩
structure Se where
 var:Int
 any:Bool
 e:Ex
structure Cm where
 guard:Ex
 sets:List Se
structure Md where
 vars:List Va
 ie:Ex
 is:Ex
 env:List Cm
 sys:List Cm
 assume:List Ex
 ensure:List Ex
 prio:List Ex
def seAt (t:T)(i:Nat):Se:=⟨(t.el i 0).int,(t.el i 1).bool,Ex.mk (t.el i 2).int (t.el i 3).int (Xad (t.el i 4))⟩
def Xhy (t:T):List Se:=(List.range t.len).map (seAt t)
def cmAt (t:T)(i:Nat):Cm:=⟨Ex.mk (t.el i 0).int (t.el i 1).int (Xad (t.el i 2)),Xhy (t.el i 3)⟩
def Xca (t:T):List Cm:=(List.range t.len).map (cmAt t)
theorem Xhm (t:T):(Xhy t).length=t.len:=by simp[Xhy]
theorem Xes (t:T):(Xca t).length=t.len:=by simp[Xca]
theorem setsOf_get (t:T){i:Nat}(h:i<t.len):(Xhy t)[i]? =some (seAt t i):=by simp[Xhy,h]
theorem Xtl (t:T){i:Nat}(h:i<t.len):(Xca t)[i]? =some (cmAt t i):=by simp[Xca,h]
theorem Xqd (t:T){i:Nat}(h:i<t.len):(Xhy t).drop i=seAt t i::(Xhy t).drop (i+1):=by unfold Xhy;exact Xgg _ h
theorem Xuq (t:T){i:Nat}(h:i<t.len):(Xca t).drop i=cmAt t i::(Xca t).drop (i+1):=by unfold Xca;exact Xgg _ h
def KS (t:T):Prop:=t.len≤9223372036854775807∧∀ i,i<t.len→KW (t.el i 4)
def KC (t:T):Prop:=t.len≤9223372036854775807∧∀ i,i<t.len→KW (t.el i 2)∧KS (t.el i 3)
def bareE:Ex→Bool
 | .mk o n ks=>decide (o=0)&&decide (n=0)&&decide (ks.length=0)
def sortAt (l:List Va)(v:Int):Int:=((l[v.toNat]?).map Va.sort).getD 0
def setE (l:List Va)(env:Bool)(was:List Int)(s:Se):Int:=
 if s.var<0∨(l.length:Int)≤s.var∨envAt l s.var≠env∨s.var∈was then 3 else if s.any=true∧bareE s.e=false then 1 else if s.any=true then 0 else Xcu l s.e (sortAt l s.var) true (!env) false
def Xqy (l:List Va)(env:Bool):List Se→List Int→Int
 | [],_=>0
 | s::r,was=>if setE l env was s≠0 then setE l env was s else Xqy l env r (was++[s.var])
def Xff (l:List Va)(env:Bool)(c:Cm):Int:=
 if mayV l≠0 then mayV l else if Xcu l c.guard 1 true (!env) false≠0 then Xcu l c.guard 1 true (!env) false else if 6<(c.sets.length:Int) then 7 else Xqy l env c.sets []
def Xeg {α:Type}(f:α→Int):List α→Int
 | []=>0
 | x::r=>if f x≠0 then f x else Xeg f r
theorem firstE_zero {α:Type}{f:α→Int}:∀ {l:List α},Xeg f l=0↔∀ x∈l,f x=0
 | []=>by simp[Xeg]
 | x::r=>by
  simp only[Xeg,List.forall_mem_cons]
  by_cases c:f x=0
  ·rw[if_neg (by simpa using c),firstE_zero (l:=r)]
   exact ⟨fun h=>⟨c,h⟩,fun h=>h.2⟩
  ·rw[if_pos c]
   exact ⟨fun h=>absurd h c,fun h=>absurd h.1 c⟩
def fullM (m:Md):Bool:=decide (12<max m.env.length m.sys.length)||decide (4<max m.assume.length m.ensure.length)||decide (6<m.prio.length)
def mayM (m:Md):Int:=
 if mayV m.vars≠0 then mayV m.vars else if Xcu m.vars m.ie 1 false false false≠0 then Xcu m.vars m.ie 1 false false false else
 if Xcu m.vars m.is 1 true false false≠0 then Xcu m.vars m.is 1 true false false else if fullM m=true then 7 else
 if Xeg (Xff m.vars true) m.env≠0 then Xeg (Xff m.vars true) m.env else if Xeg (Xff m.vars false) m.sys≠0 then Xeg (Xff m.vars false) m.sys else
 if 0<m.prio.length∧0<m.assume.length+m.ensure.length then 1 else Xeg (fun e=>Xcu m.vars e 1 true false false) (m.assume++m.ensure++m.prio)
end Go.AM
namespace Go.Proofs.YtnjandhaeojieaaGreat
open Go.AM
theorem bare_sp (N:Nat)(o n:Int)(k:T):Xqr (K (N+1)) o n k=rb (bareE (.mk o n (Xad k))):=by
 rw[C_module_bare_K]
 simp only[bareE,Xbn]
 by_cases c1:o=0
 ·refine if_of (by simpa using c1) ?_
  by_cases c2:n=0
  ·refine if_of (by simpa using c2) ?_
   have:(((k.len:Nat):Int)==0)=(decide (o=0)&&decide (n=0)&&decide (k.len=0)):=by rw[Bool.eq_iff_iff];simp[c1,c2]
   rw[this];rfl
  ·refine Xac (by simpa using c2) ?_
   rw[decide_eq_false c2,Bool.and_false,Bool.false_and];rfl
 ·refine Xac (by simpa using c1) ?_
  rw[decide_eq_false c1,Bool.false_and,Bool.false_and];rfl
theorem indexI_sp {h:H}{t:T}{xs:List Int}(hx:Ints t xs)(hl:xs.length≤9223372036854775807)(v:Int):∀ (m i:Nat),i+m=xs.length→∀ N,m<N→∃ x,Xdi.B0 h N t v (t.len:Int) (i:Int)=ri x∧(x≥0↔v∈xs.drop i)
 | 0,i,hi,N,hN=>by
  obtain ⟨N,rfl⟩:∃ M,N=M+1:=⟨N-1,by omega⟩
  have h1:=hx.1
  rw[Xdi.B0_eq,List.drop_of_length_le (by omega)]
  exact ⟨-1,Xac (decide_eq_false (by omega)) rfl,by simp⟩
 | m+1,i,hi,N,hN=>by
  obtain ⟨N,rfl⟩:∃ M,N=M+1:=⟨N-1,by omega⟩
  have h1:=hx.1
  have hlt:i<xs.length:=by omega
  obtain ⟨x,e1,e2⟩:=indexI_sp (h:=h) hx hl v m (i+1) (by omega) N (by omega)
  rw[Xdi.B0_eq,Int.toNat_natCast,hx.el0 hlt,List.drop_eq_getElem_cons hlt,Xaq (a:=(i:Int)+1) (by omega) (by omega)]
  by_cases c:v=xs[i]
  ·exact ⟨i,if_of (decide_eq_true (by omega)) (if_of (by simp;omega) (if_of (by simpa using c) rfl)),fun _=>by rw[c];exact List.mem_cons_self ..,fun _=>by omega⟩
  ·refine ⟨x,if_of (decide_eq_true (by omega)) (if_of (by simp;omega) (Xac (by simpa using c) e1)),?_⟩
   rw[e2,List.mem_cons]
   exact ⟨.inr,fun h=>h.resolve_left c⟩
theorem containsI_sp:Ev fun N=>∀ t xs v,Ints t xs→xs.length≤100→Xfo (K N) t v=rb (decide (v∈xs)):=by
 refine Ev.step (Ev.step ((Ev.ge 200).imp fun N hN t xs v hx hl=> ?_))
 obtain ⟨x,e1,e2⟩:=indexI_sp (h:=K N) hx (by omega) v xs.length 0 (by omega) N (by omega)
 rw[Xqn]
 refine Xag (r:=lookR [(0,.i x)]) (by rw[Xtp];exact e1) ?_
 have:decide (x≥0)=decide (v∈xs):=by rw[Bool.eq_iff_iff];simpa using e2
 rw[←this];rfl
theorem mayC1_sp {N:Nat}{l k:T}{o n want:Int}{env:Bool}(h:∀ op m want now env sys,Xhz (K N) l op m k want now env sys=ri (Xcu (Xaa l) (.mk op m (Xad k)) want now env sys)){c1 c2:Nat→T}(h1:c1 0=l)(h2:c2 0= .b env):Xha (K (N+1)) o n k want c1 c2=ri (Xcu (Xaa l) (.mk o n (Xad k)) want true (!env) false):=by
 rw[Xqt,h1,h2]
 exact Xag (h o n want true (!env) false) rfl
theorem mayC2_sp {N:Nat}{l k:T}(hl:l.len≤9223372036854775807)(h:∀ op m want now env sys,Xhz (K N) l op m k want now env sys=ri (Xcu (Xaa l) (.mk op m (Xad k)) want now env sys))(hc:∀ t xs v,Ints t xs→xs.length≤100→Xfo (K (N+1)) t v=rb (decide (v∈xs)))
  {p:Nat} {v:Int} {any env:Bool} {o n:Int} {g:Nat→Nat→T} {was:List Int} (hw:intsR p g=was) (hp:p≤6):
  ∃ p' g',Xje (K (N+1+1)) p v any o n k l env g=some (lookR [(0,.i (setE (Xaa l) env was ⟨v,any,.mk o n (Xad k)⟩)),(1,l),(2,.b env),(3,.l p' g')])∧(setE (Xaa l) env was ⟨v,any,.mk o n (Xad k)⟩=0→p'=p+1∧intsR p' g'=was++[v]):=by
 rw[Xqs]
 unfold setE
 simp only
 by_cases c1:v<0
 ·rw[if_pos (.inl c1)]
  exact ⟨p,g,if_of (decide_eq_true c1) rfl,fun h=>by cases h⟩
 by_cases c2:(l.len:Int)≤v
 ·rw[if_pos (.inr (.inl (by rw[Xbj];exact c2)))]
  exact ⟨p,g,Xac (decide_eq_false c1) (if_of (decide_eq_true c2) rfl),fun h=>by cases h⟩
 have hg:(decide (0≤v)&&decide (v<(l.len:Int)))=true:=by simp;omega
 have he:envAt (Xaa l) v=(l.el v.toNat 1).bool:=Xql (by omega) (by omega)
 by_cases c3:(l.el v.toNat 1).bool=env
 ·have hplen:was.length=p:=by rw[←hw];exact Xdc p g
  have hcon:=hc (T.l p fun i j=>g (0+i) j) was v (by rw[shift0];exact Xgu hw) (by omega)
  by_cases c4:v∈was
  ·rw[if_pos (.inr (.inr (.inr c4)))]
   rw[decide_eq_true c4] at hcon
   exact ⟨p,g,Xac (decide_eq_false c1) (Xac (decide_eq_false c2) (if_of hg (Xac (by rw[c3];simp) (Xag hcon (if_of rfl rfl))))),fun h=>by cases h⟩
  ·rw[if_neg (by rw[Xbj,he];intro h;rcases h with h|h|h|h;exact c1 h;exact c2 h;exact h c3;exact c4 h)]
   rw[decide_eq_false c4] at hcon
   have tail:∀ e:Int,((any=true∧e=0)∨(any=false∧e=Xcu (Xaa l) (.mk o n (Xad k)) (sortAt (Xaa l) v) true (!env) false))→Xdf.B0 (K (N+1)) (N+1) p v any o n k g l env=some (lookR [(0,.i e),(1,l),(2,.b env),(3,.l (p+1) (pushG p g v))]):=by
    intro e he2
    rw[Xdf.B0_eq]
    refine if_of (decide_eq_true (by omega)) ?_
    rcases he2 with ⟨ha,he2⟩|⟨ha,he2⟩
    ·subst ha he2;exact if_of rfl rfl
    ·subst ha he2
     refine Xac rfl (if_of hg (Xag (mayC1_sp (want:=(l.el v.toNat 2).int) (env:=env) h rfl rfl) ?_))
     have es:sortAt (Xaa l) v=(l.el v.toNat 2).int:=by unfold sortAt;rw[Xds l (by omega)];rfl
     rw[es];rfl
   cases any with
   | true=>
    cases cb:bareE (.mk o n (Xad k)) with
    | false=>
     rw[if_pos ⟨rfl,rfl⟩]
     have hb:=bare_sp N o n k
     rw[cb] at hb
     exact ⟨p,g,Xac (decide_eq_false c1) (Xac (decide_eq_false c2) (if_of hg (Xac (by rw[c3];simp) (Xag hcon (Xac rfl (if_of rfl (Xag hb (if_of rfl rfl)))))))),fun h=>by cases h⟩
    | true=>
     rw[if_neg (by simp),if_pos rfl]
     have hb:=bare_sp N o n k
     rw[cb] at hb
     exact ⟨p+1,pushG p g v,Xac (decide_eq_false c1) (Xac (decide_eq_false c2) (if_of hg (Xac (by rw[c3];simp) (Xag hcon (Xac rfl (if_of rfl (Xag hb (Xac rfl (tail 0 (.inl ⟨rfl,rfl⟩)))))))))),fun _=>⟨rfl,by rw[Xib,hw]⟩⟩
   | false=>
    rw[if_neg (by simp),if_neg (by simp)]
    exact ⟨p+1,pushG p g v,Xac (decide_eq_false c1) (Xac (decide_eq_false c2) (if_of hg (Xac (by rw[c3];simp) (Xag hcon (Xac rfl (Xac rfl (tail _ (.inr ⟨rfl,rfl⟩)))))))),fun _=>⟨rfl,by rw[Xib,hw]⟩⟩
 ·rw[if_pos (.inr (.inr (.inl (by rw[he];exact c3))))]
  refine ⟨p,g,Xac (decide_eq_false c1) (Xac (decide_eq_false c2) (if_of hg (if_of ?_ rfl))),fun h=>by cases h⟩
  cases env<;>simp_all
theorem firstSet_sp {N:Nat}{l t:T}(hl:l.len≤9223372036854775807)(ht:t.len≤6){env:Bool}(h:∀ i,i<t.len→∀ op m want now env sys,Xhz (K N) l op m (t.el i 4) want now env sys=ri (Xcu (Xaa l) (.mk op m (Xad (t.el i 4))) want now env sys))(hc:∀ t xs v,Ints t xs→xs.length≤100→Xfo (K (N+1)) t v=rb (decide (v∈xs))):
  ∀ (m i:Nat),i+m=t.len→∀ M p g was,m<M→p=i→intsR p g=was→∃ a b c,Xbc.B0 (K (N+1+1)) M p t (t.len:Int) (i:Int) g l env=some (lookR [(0,.i (Xqy (Xaa l) env ((Xhy t).drop i) was)),(1,a),(2,b),(3,c)])
 | 0,i,hi,M,p,g,was,hM,hp,hw=>by
  obtain ⟨M,rfl⟩:∃ M',M=M'+1:=⟨M-1,by omega⟩
  rw[Xbc.B0_eq,List.drop_of_length_le (by rw[Xhm];omega)]
  exact ⟨_,_,_,Xac (decide_eq_false (by omega)) rfl⟩
 | m+1,i,hi,M,p,g,was,hM,hp,hw=>by
  obtain ⟨M,rfl⟩:∃ M',M=M'+1:=⟨M-1,by omega⟩
  obtain ⟨p',g',e1,e2⟩:=mayC2_sp (any:=(t.el i 1).bool) (v:=(t.el i 0).int) (o:=(t.el i 2).int) (n:=(t.el i 3).int) (env:=env) hl (h i (by omega)) hc hw (by omega)
  have es:(⟨(t.el i 0).int,(t.el i 1).bool,.mk (t.el i 2).int (t.el i 3).int (Xad (t.el i 4))⟩:Se)=seAt t i:=rfl
  rw[es] at e1 e2
  rw[Xbc.B0_eq,Int.toNat_natCast,Xqd t (by omega),Xaq (a:=(i:Int)+1) (by omega) (by omega)]
  simp only[Xqy]
  by_cases c:setE (Xaa l) env was (seAt t i)=0
  ·rw[if_neg (by simpa using c)]
   obtain ⟨f1,f2⟩:=e2 c
   obtain ⟨a,b,d,ih⟩:=firstSet_sp hl ht h hc m (i+1) (by omega) M p' g' _ (by omega) (by omega) f2
   exact ⟨a,b,d,if_of (decide_eq_true (by omega)) (if_of (by simp;omega) (Xag e1 (Xac (by simp[Xal,int_i,c]) ih)))⟩
  ·rw[if_pos c]
   exact ⟨_,_,_,if_of (decide_eq_true (by omega)) (if_of (by simp;omega) (Xag e1 (if_of (by simpa [Xal,int_i] using c) rfl)))⟩
theorem Xwf (l:T)(hl:l.len≤9223372036854775807)(k t:T)(hk:KW k)(ht:KS t):Ev fun N=>∀ o n env,Xih (K N) l o n k t env=ri (Xff (Xaa l) env ⟨.mk o n (Xad k),Xhy t⟩):=by
 refine Ev.step (Ev.step (Ev.step (Ev.step (Ev.imp4 ((MayV_sp l hl).up 3) ((Xwe l hl k hk).up 2) (Ev.all (k:=t.len) fun i hi=>Xwe l hl (t.el i 4) (ht.2 i hi)) (Ev.and (containsI_sp.up 1) (Ev.ge (t.len+10))) fun N h1 h2 h3 h4 o n env=> ?_))))
 obtain ⟨h4,hN⟩:=h4
 rw[Xsj]
 unfold Xff
 refine Xag h1 ?_
 by_cases c1:mayV (Xaa l)=0
 ·rw[if_neg (by simpa using c1)]
  refine Xac (by simp[Xal,int_i,c1]) (Xag (mayC1_sp (want:=1) (env:=env) (o:=o) (n:=n) h2 rfl rfl) ?_)
  by_cases c2:Xcu (Xaa l) (.mk o n (Xad k)) 1 true (!env) false=0
  ·rw[if_neg (by simpa using c2)]
   refine Xac (by simp[Xal,int_i,c2]) ?_
   by_cases c3:6<t.len
   ·rw[if_pos (by rw[Xhm];omega)]
    exact if_of (decide_eq_true (by omega)) rfl
   ·rw[if_neg (by rw[Xhm];omega)]
    obtain ⟨a,b,c,e⟩:=firstSet_sp (env:=env) hl (by omega) h3 h4 t.len 0 (by omega) (N+1+1) 0 (fun _ _=> .b false) [] (by omega) rfl rfl
    have e2:Xdw (K (N+1+1+1)) 0 t l env (fun _ _=> .b false)=some (lookR [(0,.i (Xqy (Xaa l) env (Xhy t) [])),(1,a),(2,b),(3,c)]):=by
     rw[Xig]
     exact e
    exact Xac (decide_eq_false (by omega)) (Xag e2 rfl)
  ·rw[if_pos c2]
   exact if_of (by simpa [Xal,int_i] using c2) rfl
 ·rw[if_pos c1]
  exact if_of (by simpa [Xal,int_i] using c1) rfl
theorem Xvs {N:Nat}{l k:T}{o n:Int}{now:Bool}(h:∀ op m want now env sys,Xhz (K N) l op m k want now env sys=ri (Xcu (Xaa l) (.mk op m (Xad k)) want now env sys)){c1 c2:Nat→T}(h1:c1 0=l)(h2:c2 0= .b now):Xfz (K (N+1)) o n k c1 c2=ri (Xcu (Xaa l) (.mk o n (Xad k)) 1 now false false):=by
 rw[Xwx,h1,h2]
 exact Xag (h o n 1 now false false) rfl
theorem mayB2_sp {N:Nat}{l k t:T}{o n:Int}{env:Bool}(h:∀ o n env,Xih (K N) l o n k t env=ri (Xff (Xaa l) env ⟨.mk o n (Xad k),Xhy t⟩)){c1 c2:Nat→T}(h1:c1 0=l)(h2:c2 0= .b env):Xkg (K (N+1)) o n k t c1 c2=ri (Xff (Xaa l) env ⟨.mk o n (Xad k),Xhy t⟩):=by
 rw[Xww,h1,h2]
 exact Xag (h o n env) rfl
theorem firstX_sp {h:H}{t:T}{c1 c2:Nat→T}{f:Ex→Int}(hl:t.len≤9223372036854775807)(hf:∀ i,i<t.len→Xfz h (t.el i 0).int (t.el i 1).int (t.el i 2) c1 c2=ri (f (exAt t i))):
  ∀ (m i:Nat),i+m=t.len→∀ M,m<M→Xbk.B0 h M c1 c2 t (t.len:Int) (i:Int)=ri (Xeg f ((Xad t).drop i))
 | 0,i,hi,M,hM=>by
  obtain ⟨M,rfl⟩:∃ M',M=M'+1:=⟨M-1,by omega⟩
  rw[Xbk.B0_eq,List.drop_of_length_le (by rw[Xbn];omega)]
  exact Xac (decide_eq_false (by omega)) rfl
 | m+1,i,hi,M,hM=>by
  obtain ⟨M,rfl⟩:∃ M',M=M'+1:=⟨M-1,by omega⟩
  have ih:=firstX_sp hl hf m (i+1) (by omega) M (by omega)
  have e:=hf i (by omega)
  rw[Xbk.B0_eq,Int.toNat_natCast,Xhg t i (by omega),Xaq (a:=(i:Int)+1) (by omega) (by omega)]
  simp only[Xeg]
  refine if_of (decide_eq_true (by omega)) (if_of (by simp;omega) (Xag e ?_))
  by_cases c:f (exAt t i)=0
  ·rw[if_neg (by simpa using c)]
   exact Xac (by simp[Xal,int_i,c]) ih
  ·rw[if_pos c]
   exact if_of (by simpa [Xal,int_i] using c) rfl
theorem firstC_sp {h:H}{t:T}{c1 c2:Nat→T}{f:Cm→Int}(hl:t.len≤9223372036854775807)(hf:∀ i,i<t.len→Xkg h (t.el i 0).int (t.el i 1).int (t.el i 2) (t.el i 3) c1 c2=ri (f (cmAt t i))):
  ∀ (m i:Nat),i+m=t.len→∀ M,m<M→Xbe.B0 h M c1 c2 t (t.len:Int) (i:Int)=ri (Xeg f ((Xca t).drop i))
 | 0,i,hi,M,hM=>by
  obtain ⟨M,rfl⟩:∃ M',M=M'+1:=⟨M-1,by omega⟩
  rw[Xbe.B0_eq,List.drop_of_length_le (by rw[Xes];omega)]
  exact Xac (decide_eq_false (by omega)) rfl
 | m+1,i,hi,M,hM=>by
  obtain ⟨M,rfl⟩:∃ M',M=M'+1:=⟨M-1,by omega⟩
  have ih:=firstC_sp hl hf m (i+1) (by omega) M (by omega)
  have e:=hf i (by omega)
  rw[Xbe.B0_eq,Int.toNat_natCast,Xuq t (by omega),Xaq (a:=(i:Int)+1) (by omega) (by omega)]
  simp only[Xeg]
  refine if_of (decide_eq_true (by omega)) (if_of (by simp;omega) (Xag e ?_))
  by_cases c:f (cmAt t i)=0
  ·rw[if_neg (by simpa using c)]
   exact Xac (by simp[Xal,int_i,c]) ih
  ·rw[if_pos c]
   exact if_of (by simpa [Xal,int_i] using c) rfl
theorem exsR_app (n:Nat)(g:Nat→Nat→T)(x:T):exsR (n+x.len) (fun i j=>(bif Nat.blt i n then g i j else x.el (i-n) j))=exsR n g++Xad x:=by
 unfold exsR
 rw[List.range_add,List.map_append,Xpj]
 congr 1
 ·refine List.map_congr_left fun i hi=> ?_
  have hi:=List.mem_range.1 hi
  simp only[show Nat.blt i n=true from by rw[Nat.blt_eq];exact hi,cond_true]
 ·rw[List.map_map]
  refine List.map_congr_left fun i hi=> ?_
  have hb:Nat.blt (n+i) n=false:=by
   cases hc:Nat.blt (n+i) n with
   | false=>rfl
   | true=>rw[Nat.blt_eq] at hc;omega
  simp only[Function.comp,hb,cond_false,Nat.add_sub_cancel_left]
  rfl
theorem concat_sp {a b c:T}(ha:KW a)(hb:KW b)(hc:KW c)(la:a.len≤4)(lb:b.len≤4)(lc:c.len≤6):∃ t,(Ev fun N=>Xjv (K N) (T.l 3 (fun i j=>(([[a],[b],[c]]:List (List T)).getD (0+i) []).getD j (.b false)))=some (lookR [(0,t)]))∧Xad t=Xad a++Xad b++Xad c∧KW t:=by
 have hw:∀ x:Nat,x≤100→IntKind.wrap .i64 (x:Int)=(x:Int):=fun x hx=>Xaq (by omega) (by omega)
 have grow:∃ g:Nat→Nat→T,Ev fun N=>Xld (K N) ((a.len+b.len+c.len:Nat):Int)=some (lookR [(0,T.l 0 g)]):=by
  by_cases h0:a.len+b.len+c.len=0
  ·refine ⟨fun _ _=> .b false,Ev.step ((Ev.ge 3).imp fun N hN=> ?_)⟩
   obtain ⟨N,rfl⟩:∃ M,N=M+1:=⟨N-1,by omega⟩
   rw[Xmr,h0,Xct.B1_eq]
   exact Xac (by decide) (Xac (by decide) rfl)
  ·refine ⟨fun _ j=>([T.i 0,T.i 0,noT]:List T).getD j (.b false),Ev.step ((Ev.ge 3).imp fun N hN=> ?_)⟩
   obtain ⟨N,rfl⟩:∃ M,N=M+1:=⟨N-1,by omega⟩
   have e0:IntKind.wrap .i64 (((a.len+b.len+c.len:Nat):Int)-0)=((a.len+b.len+c.len:Nat):Int):=Xaq (by omega) (by omega)
   rw[Xmr,e0,Xct.B0_eq]
   exact Xac (decide_eq_false (by omega)) (if_of (decide_eq_true (by omega)) (if_of (by simp;omega) (if_of (decide_eq_true (by omega)) rfl)))
 obtain ⟨g0,hg0⟩:=grow
 refine ⟨T.l (0+a.len+b.len+c.len) (fun i j=>(bif Nat.blt i (0+a.len+b.len) then (fun i j=>(bif Nat.blt i (0+a.len) then (fun i j=>(bif Nat.blt i 0 then g0 i j else a.el (i-0) j)) i j else b.el (i-(0+a.len)) j)) i j else c.el (i-(0+a.len+b.len)) j)),Ev.step ((hg0.and (Ev.ge 20)).imp fun N h=> ?_),?_,?_⟩
 ·obtain ⟨hg0,hN⟩:=h
  obtain ⟨N,rfl⟩:∃ M,N=M+15:=⟨N-15,by omega⟩
  rw[Xrc]
  generalize hX:(T.l 3 (fun i j=>(([[a],[b],[c]]:List (List T)).getD (0+i) []).getD j (.b false)))=X
  have X0:X.el 0 0=a:=by rw[←hX];rfl
  have X1:X.el 1 0=b:=by rw[←hX];rfl
  have X2:X.el 2 0=c:=by rw[←hX];rfl
  have XL:X.len=3:=by rw[←hX];rfl
  have t0:Int.toNat 0=0:=rfl
  have t1:Int.toNat 1=1:=rfl
  have t2:Int.toNat 2=2:=rfl
  have w1:IntKind.wrap .i64 ((0:Int)+1)=1:=by decide
  have w2:IntKind.wrap .i64 ((1:Int)+1)=2:=by decide
  have w3:IntKind.wrap .i64 ((2:Int)+1)=3:=by decide
  rw[XL,Xbl.B0_eq,t0,X0,XL,Xaq (a:=0+(a.len:Int)) (by omega) (by omega),w1]
  refine if_of (by decide) (if_of (by decide) (Xac (decide_eq_false (by omega)) ?_))
  rw[Xbl.B0_eq,t1,X1,XL,Xaq (a:=0+(a.len:Int)+(b.len:Int)) (by omega) (by omega),w2]
  refine if_of (by decide) (if_of (by decide) (Xac (decide_eq_false (by omega)) ?_))
  rw[Xbl.B0_eq,t2,X2,XL,Xaq (a:=0+(a.len:Int)+(b.len:Int)+(c.len:Int)) (by omega) (by omega),w3]
  refine if_of (by decide) (if_of (by decide) (Xac (decide_eq_false (by omega)) ?_))
  rw[Xbl.B0_eq]
  refine Xac (by decide) ?_
  rw[show (0:Int)+(a.len:Int)+(b.len:Int)+(c.len:Int)=((a.len+b.len+c.len:Nat):Int) by omega]
  refine Xag hg0 ?_
  show Xbl.B1 (K (N+15)) (N+11) 0 X (X.len:Int) 0 g0=_
  rw[XL,Xbl.B1_eq,t0,X0,XL,w1]
  refine if_of (by decide) (if_of (by decide) (if_of (decide_eq_true (by omega)) ?_))
  rw[Xbl.B1_eq,t1,X1,XL,w2]
  refine if_of (by decide) (if_of (by decide) (if_of (decide_eq_true (by omega)) ?_))
  rw[Xbl.B1_eq,t2,X2,XL,w3]
  refine if_of (by decide) (if_of (by decide) (if_of (decide_eq_true (by omega)) ?_))
  rw[Xbl.B1_eq]
  exact Xac (by decide) rfl
 ·rw[kidsOf_l,exsR_app,exsR_app,exsR_app]
  rfl
 ·refine KW_l (by omega) fun i hi=> ?_
  by_cases c1:i<0+a.len+b.len
  ·simp only[show Nat.blt i (0+a.len+b.len)=true from by rw[Nat.blt_eq];exact c1,cond_true]
   by_cases c2:i<0+a.len
   ·simp only[show Nat.blt i (0+a.len)=true from by rw[Nat.blt_eq];exact c2,cond_true]
    have:Nat.blt i 0=false:=by cases i<;>rfl
    simp only[this,cond_false]
    exact ha.el (by omega)
   ·have:Nat.blt i (0+a.len)=false:=by
     cases hc:Nat.blt i (0+a.len) with
     | false=>rfl
     | true=>rw[Nat.blt_eq] at hc;omega
    simp only[this,cond_false]
    exact hb.el (by omega)
  ·have:Nat.blt i (0+a.len+b.len)=false:=by
    cases hc:Nat.blt i (0+a.len+b.len) with
    | false=>rfl
    | true=>rw[Nat.blt_eq] at hc;omega
   simp only[this,cond_false]
   exact hc.el (by omega)
end Go.Proofs.YtnjandhaeojieaaGreat
/- module.May and module.Same. -/
set_option linter.unusedVariables false
set_option linter.unusedSimpArgs false
namespace Go.Proofs.YtnjandhaeojieaaGreat
open Go.AM
theorem full_sp (N:Nat)(l:T)(o1 n1:Int)(k1:T)(o2 n2:Int)(k2 te ts ta tn tp:T)(m:Md)(he:m.env.length=te.len)(hs:m.sys.length=ts.len)(ha:m.assume.length=ta.len)(hn:m.ensure.length=tn.len)(hp:m.prio.length=tp.len):Xqq (K (N+1)) l o1 n1 k1 o2 n2 k2 te ts ta tn tp=rb (fullM m):=by
 rw[C_module_full_K]
 unfold fullM
 rw[he,hs,ha,hn,hp]
 have e1:(if (te.len:Int)<(ts.len:Int) then (ts.len:Int) else (te.len:Int))=((max te.len ts.len:Nat):Int):=by split<;>omega
 have e2:(if (ta.len:Int)<(tn.len:Int) then (tn.len:Int) else (ta.len:Int))=((max ta.len tn.len:Nat):Int):=by split<;>omega
 rw[e1,e2]
 by_cases c1:12<max te.len ts.len
 ·rw[decide_eq_true c1,Bool.true_or,Bool.true_or]
  exact if_of (decide_eq_true (by omega)) rfl
 ·rw[decide_eq_false c1,Bool.false_or]
  refine Xac (decide_eq_false (by omega)) ?_
  by_cases c2:4<max ta.len tn.len
  ·rw[decide_eq_true c2,Bool.true_or]
   exact if_of (decide_eq_true (by omega)) rfl
  ·rw[decide_eq_false c2,Bool.false_or]
   refine Xac (decide_eq_false (by omega)) ?_
   have:decide ((tp.len:Int)>6)=decide (6<tp.len):=by rw[Bool.eq_iff_iff,decide_eq_true_eq,decide_eq_true_eq];omega
   rw[this];rfl
theorem MayM_sp (l:T)(hl:l.len≤9223372036854775807)(k1 k2 te ts ta tn tp:T)(h1:KW k1)(h2:KW k2)(he:KC te)(hs:KC ts)(ha:KW ta)(hn:KW tn)(hp:KW tp):
  Ev fun N=>∀ o1 n1 o2 n2,Xjf (K N) l o1 n1 k1 o2 n2 k2 te ts ta tn tp=ri (mayM ⟨Xaa l,.mk o1 n1 (Xad k1),.mk o2 n2 (Xad k2),Xca te,Xca ts,Xad ta,Xad tn,Xad tp⟩):=by
 have base:=Ev.imp4 ((MayV_sp l hl).up 2) (Ev.and ((Xwe l hl k1 h1).up 1) ((Xwe l hl k2 h2).up 1)) (Ev.and (Ev.all (k:=te.len) fun i hi=>Xwf l hl _ _ (he.2 i hi).1 (he.2 i hi).2) (Ev.all (k:=ts.len) fun i hi=>Xwf l hl _ _ (hs.2 i hi).1 (hs.2 i hi).2)) (Ev.ge (te.len+ts.len+20)) fun N a b c d=>(⟨a,b,c,d⟩:_∧_∧_∧_)
 by_cases small:ta.len≤4∧tn.len≤4∧tp.len≤6
 ·obtain ⟨t,ct,kt,wt⟩:=concat_sp ha hn hp small.1 small.2.1 small.2.2
  have ltt:t.len=ta.len+tn.len+tp.len:=by
   have:=congrArg List.length kt
   simpa only[Xbn,List.length_append] using this
  refine Ev.step (Ev.step (Ev.step (Ev.imp3 base (ct.up 2) (Ev.and (Ev.all (k:=t.len) fun i hi=>Xwe l hl (t.el i 2) (wt.el hi)) (Ev.ge (t.len+20))) fun N hb hct h3 o1 n1 o2 n2=> ?_)))
  obtain ⟨hv,⟨hN1,hN2⟩,⟨hce,hcs⟩,hN⟩:=hb
  obtain ⟨hNt,hN'⟩:=h3
  rw[Xud]
  unfold mayM
  simp only
  refine Xag hv ?_
  by_cases c1:mayV (Xaa l)=0
  rotate_left
  ·rw[if_pos c1];exact if_of (by simpa [Xal,int_i] using c1) rfl
  rw[if_neg (by simpa using c1)]
  refine Xac (by simp[Xal,int_i,c1]) (Xag (Xio (N+1) false _) (Xag (Xvs (N:=N+1) (now:=false) (o:=o1) (n:=n1) hN1 rfl rfl) ?_))
  by_cases c2:Xcu (Xaa l) (.mk o1 n1 (Xad k1)) 1 false false false=0
  rotate_left
  ·rw[if_pos c2];exact if_of (by simpa [Xal,int_i] using c2) rfl
  rw[if_neg (by simpa using c2)]
  refine Xac (by simp[Xal,int_i,c2]) (Xag (Xio (N+1) true _) (Xag (Xvs (N:=N+1) (now:=true) (o:=o2) (n:=n2) hN2 rfl rfl) ?_))
  by_cases c3:Xcu (Xaa l) (.mk o2 n2 (Xad k2)) 1 true false false=0
  rotate_left
  ·rw[if_pos c3];exact if_of (by simpa [Xal,int_i] using c3) rfl
  rw[if_neg (by simpa using c3)]
  refine Xac (by simp[Xal,int_i,c3]) (Xag (full_sp (N+1) l o1 n1 k1 o2 n2 k2 te ts ta tn tp ⟨Xaa l,.mk o1 n1 (Xad k1),.mk o2 n2 (Xad k2),Xca te,Xca ts,Xad ta,Xad tn,Xad tp⟩ (Xes _) (Xes _) (Xbn _) (Xbn _) (Xbn _)) ?_)
  by_cases c4:fullM ⟨Xaa l,.mk o1 n1 (Xad k1),.mk o2 n2 (Xad k2),Xca te,Xca ts,Xad ta,Xad tn,Xad tp⟩=true
  ·rw[if_pos c4];exact if_of c4 rfl
  rw[if_neg c4]
  have fe:∀ c1 c2:Nat→T,c1 0=l→c2 0= .b true→Xco (K (N+1+1)) te c1 c2=ri (Xeg (Xff (Xaa l) true) (Xca te)):=by
   intro c1 c2 q1 q2
   rw[Xfc]
   have:=firstC_sp (h:=K (N+1)) (t:=te) (c1:=c1) (c2:=c2) (f:=Xff (Xaa l) true) he.1 (fun i hi=>mayB2_sp (hce i hi) q1 q2) te.len 0 (by omega) (N+1) (by omega)
   simpa using this
  have fs:∀ c1 c2:Nat→T,c1 0=l→c2 0= .b false→Xco (K (N+1+1)) ts c1 c2=ri (Xeg (Xff (Xaa l) false) (Xca ts)):=by
   intro c1 c2 q1 q2
   rw[Xfc]
   have:=firstC_sp (h:=K (N+1)) (t:=ts) (c1:=c1) (c2:=c2) (f:=Xff (Xaa l) false) hs.1 (fun i hi=>mayB2_sp (hcs i hi) q1 q2) ts.len 0 (by omega) (N+1) (by omega)
   simpa using this
  refine Xac (by rw[Xal,Xmq];simpa using c4) (Xag (Xrb (N+1) true _) (Xag (fe _ _ rfl rfl) ?_))
  by_cases c5:Xeg (Xff (Xaa l) true) (Xca te)=0
  rotate_left
  ·rw[if_pos c5];exact if_of (by simpa [Xal,int_i] using c5) rfl
  rw[if_neg (by simpa using c5)]
  refine Xac (by simp[Xal,int_i,c5]) (Xag (Xrb (N+1) false _) (Xag (fs _ _ rfl rfl) ?_))
  by_cases c6:Xeg (Xff (Xaa l) false) (Xca ts)=0
  rotate_left
  ·rw[if_pos c6];exact if_of (by simpa [Xal,int_i] using c6) rfl
  rw[if_neg (by simpa using c6)]
  refine Xac (by simp[Xal,int_i,c6]) ?_
  have last:Xip.B0 (K (N+1+1)) (N+1+1) (fun j=>([l,T.i o1,T.i n1,k1,T.i o2,T.i n2,k2,te,ts,ta,tn,tp]:List T).getD j (.b false)) (fun j=>([l,T.i o1,T.i n1,k1,T.i o2,T.i n2,k2,te,ts,ta,tn,tp]:List T).getD j (.b false))=ri (Xeg (fun e=>Xcu (Xaa l) e 1 true false false) (Xad ta++Xad tn++Xad tp)):=by
   have ff:∀ c1 c2:Nat→T,c1 0=l→c2 0= .b true→Xei (K (N+1+1)) (T.l t.len fun i j=>t.el (0+i) j) c1 c2=ri (Xeg (fun e=>Xcu (Xaa l) e 1 true false false) (Xad ta++Xad tn++Xad tp)):=by
    intro c1 c2 q1 q2
    rw[Xjd]
    have hk:Xad (T.l t.len fun i j=>t.el (0+i) j)=Xad t:=by rw[Xpj,Xpj t];refine List.map_congr_left fun i _=> ?_;show Ex.mk (t.el (0+i) 0).int (t.el (0+i) 1).int (Xad (t.el (0+i) 2))=_;rw[Nat.zero_add];rfl
    have:=firstX_sp (h:=K (N+1)) (t:=T.l t.len fun i j=>t.el (0+i) j) (c1:=c1) (c2:=c2) (f:=fun e=>Xcu (Xaa l) e 1 true false false) (by show t.len≤_;omega) (fun i hi=>by
     show Xfz (K (N+1)) (t.el (0+i) 0).int (t.el (0+i) 1).int (t.el (0+i) 2) _ _=ri (Xcu (Xaa l) (.mk (t.el (0+i) 0).int (t.el (0+i) 1).int (Xad (t.el (0+i) 2))) 1 true false false)
     rw[Nat.zero_add]
     exact Xvs (hNt i hi) q1 q2) t.len 0 (by show 0+t.len=t.len;omega) (N+1) (by omega)
    rw[hk,kt,List.drop_zero] at this
    exact this
   rw[Xip.B0_eq]
   exact Xag hct (Xag (Xio (N+1) true _) (Xag (ff _ _ rfl rfl) rfl))
  by_cases c7:0<tp.len
  ·by_cases c8:0<ta.len+tn.len
   ·rw[if_pos ⟨by rw[Xbn];exact c7,by rw[Xbn,Xbn];exact c8⟩]
    refine if_of (decide_eq_true (by show (tp.len:Int)>0;omega)) (if_of (decide_eq_true ?_) rfl)
    show IntKind.wrap .i64 ((ta.len:Int)+(tn.len:Int))>0
    rw[Xaq (by omega) (by omega)];omega
   ·rw[if_neg (by rw[Xbn,Xbn,Xbn];omega)]
    refine if_of (decide_eq_true (by show (tp.len:Int)>0;omega)) (Xac (decide_eq_false ?_) last)
    show ¬IntKind.wrap .i64 ((ta.len:Int)+(tn.len:Int))>0
    rw[Xaq (by omega) (by omega)];omega
  ·rw[if_neg (by rw[Xbn,Xbn,Xbn];omega)]
   exact Xac (decide_eq_false (by show ¬(tp.len:Int)>0;omega)) last
 ·refine Ev.step (Ev.step (Ev.step (base.imp fun N hb o1 n1 o2 n2=> ?_)))
  obtain ⟨hv,⟨hN1,hN2⟩,⟨hce,hcs⟩,hN⟩:=hb
  have hf:fullM ⟨Xaa l,.mk o1 n1 (Xad k1),.mk o2 n2 (Xad k2),Xca te,Xca ts,Xad ta,Xad tn,Xad tp⟩=true:=by
   unfold fullM
   simp only[Xes,Xbn,Bool.or_eq_true,decide_eq_true_eq]
   omega
  rw[Xud]
  unfold mayM
  simp only
  refine Xag hv ?_
  by_cases c1:mayV (Xaa l)=0
  rotate_left
  ·rw[if_pos c1];exact if_of (by simpa [Xal,int_i] using c1) rfl
  rw[if_neg (by simpa using c1)]
  refine Xac (by simp[Xal,int_i,c1]) (Xag (Xio (N+1) false _) (Xag (Xvs (N:=N+1) (now:=false) (o:=o1) (n:=n1) hN1 rfl rfl) ?_))
  by_cases c2:Xcu (Xaa l) (.mk o1 n1 (Xad k1)) 1 false false false=0
  rotate_left
  ·rw[if_pos c2];exact if_of (by simpa [Xal,int_i] using c2) rfl
  rw[if_neg (by simpa using c2)]
  refine Xac (by simp[Xal,int_i,c2]) (Xag (Xio (N+1) true _) (Xag (Xvs (N:=N+1) (now:=true) (o:=o2) (n:=n2) hN2 rfl rfl) ?_))
  by_cases c3:Xcu (Xaa l) (.mk o2 n2 (Xad k2)) 1 true false false=0
  rotate_left
  ·rw[if_pos c3];exact if_of (by simpa [Xal,int_i] using c3) rfl
  rw[if_neg (by simpa using c3)]
  have hfs:=full_sp (N+1) l o1 n1 k1 o2 n2 k2 te ts ta tn tp ⟨Xaa l,.mk o1 n1 (Xad k1),.mk o2 n2 (Xad k2),Xca te,Xca ts,Xad ta,Xad tn,Xad tp⟩ (Xes _) (Xes _) (Xbn _) (Xbn _) (Xbn _)
  rw[hf] at hfs ⊢
  rw[if_pos rfl]
  exact Xac (by simp[Xal,int_i,c3]) (Xag hfs (if_of rfl rfl))
end Go.Proofs.YtnjandhaeojieaaGreat
/- awake of the laws of modules. -/
set_option linter.unusedVariables false
set_option linter.unusedSimpArgs false
set_option maxRecDepth 100000
namespace Go.Proofs.YtnjandhaeojieaaGreat
open Go.AM
theorem KS_one {t:T}(h:t.len=1)(k:KW (t.el 0 4)):KS t:=⟨by omega,fun i hi=>by
 obtain rfl:i=0:=by omega
 exact k⟩
theorem KC_one {t:T}(h:t.len=1)(k:KW (t.el 0 2))(s:KS (t.el 0 3)):KC t:=⟨by omega,fun i hi=>by
 obtain rfl:i=0:=by omega
 exact ⟨k,s⟩⟩
def cut (t:T):T:=T.l t.len fun i j=>t.el (0+i) j
def smV:List Va:=[⟨⟨#[120]⟩,true,1,0,0⟩,⟨⟨#[121]⟩,false,1,0,0⟩]
def yesE:Ex:= .mk 2 1 []
def nxtE:Ex:= .mk 4 0 []
def smM:Md:=⟨smV,yesE,yesE,[⟨yesE,[⟨0,true,.mk 0 0 []⟩]⟩],[⟨yesE,[⟨1,false,nxtE⟩]⟩],[],[],[]⟩
theorem mayV_sm:mayV smV=0:=by decide +kernel
theorem needs_yes {l:List Va}(hm:mayV l=0)(now env sys:Bool):Xcu l yesE 1 now env sys=0:=by
 have hs:=Xfm (l:=l) (e:=yesE) (s:=1) hm (by decide +kernel) (.bool (.inr rfl))
 have z:∀ t,t=3∨t=4→Xhn t yesE=[]:=fun t ht=>(readsE_nil (by decide +kernel)).2 (by rcases ht with rfl|rfl<;>rfl)
 refine needsE_of (by rw[hs]) (by rw[hs]) (fun x hx=> ?_) (fun x hx=> ?_)
 ·rw[z 4 (.inr rfl)] at hx;cases hx
 ·rw[z 3 (.inl rfl)] at hx;cases hx
theorem nxt_may:mayE nxtE=0:=by decide +kernel
theorem sort_nxt:sortE smV nxtE=(1,0):=by
 have:=Xfm (l:=smV) (e:=nxtE) (s:=1) mayV_sm nxt_may (Typed.var (l:=smV) (op:=4) (i:=0) (v:=⟨⟨#[120]⟩,true,1,0,0⟩) (.inr rfl) rfl (by omega))
 exact this
theorem reads_nxt4 (x:Int):x∈Xhn 4 nxtE↔x=0:=by
 rw[Xpe nxt_may]
 show x∈([0]:List Int)↔x=0
 simp
theorem reads_nxt3 (x:Int):¬x∈Xhn 3 nxtE:=by
 rw[Xpe nxt_may]
 show ¬x∈([]:List Int)
 simp
theorem needs_nxt_ok:Xcu smV nxtE 1 true true false=0:=by
 refine needsE_of (by rw[sort_nxt]) (by rw[sort_nxt]) (fun x hx=> ?_) (fun x hx=>absurd hx (reads_nxt3 x))
 rw[(reads_nxt4 x).1 hx]
 rfl
theorem mayM_of {m:Md}(h1:mayV m.vars=0)(h2:Xcu m.vars m.ie 1 false false false=0)(h3:Xcu m.vars m.is 1 true false false=0)(h4:fullM m=false)(h5:Xeg (Xff m.vars true) m.env=0)(h6:Xeg (Xff m.vars false) m.sys=0)(h7:¬(0<m.prio.length∧0<m.assume.length+m.ensure.length))(h8:Xeg (fun e=>Xcu m.vars e 1 true false false) (m.assume++m.ensure++m.prio)=0):mayM m=0:=by
 unfold mayM
 rw[if_neg (by simp[h1]),if_neg (by simp[h2]),if_neg (by simp[h3]),if_neg (by simp[h4]),if_neg (by simp[h5]),if_neg (by simp[h6]),if_neg h7,h8]
theorem mayCmd_of {l:List Va}{env:Bool}{c:Cm}(h1:mayV l=0)(h2:Xcu l c.guard 1 true (!env) false=0)(h3:c.sets.length≤6)(h4:Xqy l env c.sets []=0):Xff l env c=0:=by
 unfold Xff
 rw[if_neg (by simp[h1]),if_neg (by simp[h2]),if_neg (by omega),h4]
theorem mayM_sm:mayM smM=0:=by
 have y:=fun a b c=>needs_yes mayV_sm a b c
 have c1:Xff smV true ⟨yesE,[⟨0,true,.mk 0 0 []⟩]⟩=0:=mayCmd_of mayV_sm (y _ _ _) (by decide) rfl
 have c2:Xff smV false ⟨yesE,[⟨1,false,nxtE⟩]⟩=0:=by
  refine mayCmd_of mayV_sm (y _ _ _) (by decide) ?_
  have e:setE smV false [] ⟨1,false,nxtE⟩=0:=by
   unfold setE
   rw[if_neg (by decide),if_neg (by simp),if_neg (by simp)]
   exact needs_nxt_ok
  simp only[Xqy,e]
  rfl
 exact mayM_of mayV_sm (y _ _ _) (y _ _ _) rfl (firstE_zero.2 fun x hx=>by
  obtain rfl:x=_:=by simpa [smM] using hx
  exact c1) (firstE_zero.2 fun x hx=>by
  obtain rfl:x=_:=by simpa [smM] using hx
  exact c2) (by decide) rfl
end Go.Proofs.YtnjandhaeojieaaGreat
