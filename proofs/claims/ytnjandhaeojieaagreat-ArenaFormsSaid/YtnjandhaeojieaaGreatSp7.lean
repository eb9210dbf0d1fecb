/- What package eval's functions come to. -/
import Derived.Test.YtnjandhaeojieaaGreatMo4
import Derived.Test.YtnjandhaeojieaaGreatSp5
set_option linter.unusedVariables false
set_option linter.unusedSimpArgs false
namespace Go.Proofs.YtnjandhaeojieaaGreat
open Go.AM
theorem bit_sp:Ev fun N=>∀ b,Xpy (K N) b=ri (bitE b):=
 Ev.step (Ev.of fun N b=>by rw[C_eval_bit_K];cases b<;>rfl)
theorem two_sp:Ev fun N=>∀ op a b,9≤op→op≤14→-1000≤a→a≤1000→-1000≤b→b≤1000→C_eval_two (K N) op a b=ri (twoE op a b):=by
 refine Ev.step (bit_sp.imp fun N hb op a b h1 h2 h3 h4 h5 h6=> ?_)
 rw[C_eval_two_K,hb,hb,hb,Xfd,Xfd,Xfd]
 simp only[Xal,int_i,Bool.cond_eq_ite,decide_eq_true_eq,beq_iff_eq]
 have hm1:a*b≤1000000:=by
  have h7:a.natAbs≤1000:=by omega
  have h8:b.natAbs≤1000:=by omega
  have h9:=Nat.mul_le_mul h7 h8
  rw[←Int.natAbs_mul] at h9
  omega
 have hm2: -1000000≤a*b:=by
  have h7:a.natAbs≤1000:=by omega
  have h8:b.natAbs≤1000:=by omega
  have h9:=Nat.mul_le_mul h7 h8
  rw[←Int.natAbs_mul] at h9
  omega
 rw[Xaq (a:=a+b) (by omega) (by omega),Xaq (a:=a-b) (by omega) (by omega),Xaq (a:=a*b) (by omega) (by omega)]
 unfold twoE
 repeat' split
 all_goals rfl
theorem lazy_sp:Ev fun N=>∀ op a,-1000≤a→a≤1000→Xqv (K N) op a=rii (lazyE op a).1 (lazyE op a).2:=by
 refine ⟨5,fun N hN op a h1 h2=> ?_⟩
 obtain ⟨N,rfl⟩:∃ M,N=M+2:=⟨N-2,by omega⟩
 rw[C_eval_lazy_K]
 simp only[Xfg.B0_eq,Bool.cond_eq_ite,decide_eq_true_eq,beq_iff_eq]
 rw[Xaq (a:=1-a) (by omega) (by omega),Xaq (a:=2-a) (by omega) (by omega)]
 unfold lazyE
 repeat' split
 all_goals first
  | rfl
  | (exfalso;omega)
  | (exfalso;simp_all;done)
theorem Ints.at {t:T}{l:List Int}(h:Ints t l){n:Int}{x:Int}(h0:0≤n)(hx:l[n.toNat]? =some x):n<(t.len:Int)∧(t.el n.toNat 0).int=x:=by
 have h1:=h.1
 have h2:=(List.getElem?_eq_some_iff.1 hx).1
 exact ⟨by omega,h.2 _ _ hx⟩
theorem Xnj {k:T}{a:Ex}{r:List Ex}(h:Xad k=a::r):0<k.len∧exAt k 0=a:=by
 have h1:0<k.len:=by rw[←Xbn,h];simp
 have h2:=Xlo k h1
 rw[h] at h2
 exact ⟨h1,(Option.some.inj h2).symm⟩
theorem Xiq {k:T}{a b:Ex}{r:List Ex}(h:Xad k=a::b::r):1<k.len∧exAt k 1=b:=by
 have h1:1<k.len:=by rw[←Xbn,h];simp
 have h2:=Xlo k h1
 rw[h] at h2
 exact ⟨h1,(Option.some.inj h2).symm⟩
theorem kids_cons3 {k:T}{a b c:Ex}{r:List Ex}(h:Xad k=a::b::c::r):2<k.len∧exAt k 2=c:=by
 have h1:2<k.len:=by rw[←Xbn,h];simp
 have h2:=Xlo k h1
 rw[h] at h2
 exact ⟨h1,(Option.some.inj h2).symm⟩
theorem value_sp {l:List Va}:∀ k,KW k→Ev fun N=>∀ tn tx now next op n s,Ints tn now→Ints tx next→Typed l (.mk op n (Xad k)) s→rdOk l now next (.mk op n (Xad k))→
  Xez (K N) tn tx op n k=rii (valE now next (.mk op n (Xad k))).1 (valE now next (.mk op n (Xad k))).2:=by
 refine Xkc fun k ih hk=> ?_
 refine Ev.step (Ev.imp2 (Ev.imp3 two_sp lazy_sp (Ev.ge 5) fun N a b c=>(⟨a,b,c⟩:_∧_∧_)) (Ev.all (k:=k.len) fun i hi=>ih i hi (hk.el hi)) fun N F hc tn tx now next op n s hn hx ht hr=> ?_)
 obtain ⟨htwo,hlazy,hN⟩:=F
 obtain ⟨N,rfl⟩:∃ M,N=M+2:=⟨N-2,by omega⟩
 rw[Xtt]
 have kid:∀ i e s',i<k.len→exAt k i=e→Typed l e s'→rdOk l now next e→Xez (K (N+2)) tn tx (k.el i 0).int (k.el i 1).int (k.el i 2)=rii (valE now next e).1 (valE now next e).2:=by
  intro i e s' hi he ht' hr'
  subst he
  exact hc i hi tn tx now next _ _ s' hn hx ht' hr'
 generalize hks:Xad k=ks at ht hr
 have hlen:k.len=ks.length:=by rw[←hks,Xbn]
 rw[Xbx.B0_eq,Xbx.B0_eq]
 simp only[Bool.cond_eq_ite,decide_eq_true_eq,beq_iff_eq,Bool.and_eq_true,bne_iff_ne,ne_eq]
 cases ht with
 | num h1 h2=>rw[if_pos rfl,if_pos rfl,Xss _ _ (.inl rfl)];rfl
 | bool h=>rw[if_neg (by omega),if_pos rfl,Xss _ _ (.inr rfl)];rfl
 | @var _ i v ho hv hi=>
  simp only[rdOk] at hr
  rcases ho with rfl|rfl
  ·obtain ⟨x,h1,_⟩:=hr.1 rfl v (by simpa using hv)
   obtain ⟨h2,h3⟩:=hn.at (n:=(i:Int)) (by omega) h1
   rw[if_neg (by omega),if_neg (by omega),if_pos rfl,if_pos ⟨by omega,h2⟩,h3,valE_now,List.getD_eq_getElem?_getD,h1]
   rfl
  ·obtain ⟨x,h1,_⟩:=hr.2.1 rfl v (by simpa using hv)
   obtain ⟨h2,h3⟩:=hx.at (n:=(i:Int)) (by omega) h1
   rw[if_neg (by omega),if_neg (by omega),if_neg (by omega),if_pos rfl,if_pos ⟨by omega,h2⟩,h3,valE_next,List.getD_eq_getElem?_getD,h1]
   rfl
 | @not a ha=>
  simp only[rdOk,rdOkL] at hr
  obtain ⟨g1,g2⟩:=Xnj hks
  rw[kid 0 a 1 g1 g2 ha hr.2.2.1,Xfr,Xal,Xer,int_i,int_i,valE_not]
  rw[if_neg (by omega),if_neg (by omega),if_neg (by omega),if_neg (by omega),if_pos (by omega)]
  by_cases c:(valE now next a).2=0
  ·have hb:=Xhk ha hr.2.2.1 c
   rw[if_neg (by simpa using c),if_pos (by omega),if_neg (by simpa using c),hlazy _ _ hb.1 hb.2.1,Xfr,Xal,Xer,int_i,int_i]
   have hl:lazyE 5 (valE now next a).1=(-1,1-(valE now next a).1):=by simp[lazyE]
   rw[hl,if_pos (by simp)]
   rfl
  ·rw[if_pos c,if_pos c];rfl
 | @logic _ a b ho ha hb=>
  simp only[rdOk,rdOkL] at hr
  obtain ⟨g1,g2⟩:=Xnj hks
  obtain ⟨g3,g4⟩:=Xiq hks
  rw[kid 0 a 1 g1 g2 ha hr.2.2.1,Xfr,Xal,Xer,int_i,int_i,Xst _ _ ho]
  rw[if_neg (by omega),if_neg (by omega),if_neg (by omega),if_neg (by omega),if_pos (by omega)]
  by_cases c:(valE now next a).2=0
  ·have hbd:=Xhk ha hr.2.2.1 c
   rw[if_neg (by simpa using c),if_pos (by omega),if_neg (by simpa using c),hlazy _ _ hbd.1 hbd.2.1,Xfr,Xal,Xer,int_i,int_i]
   have hl:lazyE op (valE now next a).1=if op=6∧(valE now next a).1=0 then (-1,0) else if op=7∧(valE now next a).1=1∨op=8∧(valE now next a).1=0 then (-1,1) else (1,0):=by
    unfold lazyE
    rw[if_neg (show ¬op=5 by omega),if_neg (show ¬op=15 by omega)]
   rw[hl]
   by_cases c1:op=6∧(valE now next a).1=0
   ·rw[if_pos c1,if_pos c1];rfl
   ·rw[if_neg c1,if_neg c1]
    by_cases c2:op=7∧(valE now next a).1=1∨op=8∧(valE now next a).1=0
    ·rw[if_pos c2,if_pos c2];rfl
    ·rw[if_neg c2,if_neg c2,if_neg (by simp),Xbx.B1_eq]
     simp only[Bool.cond_eq_ite,decide_eq_true_eq,Bool.and_eq_true]
     rw[if_pos ⟨by omega,by omega⟩]
     have e:(1:Int).toNat=1:=rfl
     rw[e,kid 1 b 1 g3 g4 hb hr.2.2.2.1,Xfr]
     rfl
  ·rw[if_pos c,if_pos c];rfl
 | @same s' a b ha hb=>
  simp only[rdOk,rdOkL] at hr
  obtain ⟨g1,g2⟩:=Xnj hks
  obtain ⟨g3,g4⟩:=Xiq hks
  rw[kid 0 a s' g1 g2 ha hr.2.2.1,Xfr,Xal,Xer,int_i,int_i,Xkb _ _ (by omega)]
  rw[if_neg (by omega),if_neg (by omega),if_neg (by omega),if_neg (by omega),if_pos (by omega)]
  by_cases c:(valE now next a).2=0
  ·have hbd:=Xhk ha hr.2.2.1 c
   rw[if_neg (by simpa using c),if_neg (by omega),if_neg (by omega),if_pos (by omega),if_neg (by simpa using c),kid 1 b s' g3 g4 hb hr.2.2.2.1,Xfr,Xal,Xer,int_i,int_i]
   by_cases c':(valE now next b).2=0
   ·have hbd':=Xhk hb hr.2.2.2.1 c'
    rw[if_neg (by simpa using c'),if_neg (by simpa using c'),htwo _ _ _ (by omega) (by omega) hbd.1 hbd.2.1 hbd'.1 hbd'.2.1,Xfd,Xal,int_i]
    generalize twoE 9 (valE now next a).1 (valE now next b).1=q
    repeat' split
    all_goals first
     | rfl
     | (exfalso;omega)
   ·rw[if_pos c',if_pos c'];rfl
  ·rw[if_pos c,if_pos c];rfl
 | @less _ a b ho ha hb=>
  simp only[rdOk,rdOkL] at hr
  obtain ⟨g1,g2⟩:=Xnj hks
  obtain ⟨g3,g4⟩:=Xiq hks
  rw[kid 0 a 2 g1 g2 ha hr.2.2.1,Xfr,Xal,Xer,int_i,int_i,Xkb _ _ (by omega)]
  rw[if_neg (by omega),if_neg (by omega),if_neg (by omega),if_neg (by omega),if_pos (by omega)]
  by_cases c:(valE now next a).2=0
  ·have hbd:=Xhk ha hr.2.2.1 c
   rw[if_neg (by simpa using c),if_neg (by omega),if_neg (by omega),if_pos (by omega),if_neg (by simpa using c),kid 1 b 2 g3 g4 hb hr.2.2.2.1,Xfr,Xal,Xer,int_i,int_i]
   by_cases c':(valE now next b).2=0
   ·have hbd':=Xhk hb hr.2.2.2.1 c'
    rw[if_neg (by simpa using c'),if_neg (by simpa using c'),htwo _ _ _ (by omega) (by omega) hbd.1 hbd.2.1 hbd'.1 hbd'.2.1,Xfd,Xal,int_i]
    generalize twoE op (valE now next a).1 (valE now next b).1=q
    repeat' split
    all_goals first
     | rfl
     | (exfalso;omega)
   ·rw[if_pos c',if_pos c'];rfl
  ·rw[if_pos c,if_pos c];rfl
 | @sum _ a b ho ha hb=>
  simp only[rdOk,rdOkL] at hr
  obtain ⟨g1,g2⟩:=Xnj hks
  obtain ⟨g3,g4⟩:=Xiq hks
  rw[kid 0 a 2 g1 g2 ha hr.2.2.1,Xfr,Xal,Xer,int_i,int_i,Xkb _ _ (by omega)]
  rw[if_neg (by omega),if_neg (by omega),if_neg (by omega),if_neg (by omega),if_pos (by omega)]
  by_cases c:(valE now next a).2=0
  ·have hbd:=Xhk ha hr.2.2.1 c
   rw[if_neg (by simpa using c),if_neg (by omega),if_neg (by omega),if_pos (by omega),if_neg (by simpa using c),kid 1 b 2 g3 g4 hb hr.2.2.2.1,Xfr,Xal,Xer,int_i,int_i]
   by_cases c':(valE now next b).2=0
   ·have hbd':=Xhk hb hr.2.2.2.1 c'
    rw[if_neg (by simpa using c'),if_neg (by simpa using c'),htwo _ _ _ (by omega) (by omega) hbd.1 hbd.2.1 hbd'.1 hbd'.2.1,Xfd,Xal,int_i]
    generalize twoE op (valE now next a).1 (valE now next b).1=q
    repeat' split
    all_goals first
     | rfl
     | (exfalso;omega)
   ·rw[if_pos c',if_pos c'];rfl
  ·rw[if_pos c,if_pos c];rfl
 | @ite _ a b c ha hb hc=>
  simp only[rdOk,rdOkL] at hr
  obtain ⟨g1,g2⟩:=Xnj hks
  obtain ⟨g3,g4⟩:=Xiq hks
  obtain ⟨g5,g6⟩:=kids_cons3 hks
  rw[kid 0 a 1 g1 g2 ha hr.2.2.1,Xfr,Xal,Xer,int_i,int_i,valE_ite]
  rw[if_neg (by omega),if_neg (by omega),if_neg (by omega),if_neg (by omega),if_pos (by omega)]
  by_cases q:(valE now next a).2=0
  ·have hbd:=Xhk ha hr.2.2.1 q
   rw[if_neg (by simpa using q),if_neg (by omega),if_pos rfl,if_neg (by simpa using q),hlazy _ _ hbd.1 hbd.2.1,Xfr,Xal,Xer,int_i,int_i]
   have hl:lazyE 15 (valE now next a).1=(2-(valE now next a).1,0):=by simp[lazyE]
   rw[hl]
   have h1:=hbd.2.2 rfl
   rw[if_neg (by simp only;omega),if_neg (by omega),Xbx.B1_eq]
   simp only[Bool.cond_eq_ite,decide_eq_true_eq,Bool.and_eq_true]
   rw[if_pos ⟨by omega,by omega⟩]
   rcases h1 with h1|h1<;>rw[h1]
   ·have e:((2:Int)-0).toNat=2:=rfl
    rw[e,kid 2 c s g5 g6 hc hr.2.2.2.2.1,Xfr]
    rfl
   ·have e:((2:Int)-1).toNat=1:=rfl
    rw[e,kid 1 b s g3 g4 hb hr.2.2.2.1,Xfr]
    rfl
  ·rw[if_pos q,if_pos q];rfl
end Go.Proofs.YtnjandhaeojieaaGreat
set_option linter.unusedVariables false
set_option linter.unusedSimpArgs false
namespace Go.Proofs.YtnjandhaeojieaaGreat
open Go.AM
theorem Xvg:∀ (l:List Va) (s:Int),0≤s→(∀ v∈l,Xdt v=0∧0<sizeV v)→∀ (i:Nat) (v:Va),l[i]? =some v→∃ x:Int,(Xap l s)[i]? =some x∧lowV v≤x∧x<lowV v+sizeV v
 | [],_,_,_,i,v,h=>by simp at h
 | w::r,s,h0,hp,i,v,h=>by
  have hw:=hp w (List.mem_cons_self ..)
  have hmod0:0≤Int.tmod s (sizeV w):=Int.tmod_nonneg _ h0
  have hmod1:Int.tmod s (sizeV w)<sizeV w:=Int.tmod_lt_of_pos _ hw.2
  cases i with
  | zero=>
   obtain rfl:w=v:=by simpa using h
   exact ⟨_,rfl,by omega,by omega⟩
  | succ i=>
   obtain ⟨x,h1,h2⟩:=Xvg r (Int.tdiv s (sizeV w)) (Int.tdiv_nonneg h0 (by omega)) (fun v hv=>hp v (List.mem_cons_of_mem _ hv)) i v (by simpa using h)
   exact ⟨x,by simpa [Xap] using h1,h2⟩
theorem var_range {v:Va}(h:Xdt v=0)(hp:0<sizeV v){x:Int}(h1:lowV v≤x)(h2:x<lowV v+sizeV v): -1000≤x∧x≤1000∧(v.sort=1→x=0∨x=1):=by
 unfold lowV sizeV at *
 rcases sortedV_sort h with hs|hs
 ·rw[if_pos hs] at h1 h2
  rw[if_pos hs] at h2
  exact ⟨by omega,by omega,fun _=>by omega⟩
 ·rw[if_neg (show ¬v.sort=1 by omega)] at h1 h2 hp
  rw[if_neg (show ¬v.sort=1 by omega)] at h2
  split at hp
  ·rename_i h3
   rw[if_pos h3] at h2
   exact ⟨by omega,by omega,fun h=>by omega⟩
  ·omega
theorem Xjh {l:List Va}{s:Int}(h:Xcc l s=true):Vals l (Xap l s):=by
 have h1:mayV l=0∧0≤s∧s<Xcz l:=of_decide_eq_true h
 have hp:=Xkq (Xfa h1.1)
 intro n v hv
 obtain ⟨x,h2,h3,h4⟩:=Xvg l s h1.2.1 hp n.toNat v hv
 have:=hp v (List.mem_of_getElem? hv)
 exact ⟨x,h2,var_range this.1 this.2 h3 h4⟩
theorem sortE_ok {l:List Va}{e:Ex}(h:(sortE l e).2=0):mayV l=0∧mayE e=0∧Xfl e=true∧Xni e=true∧sortE l e=ofE l e∧Typed l e (sortE l e).1:=by
 unfold sortE at h
 split at h
 ·rename_i h1;exact absurd h h1
 ·rename_i h1
  have h1:mayV l=0:=by simpa using h1
  split at h
  ·rename_i h2;exact absurd h h2
  ·rename_i h2
   have h2:mayE e=0:=by simpa using h2
   have h3:Xfl e=true∧Xni e=true:=by
    unfold mayE at h2
    split at h2
    ·split at h2
     ·exact ⟨by assumption,by assumption⟩
     ·cases h2
    ·cases h2
   have e1:sortE l e=ofE l e:=by unfold sortE;rw[if_neg (by simpa using h1),if_neg (by simpa using h2)]
   exact ⟨h1,h2,h3.1,h3.2,e1,by rw[e1];exact (Xvm (Xtg h1) e h3.1).1 h⟩
theorem Value_sp (l:T)(hl:l.len≤9223372036854775807)(k:T)(hk:KW k):Ev fun N=>∀ op n now next,Xol (K N) l op n k now next=rii (Xfq (Xaa l) (.mk op n (Xad k)) now next).1 (Xfq (Xaa l) (.mk op n (Xad k)) now next).2:=by
 refine Ev.step (Ev.imp3 (Of_sp l hl k hk) (Xwc l hl) (value_sp (l:=Xaa l) k hk) fun N h1 h2 h3 op n now next=> ?_)
 rw[C_eval_Value_K,h1,Xfr,Xer,int_i]
 unfold Xfq
 simp only[Bool.cond_eq_ite,bne_iff_ne,ne_eq]
 by_cases c1:(sortE (Xaa l) (.mk op n (Xad k))).2=0
 ·rw[if_neg (by simpa using c1),if_neg (by simpa using c1)]
  obtain ⟨ta,ha,ia⟩:=h2 now
  obtain ⟨tb,hb,ib⟩:=h2 next
  rw[ha,Xrk,hb,Xrk,Xer,Xer,Xmq,Xmq,Xal,Xal]
  cases ca:Xcc (Xaa l) now with
  | false=>simp only[Bool.not_false,if_true,true_or];rfl
  | true=>
   cases cb:Xcc (Xaa l) next with
   | false=>simp only[Bool.not_true,Bool.not_false,if_true,Bool.false_eq_true,if_false,or_true];rfl
   | true=>
    have ht:=(sortE_ok c1).2.2.2.2.2
    have:=h3 _ _ _ _ op n _ (ia ca).shift (ib cb).shift ht (Vals.rdOk (Xjh ca) (Xjh cb) _)
    simp only[Bool.not_true,Bool.false_eq_true,if_false,Bool.true_eq_false,or_self]
    rw[this,Xfr]
    rfl
 ·rw[if_pos c1,if_pos c1];rfl
theorem True_sp (l:T)(hl:l.len≤9223372036854775807)(k:T)(hk:KW k):Ev fun N=>∀ op n now next,Xii (K N) l op n k now next=rb (trueE (Xaa l) (.mk op n (Xad k)) now next):=by
 refine Ev.step (Ev.imp2 (Of_sp l hl k hk) (Value_sp l hl k hk) fun N h1 h2 op n now next=> ?_)
 rw[C_eval_True_K,h1,Xfr,Xer,Xal,int_i,int_i,h2,Xfr,Xal,Xer,int_i,int_i]
 unfold trueE
 simp only[Bool.cond_eq_ite,bne_iff_ne,ne_eq,beq_iff_eq]
 generalize sortE (Xaa l) (.mk op n (Xad k))=s
 generalize Xfq (Xaa l) (.mk op n (Xad k)) now next=v
 by_cases c1:s.2=0
 ·rw[if_neg (by simpa using c1)]
  by_cases c2:s.1=1
  ·rw[if_neg (by simpa using c2)]
   by_cases c3:v.2=0
   ·rw[if_pos c3]
    refine congrArg rb ?_
    rw[Bool.eq_iff_iff]
    simp[c1,c2,c3]
   ·rw[if_neg c3];simp[c1,c2,c3,rb]
  ·rw[if_pos c2];simp[c1,c2,rb]
 ·rw[if_pos c1];simp[c1,rb]
end Go.Proofs.YtnjandhaeojieaaGreat
