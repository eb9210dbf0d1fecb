/- Variables and commands as texts, and the lines of a builder. -/
import Derived.Test.YtpjedhbfkfobcaaGreatDoorSh3
import Derived.Test.YtpjedhbfkfobcaaGreatDoorLa30
set_option linter.unusedVariables false
set_option linter.unusedSimpArgs false
namespace Go.AM
open Go.Proofs.YtpjedhbfkfobcaaGreatDoor
def Bytes (t:T)(l:List UInt8):Prop:=t.len=l.length∧∀ i b,l[i]? =some b→(t.el i 0).int=(b.toNat:Int)
theorem bt_get {s:ByteArray}{i:Nat}{b:UInt8}(h:s.data.toList[i]? =some b):bt s i=(b.toNat:Int):=by
 unfold bt
 rw[Array.getElem?_toList] at h
 rw[Array.getD_eq_getD_getElem?,h]
 rfl
theorem Bytes.app {n:Nat}{g:Nat→Nat→T}{l:List UInt8}(h:Bytes (T.l n g) l)(s:ByteArray):Bytes (T.l (n+s.size) (fun i j=>(bif Nat.blt i n then (g i j) else (T.i (bt s (i-n)))))) (l++s.data.toList):=by
 have hn:n=l.length:=h.1
 refine ⟨by rw[List.length_append,←Xry,←hn];rfl,fun i b hi=> ?_⟩
 show ((bif Nat.blt i n then (g i 0) else (T.i (bt s (i-n))))).int=_
 by_cases c:i<l.length
 ·rw[show Nat.blt i n=true by rw[Nat.blt_eq];omega]
  rw[List.getElem?_append_left c] at hi
  exact h.2 i b hi
 ·rw[show Nat.blt i n=false by cases hb:Nat.blt i n with|false=>rfl|true=>rw[Nat.blt_eq] at hb;omega]
  rw[List.getElem?_append_right (by omega),←hn] at hi
  exact bt_get hi
theorem Bytes.of {n:Nat}{g:Nat→Nat→T}{l:List UInt8}(h:Bytes (T.l n g) l):Xpj n g=l∧allU8 n g=true:=by
 have hn:n=l.length:=h.1
 constructor
 ·apply List.ext_getElem?
  intro i
  unfold Xpj
  by_cases c:i<n
  ·have e:=h.2 i l[i] (List.getElem?_eq_getElem (by omega))
   have e:(g i 0).int=(l[i].toNat:Int):=e
   rw[List.getElem?_map,List.getElem?_range c,List.getElem?_eq_getElem (by omega)]
   simp[e]
  ·rw[List.getElem?_eq_none (by simp;omega),List.getElem?_eq_none (by omega)]
 ·unfold allU8
  rw[List.all_eq_true]
  intro i hi
  rw[List.mem_range] at hi
  have e:=h.2 i l[i] (List.getElem?_eq_getElem (by omega))
  have e:(g i 0).int=(l[i].toNat:Int):=e
  have:=l[i].toNat_lt
  rw[e]
  simp
  omega
theorem side_len (b:Bool):(sideW b).length=3:=by cases b<;>rfl
theorem setsW_cons (l:List Va)(f:Bool)(s:Se)(r:List Se):setsW l f (s::r)=(bif f then [32,100,111,32] else [44,32])++(Xdw l s.var++([32,58,61,32]++(toW l s++setsW l false r))):=rfl
end Go.AM
namespace Go.Proofs.YtpjedhbfkfobcaaGreatDoor
open Go.AM
theorem check_sp (N n:Nat)(g:Nat→Nat→T):Xey (K (N+1)) n g=some (lookR [(0,T.l n g)]):=by
 have e:Xey (K (N+1)) n g=checkX [.ptr HB 0] [(HB,.box 63 [.ptr HB 0,.row (HB+9) 0 n]),(HB+9,.row 5 n g)]:=by kernel_rfl
 rw[e]
 unfold checkX
 exact if_of (by rw[Nat.beq_refl n];rfl) rfl
theorem check_sp1 (N n:Nat)(g:Nat→Nat→T):Xef (K (N+1)) n g=some (lookR [(0,T.l n g)]):=by
 have e:Xef (K (N+1)) n g=checkX [.ptr HB 0] [(HB,.box 63 [.clo NPF [],.row (HB+9) 0 n]),(HB+9,.row 5 n g)]:=by kernel_rfl
 rw[e]
 unfold checkX
 exact if_of (by rw[Nat.beq_refl n];rfl) rfl
theorem string_sp (N n:Nat)(g:Nat→Nat→T){l:List UInt8}(h:Bytes (T.l n g) l)(hn:0<n):Xft (K (N+1)) n g=rs l:=by
 have e:Xft (K (N+1)) n g=stringX [.ptr HB 0] [(HB,.box 63 [.ptr HB 0,.row (HB+9) 0 n]),(HB+9,.row 5 n g)]:=by kernel_rfl
 obtain ⟨h1,h2⟩:=h.of
 rw[e]
 unfold stringX
 show (bif _ then some (lookR [(0,T.s ⟨(Xpj n g).toArray⟩)]) else none)=_
 rw[h1]
 refine if_of ?_ rfl
 rw[Nat.beq_refl n,h2,show Nat.blt 0 n=true by rw[Nat.blt_eq];exact hn]
 rfl
theorem line_sp (N n:Nat)(g:Nat→Nat→T)(s:List UInt8){l:List UInt8}(h:Bytes (T.l n g) l)(hb:l.length+s.length≤1000000):
  ∃ n' g',Xez (K (N+3)) n (bs s) g=some (lookR [(0,T.l n' g')])∧Bytes (T.l n' g') (l++(s++[10])):=by
 have hn:n=l.length:=h.1
 have hz:(bs (s++[10])).size=s.length+1:=by rw[Xrf,List.length_append];rfl
 have hap:=h.app (bs (s++[10]))
 rw[bs_list] at hap
 refine ⟨_,_,?_,hap⟩
 ·rw[C_show_Module_1_K,show ByteArray.mk #[10]=bs [10] from rfl,Xdi]
  refine if_of (Xbr (by simp only[List.length_singleton];omega)) (Xaj (r:=lookR [(0,T.i ((bs (s++[10])).size:Int)),(1,T.l (n+(bs (s++[10])).size) (fun i j=>(bif Nat.blt i n then (g i j) else (T.i (bt (bs (s++[10])) (i-n))))))]) ?_ rfl)
  rw[Xje]
  exact Xaj (check_sp N n g) (if_of (decide_eq_true (by show n+(bs (s++[10])).size≤_;rw[hz];omega)) rfl)
theorem line_sp1 (N n:Nat)(g:Nat→Nat→T)(s:List UInt8){l:List UInt8}(h:Bytes (T.l n g) l)(hb:l.length+s.length≤1000000):
  ∃ n' g',Xhb (K (N+3)) n (bs s) g=some (lookR [(0,T.l n' g')])∧Bytes (T.l n' g') (l++(s++[10])):=by
 have hn:n=l.length:=h.1
 have hz:(bs (s++[10])).size=s.length+1:=by rw[Xrf,List.length_append];rfl
 have hap:=h.app (bs (s++[10]))
 rw[bs_list] at hap
 refine ⟨_,_,?_,hap⟩
 ·rw[Xqq,show ByteArray.mk #[10]=bs [10] from rfl,Xdi]
  refine if_of (Xbr (by simp only[List.length_singleton];omega)) (Xaj (r:=lookR [(0,T.i ((bs (s++[10])).size:Int)),(1,T.l (n+(bs (s++[10])).size) (fun i j=>(bif Nat.blt i n then (g i j) else (T.i (bt (bs (s++[10])) (i-n))))))]) ?_ rfl)
  rw[Xim]
  exact Xaj (check_sp1 N n g) (if_of (decide_eq_true (by show n+(bs (s++[10])).size≤_;rw[hz];omega)) rfl)
theorem side_sp (N:Nat)(b:Bool):Xkx (K (N+1)) b=rs (sideW b):=by
 rw[C_show_side_K]
 cases b<;>rfl
theorem variable_sp (N:Nat)(v:Va)(h:VarOk v):Xiv (K (N+2)) v.name v.env v.sort v.lo v.hi=rs (varW v):=by
 have l1:=side_len v.env
 have l2:=h.name.len
 have en:v.name=bs v.name.data.toList:=(bs_eq _).symm
 rw[C_show_variable_K]
 generalize hw:v.name.data.toList=w at *
 rw[en]
 rcases h.sort with ⟨a,b,c⟩|⟨a,b,c,d⟩
 ·have e:varW v=((sideW v.env++[32])++w)++[32,58,32,98,111,111,108,59]:=by
   unfold varW Xlg
   rw[if_pos a,hw]
   simp
  rw[e]
  refine if_of (by simpa using a) (Xaj (side_sp N _) ?_)
  rw[Xar,str_s,show ByteArray.mk #[32]=bs [32] from rfl,show ByteArray.mk #[32,58,32,98,111,111,108,59]=bs [32,58,32,98,111,111,108,59] from rfl]
  simp only[Xdi]
  refine if_of (Xbr ?_) (if_of (Xbr ?_) (if_of (Xbr ?_) rfl))<;>(first|omega|(simp only[List.length_append,List.length_cons,List.length_nil];omega))
 ·have m1:=Xnq (x:=v.lo) (by omega) (by omega)
  have m2:=Xnq (x:=v.hi) (by omega) (by omega)
  have e:varW v=((((((sideW v.env++[32])++w)++[32,58,32])++Lib.itoa v.lo)++[46,46])++Lib.itoa v.hi)++[59]:=by
   unfold varW Xlg
   rw[if_neg (by omega),hw]
   simp
  rw[e]
  refine Xag (by simp;omega) (Xaj (side_sp N _) ?_)
  rw[Xar,str_s,show ByteArray.mk #[32]=bs [32] from rfl,show ByteArray.mk #[32,58,32]=bs [32,58,32] from rfl,show ByteArray.mk #[46,46]=bs [46,46] from rfl,show ByteArray.mk #[59]=bs [59] from rfl]
  simp only[Xdi]
  refine if_of (Xbr ?_) (if_of (Xbr ?_) (if_of (Xbr ?_) (Xaj (itoa_sp N v.lo (by omega) (by omega)) ?_)))
  any_goals (first|omega|(simp only[List.length_append,List.length_cons,List.length_nil];omega))
  rw[Xar,str_s]
  simp only[Xdi]
  refine if_of (Xbr ?_) (if_of (Xbr ?_) (Xaj (itoa_sp N v.hi (by omega) (by omega)) ?_))
  any_goals (first|omega|(simp only[List.length_append,List.length_cons,List.length_nil];omega))
  rw[Xar,str_s]
  simp only[Xdi]
  refine if_of (Xbr ?_) (if_of (Xbr ?_) rfl)<;>(first|omega|(simp only[List.length_append,List.length_cons,List.length_nil];omega))
structure SetWalk (l t:T)(i:Nat):Prop where
 lo:0≤(t.el i 0).int
 hi:(t.el i 0).int<(l.len:Int)
 name:Xdw (Xaa l) (t.el i 0).int=((l.el (t.el i 0).int.toNat 0).str).data.toList
 short:(Xdw (Xaa l) (t.el i 0).int).length≤16
 text:(t.el i 1).bool=false→(textE (Xaa l) (seAt t i).e).length≤1800
theorem Xpy {l t:T}{env:Bool}(hm:mayV (Xaa l)=0)(hs:Xhw (Xaa l) env (Xcr t) []=0){i:Nat}(hi:i<t.len):SetWalk l t i∧((t.el i 1).bool=false→∃ s,Typed (Xaa l) (seAt t i).e s):=by
 have hmem:seAt t i∈Xcr t:=List.mem_of_getElem? (setsOf_get t hi)
 have hn:=Xsk hm
 have ho:=(setsGo_ok hs).1 _ hmem
 have h0:0≤(t.el i 0).int:=ho.1
 have h1:(t.el i 0).int<((Xaa l).length:Int):=ho.2.1
 have h2:=(Xoz hn h0 h1).len
 have h1':(t.el i 0).int<(l.len:Int):=by rw[Xcc] at h1;exact h1
 have e:Xdw (Xaa l) (t.el i 0).int=((l.el (t.el i 0).int.toNat 0).str).data.toList:=by
  have:=Xmn (l:=Xaa l) (Xfd l (i:=(t.el i 0).int.toNat) (by omega))
  rw[Int.toNat_of_nonneg h0] at this
  exact this
 have key:∀ {ss:List Se} {was:List Int},Xhw (Xaa l) env ss was=0→∀ s∈ss,s.any=false→(sortE (Xaa l) s.e).2=0:=by
  intro ss
  induction ss with
  | nil=>intro was _ s hs;cases hs
  | cons x r ih=>
   intro was h s hs ha
   simp only[Xhw] at h
   by_cases c:setE (Xaa l) env was x=0
   case neg=>rw[if_pos c] at h;exact absurd h c
   rw[if_neg (by simpa using c)] at h
   rcases List.mem_cons.1 hs with rfl|hs
   ·unfold setE at c
    split at c
    ·exact absurd c (by omega)
    ·split at c
     ·exact absurd c (by omega)
     ·rw[if_neg (by simp[ha])] at c
      exact (Xhe c).1
   ·exact ih h s hs ha
 refine ⟨⟨h0,h1',e,h2,fun ha=> ?_⟩,fun ha=> ?_⟩
 ·exact (Xkr (key hs _ hmem ha)).2
 ·exact ⟨_,(Xkr (key hs _ hmem ha)).1⟩
section
variable {h:H}{l t:T}
theorem shSets (ht:t.len≤6)(hw:∀ i,i<t.len→SetWalk l t i)(hx:∀ i,i<t.len→(t.el i 1).bool=false→Xcj h l (t.el i 2).int (t.el i 3).int (t.el i 4)=rs (textE (Xaa l) (seAt t i).e)):
  ∀ (m i:Nat),i+m=t.len→∀ M f acc,3*m<M→((i:Int)==0)=f→acc.length≤2000+2000*i→Xbi.B0 h M l (bs acc) t (t.len:Int) (i:Int)=rs (acc++(setsW (Xaa l) f ((Xcr t).drop i)++[59]))
 | 0,i,hi,M,f,acc,hM,hf,hl=>by
  obtain ⟨M,rfl⟩:∃ M',M=M'+1:=⟨M-1,by omega⟩
  rw[Xbi.B0_eq,List.drop_of_length_le (by rw[Xfe];omega),show ByteArray.mk #[59]=bs [59] from rfl,Xdi]
  exact Xag (decide_eq_false (by omega)) (if_of (Xbr (by simp only[List.length_cons,List.length_nil];omega)) rfl)
 | m+1,i,hi,M,f,acc,hM,hf,hl=>by
  obtain ⟨M,rfl⟩:∃ M',M=M'+3:=⟨M-3,by omega⟩
  have w:=hw i (by omega)
  rw[Xiz t (by omega),setsW_cons]
  have tail:∀ by_:List UInt8,by_.length≤4→∀ to:List UInt8,to.length≤1800→Xbi.B2 h (M+1) l (bs acc) (bs by_) (bs to) t (t.len:Int) (i:Int) (t.el i 0).int (t.el i 1).bool (t.el i 2).int (t.el i 3).int (t.el i 4)=rs ((acc++(((by_++Xdw (Xaa l) (t.el i 0).int)++[32,58,61,32])++to))++(setsW (Xaa l) false ((Xcr t).drop (i+1))++[59])):=by
   intro by_ hby to hto
   have hs:=w.short
   have en:(l.el (t.el i 0).int.toNat 0).str=bs (Xdw (Xaa l) (t.el i 0).int):=by rw[w.name,bs_eq]
   rw[Xbi.B2_eq,en,show ByteArray.mk #[32,58,61,32]=bs [32,58,61,32] from rfl,Xbh (a:=(i:Int)+1) (by omega) (by omega)]
   simp only[Xdi]
   have ih:=shSets ht hw hx m (i+1) (by omega) M false (acc++(((by_++Xdw (Xaa l) (t.el i 0).int)++[32,58,61,32])++to)) (by omega) (by simp;omega) (by simp only[List.length_append,List.length_cons,List.length_nil];omega)
   refine if_of (by have:=w.lo;have:=w.hi;simp;omega) (if_of (Xbr ?_) (if_of (Xbr ?_) (if_of (Xbr ?_) (if_of (Xbr ?_) ih))))
   all_goals (first|omega|(simp only[List.length_append,List.length_cons,List.length_nil];omega))
  have fin:∀ by_:List UInt8,by_.length≤4→Xbi.B1 h (M+2) l (bs acc) (bs by_) t (t.len:Int) (i:Int) (t.el i 0).int (t.el i 1).bool (t.el i 2).int (t.el i 3).int (t.el i 4)=rs (acc++((by_++(Xdw (Xaa l) (t.el i 0).int++([32,58,61,32]++(toW (Xaa l) (seAt t i)++setsW (Xaa l) false ((Xcr t).drop (i+1))))))++[59])):=by
   intro by_ hby
   have fl:∀ to:List UInt8,(acc++(((by_++Xdw (Xaa l) (t.el i 0).int)++[32,58,61,32])++to))++(setsW (Xaa l) false ((Xcr t).drop (i+1))++[59])=acc++((by_++(Xdw (Xaa l) (t.el i 0).int++([32,58,61,32]++(to++setsW (Xaa l) false ((Xcr t).drop (i+1))))))++[59]):=fun to=>by simp only[List.append_assoc]
   rw[Xbi.B1_eq]
   unfold toW
   rw[show (seAt t i).any=(t.el i 1).bool from rfl]
   cases ha:(t.el i 1).bool with
   | true=>
    have:=tail by_ hby anyW (by decide)
    rw[fl,ha] at this
    exact Xag rfl this
   | false=>
    have:=tail by_ hby (textE (Xaa l) (seAt t i).e) (w.text ha)
    rw[fl,ha] at this
    exact if_of rfl (Xaj (hx i (by omega) ha) this)
  rw[Xbi.B0_eq,Int.toNat_natCast,show ByteArray.mk #[32,100,111,32]=bs [32,100,111,32] from rfl,show ByteArray.mk #[44,32]=bs [44,32] from rfl]
  refine if_of (decide_eq_true (by omega)) (if_of (by simp;omega) ?_)
  cases f with
  | true=>exact if_of hf (fin _ (by decide))
  | false=>exact Xag hf (fin _ (by decide))
end
theorem cmd_facts {l k t:T}{o n:Int}{env:Bool}(h:Xdx (Xaa l) env ⟨.mk o n (Xab k),Xcr t⟩=0):mayV (Xaa l)=0∧(sortE (Xaa l) (.mk o n (Xab k))).2=0∧t.len≤6∧Xhw (Xaa l) env (Xcr t) []=0:=by
 obtain ⟨h1,h2,h3,h4⟩:=mayCmd_zero h
 exact ⟨h1,(Xhe h2).1,by simpa [Xfe] using h3,h4⟩
theorem command_sp (l k t:T):Ev fun N=>∀ o n env,Xdx (Xaa l) env ⟨.mk o n (Xab k),Xcr t⟩=0→Xfo (K N) l o n k t env=rs (cmdW (Xaa l) env ⟨.mk o n (Xab k),Xcr t⟩):=by
 refine Ev.step (Ev.imp3 (text_sp l k) (Ev.all (k:=t.len) fun i hi=>text_sp l (t.el i 4)) (Ev.ge (3*t.len+5)) fun N h1 h2 hN o n env h=> ?_)
 obtain ⟨a1,a2,a3,a4⟩:=cmd_facts h
 obtain ⟨b1,b2⟩:=Xkr a2
 obtain ⟨M,rfl⟩:∃ M,N=M+1:=⟨N-1,by omega⟩
 have l1:=side_len env
 rw[C_show_command_K]
 refine Xaj (side_sp M env) ?_
 rw[Xar,str_s,show ByteArray.mk #[32,119,104,101,110,32]=bs [32,119,104,101,110,32] from rfl]
 simp only[Xdi]
 refine if_of (Xbr (by simp only[List.length_cons,List.length_nil];omega)) (Xaj (h1 o n _ b1 (by omega)) ?_)
 rw[Xar,str_s]
 simp only[Xdi]
 refine if_of (Xbr (by simp only[List.length_append,List.length_cons,List.length_nil];omega)) ?_
 have:=shSets (h:=K (M+1)) a3 (fun i hi=>(Xpy a1 a4 hi).1) (fun i hi ha=>by
  obtain ⟨s,hs⟩:=(Xpy a1 a4 hi).2 ha
  exact h2 i hi _ _ s hs (by have:=(Xpy a1 a4 hi).1.text ha;exact Nat.le_trans this (by omega))) t.len 0 (by omega) (M+1) true ((sideW env++[32,119,104,101,110,32])++textE (Xaa l) (.mk o n (Xab k))) (by omega) rfl (by simp only[List.length_append,List.length_cons,List.length_nil];omega)
 refine this.trans ?_
 rw[List.drop_zero]
 unfold cmdW
 simp only[List.append_assoc]
def showC (l:List Va)(env:Bool)(c:Cm):List UInt8:=if Xdx l env c≠0 then [] else cmdW l env c
theorem Command_sp (l:T)(hl:l.len≤9223372036854775807)(k t:T)(hk:KW k)(ht:KS t):Ev fun N=>∀ o n env,Xlz (K N) l o n k t env=rs (showC (Xaa l) env ⟨.mk o n (Xab k),Xcr t⟩):=by
 refine Ev.step ((Xnt l hl k t hk ht).imp2 (command_sp l k t) fun N h1 h2 o n env=> ?_)
 rw[C_show_Command_K]
 refine Xaj (h1 o n env) ?_
 unfold showC
 by_cases c:Xdx (Xaa l) env ⟨.mk o n (Xab k),Xcr t⟩=0
 ·rw[if_neg (by simpa using c)]
  exact Xag (by simpa [Xar,int_i] using c) (Xaj (h2 o n env c) rfl)
 ·rw[if_pos c]
  exact if_of (by simpa [Xar,int_i] using c) rfl
section
variable {h:H}{l t:T}
theorem refSets (ht:t.len≤6)(hw:∀ i,i<t.len→SetWalk l t i)(hx:∀ i,i<t.len→(t.el i 1).bool=false→Xbj h l (t.el i 2).int (t.el i 3).int (t.el i 4)=rs (textE (Xaa l) (seAt t i).e)):
  ∀ (m i:Nat),i+m=t.len→∀ M f acc,3*m<M→((i:Int)==0)=f→acc.length≤2000+2000*i→Xal.B1 h M l (bs acc) t (t.len:Int) (i:Int)=rs (acc++(setsW (Xaa l) f ((Xcr t).drop i)++[59]))
 | 0,i,hi,M,f,acc,hM,hf,hl=>by
  obtain ⟨M,rfl⟩:∃ M',M=M'+1:=⟨M-1,by omega⟩
  rw[Xal.B1_eq,List.drop_of_length_le (by rw[Xfe];omega),show ByteArray.mk #[59]=bs [59] from rfl,Xdi]
  exact Xag (decide_eq_false (by omega)) (if_of (Xbr (by simp only[List.length_cons,List.length_nil];omega)) rfl)
 | m+1,i,hi,M,f,acc,hM,hf,hl=>by
  obtain ⟨M,rfl⟩:∃ M',M=M'+3:=⟨M-3,by omega⟩
  have w:=hw i (by omega)
  have hs:=w.short
  have en:(l.el (t.el i 0).int.toNat 0).str=bs (Xdw (Xaa l) (t.el i 0).int):=by rw[w.name,bs_eq]
  rw[Xiz t (by omega),setsW_cons]
  have tail:∀ by_:List UInt8,by_.length≤4→∀ to:List UInt8,to.length≤1800→Xal.B3 h (M+1) l (bs (((acc++by_)++(Xdw (Xaa l) (t.el i 0).int++[32,58,61,32]))++to)) t (t.len:Int) (i:Int)=rs ((((acc++by_)++(Xdw (Xaa l) (t.el i 0).int++[32,58,61,32]))++to)++(setsW (Xaa l) false ((Xcr t).drop (i+1))++[59])):=by
   intro by_ hby to hto
   rw[Xal.B3_eq,Xbh (a:=(i:Int)+1) (by omega) (by omega)]
   exact refSets ht hw hx m (i+1) (by omega) M false _ (by omega) (by simp;omega) (by simp only[List.length_append,List.length_cons,List.length_nil];omega)
  have fin:∀ by_:List UInt8,by_.length≤4→Xal.B2 h (M+2) l (bs (acc++by_)) t (t.len:Int) (i:Int) (t.el i 0).int (t.el i 1).bool (t.el i 2).int (t.el i 3).int (t.el i 4)=rs (acc++((by_++(Xdw (Xaa l) (t.el i 0).int++([32,58,61,32]++(toW (Xaa l) (seAt t i)++setsW (Xaa l) false ((Xcr t).drop (i+1))))))++[59])):=by
   intro by_ hby
   have fl:∀ to:List UInt8,(((acc++by_)++(Xdw (Xaa l) (t.el i 0).int++[32,58,61,32]))++to)++(setsW (Xaa l) false ((Xcr t).drop (i+1))++[59])=acc++((by_++(Xdw (Xaa l) (t.el i 0).int++([32,58,61,32]++(to++setsW (Xaa l) false ((Xcr t).drop (i+1))))))++[59]):=fun to=>by simp only[List.append_assoc]
   rw[Xal.B2_eq,en,show ByteArray.mk #[32,58,61,32]=bs [32,58,61,32] from rfl,show ByteArray.mk #[97,110,121]=bs anyW from rfl]
   simp only[Xdi]
   unfold toW
   rw[show (seAt t i).any=(t.el i 1).bool from rfl]
   refine if_of (by have:=w.lo;have:=w.hi;simp;omega) (if_of (Xbr ?_) (if_of (Xbr ?_) ?_))
   any_goals (first|omega|(simp only[List.length_append,List.length_cons,List.length_nil];omega))
   cases ha:(t.el i 1).bool with
   | true=>
    have:=tail by_ hby anyW (by decide)
    rw[fl] at this
    exact if_of rfl (if_of (Xbr (by simp only[List.length_append,List.length_cons,List.length_nil,anyW];omega)) this)
   | false=>
    have hto:=w.text ha
    have:=tail by_ hby (textE (Xaa l) (seAt t i).e) hto
    rw[fl] at this
    refine Xag rfl (Xaj (hx i (by omega) ha) ?_)
    rw[Xar,str_s]
    simp only[Xdi]
    exact if_of (Xbr (by simp only[List.length_append,List.length_cons,List.length_nil];omega)) this
  rw[Xal.B1_eq,Int.toNat_natCast,show ByteArray.mk #[32,100,111,32]=bs [32,100,111,32] from rfl,show ByteArray.mk #[44,32]=bs [44,32] from rfl]
  simp only[Xdi]
  refine if_of (decide_eq_true (by omega)) (if_of (by simp;omega) ?_)
  cases f with
  | true=>exact if_of hf (if_of (Xbr (by simp only[List.length_cons,List.length_nil];omega)) (fin _ (by decide)))
  | false=>exact Xag hf (if_of (Xbr (by simp only[List.length_cons,List.length_nil];omega)) (fin _ (by decide)))
end
theorem Xsh (l:T)(hl:l.len≤9223372036854775807)(k t:T)(hk:KW k)(ht:KS t):Ev fun N=>∀ o n env,Xcg (K N) l o n k t env=rs (showC (Xaa l) env ⟨.mk o n (Xab k),Xcr t⟩):=by
 refine Ev.step (Ev.imp4 (Xov l hl k t hk ht) (Xnj l k) (Ev.all (k:=t.len) fun i hi=>Xnj l (t.el i 4)) (Ev.ge (3*t.len+5)) fun N h0 h1 h2 hN o n env=> ?_)
 obtain ⟨M,rfl⟩:∃ M,N=M+1:=⟨N-1,by omega⟩
 rw[Xma]
 refine Xaj (h0 o n env) ?_
 unfold showC
 by_cases c:Xdx (Xaa l) env ⟨.mk o n (Xab k),Xcr t⟩=0
 ·rw[if_neg (by simpa using c)]
  obtain ⟨a1,a2,a3,a4⟩:=cmd_facts c
  obtain ⟨b1,b2⟩:=Xkr a2
  have fin:∀ w:List UInt8,w.length≤10→Xal.B0 (K (M+1)) (M+1) l (bs w) o n k t=rs ((w++textE (Xaa l) (.mk o n (Xab k)))++(setsW (Xaa l) true (Xcr t)++[59])):=by
   intro w hw
   rw[Xal.B0_eq]
   refine Xaj (h1 o n _ b1 (by omega)) ?_
   rw[Xar,str_s]
   simp only[Xdi]
   refine if_of (Xbr (by omega)) ?_
   have:=refSets (h:=K (M+1)) a3 (fun i hi=>(Xpy a1 a4 hi).1) (fun i hi ha=>by
    obtain ⟨s,hs⟩:=(Xpy a1 a4 hi).2 ha
    exact h2 i hi _ _ s hs (by have:=(Xpy a1 a4 hi).1.text ha;exact Nat.le_trans this (by omega))) t.len 0 (by omega) M true (w++textE (Xaa l) (.mk o n (Xab k))) (by omega) rfl (by simp only[List.length_append];omega)
   rw[List.drop_zero] at this
   exact this
  refine Xag (by simpa [Xar,int_i] using c) ?_
  have fl:(sideW env++[32,119,104,101,110,32]++textE (Xaa l) (.mk o n (Xab k)))++(setsW (Xaa l) true (Xcr t)++[59])=cmdW (Xaa l) env ⟨.mk o n (Xab k),Xcr t⟩:=by
   unfold cmdW
   simp only[List.append_assoc]
  rw[←fl,show ByteArray.mk #[101,110,118,32,119,104,101,110,32]=bs (sideW true++[32,119,104,101,110,32]) from rfl,show ByteArray.mk #[115,121,115,32,119,104,101,110,32]=bs (sideW false++[32,119,104,101,110,32]) from rfl]
  cases env with
  | true=>exact if_of rfl (fin _ (by decide))
  | false=>exact Xag rfl (fin _ (by decide))
 ·rw[if_pos c]
  exact if_of (by simpa [Xar,int_i] using c) rfl
end Go.Proofs.YtpjedhbfkfobcaaGreatDoor
