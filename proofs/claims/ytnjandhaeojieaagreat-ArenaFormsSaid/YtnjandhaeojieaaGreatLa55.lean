/- What commands lead to is what the document says that they do. -/
import Derived.Test.YtnjandhaeojieaaGreatLa53
import Derived.Test.YtnjandhaeojieaaGreatLa48
set_option linter.unusedVariables false
set_option linter.unusedSimpArgs false
namespace Go.AM
open Go.Proofs.YtnjandhaeojieaaGreat
theorem mem_step1 {l:List Va}{now next x:Int}{out:List Int}{s:Se}(hp:Pos l)(ho:Sts l out)(hs:0≤s.var∧s.var<(l.length:Int)):
  x∈stepE l now next out s↔(0≤x∧x<prodV l)∧(Xap l x).getD s.var.toNat 0∈Xiy l s now next∧∃ st∈out,∀ k,s.var.toNat≠k→(Xap l x)[k]? =(Xap l st)[k]? :=by
 have hv:s.var.toNat<l.length:=by omega
 constructor
 ·intro h
  have hx:=sts_step hp ho hs x h
  unfold stepE at h
  obtain ⟨y,hy,h⟩:=List.mem_flatMap.1 h
  obtain ⟨st,hst,rfl⟩:=List.mem_map.1 h
  have hr':=Xcx hp (ho st hst).1
  have hv2:s.var.toNat<(Xap l st).length:=by rw[hr'.len];exact hv
  refine ⟨hx,?_,st,hst,fun k hk=> ?_⟩
  ·unfold withE
   rw[Xej hp (Xsr hp (ho st hst).1 hs.1 hs.2 (Xox hy)),List.getD_eq_getElem?_getD,List.getElem?_set_self hv2]
   exact hy
  ·unfold withE
   rw[Xej hp (Xsr hp (ho st hst).1 hs.1 hs.2 (Xox hy)),List.getElem?_set_ne hk]
 ·rintro ⟨hx,hy,st,hst,h⟩
  have hr:=Xcx hp hx.1
  have hr':=Xcx hp (ho st hst).1
  have hv1:s.var.toNat<(Xap l x).length:=by rw[hr.len];exact hv
  have hv2:s.var.toNat<(Xap l st).length:=by rw[hr'.len];exact hv
  unfold stepE
  refine List.mem_flatMap.2 ⟨_,hy,List.mem_map.2 ⟨st,hst,?_⟩⟩
  unfold withE
  have:(Xap l st).set s.var.toNat ((Xap l x).getD s.var.toNat 0)=Xap l x:=by
   apply List.ext_getElem?
   intro k
   by_cases c:s.var.toNat=k
   ·subst c
    rw[List.getElem?_set_self hv2,List.getElem?_eq_getElem hv1,List.getD_eq_getElem?_getD,List.getElem?_eq_getElem hv1];rfl
   ·rw[List.getElem?_set_ne c,h k c]
  rw[this]
  exact Xkr hp hx.1 hx.2
theorem mem_sets {l:List Va}{now next x:Int}(hp:Pos l):∀ {ss:List Se} {out:List Int},Sts l out→Xwd l ss→(ss.map Se.var).Pairwise (·≠·)→
  (x∈ss.foldl (stepE l now next) out↔(0≤x∧x<prodV l)∧(∀ s∈ss,(Xap l x).getD s.var.toNat 0∈Xiy l s now next)∧∃ st∈out,∀ k,(∀ s∈ss,s.var.toNat≠k)→(Xap l x)[k]? =(Xap l st)[k]?)
 | [],out,ho,_,_=>by
  rw[List.foldl_nil]
  constructor
  ·intro h
   exact ⟨ho x h,fun s hs=>absurd hs List.not_mem_nil,x,h,fun k _=>rfl⟩
  ·rintro ⟨hx,_,st,hst,h⟩
   rw[state_eq hp hx (ho st hst) fun k=>h k fun s hs=>absurd hs List.not_mem_nil]
   exact hst
 | s::ss,out,ho,hs,hd=>by
  have h1:=hs s (List.mem_cons_self ..)
  simp only[List.map_cons,List.pairwise_cons] at hd
  have far:∀ y∈ss,y.var.toNat≠s.var.toNat:=fun y hy q=>by
   have a:=hs y (List.mem_cons_of_mem _ hy)
   exact hd.1 y.var (List.mem_map_of_mem hy) (by omega)
  rw[List.foldl_cons,mem_sets hp (sts_step hp ho h1) (fun y hy=>hs y (List.mem_cons_of_mem _ hy)) hd.2]
  constructor
  ·rintro ⟨hx,al,st',hst',h⟩
   obtain ⟨_,ay,st,hst,k'⟩:=(mem_step1 hp ho h1).1 hst'
   refine ⟨hx,fun y hy=> ?_,st,hst,fun k hk=> ?_⟩
   ·rcases List.mem_cons.1 hy with rfl|hy
    ·rw[List.getD_eq_getElem?_getD,h _ far,←List.getD_eq_getElem?_getD];exact ay
    ·exact al y hy
   ·rw[h k fun y hy=>hk y (List.mem_cons_of_mem _ hy),k' k (hk s (List.mem_cons_self ..))]
  ·rintro ⟨hx,al,st,hst,h⟩
   have hr':=Xcx hp (ho st hst).1
   have hr:=Xcx hp hx.1
   have hv:s.var.toNat<l.length:=by omega
   have hv1:s.var.toNat<(Xap l x).length:=by rw[hr.len];exact hv
   have hv2:s.var.toNat<(Xap l st).length:=by rw[hr'.len];exact hv
   have ay:=al s (List.mem_cons_self ..)
   have hw:=Xsr (x:=(Xap l x).getD s.var.toNat 0) hp (ho st hst).1 h1.1 h1.2 (Xox ay)
   have hst':=Xkj hp hw
   refine ⟨hx,fun y hy=>al y (List.mem_cons_of_mem _ hy),Xch l ((Xap l st).set s.var.toNat ((Xap l x).getD s.var.toNat 0)),(mem_step1 hp ho h1).2 ⟨hst',?_,st,hst,fun k hk=> ?_⟩,fun k hk=> ?_⟩
   ·rw[Xej hp hw,List.getD_eq_getElem?_getD,List.getElem?_set_self hv2];exact ay
   ·rw[Xej hp hw,List.getElem?_set_ne hk]
   ·rw[Xej hp hw]
    by_cases c:s.var.toNat=k
    ·subst c
     rw[List.getElem?_set_self hv2,List.getElem?_eq_getElem hv1,List.getD_eq_getElem?_getD,List.getElem?_eq_getElem hv1];rfl
    ·rw[List.getElem?_set_ne c]
     refine h k fun y hy=> ?_
     rcases List.mem_cons.1 hy with rfl|hy
     ·exact c
     ·exact hk y hy
def Lets (l:List Va)(now next:Int)(s:Se)(x:Int):Prop:=s.any=true∨((Xfq l s.e now next).2=0∧x=(Xfq l s.e now next).1)
theorem wantE_none {l:List Va}{i now next:Int}:∀ {ss:List Se} {w:Int} {a:Bool},(∀ s∈ss,s.var≠i)→wantE l i now next ss w a=some (w,a)
 | [],_,_,_=>rfl
 | s::r,w,a,h=>by
  simp only[wantE]
  rw[if_neg (h s (List.mem_cons_self ..))]
  exact wantE_none fun y hy=>h y (List.mem_cons_of_mem _ hy)
theorem has_want {l:List Va}{i now next x:Int}:∀ {ss:List Se} {w:Int},(ss.map Se.var).Pairwise (·≠·)→(hasE x (wantE l i now next ss w false)=true↔(∀ s∈ss,s.var=i→Lets l now next s x)∧((∀ s∈ss,s.var≠i)→x=w))
 | [],w,_=>by simp[wantE,hasE]
 | s::r,w,hd=>by
  simp only[List.map_cons,List.pairwise_cons] at hd
  simp only[wantE]
  by_cases c:s.var=i
  ·have none:∀ y∈r,y.var≠i:=fun y hy q=>hd.1 y.var (List.mem_map_of_mem hy) (by rw[c,q])
   rw[if_pos c]
   have R:∀ P:Prop,(P↔Lets l now next s x)→(P↔(∀ y∈s::r,y.var=i→Lets l now next y x)∧((∀ y∈s::r,y.var≠i)→x=w)):=by
    intro P hP
    rw[hP]
    constructor
    ·intro h
     refine ⟨fun y hy q=> ?_,fun q=>absurd c (q s (List.mem_cons_self ..))⟩
     rcases List.mem_cons.1 hy with rfl|hy
     ·exact h
     ·exact absurd q (none y hy)
    ·intro h
     exact h.1 s (List.mem_cons_self ..) c
   apply R
   unfold Lets
   by_cases c2:s.any=true
   ·rw[if_pos c2,wantE_none none]
    simp[hasE,c2]
   ·rw[if_neg c2]
    by_cases c3:(Xfq l s.e now next).2=0
    ·rw[if_neg (by simpa using c3),wantE_none none]
     simp[hasE,c2,c3]
    ·rw[if_pos c3]
     simp[hasE,c2,c3]
  ·rw[if_neg c,has_want hd.2]
   constructor
   ·rintro ⟨h1,h2⟩
    refine ⟨fun y hy q=> ?_,fun q=>h2 fun y hy=>q y (List.mem_cons_of_mem _ hy)⟩
    rcases List.mem_cons.1 hy with rfl|hy
    ·exact absurd q c
    ·exact h1 y hy q
   ·rintro ⟨h1,h2⟩
    refine ⟨fun y hy q=>h1 y (List.mem_cons_of_mem _ hy) q,fun q=>h2 fun y hy=> ?_⟩
    rcases List.mem_cons.1 hy with rfl|hy
    ·exact c
    ·exact q y hy
theorem lets_iff {l:List Va}{now next x:Int}{s:Se}(h:lowV (vaOf l s.var)≤x∧x<lowV (vaOf l s.var)+sizeV (vaOf l s.var)):x∈Xiy l s now next↔Lets l now next s x:=by
 unfold Xiy Lets
 by_cases c:s.any=true
 ·rw[if_pos c]
  simp only[c,true_or,iff_true]
  exact upFrom_mem.2 ⟨h.1,by omega⟩
 ·rw[if_neg c]
  by_cases c2:(Xfq l s.e now next).2=0
  ·by_cases c3:(Xfq l s.e now next).1<lowV (vaOf l s.var)∨lowV (vaOf l s.var)+sizeV (vaOf l s.var)≤(Xfq l s.e now next).1
   ·rw[if_pos (.inr c3)]
    simp only[List.not_mem_nil,false_iff]
    rintro (q|q)
    ·exact c q
    ·omega
   ·rw[if_neg (fun q=>q.elim (fun q=>q c2) c3)]
    simp[c,c2]
  ·rw[if_pos (.inl c2)]
   simp[c,c2]
theorem leads_does {l:List Va}{b:Bool}{c:Cm}{keeps s n x:Int}{F:Prop}(hm:mayV l=0)(hc:Xff l b c=0)(hk:0≤keeps∧keeps<prodV l)(hs:0≤s∧s<prodV l)(hx:0≤x∧x<prodV l)
  (hK:∀ k (h:k<l.length),l[k].env=b→(Xap l keeps)[k]? =(Xap l s)[k]?) (hF:F↔∀ k (h:k<l.length),l[k].env≠b→(Xap l x)[k]? =(Xap l keeps)[k]?):
  x∈Xky l c keeps s n↔F∧doesE l c b s n x=true:=by
 obtain ⟨_,hp,_⟩:=Xcp hm
 obtain ⟨_,_,_,h4⟩:=mayCmd_zero hc
 obtain ⟨so,sd⟩:=setsGo_ok h4
 have hin:=(Xpi hc).1
 have hr:=Xcx hp hx.1
 have hrs:=Xcx hp hs.1
 have hrk:=Xcx hp hk.1
 have side:∀ y∈c.sets,∃ h:y.var.toNat<l.length,l[y.var.toNat].env=b:=fun y hy=>by
  obtain ⟨a1,a2,a3,_⟩:=so y hy
  have h:y.var.toNat<l.length:=by omega
  exact ⟨h,by rw[←envAt_get h];exact a3⟩
 unfold Xky doesE
 cases ht:trueE l c.guard s n with
 | false=>simp
 | true=>
  rw[if_pos rfl,Bool.true_and,Xte,mem_sets hp (fun y hy=>by rw[List.mem_singleton.1 hy];exact hk) hin sd,hF]
  have gd:∀ {z:Int} (hz:InR l (Xap l z)) {k:Nat} (h:k<l.length),(Xap l z)[k]? =some ((Xap l z).getD k 0):=fun {z} hz {k} h=>by
   have:k<(Xap l z).length:=by rw[hz.len];exact h
   rw[List.getD_eq_getElem?_getD,List.getElem?_eq_getElem this];rfl
  have inr:∀ y∈c.sets,lowV (vaOf l y.var)≤(Xap l x).getD y.var.toNat 0∧(Xap l x).getD y.var.toNat 0<lowV (vaOf l y.var)+sizeV (vaOf l y.var):=fun y hy=>by
   obtain ⟨h,_⟩:=side y hy
   have h1:y.var.toNat<(Xap l x).length:=by rw[hr.len];exact h
   have:=hr.get h h1
   have e:vaOf l y.var=l[y.var.toNat]:=by unfold vaOf;rw[List.getElem?_eq_getElem h];rfl
   rw[e,List.getD_eq_getElem?_getD,List.getElem?_eq_getElem h1]
   exact this
  constructor
  ·rintro ⟨_,al,st,hst,h⟩
   rw[List.mem_singleton.1 hst] at h
   refine ⟨fun k hk' cb=>h k fun y hy q=> ?_,fun j _ hj=> ?_⟩
   ·subst q
    obtain ⟨_,e⟩:=side y hy
    exact cb e
   ·have hj:j<l.length:=by omega
    rw[Bool.or_eq_true]
    by_cases cb:l[j].env=b
    ·refine .inr ((has_want sd).2 ⟨fun y hy q=> ?_,fun q=> ?_⟩)
     ·have:=(lets_iff (inr y hy)).1 (al y hy)
      rw[q,Int.toNat_natCast] at this
      exact this
     ·have e1:=h j fun y hy r=>q y hy (by have:=hin y hy;omega)
      rw[hK j hj cb,gd hr hj,gd hrs hj] at e1
      exact Option.some.inj e1
    ·refine .inl ?_
     have ee:envAt l (j:Int)=l[j].env:=envAt_get (v:=(j:Int)) (by simpa using hj)
     rw[ee]
     simpa using cb
  ·rintro ⟨hf,hok⟩
   have hw:∀ j (hj:j<l.length),l[j].env=b→(∀ y∈c.sets,y.var=(j:Int)→Lets l s n y ((Xap l x).getD j 0))∧((∀ y∈c.sets,y.var≠(j:Int))→(Xap l x).getD j 0=(Xap l s).getD j 0):=by
    intro j hj cb
    have:=hok j (Nat.zero_le _) (by omega)
    have ee:envAt l (j:Int)=l[j].env:=envAt_get (v:=(j:Int)) (by simpa using hj)
    rw[ee,Bool.or_eq_true] at this
    rcases this with q|q
    ·rw[cb] at q;simp at q
    ·exact (has_want sd).1 q
   refine ⟨hx,fun y hy=> ?_,keeps,List.mem_singleton_self _,fun k hk'=> ?_⟩
   ·obtain ⟨h,e⟩:=side y hy
    have a:=hin y hy
    exact (lets_iff (inr y hy)).2 ((hw _ h e).1 y hy (by omega))
   ·by_cases hkl:k<l.length
    ·by_cases cb:l[k].env=b
     ·rw[hK k hkl cb,gd hr hkl,gd hrs hkl,(hw k hkl cb).2 fun y hy q=>hk' y hy (by omega)]
     ·exact hf k hkl cb
    ·rw[List.getElem?_eq_none (by rw[hr.len];omega),List.getElem?_eq_none (by rw[hrk.len];omega)]
end Go.AM
set_option linter.unusedVariables false
set_option linter.unusedSimpArgs false
namespace Go.AM
open Go.Proofs.YtnjandhaeojieaaGreat
theorem all_mem {l:List Va}{cs:List Cm}{keeps now next x:Int}:x∈allE l cs keeps now next↔∃ c∈cs,x∈Xky l c keeps now next:=by
 unfold allE
 rw[(sortUp _).2,List.mem_flatMap]
theorem leads_range {l:List Va}{c:Cm}{keeps now next x:Int}(hp:Pos l)(hk:0≤keeps∧keeps<prodV l)(hin:Xwd l c.sets)(h:x∈Xky l c keeps now next):0≤x∧x<prodV l:=by
 unfold Xky at h
 split at h
 ·exact sts_leads hp (fun y hy=>by rw[List.mem_singleton.1 hy];exact hk) hin x h
 ·cases h
theorem all_filter {l:List Va}{cs:List Cm}{b:Bool}{keeps s n:Int}{f:Cm→Int→Bool}(hm:mayV l=0)(hc:∀ c∈cs,Xff l b c=0)(hk:0≤keeps∧keeps<prodV l)
  (hf:∀ c∈cs,∀ x,0≤x→x<prodV l→(x∈Xky l c keeps s n↔f c x=true)):allE l cs keeps s n=(Xgd 0 (prodV l).toNat).filter fun x=>cs.any fun c=>f c x:=by
 obtain ⟨_,hp,_⟩:=Xcp hm
 have h0:=Xne hp
 refine rise_ext (sortUp _).1 ((Xqc _ _).filter _) fun x=> ?_
 rw[all_mem,List.mem_filter,upFrom_mem,List.any_eq_true]
 constructor
 ·rintro ⟨c,hcs,h⟩
  have hx:=leads_range hp hk (Xpi (hc c hcs)).1 h
  exact ⟨⟨hx.1,by omega⟩,c,hcs,(hf c hcs x hx.1 hx.2).1 h⟩
 ·rintro ⟨hx,c,hcs,h⟩
  exact ⟨c,hcs,(hf c hcs x hx.1 (by omega)).2 h⟩
theorem env_ref (m:Md)(s:Int):envE m s=Xrq m s:=by
 unfold envE Xrq
 by_cases c:mayM m=0
 case neg=>rw[if_pos c,if_pos c]
 have hc:¬(mayM m≠0):=by simpa using c
 rw[if_neg hc,if_neg hc]
 obtain ⟨cm,_,_,ce,_,_⟩:=Xfe c
 have ce:=firstE_zero.1 ce
 obtain ⟨ht,hp,_⟩:=Xcp cm
 cases hok:Xcc m.vars s with
 | false=>
  have:partE m.vars s true= -1:=by unfold partE;rw[hok];rfl
  rw[if_pos (by rw[this];decide),if_pos rfl]
 | true=>
  have pr:=part_range (env:=true) cm hok
  rw[ht] at pr
  have sr:=(valuesOk_iff.1 hok).2
  rw[ht] at sr
  rw[if_neg (by omega),if_neg (by simp),ht]
  refine all_filter (b:=true) (f:=fun c p=>pickE m.vars p&&doesE m.vars c true s s p) cm ce pr fun c hc x h0 h1=> ?_
  rw[Bool.and_eq_true]
  have hrs:=Xcx hp sr.1
  refine leads_does cm (ce c hc) pr sr ⟨h0,h1⟩ (fun k h e=> ?_) (pick_iff cm hok h0 h1)
  rw[part_of hok,Xej hp (Xmv hp hrs),Xly h hrs.len,if_pos e]
theorem sys_ref (m:Md)(s p:Int):sysE m s p=Xro m s p:=by
 unfold sysE Xro
 by_cases c:mayM m=0
 case neg=>rw[if_pos c,if_pos c]
 have hc:¬(mayM m≠0):=by simpa using c
 rw[if_neg hc,if_neg hc]
 obtain ⟨cm,_,_,_,ce,_⟩:=Xfe c
 have ce:=firstE_zero.1 ce
 obtain ⟨ht,hp,_⟩:=Xcp cm
 cases hok:Xcc m.vars s with
 | false=>
  have:partE m.vars s true= -1:=by unfold partE;rw[hok];rfl
  rw[if_pos (by rw[this];decide),if_pos rfl]
 | true=>
  have pr:=part_range (env:=true) cm hok
  have sr:=(valuesOk_iff.1 hok).2
  rw[ht] at sr
  rw[if_neg (show ¬partE m.vars s true<0 by omega),if_neg (show ¬(true=false) by simp)]
  cases hpk:pickE m.vars p with
  | false=>rw[if_pos rfl,if_pos rfl]
  | true=>
   rw[if_neg (show ¬(true=false) by simp),if_neg (show ¬(true=false) by simp),ht]
   have okP:=Go.Proofs.YtnjandhaeojieaaGreat.pick_ok hpk
   have ep:partE m.vars p true=p:=by
    unfold pickE at hpk
    rw[Bool.and_eq_true] at hpk
    exact eq_of_beq hpk.2
   have mr:=mixed_range cm hok okP
   refine all_filter (b:=false) (f:=fun c x=>(partE m.vars x true==p)&&doesE m.vars c false s p x) cm ce mr fun c hc x h0 h1=> ?_
   rw[Bool.and_eq_true]
   have hrs:=Xcx hp sr.1
   have hrp:=Xcx hp (valuesOk_iff.1 okP).2.1
   have F:=of_pick_iff (S:=s) (P:=p) cm hok okP h0 h1
   rw[ep] at F
   refine leads_does cm (ce c hc) mr sr ⟨h0,h1⟩ (fun k h e=> ?_) F
   have e2:Xap m.vars (Xru m.vars s p)=mixE m.vars (Xap m.vars s) (Xap m.vars p):=by
    unfold Xru
    exact Xej hp (InR_mix hrs hrp)
   rw[e2,mixE_get h (by rw[hrs.len];exact h) (by rw[hrp.len];exact h),if_neg (by rw[e];simp),List.getElem?_eq_getElem (by rw[hrs.len];exact h)]
theorem filt24 {l:List Va}{f:Int→Bool}(hm:mayV l=0)(hT:prodV l≤24):((Xgd 0 (Xcz l).toNat).filter f).length≤24:=by
 refine Nat.le_trans (List.length_filter_le _ _) ?_
 rw[Xsv,(Xcp hm).1]
 omega
end Go.AM
namespace Go.Proofs.YtnjandhaeojieaaGreat
open Go.AM
end Go.Proofs.YtnjandhaeojieaaGreat
