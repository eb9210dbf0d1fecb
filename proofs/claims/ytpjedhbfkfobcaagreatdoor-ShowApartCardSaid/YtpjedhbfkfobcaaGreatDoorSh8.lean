/- The laws ShowExprs, ShowForms, ShowApart, ShowLines, on the engine's side. -/
import Derived.Test.YtpjedhbfkfobcaaGreatDoorSh7
set_option linter.unusedVariables false
set_option linter.unusedSimpArgs false
namespace Go.AM
open Go.Proofs.YtpjedhbfkfobcaaGreatDoor
theorem Xkf (a b:List UInt8):strEq (bs a) (bs b)=decide (a=b):=by
 rw[Bool.eq_iff_iff,strEq_list,bs_list,bs_list,decide_eq_true_eq]
theorem textE_some {l:List Va}(hl:Names l){e:Ex}(h:Shp l e):textE l e≠[]:=by
 intro c
 cases h with
 | atom h=>
  obtain ⟨_,d,q,e⟩:=h.word hl
  rw[e] at c;cases c
 | not _=>
  have:=Xle l ‹Ex› []
  rw[c] at this;cases this
 | two ho _ _=>
  rw[show textE l (.mk _ 0 [_,_])=textN l _ 0 [textE l _,textE l _] from rfl,Xrw l ho] at c
  simp at c
 | ite _ _ _=>
  rw[show textE l (.mk 15 0 [_,_,_])=(((((ifW++textE l _)++thenW)++textE l _)++elseW)++textE l _)++[41] from rfl] at c
  simp at c
theorem showT_empty {l:List Va}{e:Ex}:(showT l e=[])↔(sortE l e).2≠0:=by
 unfold showT
 by_cases c:(sortE l e).2=0
 ·rw[if_neg (by simpa using c)]
  obtain ⟨h1,h2,h3,h4,h5,h6⟩:=Xpw c
  exact ⟨fun h=>absurd h (textE_some (Xsk h1) (Xru h6)),fun h=>absurd c h⟩
 ·rw[if_pos c]
  exact ⟨fun _=>c,fun _=>rfl⟩
theorem stop_nil:Stop []:=fun c h=>by cases h
theorem showT_same {l:List Va}{a b:Ex}(ha:(sortE l a).2=0)(hb:(sortE l b).2=0):(showT l a=showT l b)↔(Xfi a&&Xfi b&&sameE a b)=true:=by
 unfold showT
 rw[if_neg (by simpa using ha),if_neg (by simpa using hb)]
 obtain ⟨a1,a2,a3,a4,a5,a6⟩:=Xpw ha
 obtain ⟨b1,b2,b3,b4,b5,b6⟩:=Xpw hb
 rw[a4,b4,Bool.true_and,Bool.true_and,Xsc]
 constructor
 ·intro h
  exact (text_inj (Xsk a1) (Xru a6) (Xru b6) stop_nil stop_nil (by rw[h])).1
 ·intro h
  rw[h]
theorem showM_empty {m:Md}:(showM m=[])↔mayM m≠0:=by
 unfold showM
 by_cases c:mayM m=0
 ·rw[if_neg (by simpa using c)]
  exact ⟨fun h=>absurd h (textM_some m),fun h=>absurd c h⟩
 ·rw[if_pos c]
  exact ⟨fun _=>c,fun _=>rfl⟩
def awM:Md:=⟨[⟨⟨#[120]⟩,true,1,0,0⟩],.mk 2 1 [],.mk 2 1 [],[],[],[],[],[]⟩
theorem awM_may:mayM awM=0:=by decide +kernel
def awT:List UInt8:=[101,110,118,32,120,32,58,32,98,111,111,108,59,10,105,110,105,116,32,101,110,118,32,116,114,117,101,59,10,105,110,105,116,32,115,121,115,32,116,114,117,101,59,10]
theorem awM_text:showM awM=awT:=by
 unfold showM
 rw[if_neg (by rw[awM_may];simp)]
 rfl
theorem aw_sort:(sortE [⟨⟨#[120]⟩,true,1,0,0⟩] (.mk 4 0 [])).2=0:=by decide +kernel
theorem aw_next:showT [⟨⟨#[120]⟩,true,1,0,0⟩] (.mk 4 0 [])=[120,39]:=by
 unfold showT
 rw[if_neg (by rw[aw_sort];simp)]
 rfl
theorem count_nl:∀ {w:List UInt8},NoNl w→w.count 10=0
 | [],_=>rfl
 | c::w,h=>by
  have h1:=h c (List.mem_cons_self ..)
  rw[List.count_cons,count_nl fun x hx=>h x (List.mem_cons_of_mem _ hx)]
  have:(c==(10:UInt8))=false:=by simpa using h1
  rw[this];rfl
theorem count_join:∀ {L:List (List UInt8)},(∀ x∈L,NoNl x)→(joinW L).count 10=L.length
 | [],_=>rfl
 | x::r,h=>by
  rw[Xdb,List.count_append,count_nl (h x (List.mem_cons_self ..)),List.count_cons,count_join fun y hy=>h y (List.mem_cons_of_mem _ hy),List.length_cons]
  simp
def EndsSemi (S:List UInt8):Prop:=∀ i:Nat,S[i]? =some 10→∃ j:Nat,i=j+1∧S[j]? =some 59
theorem join_semi:∀ {L:List (List UInt8)},(∀ x∈L,NoNl x)→(∀ x∈L,∃ y,x=y++[59])→∀ i:Nat,(joinW L)[i]? =some 10→∃ j:Nat,i=j+1∧(joinW L)[j]? =some 59
 | [],_,_,i,h=>by cases h
 | x::r,h1,h2,i,h=>by
  obtain ⟨y,hy⟩:=h2 x (List.mem_cons_self ..)
  have hn:=h1 x (List.mem_cons_self ..)
  rw[Xdb] at h ⊢
  rcases Nat.lt_trichotomy i x.length with c|c|c
  ·rw[List.getElem?_append_left c] at h
   have:=hn 10 (List.mem_of_getElem? h)
   simp at this
  ·refine ⟨y.length,by rw[c,hy];simp,?_⟩
   rw[hy,List.append_assoc,List.getElem?_append_right (Nat.le_refl _)]
   simp
  ·rw[List.getElem?_append_right (by omega)] at h
   obtain ⟨k,hk⟩:∃ k,i-x.length=k+1:=⟨i-x.length-1,by omega⟩
   rw[hk,List.getElem?_cons_succ] at h
   obtain ⟨j,hj,e⟩:=join_semi (fun z hz=>h1 z (List.mem_cons_of_mem _ hz)) (fun z hz=>h2 z (List.mem_cons_of_mem _ hz)) k h
   refine ⟨x.length+1+j,by omega,?_⟩
   rw[List.getElem?_append_right (by omega),show x.length+1+j-x.length=j+1 by omega,List.getElem?_cons_succ]
   exact e
theorem join_last:∀ {L:List (List UInt8)},L≠[]→0<(joinW L).length∧(joinW L)[(joinW L).length-1]? =some 10
 | [],h=>absurd rfl h
 | x::r,_=>by
  cases r with
  | nil=>
   rw[Xdb,joinW]
   refine ⟨by simp,?_⟩
   rw[List.getElem?_append_right (by simp)]
   simp
  | cons y r=>
   obtain ⟨h1,h2⟩:=join_last (L:=y::r) (by simp)
   rw[Xbm]
   refine ⟨by omega,?_⟩
   rw[Xdb,List.getElem?_append_right (by omega),show x.length+1+(joinW (y::r)).length-1-x.length=(joinW (y::r)).length-1+1 by omega,List.getElem?_cons_succ]
   exact h2
theorem lines_semi (m:Md):∀ x∈Xpb m,∃ y,x=y++[59]:=by
 have go:∀ l w e,∃ y,goalW l w e=y++[59]:=fun l w e=>⟨w++(32::textE l e),by unfold goalW;simp⟩
 have co:∀ l w c,∃ y,cmdW l w c=y++[59]:=fun l w c=>⟨sideW w++([32,119,104,101,110,32]++(textE l c.guard++setsW l true c.sets)),by unfold cmdW;simp⟩
 intro x hx
 unfold Xpb at hx
 simp only[List.mem_append,List.mem_cons,List.mem_map] at hx
 rcases hx with ⟨v,hv,rfl⟩|rfl|rfl|⟨c,hc,rfl⟩|⟨c,hc,rfl⟩|⟨e,he,rfl⟩|⟨e,he,rfl⟩|⟨e,he,rfl⟩
 ·exact ⟨sideW v.env++(32::(v.name.data.toList++(32::58::32::Xlg v))),by unfold varW;simp⟩
 ·exact go ..
 ·exact go ..
 ·exact co ..
 ·exact co ..
 ·exact go ..
 ·exact go ..
 ·exact go ..
theorem linesM_len (m:Md):(Xpb m).length=m.vars.length+2+m.env.length+m.sys.length+m.assume.length+m.ensure.length+m.prio.length:=by
 unfold Xpb
 simp only[List.length_append,List.length_cons,List.length_map]
 omega
theorem bt_bs {S:List UInt8}{i:Nat}(h:i<S.length):bt (bs S) i=(S[i].toNat:Int):=by
 have h':i<(bs S).data.toList.length:=by rw[bs_list];exact h
 have:=bt_list (bs S) h'
 rw[this]
 simp only[bs_list]
theorem toNat_eq {c:UInt8}{k:Nat}(hk:k<256):((c.toNat:Int)==(k:Int))=(c==UInt8.ofNat k):=by
 rw[Bool.eq_iff_iff,beq_iff_eq,beq_iff_eq]
 constructor
 ·intro h
  have h:c.toNat=k:=by omega
  rw[←h]
  simp
 ·intro h
  rw[h,UInt8.toNat_ofNat']
  omega
end Go.AM
namespace Go.Proofs.YtpjedhbfkfobcaaGreatDoor
open Go.AM
theorem yes_sp (N:Nat):Xiw (K (N+1))=some (lookR [(0,(T.i 2)),(1,(T.i 1)),(2,noT)]):=C_parrylaw7_yes_K N
def awL:T:=T.l 1 (fun i j=>((([[(T.s (ByteArray.mk #[120])),(T.b true),(T.i 1),(T.i 0),(T.i 0)]]:List (List T)).getD (0+i) []).getD j (.b false)))
theorem KC_noT:KC noT:=⟨by show 0≤_;omega,fun i hi=>absurd hi (Nat.not_lt_zero _)⟩
theorem Xtd:Ev fun N=>Xbq (K N)=rb true:=by
 refine Ev.step (Ev.imp3 (Xpk awL (by show 1≤_;omega) noT noT noT noT noT noT noT Xmy Xmy KC_noT KC_noT Xmy Xmy Xmy) (Expr_sp awL (by show 1≤_;omega) noT Xmy) (Ev.ge 1) fun N h1 h2 hN=> ?_)
 obtain ⟨M,rfl⟩:∃ M,N=M+1:=⟨N-1,by omega⟩
 rw[Xrm]
 have e1:mdOf awL 2 1 noT 2 1 noT noT noT noT noT noT=awM:=rfl
 have f1:=h1 2 1 2 1
 rw[e1,awM_text] at f1
 have e2:Xaa awL=[⟨⟨#[120]⟩,true,1,0,0⟩]:=rfl
 have f2:=h2 4 0
 rw[e2,kidsOf_noT,aw_next] at f2
 refine Xaj (yes_sp M) (Xaj (yes_sp M) (Xaj f1 ?_))
 rw[Xar,str_s,show ByteArray.mk #[101,110,118,32,120,32,58,32,98,111,111,108,59,10,105,110,105,116,32,101,110,118,32,116,114,117,101,59,10,105,110,105,116,32,115,121,115,32,116,114,117,101,59,10]=bs awT from rfl,Xkf,decide_eq_true rfl]
 refine if_of rfl (Xaj f2 ?_)
 rw[Xar,str_s,show ByteArray.mk #[120,39]=bs [120,39] from rfl,Xkf,decide_eq_true rfl]
 rfl
theorem ShowExprs_sp (l:T)(a0 a1:Int)(ak:T)(b0 b1:Int)(bk:T)(wl:WT Tryz.prog 22 l)(wa:WT Tryz.prog 23 ak)(wb:WT Tryz.prog 23 bk):Ev fun N=>Xhi (K N) l a0 a1 ak b0 b1 bk=rb true:=by
 have hl:=WT_len wl
 have ha:=WT_KW wa
 have hb:=WT_KW wb
 refine Ev.step (Ev.imp4 (Ev.and (Xmr l ak bk noT noT noT noT noT hl ha hb KC_noT KC_noT Xmy Xmy Xmy) Xtd) (Ev.and (Expr_sp l hl ak ha) (Expr_sp l hl bk hb)) (Ev.and (Xqb l hl ak ha) (Xqb l hl bk hb)) (refSame_sp ak bk ha hb) fun N p1 p2 p3 p4=> ?_)
 obtain ⟨hh,haw⟩:=p1
 obtain ⟨x1,x2⟩:=p2
 obtain ⟨s1,s2⟩:=p3
 obtain ⟨y,hy⟩:=hh a0 a1 b0 b1
 have aw:((Xbq (K N)).bind fun r=>some (lookR [(0,T.b (r 0).bool)]))=rb true:=by rw[haw];rfl
 rw[Xnz]
 refine Xaj hy (Xfs (fun _=>aw) fun _=>Xaj (x1 a0 a1) (Xaj (x2 b0 b1) (Xaj (s1 a0 a1) (Xaj (s2 b0 b1) ?_))))
 have em:ByteArray.mk #[]=bs []:=rfl
 have g1:∀ {e:Ex},(strEq (bs (showT (Xaa l) e)) (bs [])==((sortE (Xaa l) e).2 != (0:Int)))=true:=fun {e}=>by
  rw[Xkf,beq_iff_eq,Bool.eq_iff_iff,decide_eq_true_eq,showT_empty]
  simp
 rw[em]
 refine if_of g1 (if_of g1 ?_)
 refine Xfs (fun _=>aw) fun c1=>Xfs (fun _=>aw) fun c2=>Xaj (p4 a0 a1 b0 b1) (if_of ?_ aw)
 have c1:strEq (bs (showT (Xaa l) (.mk a0 a1 (Xab ak)))) (bs [])=false:=c1
 have c2:strEq (bs (showT (Xaa l) (.mk b0 b1 (Xab bk)))) (bs [])=false:=c2
 rw[Xkf,decide_eq_false_iff_not,showT_empty] at c1 c2
 have:=showT_same (Decidable.not_not.1 c1) (Decidable.not_not.1 c2)
 show (strEq (bs (showT (Xaa l) (.mk a0 a1 (Xab ak)))) (bs (showT (Xaa l) (.mk b0 b1 (Xab bk))))==_)=true
 rw[Xkf,beq_iff_eq,Bool.eq_iff_iff,decide_eq_true_eq,this]
 rfl
theorem KC_row1 {a b:T}{x y:Int}(ha:KW a)(hb:KS b):KC (T.l 1 (fun i j=>((([[(T.i x),(T.i y),a,b]]:List (List T)).getD (0+i) []).getD j (.b false)))):=by
 refine ⟨by show 1≤_;omega,fun i hi=> ?_⟩
 obtain rfl:i=0:=by
  have:i<1:=hi
  omega
 exact ⟨ha,hb⟩
theorem ShowForms_sp (l:T)(o1 n1:Int)(k1:T)(o2 n2:Int)(k2 te ts ta tn tp:T)(e0 e1:Int)(ek:T)(g0 g1:Int)(gk gs:T)(env:Bool)(wl:WT Tryz.prog 22 l)(w1:WT Tryz.prog 23 k1)(w2:WT Tryz.prog 23 k2)(we:WT Tryz.prog 27 te)(ws:WT Tryz.prog 27 ts)(wa:WT Tryz.prog 23 ta)(wn:WT Tryz.prog 23 tn)(wp:WT Tryz.prog 23 tp)(wk:WT Tryz.prog 23 ek)(wg:WT Tryz.prog 23 gk)(wt:WT Tryz.prog 40 gs):
  Ev fun N=>Xhh (K N) l o1 n1 k1 o2 n2 k2 te ts ta tn tp e0 e1 ek g0 g1 gk gs env=rb true:=by
 have hl:=WT_len wl
 have h1:=WT_KW w1
 have h2:=WT_KW w2
 have he:=WT_KC we
 have hs:=WT_KC ws
 have ha:=WT_KW wa
 have hn:=WT_KW wn
 have hp:=WT_KW wp
 have hk:=WT_KW wk
 have hg:=WT_KW wg
 have ht:=WT_KS wt
 refine Ev.step (Ev.imp4 (Ev.and (Xmr l k1 k2 te ts ta tn tp hl h1 h2 he hs ha hn hp) (Ev.and (Xmr noT ek noT _ noT noT noT noT (by show 0≤_;omega) hk Xmy (KC_row1 (x:=g0) (y:=g1) hg ht) KC_noT Xmy Xmy Xmy) Xtd)) (Ev.and (Expr_sp l hl ek hk) (refText_sp l hl ek hk)) (Ev.and (Command_sp l hl gk gs hg ht) (Xsh l hl gk gs hg ht)) (Ev.and (Xpk l hl k1 k2 te ts ta tn tp h1 h2 he hs ha hn hp) (refModule_sp l hl k1 k2 te ts ta tn tp h1 h2 he hs ha hn hp)) fun N p1 p2 p3 p4=> ?_)
 obtain ⟨hh,hh2,haw⟩:=p1
 obtain ⟨y,hy⟩:=hh o1 n1 o2 n2
 obtain ⟨z,hz⟩:=hh2 e0 e1 0 0
 have aw:((Xbq (K N)).bind fun r=>some (lookR [(0,T.b (r 0).bool)]))=rb true:=by rw[haw];rfl
 have same:∀ w:List UInt8,strEq (bs w) (bs w)=true:=fun w=>by rw[Xkf];simp
 rw[Xny]
 exact Xaj hy (Xaj hz (Xfs (fun _=>aw) fun _=>Xaj (p2.1 e0 e1) (Xaj (p2.2 e0 e1) (if_of (same _) (Xaj (p3.1 g0 g1 env) (Xaj (p3.2 g0 g1 env) (if_of (same _) (Xaj (p4.1 o1 n1 o2 n2) (Xaj (p4.2 o1 n1 o2 n2) (if_of (same _) aw))))))))))
theorem ShowApart_sp (l:T)(o1 n1:Int)(k1:T)(o2 n2:Int)(k2 te ts ta tn tp:T)(l':T)(p1 m1:Int)(k1':T)(p2 m2:Int)(k2' te' ts' ta' tn' tp':T)(wl:WT Tryz.prog 22 l)(w1:WT Tryz.prog 23 k1)(w2:WT Tryz.prog 23 k2)(we:WT Tryz.prog 27 te)(ws:WT Tryz.prog 27 ts)(wa:WT Tryz.prog 23 ta)(wn:WT Tryz.prog 23 tn)(wp:WT Tryz.prog 23 tp)
  (wl':WT Tryz.prog 22 l') (w1':WT Tryz.prog 23 k1') (w2':WT Tryz.prog 23 k2') (we':WT Tryz.prog 27 te') (ws':WT Tryz.prog 27 ts') (wa':WT Tryz.prog 23 ta') (wn':WT Tryz.prog 23 tn') (wp':WT Tryz.prog 23 tp'):
  Ev fun N=>Xhj (K N) l o1 n1 k1 o2 n2 k2 te ts ta tn tp l' p1 m1 k1' p2 m2 k2' te' ts' ta' tn' tp'=rb true:=by
 have hl:=WT_len wl
 have h1:=WT_KW w1
 have h2:=WT_KW w2
 have he:=WT_KC we
 have hs:=WT_KC ws
 have ha:=WT_KW wa
 have hn:=WT_KW wn
 have hp:=WT_KW wp
 have hl':=WT_len wl'
 have h1':=WT_KW w1'
 have h2':=WT_KW w2'
 have he':=WT_KC we'
 have hs':=WT_KC ws'
 have ha':=WT_KW wa'
 have hn':=WT_KW wn'
 have hp':=WT_KW wp'
 refine Ev.step (Ev.imp4 (Ev.and (Xmr l k1 k2 te ts ta tn tp hl h1 h2 he hs ha hn hp) (Ev.and (Xmr l' k1' k2' te' ts' ta' tn' tp' hl' h1' h2' he' hs' ha' hn' hp') Xtd)) (Ev.and (Xpk l hl k1 k2 te ts ta tn tp h1 h2 he hs ha hn hp) (Xpk l' hl' k1' k2' te' ts' ta' tn' tp' h1' h2' he' hs' ha' hn' hp')) (Ev.and (MayM_sp l hl k1 k2 te ts ta tn tp h1 h2 he hs ha hn hp) (MayM_sp l' hl' k1' k2' te' ts' ta' tn' tp' h1' h2' he' hs' ha' hn' hp')) (sameM_sp l k1 k2 te ts ta tn tp l' k1' k2' te' ts' ta' tn' tp' hl h1 h2 he hs ha hn hp h1' h2' he' hs' ha' hn' hp') fun N q1 q2 q3 q4=> ?_)
 obtain ⟨hh,hh2,haw⟩:=q1
 obtain ⟨y,hy⟩:=hh o1 n1 o2 n2
 obtain ⟨z,hz⟩:=hh2 p1 m1 p2 m2
 have aw:((Xbq (K N)).bind fun r=>some (lookR [(0,T.b (r 0).bool)]))=rb true:=by rw[haw];rfl
 have em:ByteArray.mk #[]=bs []:=rfl
 have g1:∀ {m:Md},(strEq (bs (showM m)) (bs [])==(mayM m==(0:Int)))=false:=fun {m}=>by
  rw[Xkf,beq_eq_false_iff_ne]
  intro h
  rw[Bool.eq_iff_iff,decide_eq_true_eq,showM_empty,beq_iff_eq] at h
  by_cases c:mayM m=0
  ·exact h.2 c c
  ·exact c (h.1 c)
 rw[Xoa,em]
 refine Xaj hy (Xaj hz (Xfs (fun _=>aw) fun _=>Xaj (q2.1 o1 n1 o2 n2) (Xaj (q2.2 p1 m1 p2 m2) (Xaj (q3.1 o1 n1 o2 n2) (Xag (g1 (m:=mdOf l o1 n1 k1 o2 n2 k2 te ts ta tn tp)) (Xaj (q3.2 p1 m1 p2 m2) (Xag (g1 (m:=mdOf l' p1 m1 k1' p2 m2 k2' te' ts' ta' tn' tp')) ?_)))))))
 refine Xfs (fun _=>aw) fun c1=>Xfs (fun _=>aw) fun c2=>Xaj (q4 o1 n1 o2 n2 p1 m1 p2 m2) (if_of ?_ aw)
 have c1:strEq (bs (showM (mdOf l o1 n1 k1 o2 n2 k2 te ts ta tn tp))) (bs [])=false:=c1
 have c2:strEq (bs (showM (mdOf l' p1 m1 k1' p2 m2 k2' te' ts' ta' tn' tp'))) (bs [])=false:=c2
 rw[Xkf,decide_eq_false_iff_not,showM_empty] at c1 c2
 have v1:=Decidable.not_not.1 c1
 have v2:=Decidable.not_not.1 c2
 have law:=apart_law v1 v2
 show (strEq (bs (showM (mdOf l o1 n1 k1 o2 n2 k2 te ts ta tn tp))) (bs (showM (mdOf l' p1 m1 k1' p2 m2 k2' te' ts' ta' tn' tp')))==sameM (mdOf l o1 n1 k1 o2 n2 k2 te ts ta tn tp) (mdOf l' p1 m1 k1' p2 m2 k2' te' ts' ta' tn' tp'))=true
 rw[Xkf,beq_iff_eq,Bool.eq_iff_iff,decide_eq_true_eq]
 unfold showM
 rw[if_neg (by simpa using v1),if_neg (by simpa using v2)]
 exact law
end Go.Proofs.YtpjedhbfkfobcaaGreatDoor
