/- A text tells its expression. -/
import Derived.Test.YtpjedhbfkfobcaaGreatDoorSh0
set_option linter.unusedVariables false
set_option linter.unusedSimpArgs false
namespace Go.AM
theorem Xkg {α:Type}(p:α→Bool):∀ (w w' r r':List α),(∀ c∈w,p c=true)→(∀ c∈w',p c=true)→(∀ c,r.head? =some c→p c=false)→(∀ c,r'.head? =some c→p c=false)→w++r=w'++r'→w=w'∧r=r'
 | [],[],r,r',_,_,_,_,h=>⟨rfl,h⟩
 | [],c::w',r,r',_,h2,h3,_,h=>by
  have:=h3 c (by rw[show r=(c::w')++r' from h];rfl)
  rw[h2 c (List.mem_cons_self ..)] at this
  cases this
 | c::w,[],r,r',h1,_,_,h4,h=>by
  have:=h4 c (by rw[show r'=(c::w)++r from h.symm];rfl)
  rw[h1 c (List.mem_cons_self ..)] at this
  cases this
 | c::w,d::w',r,r',h1,h2,h3,h4,h=>by
  rw[List.cons_append,List.cons_append] at h
  obtain ⟨e0,h0⟩:=List.cons.inj h
  obtain ⟨e1,e2⟩:=Xkg p w w' r r' (fun x hx=>h1 x (List.mem_cons_of_mem _ hx)) (fun x hx=>h2 x (List.mem_cons_of_mem _ hx)) h3 h4 h0
  exact ⟨by rw[e0,e1],e2⟩
def wch (c:UInt8):Bool:=decide (97≤c.toNat∧c.toNat≤122∨48≤c.toNat∧c.toNat≤57∨c.toNat=95∨c.toNat=39∨c.toNat=45)
def nch (c:UInt8):Bool:=decide (97≤c.toNat∧c.toNat≤122∨48≤c.toNat∧c.toNat≤57∨c.toNat=95)
def Stop (r:List UInt8):Prop:=∀ c,r.head? =some c→wch c=false
def Word (w:List UInt8):Prop:=∀ c∈w,wch c=true
theorem Xrt {w w' r r':List UInt8}(h1:Word w)(h2:Word w')(h3:Stop r)(h4:Stop r')(h:w++r=w'++r'):w=w'∧r=r':=Xkg wch w w' r r' h1 h2 h3 h4 h
theorem Xcm {c:UInt8}{r:List UInt8}(h:wch c=false):Stop (c::r):=fun d hd=>by
 obtain rfl:c=d:=by simpa using hd
 exact h
theorem dig_nat {n:Nat}(h:n<10):(UInt8.ofNat (48+n)).toNat=48+n:=by
 rw[UInt8.toNat_ofNat']
 omega
theorem Xkq:∀ (k u:Nat),u≤k→(Lib.decDigits u≠[])∧∀ c∈Lib.decDigits u,48≤c.toNat∧c.toNat≤57
 | k,u,hk=>by
  rw[Lib.decDigits]
  by_cases h:u<10
  ·rw[dif_pos h]
   refine ⟨by simp,fun c hc=> ?_⟩
   obtain rfl:=List.mem_singleton.1 hc
   rw[dig_nat h];omega
  ·rw[dif_neg h]
   refine ⟨by simp,fun c hc=> ?_⟩
   rcases List.mem_append.1 hc with hc|hc
   ·match k,hk with
    | 0,hk=>omega
    | k+1,hk=>exact (Xkq k (u / 10) (by omega)).2 c hc
   ·obtain rfl:=List.mem_singleton.1 hc
    rw[dig_nat (by omega)];omega
theorem digits_inj:∀ (k u v:Nat),u≤k→Lib.decDigits u=Lib.decDigits v→u=v
 | k,u,v,hk,h=>by
  rw[Lib.decDigits.eq_1 u,Lib.decDigits.eq_1 v] at h
  by_cases hu:u<10
  ·rw[dif_pos hu] at h
   by_cases hv:v<10
   ·rw[dif_pos hv] at h
    have:=congrArg UInt8.toNat (List.cons.inj h).1
    rw[dig_nat hu,dig_nat hv] at this
    omega
   ·rw[dif_neg hv] at h
    have:=congrArg List.length h
    have h2:0<(Lib.decDigits (v / 10)).length:=List.length_pos_iff.2 (Xkq _ (v / 10) (Nat.le_refl _)).1
    simp only[List.length_append,List.length_singleton] at this
    omega
  ·rw[dif_neg hu] at h
   by_cases hv:v<10
   ·rw[dif_pos hv] at h
    have:=congrArg List.length h
    have h2:0<(Lib.decDigits (u / 10)).length:=List.length_pos_iff.2 (Xkq _ (u / 10) (Nat.le_refl _)).1
    simp only[List.length_append,List.length_singleton] at this
    omega
   ·rw[dif_neg hv] at h
    have hl:=List.append_inj' h (by simp)
    have:=congrArg UInt8.toNat (List.cons.inj hl.2).1
    rw[dig_nat (by omega),dig_nat (by omega)] at this
    match k,hk with
    | 0,hk=>omega
    | k+1,hk=>
     have:=digits_inj k (u / 10) (v / 10) (by omega) hl.1
     omega
theorem Xpc (x:Int):Word (Lib.itoa x):=by
 unfold Lib.itoa
 have key:∀ u,Word (Lib.decDigits u):=fun u c hc=>by
  have:=(Xkq u u (Nat.le_refl _)).2 c hc
  exact decide_eq_true (.inr (.inl this))
 split
 ·intro c hc
  rcases List.mem_cons.1 hc with rfl|hc
  ·decide
  ·exact key _ c hc
 ·exact key _
theorem Xst (x:Int):∃ c r,Lib.itoa x=c::r∧(c.toNat=45∨48≤c.toNat∧c.toNat≤57):=by
 unfold Lib.itoa
 split
 ·exact ⟨45,_,rfl,.inl rfl⟩
 ·obtain ⟨h1,h2⟩:=Xkq x.toNat x.toNat (Nat.le_refl _)
  obtain ⟨c,r,e⟩:=List.exists_cons_of_ne_nil h1
  exact ⟨c,r,e,.inr (h2 c (by rw[e];exact List.mem_cons_self ..))⟩
theorem itoa_inj {x y:Int}(h:Lib.itoa x=Lib.itoa y):x=y:=by
 unfold Lib.itoa at h
 have no:∀ (u:Nat) (r:List UInt8),(45:UInt8)::r≠Lib.decDigits u:=fun u r e=>by
  have:=(Xkq u u (Nat.le_refl _)).2 45 (by rw[←e];exact List.mem_cons_self ..)
  revert this;decide
 by_cases hx:x<0
 ·rw[if_pos hx] at h
  by_cases hy:y<0
  ·rw[if_pos hy] at h
   have:=digits_inj _ _ _ (Nat.le_refl _) (List.cons.inj h).2
   omega
  ·rw[if_neg hy] at h
   exact absurd h (no _ _)
 ·rw[if_neg hx] at h
  by_cases hy:y<0
  ·rw[if_pos hy] at h
   exact absurd h.symm (no _ _)
  ·rw[if_neg hy] at h
   have:=digits_inj _ _ _ (Nat.le_refl _) h
   omega
theorem bt_list (s:ByteArray){i:Nat}(h:i<s.data.toList.length):bt s i=((s.data.toList[i].toNat:Nat):Int):=by
 have h':i<s.data.size:=by simpa using h
 unfold bt
 rw[Array.getD_eq_getD_getElem?,Array.getElem?_eq_getElem h',Option.getD_some,Array.getElem_toList]
theorem chars_all {s:ByteArray}:∀ (m i:Nat),Xee s i m=true→∀ j,i≤j→j<i+m→Xhy j (bt s j)=true
 | 0,i,_,j,h1,h2=>by omega
 | m+1,i,h,j,h1,h2=>by
  simp only[Xee,Bool.and_eq_true] at h
  by_cases e:i=j
  ·subst e;exact h.1
  ·exact chars_all m (i+1) h.2 j (by omega) (by omega)
structure NameL (w:List UInt8):Prop where
 all:∀ c∈w,nch c=true
 head:∃ c r,w=c::r∧97≤c.toNat∧c.toNat≤122
 len:w.length≤16
 no:∀ x∈words,w≠x.data.toList
theorem strEq_list {a b:ByteArray}:strEq a b=true↔a.data.toList=b.data.toList:=by
 have e:∀ x:ByteArray,x.toList=x.data.toList:=fun x=>by
  have:=ByteArray.toList_eq x
  exact this
 unfold strEq
 rw[beq_iff_eq,e,e]
theorem name_list {s:ByteArray}(h:nameE s=true):NameL s.data.toList:=by
 unfold nameE at h
 simp only[Bool.and_eq_true,decide_eq_true_eq] at h
 obtain ⟨⟨⟨h1,h2⟩,h3⟩,h4⟩:=h
 rw[Xry] at h1 h2
 have all:∀ j (hj:j<s.data.toList.length),Xhy j (((s.data.toList[j].toNat:Nat):Int))=true:=fun j hj=>by
  rw[←bt_list s hj]
  exact chars_all s.size 0 h4 j (by omega) (by rw[Xry];omega)
 constructor
 ·intro c hc
  obtain ⟨j,hj,rfl⟩:=List.mem_iff_getElem.1 hc
  have:=all j hj
  simp only[Xhy,decide_eq_true_eq] at this
  exact decide_eq_true (by omega)
 ·cases hw:s.data.toList with
  | nil=>rw[hw] at h1;simp at h1
  | cons c r=>
   refine ⟨c,r,rfl,?_⟩
   have:=all 0 (by omega)
   simp only[Xhy,decide_eq_true_eq,hw,List.getElem_cons_zero] at this
   omega
 ·exact h2
 ·intro x hx e
  have:wordE s=true:=List.any_eq_true.2 ⟨x,hx,strEq_list.2 e⟩
  rw[this] at h3;simp at h3
theorem NameL.word {w:List UInt8}(h:NameL w):Word w:=fun c hc=>by
 have:=h.all c hc
 simp only[nch,decide_eq_true_eq] at this
 exact decide_eq_true (by omega)
def Names (l:List Va):Prop:=(∀ v∈l,NameL v.name.data.toList)∧∀ i j (hi:i<l.length) (hj:j<l.length),l[i].name.data.toList=l[j].name.data.toList→i=j
theorem Xsk {l:List Va}(h:mayV l=0):Names l:=by
 have hv:=(mayV_iff.1 h).1
 refine ⟨fun v hv'=> ?_,fun i j hi hj e=> ?_⟩
 ·obtain ⟨j,hj,rfl⟩:=List.mem_iff_getElem.1 hv'
  exact name_list (hv j hj).1
 ·rcases Nat.lt_trichotomy i j with c|c|c
  ·have:=(hv j hj).2.1 i hi c
   rw[strEq_list.2 e] at this;cases this
  ·exact c
  ·have:=(hv i hi).2.1 j hj c
   rw[strEq_list.2 e.symm] at this;cases this
theorem Xmn {l:List Va}{i:Nat}{v:Va}(h:l[i]? =some v):Xdw l (i:Int)=v.name.data.toList:=by
 unfold Xdw
 rw[Int.toNat_natCast,h];rfl
def trueW:List UInt8:=[116,114,117,101]
def falseW:List UInt8:=[102,97,108,115,101]
inductive Atom (l:List Va):Ex→List UInt8→Prop
 | num (n:Int):Atom l (.mk 1 n []) (Lib.itoa n)
 | tt:Atom l (.mk 2 1 []) trueW
 | ff:Atom l (.mk 2 0 []) falseW
 | var {i:Nat} {v:Va} (h:l[i]? =some v):Atom l (.mk 3 i []) v.name.data.toList
 | next {i:Nat} {v:Va} (h:l[i]? =some v):Atom l (.mk 4 i []) (v.name.data.toList++[39])
theorem Xlb {w:List UInt8}(h:NameL w)(n:Int)(t:List UInt8):Lib.itoa n≠w++t:=fun e=>by
 obtain ⟨c,r,e1,h1⟩:=Xst n
 obtain ⟨d,q,e2,h2⟩:=h.head
 rw[e1,e2] at e
 have:=congrArg UInt8.toNat (List.cons.inj e).1
 omega
theorem Xjn (n:Int){w:List UInt8}(h:∃ c r,w=c::r∧97≤c.toNat):Lib.itoa n≠w:=fun e=>by
 obtain ⟨c,r,e1,h1⟩:=Xst n
 obtain ⟨d,q,e2,h2⟩:=h
 rw[e1,e2] at e
 have:=congrArg UInt8.toNat (List.cons.inj e).1
 omega
theorem Xsl {w v:List UInt8}(h:NameL w):w≠v++[39]:=fun e=>by
 have:=h.all 39 (by rw[e];simp)
 revert this;decide
theorem Xgk {w v:List UInt8}(h:(39:UInt8)∉w):w≠v++[39]:=fun e=>h (by rw[e];simp)
theorem Xmm {w x:List UInt8}(h:NameL w)(hx:(⟨x.toArray⟩:ByteArray)∈words):w≠x:=fun e=>h.no _ hx (by simpa using e)
theorem true_in:(⟨trueW.toArray⟩:ByteArray)∈words:=by simp[words,trueW]
theorem false_in:(⟨falseW.toArray⟩:ByteArray)∈words:=by simp[words,falseW]
theorem Atom.word {l:List Va}(hl:Names l){e:Ex}{w:List UInt8}(h:Atom l e w):Word w∧∃ c r,w=c::r:=by
 cases h with
 | num n=>obtain ⟨c,r,e,_⟩:=Xst n;exact ⟨Xpc n,c,r,e⟩
 | tt=>exact ⟨by unfold Word trueW;decide,_,_,rfl⟩
 | ff=>exact ⟨by unfold Word falseW;decide,_,_,rfl⟩
 | var h=>
  have hn:=hl.1 _ (List.mem_of_getElem? h)
  obtain ⟨c,r,e,_⟩:=hn.head
  exact ⟨hn.word,c,r,e⟩
 | @next i v h=>
  have hn:=hl.1 _ (List.mem_of_getElem? h)
  obtain ⟨c,r,e,_⟩:=hn.head
  refine ⟨fun d hd=> ?_,c,r++[39],by rw[e];rfl⟩
  rcases List.mem_append.1 hd with hd|hd
  ·exact hn.word d hd
  ·obtain rfl:=List.mem_singleton.1 hd;decide
theorem var_eq {l:List Va}(hl:Names l){i j:Nat}{v w:Va}(h1:l[i]? =some v)(h2:l[j]? =some w)(e:v.name.data.toList=w.name.data.toList):i=j:=by
 obtain ⟨a1,a2⟩:=List.getElem?_eq_some_iff.1 h1
 obtain ⟨b1,b2⟩:=List.getElem?_eq_some_iff.1 h2
 exact hl.2 i j a1 b1 (by rw[a2,b2];exact e)
theorem atom_inj {l:List Va}(hl:Names l){a b:Ex}{w:List UInt8}(ha:Atom l a w){w':List UInt8}(hb:Atom l b w')(e:w=w'):a=b:=by
 cases ha with
 | num n=>
  cases hb with
  | num m=>rw[itoa_inj e]
  | tt=>exact absurd e (Xjn n ⟨116,_,rfl,by decide⟩)
  | ff=>exact absurd e (Xjn n ⟨102,_,rfl,by decide⟩)
  | var h=>exact absurd (e.trans (List.append_nil _).symm) (Xlb (hl.1 _ (List.mem_of_getElem? h)) n [])
  | next h=>exact absurd e (Xlb (hl.1 _ (List.mem_of_getElem? h)) n [39])
 | tt=>
  cases hb with
  | num m=>exact absurd e.symm (Xjn m ⟨116,_,rfl,by decide⟩)
  | tt=>rfl
  | ff=>exact absurd e (by decide)
  | var h=>exact absurd e.symm (Xmm (hl.1 _ (List.mem_of_getElem? h)) true_in)
  | next h=>exact absurd e (Xgk (by decide))
 | ff=>
  cases hb with
  | num m=>exact absurd e.symm (Xjn m ⟨102,_,rfl,by decide⟩)
  | tt=>exact absurd e (by decide)
  | ff=>rfl
  | var h=>exact absurd e.symm (Xmm (hl.1 _ (List.mem_of_getElem? h)) false_in)
  | next h=>exact absurd e (Xgk (by decide))
 | var h=>
  have hn:=hl.1 _ (List.mem_of_getElem? h)
  cases hb with
  | num m=>exact absurd (e.symm.trans (List.append_nil _).symm) (Xlb hn m [])
  | tt=>exact absurd e (Xmm hn true_in)
  | ff=>exact absurd e (Xmm hn false_in)
  | var h'=>rw[var_eq hl h h' e]
  | next h'=>exact absurd e (Xsl hn)
 | next h=>
  have hn:=hl.1 _ (List.mem_of_getElem? h)
  cases hb with
  | num m=>exact absurd e.symm (Xlb hn m [39])
  | tt=>exact absurd e.symm (Xgk (by decide))
  | ff=>exact absurd e.symm (Xgk (by decide))
  | var h'=>exact absurd e.symm (Xsl (hl.1 _ (List.mem_of_getElem? h')))
  | next h'=>rw[var_eq hl h h' (List.append_inj' e rfl).1]
theorem atom_not {l:List Va}(hl:Names l){a:Ex}{w x:List UInt8}(ha:Atom l a w)(hx:(⟨x.toArray⟩:ByteArray)∈words)(h1:x≠trueW)(h2:x≠falseW)(h3:∃ c r,x=c::r∧97≤c.toNat)(h4:(39:UInt8)∉x):w≠x:=fun e=>by
 cases ha with
 | num n=>exact Xjn n h3 e
 | tt=>exact h1 e.symm
 | ff=>exact h2 e.symm
 | var h=>exact Xmm (hl.1 _ (List.mem_of_getElem? h)) hx e
 | next h=>exact Xgk h4 e.symm
inductive Shp (l:List Va):Ex→Prop
 | atom {e:Ex} (h:Atom l e (textE l e)):Shp l e
 | not {a:Ex} (ha:Shp l a):Shp l (.mk 5 0 [a])
 | two {op:Int} {a b:Ex} (ho:6≤op∧op≤14) (ha:Shp l a) (hb:Shp l b):Shp l (.mk op 0 [a,b])
 | ite {a b c:Ex} (ha:Shp l a) (hb:Shp l b) (hc:Shp l c):Shp l (.mk 15 0 [a,b,c])
theorem Xru {l:List Va}{e:Ex}{s:Int}(h:Typed l e s):Shp l e:=by
 induction h with
 | num h1 h2=>exact .atom (.num _)
 | bool h=>
  rcases h with rfl|rfl
  ·exact .atom .ff
  ·exact .atom .tt
 | @var op i v ho h hi=>
  rcases ho with rfl|rfl
  ·refine .atom ?_
   rw[show textE l (.mk 3 (i:Int) [])=Xdw l (i:Int) from rfl,Xmn h]
   exact .var h
  ·refine .atom ?_
   rw[show textE l (.mk 4 (i:Int) [])=Xdw l (i:Int)++[39] from rfl,Xmn h]
   exact .next h
 | not ha ih=>exact .not ih
 | logic ho ha hb iha ihb=>exact .two (by omega) iha ihb
 | same ha hb iha ihb=>exact .two (by omega) iha ihb
 | less ho ha hb iha ihb=>exact .two (by omega) iha ihb
 | sum ho ha hb iha ihb=>exact .two (by omega) iha ihb
 | ite ha hb hc iha ihb ihc=>exact .ite iha ihb ihc
theorem sign_inj {o p:Int}(ho:6≤o∧o≤14)(hp:6≤p∧p≤14)(h:signW o=signW p):o=p:=by
 obtain rfl|rfl|rfl|rfl|rfl|rfl|rfl|rfl|rfl:o=6∨o=7∨o=8∨o=9∨o=10∨o=11∨o=12∨o=13∨o=14:=by omega
 all_goals
  obtain rfl|rfl|rfl|rfl|rfl|rfl|rfl|rfl|rfl:p=6∨p=7∨p=8∨p=9∨p=10∨p=11∨p=12∨p=13∨p=14:=by omega
  all_goals first|rfl|exact absurd h (by decide)
theorem sign_no (o:Int):∀ c∈signW o,(c != (32:UInt8))=true:=by
 unfold signW
 repeat' split
 all_goals decide
theorem Xnf (l:List Va){op:Int}(ho:6≤op∧op≤14)(a b:Ex)(r:List UInt8):textE l (.mk op 0 [a,b])++r=40::(textE l a++(32::(signW op++(32::(textE l b++(41::r)))))):=by
 rw[show textE l (.mk op 0 [a,b])=textN l op 0 [textE l a,textE l b] from rfl,Xrw l ho]
 simp
theorem Xle (l:List Va)(a:Ex)(r:List UInt8):textE l (.mk 5 0 [a])++r=40::([110,111,116]++(32::(textE l a++(41::r)))):=by
 rw[show textE l (.mk 5 0 [a])=(notW++textE l a)++[41] from rfl]
 simp[notW]
theorem Xng (l:List Va)(a b c:Ex)(r:List UInt8):textE l (.mk 15 0 [a,b,c])++r=40::([105,102]++(32::(textE l a++(32::([116,104,101,110,32]++(textE l b++(32::([101,108,115,101,32]++(textE l c++(41::r)))))))))):=by
 rw[show textE l (.mk 15 0 [a,b,c])=(((((ifW++textE l a)++thenW)++textE l b)++elseW)++textE l c)++[41] from rfl]
 simp[ifW,thenW,elseW]
theorem s32:wch 32=false:=by decide
theorem s41:wch 41=false:=by decide
theorem Xii {l:List Va}(hl:Names l){a:Ex}{w r x:List UInt8}(ha:Atom l a w):w++r≠40::x:=fun e=>by
 obtain ⟨h1,c,q,rfl⟩:=ha.word hl
 have:=(List.cons.inj e).1
 subst this
 exact absurd (h1 40 (List.mem_cons_self ..)) (by decide)
theorem shp_word {l:List Va}(hl:Names l){a:Ex}(ha:Shp l a){x r y:List UInt8}(hr:Stop r)(hy:Stop y)(hw:Word x)(hx:(⟨x.toArray⟩:ByteArray)∈words)(h1:x≠trueW)(h2:x≠falseW)(h3:∃ c r,x=c::r∧97≤c.toNat)(h4:(39:UInt8)∉x):textE l a++r≠x++y:=fun e=>by
 have no:∀ z:List UInt8,40::z≠x++y:=fun z e=>by
  obtain ⟨c,q,rfl,h⟩:=h3
  have:=(List.cons.inj e).1
  subst this
  revert h;decide
 cases ha with
 | atom h=>exact atom_not hl h hx h1 h2 h3 h4 (Xrt (h.word hl).1 hw hr hy e).1
 | not _=>rw[Xle] at e;exact no _ e
 | two ho _ _=>rw[Xnf l ho] at e;exact no _ e
 | ite _ _ _=>rw[Xng] at e;exact no _ e
theorem not_in:(⟨([110,111,116]:List UInt8).toArray⟩:ByteArray)∈words:=by simp[words]
theorem if_in:(⟨([105,102]:List UInt8).toArray⟩:ByteArray)∈words:=by simp[words]
theorem any_in:(⟨([97,110,121]:List UInt8).toArray⟩:ByteArray)∈words:=by simp[words]
theorem shp_not {l:List Va}(hl:Names l){a:Ex}(ha:Shp l a){r y:List UInt8}:textE l a++(32::r)≠[110,111,116]++(32::y):=shp_word hl ha (Xcm s32) (Xcm s32) (by unfold Word;decide) not_in (by decide) (by decide) ⟨110,_,rfl,by decide⟩ (by decide)
theorem shp_if {l:List Va}(hl:Names l){a:Ex}(ha:Shp l a){r y:List UInt8}:textE l a++(32::r)≠[105,102]++(32::y):=shp_word hl ha (Xcm s32) (Xcm s32) (by unfold Word;decide) if_in (by decide) (by decide) ⟨105,_,rfl,by decide⟩ (by decide)
theorem text_inj {l:List Va}(hl:Names l){a:Ex}(ha:Shp l a):∀ {b:Ex},Shp l b→∀ {r r':List UInt8},Stop r→Stop r'→textE l a++r=textE l b++r'→a=b∧r=r':=by
 induction ha with
 | atom h=>
  intro b hb r r' hr hr' e
  cases hb with
  | atom h'=>
   obtain ⟨e1,e2⟩:=Xrt (h.word hl).1 (h'.word hl).1 hr hr' e
   exact ⟨atom_inj hl h h' e1,e2⟩
  | not _=>rw[Xle] at e;exact absurd e (Xii hl h)
  | two ho _ _=>rw[Xnf l ho] at e;exact absurd e (Xii hl h)
  | ite _ _ _=>rw[Xng] at e;exact absurd e (Xii hl h)
 | not ha ih=>
  intro b hb r r' hr hr' e
  rw[Xle] at e
  cases hb with
  | atom h'=>exact absurd e.symm (Xii hl h')
  | not hb=>
   rw[Xle] at e
   have e:=(List.cons.inj (List.append_cancel_left (List.cons.inj e).2)).2
   obtain ⟨rfl,e2⟩:=ih hb (Xcm s41) (Xcm s41) e
   exact ⟨rfl,(List.cons.inj e2).2⟩
  | two ho hb _=>rw[Xnf l ho] at e;exact absurd (List.cons.inj e).2.symm (shp_not hl hb)
  | ite _ _ _=>rw[Xng] at e;exact absurd (List.cons.inj (List.cons.inj e).2).1 (by decide)
 | @two op a b ho ha hb iha ihb=>
  intro b' hb' r r' hr hr' e
  rw[Xnf l ho] at e
  cases hb' with
  | atom h'=>exact absurd e.symm (Xii hl h')
  | not _=>rw[Xle] at e;exact absurd (List.cons.inj e).2 (shp_not hl ha)
  | ite _ _ _=>rw[Xng] at e;exact absurd (List.cons.inj e).2 (shp_if hl ha)
  | @two op' a' b' ho' ha' hb'=>
   rw[Xnf l ho'] at e
   obtain ⟨rfl,e2⟩:=iha ha' (Xcm s32) (Xcm s32) (List.cons.inj e).2
   have st:∀ (z:List UInt8) (c:UInt8),(32::z).head? =some c→(c != (32:UInt8))=false:=fun z c hc=>by
    obtain rfl:(32:UInt8)=c:=by simpa using hc
    rfl
   obtain ⟨e3,e4⟩:=Xkg (fun c=>c != (32:UInt8)) _ _ _ _ (sign_no op) (sign_no op') (st _) (st _) (List.cons.inj e2).2
   obtain rfl:=sign_inj ho ho' e3
   obtain ⟨rfl,e5⟩:=ihb hb' (Xcm s41) (Xcm s41) (List.cons.inj e4).2
   exact ⟨rfl,(List.cons.inj e5).2⟩
 | ite ha hb hc iha ihb ihc=>
  intro b' hb' r r' hr hr' e
  rw[Xng] at e
  cases hb' with
  | atom h'=>exact absurd e.symm (Xii hl h')
  | not _=>rw[Xle] at e;exact absurd (List.cons.inj (List.cons.inj e).2).1 (by decide)
  | two ho hb' _=>rw[Xnf l ho] at e;exact absurd (List.cons.inj e).2.symm (shp_if hl hb')
  | ite ha' hb' hc'=>
   rw[Xng] at e
   have f1:=(List.cons.inj (List.append_cancel_left (List.cons.inj e).2)).2
   obtain ⟨g1,f2⟩:=iha ha' (Xcm s32) (Xcm s32) f1
   have f3:=List.append_cancel_left (List.cons.inj f2).2
   obtain ⟨g2,f4⟩:=ihb hb' (Xcm s32) (Xcm s32) f3
   have f5:=List.append_cancel_left (List.cons.inj f4).2
   obtain ⟨g3,f6⟩:=ihc hc' (Xcm s41) (Xcm s41) f5
   exact ⟨by rw[g1,g2,g3],(List.cons.inj f6).2⟩
end Go.AM
set_option linter.unusedVariables false
set_option linter.unusedSimpArgs false
namespace Go.AM
open Go.Proofs.YtpjedhbfkfobcaaGreatDoor
def envW:List UInt8:=[101,110,118]
def sysW:List UInt8:=[115,121,115]
def sideW (env:Bool):List UInt8:=bif env then envW else sysW
def Xlg (v:Va):List UInt8:=if v.sort=1 then [98,111,111,108] else Lib.itoa v.lo++(46::46::Lib.itoa v.hi)
def varW (v:Va):List UInt8:=sideW v.env++(32::(v.name.data.toList++(32::58::32::(Xlg v++[59]))))
def anyW:List UInt8:=[97,110,121]
def toW (l:List Va)(s:Se):List UInt8:=bif s.any then anyW else textE l s.e
def setsW (l:List Va):Bool→List Se→List UInt8
 | _,[]=>[]
 | f,s::r=>(bif f then [32,100,111,32] else [44,32])++(Xdw l s.var++([32,58,61,32]++(toW l s++setsW l false r)))
def cmdW (l:List Va)(env:Bool)(c:Cm):List UInt8:=sideW env++([32,119,104,101,110,32]++(textE l c.guard++(setsW l true c.sets++[59])))
def goalW (l:List Va)(w:List UInt8)(e:Ex):List UInt8:=w++(32::(textE l e++[59]))
def ieW:List UInt8:=[105,110,105,116,32,101,110,118]
def isW:List UInt8:=[105,110,105,116,32,115,121,115]
def assumeW:List UInt8:=[97,115,115,117,109,101]
def ensureW:List UInt8:=[101,110,115,117,114,101]
def prioW:List UInt8:=[112,114,105,111]
def Xpb (m:Md):List (List UInt8):=m.vars.map varW++(goalW m.vars ieW m.ie::goalW m.vars isW m.is::(m.env.map (cmdW m.vars true)++(m.sys.map (cmdW m.vars false)++(m.assume.map (goalW m.vars assumeW)++(m.ensure.map (goalW m.vars ensureW)++m.prio.map (goalW m.vars prioW))))))
def joinW:List (List UInt8)→List UInt8
 | []=>[]
 | x::r=>x++(10::joinW r)
def textM (m:Md):List UInt8:=joinW (Xpb m)
def showM (m:Md):List UInt8:=if mayM m≠0 then [] else textM m
theorem joinW_app:∀ a b:List (List UInt8),joinW (a++b)=joinW a++joinW b
 | [],b=>rfl
 | x::a,b=>by simp only[List.cons_append,joinW,joinW_app a b,List.append_assoc]
def NoNl (w:List UInt8):Prop:=∀ c∈w,(c != (10:UInt8))=true
theorem NoNl.app {a b:List UInt8}(h:NoNl a)(k:NoNl b):NoNl (a++b):=fun c hc=>(List.mem_append.1 hc).elim (h c) (k c)
theorem NoNl.cons {a:UInt8}{b:List UInt8}(h:(a != (10:UInt8))=true)(k:NoNl b):NoNl (a::b):=fun c hc=>by
 rcases List.mem_cons.1 hc with rfl|hc
 ·exact h
 ·exact k c hc
theorem NoNl.nil:NoNl []:=fun c hc=>absurd hc List.not_mem_nil
theorem Word.nl {w:List UInt8}(h:Word w):NoNl w:=fun c hc=>by
 have:=h c hc
 cases e:c != (10:UInt8) with
 | true=>rfl
 | false=>
  obtain rfl:c=10:=by simpa using e
  revert this;decide
theorem sign_nl (o:Int):NoNl (signW o):=by
 unfold signW NoNl
 repeat' split
 all_goals decide
theorem side_nl (b:Bool):NoNl (sideW b):=by cases b<;>(unfold NoNl;decide)
theorem shp_nl {l:List Va}(hl:Names l){e:Ex}(h:Shp l e):NoNl (textE l e):=by
 induction h with
 | atom h=>exact (h.word hl).1.nl
 | not ha ih=>
  rw[←List.append_nil (textE l _),Xle]
  exact .cons rfl (.app (by unfold NoNl;decide) (.cons rfl (.app ih (.cons rfl .nil))))
 | two ho ha hb iha ihb=>
  rw[←List.append_nil (textE l _),Xnf l ho]
  exact .cons rfl (.app iha (.cons rfl (.app (sign_nl _) (.cons rfl (.app ihb (.cons rfl .nil))))))
 | ite ha hb hc iha ihb ihc=>
  rw[←List.append_nil (textE l _),Xng]
  exact .cons rfl (.app (by unfold NoNl;decide) (.cons rfl (.app iha (.cons rfl (.app (by unfold NoNl;decide) (.app ihb (.cons rfl (.app (by unfold NoNl;decide) (.app ihc (.cons rfl .nil))))))))))
structure SetOk (l:List Va)(s:Se):Prop where
 lo:0≤s.var
 hi:s.var<(l.length:Int)
 any:s.any=true→s.e= .mk 0 0 []
 not:s.any=false→Shp l s.e
theorem bare_eq {e:Ex}(h:bareE e=true):e= .mk 0 0 []:=by
 obtain ⟨o,n,ks⟩:=e
 simp only[bareE,Bool.and_eq_true,decide_eq_true_eq] at h
 obtain ⟨⟨rfl,rfl⟩,h⟩:=h
 rw[List.eq_nil_of_length_eq_zero h]
theorem Xkv {l:List Va}{e:Ex}{want:Int}{now env sys:Bool}(h:Xcb l e want now env sys=0):Shp l e:=Xru (Xpw (Xhe h).1).2.2.2.2.2
theorem sets_ok {l:List Va}{env:Bool}:∀ {ss:List Se} {was:List Int},Xhw l env ss was=0→∀ s∈ss,SetOk l s
 | [],_,_,s,hs=>absurd hs (List.not_mem_nil)
 | s::r,was,h,x,hx=>by
  simp only[Xhw] at h
  by_cases c:setE l env was s=0
  case neg=>rw[if_pos c] at h;exact absurd h c
  rw[if_neg (by simpa using c)] at h
  rcases List.mem_cons.1 hx with rfl|hx
  ·obtain ⟨a1,a2,_,_⟩:=setE_zero c
   unfold setE at c
   split at c
   ·exact absurd c (by omega)
   ·split at c
    ·exact absurd c (by omega)
    ·rename_i d1 d2
     refine ⟨a1,a2,fun hy=>bare_eq ?_,fun hn=> ?_⟩
     ·cases d:bareE x.e with
      | true=>rfl
      | false=>exact absurd ⟨hy,d⟩ d2
     ·rw[if_neg (by simp[hn])] at c
      exact Xkv c
  ·exact sets_ok h x hx
theorem Xoz {l:List Va}(hl:Names l){i:Int}(h0:0≤i)(h1:i<(l.length:Int)):NameL (Xdw l i):=by
 have hi:i.toNat<l.length:=by omega
 have e:=Xmn (List.getElem?_eq_getElem hi)
 rw[Int.toNat_of_nonneg h0] at e
 rw[e]
 exact hl.1 _ (List.getElem_mem hi)
theorem nameAt_inj {l:List Va}(hl:Names l){i j:Int}(h0:0≤i)(h1:i<(l.length:Int))(k0:0≤j)(k1:j<(l.length:Int))(e:Xdw l i=Xdw l j):i=j:=by
 have hi:i.toNat<l.length:=by omega
 have hj:j.toNat<l.length:=by omega
 have e1:=Xmn (List.getElem?_eq_getElem hi)
 have e2:=Xmn (List.getElem?_eq_getElem hj)
 rw[Int.toNat_of_nonneg h0] at e1
 rw[Int.toNat_of_nonneg k0] at e2
 have:=hl.2 _ _ hi hj (by rw[←e1,←e2,e])
 omega
theorem s44:wch 44=false:=by decide
theorem s46:wch 46=false:=by decide
theorem s59:wch 59=false:=by decide
theorem Xsa (l:List Va)(f:Bool)(ss:List Se)(r:List UInt8):Stop (setsW l f ss++(59::r)):=by
 cases ss with
 | nil=>exact Xcm s59
 | cons s ss=>
  cases f with
  | true=>exact Xcm s32
  | false=>exact Xcm s44
theorem any_word:Word anyW:=by unfold Word anyW;decide
theorem sets_inj {l:List Va}(hl:Names l):∀ (f:Bool) (ss ss':List Se),(∀ s∈ss,SetOk l s)→(∀ s∈ss',SetOk l s)→∀ r r',setsW l f ss++(59::r)=setsW l f ss'++(59::r')→ss=ss'∧r=r'
 | f,[],[],_,_,r,r',h=>⟨rfl,(List.cons.inj h).2⟩
 | f,[],s::ss',_,_,r,r',h=>by
  cases f
  ·exact absurd (List.cons.inj h).1 (by decide)
  ·exact absurd (List.cons.inj h).1 (by decide)
 | f,s::ss,[],_,_,r,r',h=>by
  cases f
  ·exact absurd (List.cons.inj h).1 (by decide)
  ·exact absurd (List.cons.inj h).1 (by decide)
 | f,s::ss,t::ts,h1,h2,r,r',h=>by
  have hs:=h1 s (List.mem_cons_self ..)
  have ht:=h2 t (List.mem_cons_self ..)
  simp only[setsW,List.append_assoc] at h
  have h:=List.append_cancel_left h
  obtain ⟨e1,h⟩:=Xrt (Xoz hl hs.lo hs.hi).word (Xoz hl ht.lo ht.hi).word (Xcm s32) (Xcm s32) h
  have e1:=nameAt_inj hl hs.lo hs.hi ht.lo ht.hi e1
  have h:=List.append_cancel_left (show ([32,58,61,32]:List UInt8)++(toW l s++(setsW l false ss++59::r))=[32,58,61,32]++(toW l t++(setsW l false ts++59::r')) from h)
  have key:s.any=t.any∧s.e=t.e∧setsW l false ss++(59::r)=setsW l false ts++(59::r'):=by
   have st:=Xsa l false ss r
   have st':=Xsa l false ts r'
   unfold toW at h
   cases ca:s.any with
   | true=>
    cases cb:t.any with
    | true=>
     rw[ca,cb] at h
     exact ⟨rfl,by rw[hs.any ca,ht.any cb],List.append_cancel_left h⟩
    | false=>
     rw[ca,cb] at h
     exact absurd h.symm (shp_word (x:=anyW) hl (ht.not cb) st' st any_word any_in (by decide) (by decide) ⟨97,_,rfl,by decide⟩ (by decide))
   | false=>
    cases cb:t.any with
    | true=>
     rw[ca,cb] at h
     exact absurd h (shp_word (x:=anyW) hl (hs.not ca) st st' any_word any_in (by decide) (by decide) ⟨97,_,rfl,by decide⟩ (by decide))
    | false=>
     rw[ca,cb] at h
     obtain ⟨a,b⟩:=text_inj hl (hs.not ca) (ht.not cb) st st' h
     exact ⟨rfl,a,b⟩
  obtain ⟨k1,k2,k3⟩:=key
  obtain ⟨k4,k5⟩:=sets_inj hl false ss ts (fun x hx=>h1 x (List.mem_cons_of_mem _ hx)) (fun x hx=>h2 x (List.mem_cons_of_mem _ hx)) r r' k3
  refine ⟨?_,k5⟩
  rw[k4]
  congr 1
  obtain ⟨sv,sa,se⟩:=s
  obtain ⟨tv,ta,te⟩:=t
  simp only at e1 k1 k2
  rw[e1,k1,k2]
theorem sets_nl {l:List Va}(hl:Names l):∀ (f:Bool) (ss:List Se),(∀ s∈ss,SetOk l s)→NoNl (setsW l f ss)
 | _,[],_=> .nil
 | f,s::ss,h=>by
  have hs:=h s (List.mem_cons_self ..)
  simp only[setsW]
  refine .app (by cases f<;>(unfold NoNl;decide)) (.app (Xoz hl hs.lo hs.hi).word.nl (.app (by unfold NoNl;decide) (.app ?_ (sets_nl hl false ss fun x hx=>h x (List.mem_cons_of_mem _ hx)))))
  unfold toW
  cases c:s.any with
  | true=>exact any_word.nl
  | false=>exact shp_nl hl (hs.not c)
structure CmdOk (l:List Va)(c:Cm):Prop where
 guard:Shp l c.guard
 sets:∀ s∈c.sets,SetOk l s
theorem cmd_ok {l:List Va}{env:Bool}{c:Cm}(h:Xdx l env c=0):CmdOk l c:=by
 obtain ⟨h1,h2,h3,h4⟩:=mayCmd_zero h
 exact ⟨Xkv h2,sets_ok h4⟩
theorem cmd_inj {l:List Va}(hl:Names l){env:Bool}{c d:Cm}(hc:CmdOk l c)(hd:CmdOk l d)(h:cmdW l env c=cmdW l env d):c=d:=by
 unfold cmdW at h
 have h:=List.append_cancel_left (List.append_cancel_left h)
 obtain ⟨e1,h⟩:=text_inj hl hc.guard hd.guard (Xsa _ _ _ _) (Xsa _ _ _ _) h
 obtain ⟨e2,_⟩:=sets_inj hl true _ _ hc.sets hd.sets _ _ h
 obtain ⟨cg,cs⟩:=c
 obtain ⟨dg,ds⟩:=d
 simp only at e1 e2
 rw[e1,e2]
theorem Xsw {l:List Va}(hl:Names l){w:List UInt8}{a b:Ex}(ha:Shp l a)(hb:Shp l b)(h:goalW l w a=goalW l w b):a=b:=by
 unfold goalW at h
 have h:=(List.cons.inj (List.append_cancel_left h)).2
 exact (text_inj hl ha hb (Xcm s59) (Xcm s59) h).1
theorem cmd_nl {l:List Va}(hl:Names l){env:Bool}{c:Cm}(hc:CmdOk l c):NoNl (cmdW l env c):= .app (side_nl _) (.app (by unfold NoNl;decide) (.app (shp_nl hl hc.guard) (.app (sets_nl hl _ _ hc.sets) (.cons rfl .nil))))
theorem goal_nl {l:List Va}(hl:Names l){w:List UInt8}(hw:NoNl w){a:Ex}(ha:Shp l a):NoNl (goalW l w a):= .app hw (.cons rfl (.app (shp_nl hl ha) (.cons rfl .nil)))
structure VarOk (v:Va):Prop where
 name:NameL v.name.data.toList
 sort:v.sort=1∧v.lo=0∧v.hi=0∨v.sort=2∧-1000≤v.lo∧v.lo≤v.hi∧v.hi≤1000
theorem var_ok {l:List Va}(h:mayV l=0){v:Va}(hv:v∈l):VarOk v:=by
 obtain ⟨j,hj,rfl⟩:=List.mem_iff_getElem.1 hv
 obtain ⟨a,_,b⟩:=(mayV_iff.1 h).1 j hj
 refine ⟨name_list a,?_⟩
 unfold Xdu at b
 split at b
 ·exact absurd b (by omega)
 ·split at b
  ·exact absurd b (by omega)
  ·rename_i c1 c2
   unfold sizeV at c2
   by_cases d:l[j].sort=1
   ·exact .inl ⟨d,by omega,by omega⟩
   ·rw[if_neg d] at c2
    have d2:l[j].sort=2:=by omega
    refine .inr ⟨d2,?_⟩
    by_cases d3:l[j].sort=2∧-1000≤l[j].lo∧l[j].lo≤l[j].hi∧l[j].hi≤1000
    ·exact d3.2
    ·rw[if_neg d3] at c2
     exact absurd (.inr ⟨d2,rfl⟩) c2
theorem range_inj {v w:Va}(hv:VarOk v)(hw:VarOk w)(h:Xlg v=Xlg w):v.sort=w.sort∧v.lo=w.lo∧v.hi=w.hi:=by
 have no:∀ (x:Int) (r s:List UInt8),(98::r)≠Lib.itoa x++s:=fun x r s e=>by
  obtain ⟨c,q,e1,e2⟩:=Xst x
  rw[e1] at e
  have:=congrArg UInt8.toNat (List.cons.inj e).1
  have:(98:UInt8).toNat=98:=rfl
  omega
 unfold Xlg at h
 rcases hv.sort with ⟨a1,a2,a3⟩|⟨a1,_⟩<;>rcases hw.sort with ⟨b1,b2,b3⟩|⟨b1,_⟩
 ·exact ⟨by omega,by omega,by omega⟩
 ·rw[if_pos a1,if_neg (by omega)] at h
  exact absurd h (no _ _ _)
 ·rw[if_neg (by omega),if_pos b1] at h
  exact absurd h.symm (no _ _ _)
 ·rw[if_neg (by omega),if_neg (by omega)] at h
  obtain ⟨e1,h⟩:=Xrt (Xpc _) (Xpc _) (Xcm s46) (Xcm s46) h
  exact ⟨by omega,itoa_inj e1,itoa_inj (List.cons.inj (List.cons.inj h).2).2⟩
theorem bytesEq {a b:ByteArray}(h:a.data.toList=b.data.toList):a=b:=by
 rw[←bs_eq a,h,bs_eq]
theorem var_inj {v w:Va}(hv:VarOk v)(hw:VarOk w)(h:varW v=varW w):v=w:=by
 unfold varW at h
 have he:v.env=w.env:=by
  cases a:v.env<;>cases b:w.env<;>rw[a,b] at h
  ·exact absurd (List.cons.inj h).1 (by decide)
  ·exact absurd (List.cons.inj h).1 (by decide)
 rw[he] at h
 have h:=(List.cons.inj (List.append_cancel_left h)).2
 obtain ⟨e1,h⟩:=Xrt hv.name.word hw.name.word (Xcm s32) (Xcm s32) h
 have h:=List.append_cancel_right (List.cons.inj (List.cons.inj (List.cons.inj h).2).2).2
 obtain ⟨e2,e3,e4⟩:=range_inj hv hw h
 obtain ⟨a1,a2,a3,a4,a5⟩:=v
 obtain ⟨b1,b2,b3,b4,b5⟩:=w
 simp only at he e1 e2 e3 e4
 rw[bytesEq e1,he,e2,e3,e4]
theorem var_nl {v:Va}(hv:VarOk v):NoNl (varW v):=by
 refine .app (side_nl _) (.cons rfl (.app hv.name.word.nl (.cons rfl (.cons rfl (.cons rfl (.app ?_ (.cons rfl .nil)))))))
 unfold Xlg
 split
 ·unfold NoNl;decide
 ·exact .app (Xpc _).nl (.cons rfl (.cons rfl (Xpc _).nl))
theorem join_inj:∀ {a b:List (List UInt8)},(∀ x∈a,NoNl x)→(∀ x∈b,NoNl x)→joinW a=joinW b→a=b
 | [],[],_,_,_=>rfl
 | [],x::b,_,_,h=>by cases x<;>cases h
 | x::a,[],_,_,h=>by cases x<;>cases h
 | x::a,y::b,h1,h2,h=>by
  have st:∀ (z:List UInt8) (c:UInt8),(10::z).head? =some c→(c != (10:UInt8))=false:=fun z c hc=>by
   obtain rfl:(10:UInt8)=c:=by simpa using hc
   rfl
  obtain ⟨e1,e2⟩:=Xkg (fun c=>c != (10:UInt8)) _ _ _ _ (h1 x (List.mem_cons_self ..)) (h2 y (List.mem_cons_self ..)) (st _) (st _) h
  rw[e1,join_inj (fun z hz=>h1 z (List.mem_cons_of_mem _ hz)) (fun z hz=>h2 z (List.mem_cons_of_mem _ hz)) (List.cons.inj e2).2]
theorem Xrc {α β:Type}{f:α→β}{p:α→Prop}(hf:∀ a b,p a→p b→f a=f b→a=b):∀ {l r:List α},(∀ a∈l,p a)→(∀ a∈r,p a)→l.map f=r.map f→l=r
 | [],[],_,_,_=>rfl
 | [],_::_,_,_,h=>by cases h
 | _::_,[],_,_,h=>by cases h
 | a::l,b::r,h1,h2,h=>by
  obtain ⟨e1,e2⟩:=List.cons.inj h
  rw[hf a b (h1 a (List.mem_cons_self ..)) (h2 b (List.mem_cons_self ..)) e1,Xrc hf (fun z hz=>h1 z (List.mem_cons_of_mem _ hz)) (fun z hz=>h2 z (List.mem_cons_of_mem _ hz)) e2]
structure ModOk (m:Md):Prop where
 may:mayV m.vars=0
 vars:∀ v∈m.vars,VarOk v
 names:Names m.vars
 ie:Shp m.vars m.ie
 is:Shp m.vars m.is
 env:∀ c∈m.env,CmdOk m.vars c
 sys:∀ c∈m.sys,CmdOk m.vars c
 assume:∀ e∈m.assume,Shp m.vars e
 ensure:∀ e∈m.ensure,Shp m.vars e
 prio:∀ e∈m.prio,Shp m.vars e
theorem mod_ok {m:Md}(h:mayM m=0):ModOk m:=by
 obtain ⟨h1,h2,h3,h4,h5,h6⟩:=mayM_zero h
 have h4:=firstE_zero.1 h4
 have h5:=firstE_zero.1 h5
 have h6:=firstE_zero.1 h6
 exact ⟨h1,fun v hv=>var_ok h1 hv,Xsk h1,Xkv h2,Xkv h3,fun c hc=>cmd_ok (h4 c hc),fun c hc=>cmd_ok (h5 c hc),fun e he=>Xkv (h6 e (by simp[he])),fun e he=>Xkv (h6 e (by simp[he])),fun e he=>Xkv (h6 e (by simp[he]))⟩
theorem lines_nl {m:Md}(h:ModOk m):∀ x∈Xpb m,NoNl x:=by
 intro x hx
 unfold Xpb at hx
 simp only[List.mem_append,List.mem_cons,List.mem_map] at hx
 rcases hx with ⟨v,hv,rfl⟩|rfl|rfl|⟨c,hc,rfl⟩|⟨c,hc,rfl⟩|⟨e,he,rfl⟩|⟨e,he,rfl⟩|⟨e,he,rfl⟩
 ·exact var_nl (h.vars v hv)
 ·exact goal_nl h.names (by unfold NoNl;decide) h.ie
 ·exact goal_nl h.names (by unfold NoNl;decide) h.is
 ·exact cmd_nl h.names (h.env c hc)
 ·exact cmd_nl h.names (h.sys c hc)
 ·exact goal_nl h.names (by unfold NoNl;decide) (h.assume e he)
 ·exact goal_nl h.names (by unfold NoNl;decide) (h.ensure e he)
 ·exact goal_nl h.names (by unfold NoNl;decide) (h.prio e he)
theorem Xlj {α:Type}{l:List α}{c:α}(h:l.head? =some c):c∈l:=List.mem_of_mem_head? h
def preW (w:List UInt8)(x:List UInt8):Bool:=w.isPrefixOf x
theorem textM_inj {m m':Md}(h:ModOk m)(h':ModOk m')(e:textM m=textM m'):m=m':=by
 have e:=join_inj (lines_nl h) (lines_nl h') e
 unfold Xpb at e
 have first:∀ (m:Md),∀ x∈m.vars.map varW,(!preW [105] x)=true:=fun m x hx=>by
  obtain ⟨v,_,rfl⟩:=List.mem_map.1 hx
  unfold varW
  cases v.env<;>rfl
 obtain ⟨e1,e⟩:=Xkg (fun x=> !preW [105] x) _ _ _ _ (first m) (first m') (fun c hc=>by obtain rfl:=Option.some.inj hc;rfl) (fun c hc=>by obtain rfl:=Option.some.inj hc;rfl) e
 have ev:=Xrc (p:=VarOk) (fun a b ha hb h=>var_inj ha hb h) h.vars h'.vars e1
 obtain ⟨l,ie,is,te,ts,ta,tn,tp⟩:=m
 obtain ⟨l',ie',is',te',ts',ta',tn',tp'⟩:=m'
 simp only at e ev
 subst ev
 have hn:=h.names
 obtain ⟨e2,e⟩:=List.cons.inj e
 obtain ⟨e3,e⟩:=List.cons.inj e
 have q1:=Xsw hn h.ie h'.ie e2
 have q2:=Xsw hn h.is h'.is e3
 have cl:∀ (w:List UInt8),(∀ env c,preW w (cmdW l env c)=preW w (sideW env++[32,119,104]))→True:=fun _ _=>trivial
 obtain ⟨e4,e⟩:=Xkg (preW envW) _ _ _ _ (fun x hx=>by obtain ⟨c,_,rfl⟩:=List.mem_map.1 hx;rfl) (fun x hx=>by obtain ⟨c,_,rfl⟩:=List.mem_map.1 hx;rfl)
  (fun c hc=>by
   have:=Xlj hc
   simp only[List.mem_append,List.mem_map] at this
   rcases this with ⟨c,_,rfl⟩|⟨c,_,rfl⟩|⟨c,_,rfl⟩|⟨c,_,rfl⟩<;>rfl)
  (fun c hc=>by
   have:=Xlj hc
   simp only[List.mem_append,List.mem_map] at this
   rcases this with ⟨c,_,rfl⟩|⟨c,_,rfl⟩|⟨c,_,rfl⟩|⟨c,_,rfl⟩<;>rfl) e
 obtain ⟨e5,e⟩:=Xkg (preW sysW) _ _ _ _ (fun x hx=>by obtain ⟨c,_,rfl⟩:=List.mem_map.1 hx;rfl) (fun x hx=>by obtain ⟨c,_,rfl⟩:=List.mem_map.1 hx;rfl)
  (fun c hc=>by
   have:=Xlj hc
   simp only[List.mem_append,List.mem_map] at this
   rcases this with ⟨c,_,rfl⟩|⟨c,_,rfl⟩|⟨c,_,rfl⟩<;>rfl)
  (fun c hc=>by
   have:=Xlj hc
   simp only[List.mem_append,List.mem_map] at this
   rcases this with ⟨c,_,rfl⟩|⟨c,_,rfl⟩|⟨c,_,rfl⟩<;>rfl) e
 obtain ⟨e6,e⟩:=Xkg (preW assumeW) _ _ _ _ (fun x hx=>by obtain ⟨c,_,rfl⟩:=List.mem_map.1 hx;rfl) (fun x hx=>by obtain ⟨c,_,rfl⟩:=List.mem_map.1 hx;rfl)
  (fun c hc=>by
   have:=Xlj hc
   simp only[List.mem_append,List.mem_map] at this
   rcases this with ⟨c,_,rfl⟩|⟨c,_,rfl⟩<;>rfl)
  (fun c hc=>by
   have:=Xlj hc
   simp only[List.mem_append,List.mem_map] at this
   rcases this with ⟨c,_,rfl⟩|⟨c,_,rfl⟩<;>rfl) e
 obtain ⟨e7,e8⟩:=Xkg (preW ensureW) _ _ _ _ (fun x hx=>by obtain ⟨c,_,rfl⟩:=List.mem_map.1 hx;rfl) (fun x hx=>by obtain ⟨c,_,rfl⟩:=List.mem_map.1 hx;rfl)
  (fun c hc=>by
   obtain ⟨c,_,rfl⟩:=List.mem_map.1 (Xlj hc)
   rfl)
  (fun c hc=>by
   obtain ⟨c,_,rfl⟩:=List.mem_map.1 (Xlj hc)
   rfl) e
 have q3:=Xrc (p:=CmdOk l) (fun a b ha hb h=>cmd_inj hn ha hb h) h.env h'.env e4
 have q4:=Xrc (p:=CmdOk l) (fun a b ha hb h=>cmd_inj hn ha hb h) h.sys h'.sys e5
 have q5:=Xrc (p:=Shp l) (fun a b ha hb h=>Xsw hn ha hb h) h.assume h'.assume e6
 have q6:=Xrc (p:=Shp l) (fun a b ha hb h=>Xsw hn ha hb h) h.ensure h'.ensure e7
 have q7:=Xrc (p:=Shp l) (fun a b ha hb h=>Xsw hn ha hb h) h.prio h'.prio e8
 simp only at q1 q2 q3 q4 q5 q6 q7
 rw[q1,q2,q3,q4,q5,q6,q7]
theorem eqL_eq {α:Type}{p:α→α→Bool}(hp:∀ a b,p a b=true→a=b):∀ {l r:List α},eqL p l r=true→l=r
 | [],[],_=>rfl
 | [],_::_,h=>by cases h
 | _::_,[],h=>by cases h
 | a::l,b::r,h=>by
  simp only[eqL,Bool.and_eq_true] at h
  rw[hp a b h.1,eqL_eq hp h.2]
theorem Xni {a b:Ex}(h:sameX a b=true):a=b:=by
 unfold sameX at h
 simp only[Bool.and_eq_true] at h
 exact (Xsc a b).1 h.2
theorem sameS_eq {a b:Se}(h:sameS a b=true):a=b:=by
 unfold sameS at h
 simp only[Bool.and_eq_true,Bool.or_eq_true,decide_eq_true_eq,beq_iff_eq] at h
 obtain ⟨⟨h1,h2⟩,h3⟩:=h
 have h4:a.e=b.e:=by
  rcases h3 with ⟨h3,h4⟩|h3
  ·rw[bare_eq h3,bare_eq h4]
  ·exact Xni h3
 obtain ⟨a1,a2,a3⟩:=a
 obtain ⟨b1,b2,b3⟩:=b
 simp only at h1 h2 h4
 rw[h1,h2,h4]
theorem sameC_eq {a b:Cm}(h:sameC a b=true):a=b:=by
 unfold sameC at h
 simp only[Bool.and_eq_true] at h
 have h1:=Xni h.1
 have h2:=eqL_eq (fun _ _=>sameS_eq) h.2
 obtain ⟨a1,a2⟩:=a
 obtain ⟨b1,b2⟩:=b
 simp only at h1 h2
 rw[h1,h2]
theorem sameV_eq {a b:Va}(h:sameV a b=true):a=b:=by
 unfold sameV at h
 simp only[Bool.and_eq_true,beq_iff_eq] at h
 obtain ⟨h1,h2,h3,h4,h5,_⟩:=h
 have h1:=bytesEq (strEq_list.1 h1)
 obtain ⟨a1,a2,a3,a4,a5⟩:=a
 obtain ⟨b1,b2,b3,b4,b5⟩:=b
 simp only at h1 h2 h3 h4 h5
 rw[h1,h2,h3,h4,h5]
theorem sameM_eq {a b:Md}(h:sameM a b=true):a=b:=by
 unfold sameM at h
 simp only[Bool.and_eq_true] at h
 obtain ⟨h1,h2,h3,h4,h5,h6,h7,h8⟩:=h
 have h1:=eqL_eq (fun _ _=>sameV_eq) h1
 have h2:=Xni h2
 have h3:=Xni h3
 have h4:=eqL_eq (fun _ _=>sameC_eq) h4
 have h5:=eqL_eq (fun _ _=>sameC_eq) h5
 have h6:=eqL_eq (fun _ _=>Xni) h6
 have h7:=eqL_eq (fun _ _=>Xni) h7
 have h8:=eqL_eq (fun _ _=>Xni) h8
 obtain ⟨l,ie,is,te,ts,ta,tn,tp⟩:=a
 obtain ⟨l',ie',is',te',ts',ta',tn',tp'⟩:=b
 simp only at h1 h2 h3 h4 h5 h6 h7 h8
 rw[h1,h2,h3,h4,h5,h6,h7,h8]
theorem sameM_self {m:Md}(h:mayM m=0):sameM m m=true:=by
 obtain ⟨l,ie,is,te,ts,ta,tn,tp⟩:=m
 rw[sameM_vars h]
 exact Xlm fun v _=>sameV_self v
theorem apart_law {a b:Md}(ha:mayM a=0)(hb:mayM b=0):(textM a=textM b)↔sameM a b=true:=by
 constructor
 ·intro h
  rw[textM_inj (mod_ok ha) (mod_ok hb) h]
  exact sameM_self hb
 ·intro h
  rw[sameM_eq h]
theorem textM_some (m:Md):textM m≠[]:=by
 unfold textM Xpb
 cases m.vars with
 | nil=>simp[joinW,goalW,ieW]
 | cons v r=>
  intro h
  simp only[List.map_cons,List.cons_append,joinW] at h
  exact absurd (List.append_eq_nil_iff.1 h).2 (by simp)
end Go.AM
