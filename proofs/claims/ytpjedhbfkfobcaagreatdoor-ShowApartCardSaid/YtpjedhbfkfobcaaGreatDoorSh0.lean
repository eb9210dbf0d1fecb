/- Expressions as texts. -/
import Derived.Test.YtpjedhbfkfobcaaGreatDoorLa35
import Derived.Lib.ItoaNum
set_option linter.unusedVariables false
set_option linter.unusedSimpArgs false
namespace Go.AM
open Go.Proofs.YtpjedhbfkfobcaaGreatDoor
def bs (l:List UInt8):ByteArray:=⟨l.toArray⟩
theorem bs_list (l:List UInt8):(bs l).data.toList=l:=by simp[bs]
theorem bs_eq (b:ByteArray):bs b.data.toList=b:=by simp[bs]
theorem Xdi (a b:List UInt8):bs a++bs b=bs (a++b):=by
 rw[←bs_eq (bs a++bs b)]
 simp[bs]
theorem Xrf (l:List UInt8):(bs l).size=l.length:=by show l.toArray.size=_;simp
theorem Xry (s:ByteArray):s.size=s.data.toList.length:=by rw[Array.length_toList];rfl
theorem Xbr {a b:List UInt8}(h:a.length+b.length≤1000000000):Nat.ble ((bs a).size+(bs b).size) 9223372036854775807=true:=by
 rw[Xrf,Xrf]
 exact Nat.ble_eq_true_of_le (by omega)
theorem str_s (x:ByteArray):(T.s x).str=x:=rfl
def rs (l:List UInt8):Option R:=some (lookR [(0,T.s (bs l))])
def signW (op:Int):List UInt8:=if op=6 then [97,110,100] else if op=7 then [111,114] else if op=8 then [61,62] else if op=9 then [61] else if op=10 then [60] else if op=11 then [60,61] else if op=12 then [43] else if op=13 then [45] else if op=14 then [42] else []
theorem Xrz (op:Int):(signW op).length≤3:=by
 unfold signW
 repeat' split
 all_goals decide
def Xdw (l:List Va)(n:Int):List UInt8:=((l[n.toNat]?).map fun v=>v.name.data.toList).getD []
def notW:List UInt8:=[40,110,111,116,32]
def ifW:List UInt8:=[40,105,102,32]
def thenW:List UInt8:=[32,116,104,101,110,32]
def elseW:List UInt8:=[32,101,108,115,101,32]
def textN (l:List Va)(op n:Int)(ts:List (List UInt8)):List UInt8:=
 if op=1 then Lib.itoa n else if op=2 then (if n=1 then [116,114,117,101] else [102,97,108,115,101]) else if op=3 then Xdw l n else if op=4 then Xdw l n++[39]
 else if op=5 then (notW++ts.getD 0 [])++[41] else if op=15 then (((((ifW++ts.getD 0 [])++thenW)++ts.getD 1 [])++elseW)++ts.getD 2 [])++[41]
 else ((((([40]++ts.getD 0 [])++[32])++signW op)++[32])++ts.getD 1 [])++[41]
mutual
def textE (l:List Va):Ex→List UInt8
 | .mk op n ks=>textN l op n (textL l ks)
def textL (l:List Va):List Ex→List (List UInt8)
 | []=>[]
 | k::ks=>textE l k::textL l ks
end
theorem dig_len:∀ k u,u<10 ^ (k+1)→(Lib.decDigits u).length≤k+1
 | 0,u,h=>by
  rw[Lib.decDigits,dif_pos (by simpa using h)]
  simp
 | k+1,u,h=>by
  rw[Lib.decDigits]
  split
  ·simp
  ·rw[List.length_append]
   have:=dig_len k (u / 10) (by rw[Nat.pow_succ] at h;omega)
   simp only[List.length_singleton]
   omega
theorem Xnq {x:Int}(h0: -1000≤x)(h1:x≤1000):(Lib.itoa x).length≤5:=by
 unfold Lib.itoa
 split
 ·have:=dig_len 3 x.natAbs (by have e:(10:Nat) ^ 4=10000:=(by decide);omega)
  simp only[List.length_cons]
  omega
 ·have:=dig_len 3 x.toNat (by have e:(10:Nat) ^ 4=10000:=(by decide);omega)
  omega
def Short (l:List Va):Prop:=∀ v∈l,v.name.size≤16
theorem nameAt_len {l:List Va}(h:Short l)(n:Int):(Xdw l n).length≤16:=by
 unfold Xdw
 cases hv:l[n.toNat]? with
 | none=>simp
 | some v=>
  have:=h v (List.mem_of_getElem? hv)
  rw[Xry] at this
  exact this
theorem textE_len {l:List Va}(hs:Short l){e:Ex}{s:Int}(h:Typed l e s):((textE l e).length:Int)≤30*cntE e:=by
 induction h with
 | @num n h1 h2=>
  have:=Xnq h1 h2
  show ((Lib.itoa n).length:Int)≤30*(1+0)
  omega
 | @bool n h=>
  show (((if n=1 then [116,114,117,101] else [102,97,108,115,101]:List UInt8)).length:Int)≤30*(1+0)
  split<;>decide
 | @var op i v ho h hi=>
  have:=nameAt_len hs i
  rcases ho with rfl|rfl
  ·show ((Xdw l i).length:Int)≤30*(1+0)
   omega
  ·show ((Xdw l i++[39]).length:Int)≤30*(1+0)
   simp only[List.length_append,List.length_singleton]
   omega
 | @not a ha iha=>
  show (((notW++textE l a)++[41]).length:Int)≤30*(1+(cntE a+0))
  simp only[List.length_append,List.length_singleton,notW,List.length_cons,List.length_nil]
  omega
 | @ite s a b c ha hb hc iha ihb ihc=>
  show (((((((ifW++textE l a)++thenW)++textE l b)++elseW)++textE l c)++[41]).length:Int)≤30*(1+(cntE a+(cntE b+(cntE c+0))))
  simp only[List.length_append,List.length_singleton,ifW,thenW,elseW,List.length_cons,List.length_nil]
  omega
 | @logic op a b ho ha hb iha ihb=>
  have e:textE l (.mk op 0 [a,b])=((((([40]++textE l a)++[32])++signW op)++[32])++textE l b)++[41]:=by
   show textN l op 0 [textE l a,textE l b]=_
   unfold textN
   rw[if_neg (by omega),if_neg (by omega),if_neg (by omega),if_neg (by omega),if_neg (by omega),if_neg (by omega)]
   rfl
  have:=Xrz op
  rw[e]
  show _≤30*(1+(cntE a+(cntE b+0)))
  simp only[List.length_append,List.length_singleton]
  omega
 | @same s a b ha hb iha ihb=>
  show (((((((([40]++textE l a)++[32])++signW 9)++[32])++textE l b)++[41]:List UInt8)).length:Int)≤30*(1+(cntE a+(cntE b+0)))
  have:=Xrz 9
  simp only[List.length_append,List.length_singleton]
  omega
 | @less op a b ho ha hb iha ihb=>
  have e:textE l (.mk op 0 [a,b])=((((([40]++textE l a)++[32])++signW op)++[32])++textE l b)++[41]:=by
   show textN l op 0 [textE l a,textE l b]=_
   unfold textN
   rw[if_neg (by omega),if_neg (by omega),if_neg (by omega),if_neg (by omega),if_neg (by omega),if_neg (by omega)]
   rfl
  have:=Xrz op
  rw[e]
  show _≤30*(1+(cntE a+(cntE b+0)))
  simp only[List.length_append,List.length_singleton]
  omega
 | @sum op a b ho ha hb iha ihb=>
  have e:textE l (.mk op 0 [a,b])=((((([40]++textE l a)++[32])++signW op)++[32])++textE l b)++[41]:=by
   show textN l op 0 [textE l a,textE l b]=_
   unfold textN
   rw[if_neg (by omega),if_neg (by omega),if_neg (by omega),if_neg (by omega),if_neg (by omega),if_neg (by omega)]
   rfl
  have:=Xrz op
  rw[e]
  show _≤30*(1+(cntE a+(cntE b+0)))
  simp only[List.length_append,List.length_singleton]
  omega
theorem typed_shape {l:List Va}{op n s:Int}{ks:List Ex}(h:Typed l (.mk op n ks) s):
  (op=1∧ks=[]∧-1000≤n∧n≤1000)∨(op=2∧ks=[]∧(n=0∨n=1))∨((op=3∨op=4)∧ks=[]∧∃ (i:Nat) (v:Va),n=(i:Int)∧l[i]? =some v)∨(op=5∧∃ a,ks=[a]∧Typed l a 1)∨((6≤op∧op≤14)∧∃ a b sa sb,ks=[a,b]∧Typed l a sa∧Typed l b sb)∨(op=15∧∃ a b c sb,ks=[a,b,c]∧Typed l a 1∧Typed l b sb∧Typed l c sb):=by
 cases h with
 | num h1 h2=>exact .inl ⟨rfl,rfl,h1,h2⟩
 | bool h=>exact .inr (.inl ⟨rfl,rfl,h⟩)
 | var ho h hi=>exact .inr (.inr (.inl ⟨ho,rfl,_,_,rfl,h⟩))
 | not ha=>exact .inr (.inr (.inr (.inl ⟨rfl,_,rfl,ha⟩)))
 | logic ho ha hb=>exact .inr (.inr (.inr (.inr (.inl ⟨by omega,_,_,_,_,rfl,ha,hb⟩))))
 | same ha hb=>exact .inr (.inr (.inr (.inr (.inl ⟨by omega,_,_,_,_,rfl,ha,hb⟩))))
 | less ho ha hb=>exact .inr (.inr (.inr (.inr (.inl ⟨by omega,_,_,_,_,rfl,ha,hb⟩))))
 | sum ho ha hb=>exact .inr (.inr (.inr (.inr (.inl ⟨by omega,_,_,_,_,rfl,ha,hb⟩))))
 | ite ha hb hc=>exact .inr (.inr (.inr (.inr (.inr ⟨rfl,_,_,_,_,rfl,ha,hb,hc⟩))))
theorem Xrw (l:List Va){op n:Int}(h:6≤op∧op≤14)(a b:List UInt8):textN l op n [a,b]=((((([40]++a)++[32])++signW op)++[32])++b)++[41]:=by
 unfold textN
 rw[if_neg (by omega),if_neg (by omega),if_neg (by omega),if_neg (by omega),if_neg (by omega),if_neg (by omega)]
 rfl
end Go.AM
namespace Go.Proofs.YtpjedhbfkfobcaaGreatDoor
open Go.AM
theorem itoa_sp (N:Nat)(x:Int)(h0: -9223372036854775808≤x)(h1:x≤9223372036854775807):Xec (K (N+1)) x=rs (Lib.itoa x):=by
 have e:Xec (K (N+1)) x=itoaX [.i .i64 x] []:=by kernel_rfl
 rw[e]
 unfold itoaX
 exact if_of (by rw[decide_eq_true h0,decide_eq_true h1];rfl) rfl
theorem sign_sp (N:Nat){op:Int}(h:6≤op∧op≤14):Xrg (K (N+1)) op=rs (signW op)∧Xjz (K (N+1)) op=rs (signW op):=by
 rw[C_show_sign_K,Xtk]
 obtain rfl|rfl|rfl|rfl|rfl|rfl|rfl|rfl|rfl:op=6∨op=7∨op=8∨op=9∨op=10∨op=11∨op=12∨op=13∨op=14:=by omega
 all_goals exact ⟨rfl,rfl⟩
theorem kid_at {k:T}{ks:List Ex}(h:Xab k=ks){i:Nat}{a:Ex}(ha:ks[i]? =some a):i<k.len∧exAt k i=a:=by
 have hl:=Xbd k
 rw[h] at hl
 have hi:i<k.len:=by rw[←hl];exact (List.getElem?_eq_some_iff.1 ha).1
 have:=Xkk k hi
 rw[h,ha] at this
 exact ⟨hi,(Option.some.inj this).symm⟩
theorem text_sp (l:T):∀ k,Ev fun N=>∀ op m s,Typed (Xaa l) (.mk op m (Xab k)) s→(textE (Xaa l) (.mk op m (Xab k))).length≤1000000→Xcj (K N) l op m k=rs (textE (Xaa l) (.mk op m (Xab k))):=by
 refine Xha fun k ih=> ?_
 refine Ev.step (Ev.step ((Ev.all ih).imp2 (Ev.ge 10) fun N h hN op m s ht hl=> ?_))
 have kid:∀ {ks:List Ex},Xab k=ks→∀ {i:Nat} {a:Ex} {t:Int},ks[i]? =some a→Typed (Xaa l) a t→(textE (Xaa l) a).length≤1000000→Xfj (K (N+1)) (i:Int) (fun j=>(([l]:List T).getD j (.b false))) (fun j=>(([(T.i op),(T.i m),k]:List T).getD j (.b false)))=rs (textE (Xaa l) a):=by
  intro ks hks i a t hi hta hla
  obtain ⟨hlt,rfl⟩:=kid_at hks hi
  rw[C_show_text_1_K]
  refine if_of (by simp;exact hlt) ?_
  rw[Int.toNat_natCast]
  exact Xaj (h i hlt _ _ _ hta hla) rfl
 have hvar:∀ (i:Nat) (v:Va),(Xaa l)[i]? =some v→i<l.len∧Xdw (Xaa l) (i:Int)=((l.el i 0).str).data.toList:=by
  intro i v hv
  have hi:i<l.len:=by rw[←Xcc l];exact (List.getElem?_eq_some_iff.1 hv).1
  refine ⟨hi,?_⟩
  unfold Xdw
  rw[Int.toNat_natCast,Xfd l hi]
  rfl
 rw[C_show_text_K]
 generalize hks:Xab k=ks at ht hl
 rcases typed_shape ht with ⟨rfl,rfl,h1,h2⟩|⟨rfl,rfl,h1⟩|⟨ho,rfl,i,v,rfl,hv⟩|⟨rfl,a,rfl,ha⟩|⟨ho,a,b,sa,sb,rfl,ha,hb⟩|⟨rfl,a,b,c,sb,rfl,ha,hb,hc⟩
 ·exact if_of rfl (Xaj (itoa_sp N m (by omega) (by omega)) rfl)
 ·refine Xag rfl (if_of rfl ?_)
  rcases h1 with rfl|rfl
  ·exact if_of rfl rfl
  ·exact Xag rfl (if_of rfl rfl)
 ·obtain ⟨hi,e⟩:=hvar i v hv
  rcases ho with rfl|rfl
  ·refine Xag rfl (Xag rfl (if_of rfl (if_of (by simp;exact hi) ?_)))
   show some (lookR [(0,T.s ((l.el ((i:Int).toNat) 0).str))])=rs (Xdw (Xaa l) (i:Int))
   rw[e,Int.toNat_natCast]
   unfold rs
   rw[bs_eq]
  ·have e2:textE (Xaa l) (.mk 4 (i:Int) [])=Xdw (Xaa l) (i:Int)++[39]:=rfl
   rw[e2] at hl ⊢
   rw[e] at hl ⊢
   have e3:((l.el ((i:Int).toNat) 0).str)=bs ((l.el i 0).str).data.toList:=by rw[Int.toNat_natCast,bs_eq]
   refine Xag rfl (Xag rfl (Xag rfl (if_of rfl (if_of (by simp;exact hi) ?_))))
   rw[e3]
   have e4:ByteArray.mk #[39]=bs [39]:=rfl
   rw[e4,Xdi]
   exact if_of (Xbr (by simp only[List.length_append] at hl;omega)) rfl
 ·have e2:textE (Xaa l) (.mk 5 m [a])=(notW++textE (Xaa l) a)++[41]:=rfl
  rw[e2] at hl ⊢
  simp only[List.length_append] at hl
  refine Xag rfl (Xag rfl (Xag rfl (Xag rfl (if_of rfl (Xaj (kid hks (i:=0) rfl ha (by omega)) ?_)))))
  rw[Xar,str_s,show ByteArray.mk #[40,110,111,116,32]=bs notW from rfl,show ByteArray.mk #[41]=bs [41] from rfl]
  simp only[Xdi]
  refine if_of (Xbr (by omega)) (if_of (Xbr (by simp only[List.length_append];omega)) rfl)
 ·have e2:textE (Xaa l) (.mk op m [a,b])=((((([40]++textE (Xaa l) a)++[32])++signW op)++[32])++textE (Xaa l) b)++[41]:=Xrw _ ho _ _
  rw[e2] at hl ⊢
  simp only[List.length_append] at hl
  have q1:(op==(1:Int))=false:=by simpa using (show op≠1 by omega)
  have q2:(op==(2:Int))=false:=by simpa using (show op≠2 by omega)
  have q3:(op==(3:Int))=false:=by simpa using (show op≠3 by omega)
  have q4:(op==(4:Int))=false:=by simpa using (show op≠4 by omega)
  have q5:(op==(5:Int))=false:=by simpa using (show op≠5 by omega)
  have q6:(op==(15:Int))=false:=by simpa using (show op≠15 by omega)
  refine Xag q1 (Xag q2 (Xag q3 (Xag q4 (Xag q5 (Xag q6 (Xaj (kid hks (i:=0) rfl ha (by omega)) ?_))))))
  rw[Xar,str_s,show ByteArray.mk #[40]=bs [40] from rfl,show ByteArray.mk #[32]=bs [32] from rfl,show ByteArray.mk #[41]=bs [41] from rfl]
  simp only[Xdi]
  refine if_of (Xbr (by omega)) (if_of (Xbr (by simp only[List.length_append];omega)) (Xaj (sign_sp N ho).1 ?_))
  rw[Xar,str_s]
  simp only[Xdi]
  refine if_of (Xbr (by simp only[List.length_append];omega)) (if_of (Xbr (by simp only[List.length_append];omega)) (Xaj (kid hks (i:=1) rfl hb (by omega)) ?_))
  rw[Xar,str_s]
  simp only[Xdi]
  exact if_of (Xbr (by simp only[List.length_append];omega)) (if_of (Xbr (by simp only[List.length_append];omega)) rfl)
 ·have e2:textE (Xaa l) (.mk 15 m [a,b,c])=(((((ifW++textE (Xaa l) a)++thenW)++textE (Xaa l) b)++elseW)++textE (Xaa l) c)++[41]:=rfl
  rw[e2] at hl ⊢
  simp only[List.length_append] at hl
  refine Xag rfl (Xag rfl (Xag rfl (Xag rfl (Xag rfl (if_of rfl (Xaj (kid hks (i:=0) rfl ha (by omega)) ?_))))))
  rw[Xar,str_s,show ByteArray.mk #[40,105,102,32]=bs ifW from rfl,show ByteArray.mk #[32,116,104,101,110,32]=bs thenW from rfl,show ByteArray.mk #[32,101,108,115,101,32]=bs elseW from rfl,show ByteArray.mk #[41]=bs [41] from rfl]
  simp only[Xdi]
  refine if_of (Xbr (by omega)) (if_of (Xbr (by simp only[List.length_append];omega)) (Xaj (kid hks (i:=1) rfl hb (by omega)) ?_))
  rw[Xar,str_s]
  simp only[Xdi]
  refine if_of (Xbr (by simp only[List.length_append];omega)) (if_of (Xbr (by simp only[List.length_append];omega)) (Xaj (kid hks (i:=2) rfl hc (by omega)) ?_))
  rw[Xar,str_s]
  simp only[Xdi]
  exact if_of (Xbr (by simp only[List.length_append];omega)) (if_of (Xbr (by simp only[List.length_append];omega)) rfl)
end Go.Proofs.YtpjedhbfkfobcaaGreatDoor
set_option linter.unusedVariables false
set_option linter.unusedSimpArgs false
namespace Go.AM
open Go.Proofs.YtpjedhbfkfobcaaGreatDoor
def showT (l:List Va)(e:Ex):List UInt8:=if (sortE l e).2≠0 then [] else textE l e
theorem short_of {l:List Va}(h:mayV l=0):Short l:=fun v hv=>by
 obtain ⟨j,hj,rfl⟩:=List.mem_iff_getElem.1 hv
 have:=((mayV_iff.1 h).1 j hj).1
 unfold nameE at this
 simp only[Bool.and_eq_true,decide_eq_true_eq] at this
 exact this.1.1.2
theorem Xkr {l:List Va}{e:Ex}(h:(sortE l e).2=0):Typed l e (sortE l e).1∧(textE l e).length≤1800:=by
 obtain ⟨h1,h2,h3,h4,h5,h6⟩:=Xpw h
 have a:=textE_len (short_of h1) h6
 have b:=light_cnt h4
 exact ⟨h6,by omega⟩
end Go.AM
namespace Go.Proofs.YtpjedhbfkfobcaaGreatDoor
open Go.AM
theorem Xnj (l:T):∀ k,Ev fun N=>∀ op m s,Typed (Xaa l) (.mk op m (Xab k)) s→(textE (Xaa l) (.mk op m (Xab k))).length≤1000000→Xbj (K N) l op m k=rs (textE (Xaa l) (.mk op m (Xab k))):=by
 refine Xha fun k ih=> ?_
 refine Ev.step ((Ev.all ih).imp2 (Ev.ge 10) fun N h hN op m s ht hl=> ?_)
 obtain ⟨M,rfl⟩:∃ M,N=M+1:=⟨N-1,by omega⟩
 have kid:∀ {ks:List Ex},Xab k=ks→∀ {i:Nat} {a:Ex} {t:Int},ks[i]? =some a→Typed (Xaa l) a t→(textE (Xaa l) a).length≤1000000→i<k.len∧Xbj (K (M+1)) l (k.el i 0).int (k.el i 1).int (k.el i 2)=rs (textE (Xaa l) a):=by
  intro ks hks i a t hi hta hla
  obtain ⟨hlt,rfl⟩:=kid_at hks hi
  exact ⟨hlt,h i hlt _ _ _ hta hla⟩
 have hvar:∀ (i:Nat) (v:Va),(Xaa l)[i]? =some v→i<l.len∧Xdw (Xaa l) (i:Int)=((l.el i 0).str).data.toList:=by
  intro i v hv
  have hi:i<l.len:=by rw[←Xcc l];exact (List.getElem?_eq_some_iff.1 hv).1
  refine ⟨hi,?_⟩
  unfold Xdw
  rw[Int.toNat_natCast,Xfd l hi]
  rfl
 rw[Xtj]
 generalize hks:Xab k=ks at ht hl
 rcases typed_shape ht with ⟨rfl,rfl,h1,h2⟩|⟨rfl,rfl,h1⟩|⟨ho,rfl,i,v,rfl,hv⟩|⟨rfl,a,rfl,ha⟩|⟨ho,a,b,sa,sb,rfl,ha,hb⟩|⟨rfl,a,b,c,sb,rfl,ha,hb,hc⟩
 ·exact if_of rfl (Xaj (itoa_sp M m (by omega) (by omega)) rfl)
 ·refine Xag rfl (if_of rfl ?_)
  rcases h1 with rfl|rfl
  ·exact Xag rfl rfl
  ·exact if_of rfl rfl
 ·obtain ⟨hi,e⟩:=hvar i v hv
  rcases ho with rfl|rfl
  ·refine Xag rfl (Xag rfl (if_of rfl (if_of (by simp;exact hi) ?_)))
   show some (lookR [(0,T.s ((l.el ((i:Int).toNat) 0).str))])=rs (Xdw (Xaa l) (i:Int))
   rw[e,Int.toNat_natCast]
   unfold rs
   rw[bs_eq]
  ·have e2:textE (Xaa l) (.mk 4 (i:Int) [])=Xdw (Xaa l) (i:Int)++[39]:=rfl
   rw[e2] at hl ⊢
   rw[e] at hl ⊢
   have e3:((l.el ((i:Int).toNat) 0).str)=bs ((l.el i 0).str).data.toList:=by rw[Int.toNat_natCast,bs_eq]
   refine Xag rfl (Xag rfl (Xag rfl (if_of rfl (if_of (by simp;exact hi) ?_))))
   rw[e3]
   have e4:ByteArray.mk #[39]=bs [39]:=rfl
   rw[e4,Xdi]
   exact if_of (Xbr (by simp only[List.length_append] at hl;omega)) rfl
 ·have e2:textE (Xaa l) (.mk 5 m [a])=(notW++textE (Xaa l) a)++[41]:=rfl
  rw[e2] at hl ⊢
  simp only[List.length_append] at hl
  refine Xag rfl (Xag rfl (Xag rfl (Xag rfl (if_of rfl (if_of (by have:=(kid hks (i:=0) rfl ha (by omega)).1;exact decide_eq_true (by omega)) (Xaj (kid hks (i:=0) rfl ha (by omega)).2 ?_))))))
  rw[Xar,str_s,show ByteArray.mk #[40,110,111,116,32]=bs notW from rfl,show ByteArray.mk #[41]=bs [41] from rfl]
  simp only[Xdi]
  refine if_of (Xbr (by omega)) (if_of (Xbr (by simp only[List.length_append];omega)) rfl)
 ·have e2:textE (Xaa l) (.mk op m [a,b])=((((([40]++textE (Xaa l) a)++[32])++signW op)++[32])++textE (Xaa l) b)++[41]:=Xrw _ ho _ _
  rw[e2] at hl ⊢
  simp only[List.length_append] at hl
  have q1:(op==(1:Int))=false:=by simpa using (show op≠1 by omega)
  have q2:(op==(2:Int))=false:=by simpa using (show op≠2 by omega)
  have q3:(op==(3:Int))=false:=by simpa using (show op≠3 by omega)
  have q4:(op==(4:Int))=false:=by simpa using (show op≠4 by omega)
  have q5:(op==(5:Int))=false:=by simpa using (show op≠5 by omega)
  have q6:(op==(15:Int))=false:=by simpa using (show op≠15 by omega)
  refine Xag q1 (Xag q2 (Xag q3 (Xag q4 (Xag q5 (Xag q6 (if_of (by have:=(kid hks (i:=0) rfl ha (by omega)).1;exact decide_eq_true (by omega)) (Xaj (kid hks (i:=0) rfl ha (by omega)).2 ?_)))))))
  rw[Xar,str_s,show ByteArray.mk #[40]=bs [40] from rfl,show ByteArray.mk #[32]=bs [32] from rfl,show ByteArray.mk #[41]=bs [41] from rfl]
  simp only[Xdi]
  refine if_of (Xbr (by omega)) (if_of (Xbr (by simp only[List.length_append];omega)) (Xaj (sign_sp M ho).2 ?_))
  rw[Xar,str_s]
  simp only[Xdi]
  refine if_of (Xbr (by simp only[List.length_append];omega)) (if_of (Xbr (by simp only[List.length_append];omega)) (if_of (by have:=(kid hks (i:=1) rfl hb (by omega)).1;exact decide_eq_true (by omega)) (Xaj (kid hks (i:=1) rfl hb (by omega)).2 ?_)))
  rw[Xar,str_s]
  simp only[Xdi]
  exact if_of (Xbr (by simp only[List.length_append];omega)) (if_of (Xbr (by simp only[List.length_append];omega)) rfl)
 ·have e2:textE (Xaa l) (.mk 15 m [a,b,c])=(((((ifW++textE (Xaa l) a)++thenW)++textE (Xaa l) b)++elseW)++textE (Xaa l) c)++[41]:=rfl
  rw[e2] at hl ⊢
  simp only[List.length_append] at hl
  refine Xag rfl (Xag rfl (Xag rfl (Xag rfl (Xag rfl (if_of rfl (if_of (by have:=(kid hks (i:=0) rfl ha (by omega)).1;exact decide_eq_true (by omega)) (Xaj (kid hks (i:=0) rfl ha (by omega)).2 ?_)))))))
  rw[Xar,str_s,show ByteArray.mk #[40,105,102,32]=bs ifW from rfl,show ByteArray.mk #[32,116,104,101,110,32]=bs thenW from rfl,show ByteArray.mk #[32,101,108,115,101,32]=bs elseW from rfl,show ByteArray.mk #[41]=bs [41] from rfl]
  simp only[Xdi]
  refine if_of (Xbr (by omega)) (if_of (Xbr (by simp only[List.length_append];omega)) (if_of (by have:=(kid hks (i:=1) rfl hb (by omega)).1;exact decide_eq_true (by omega)) (Xaj (kid hks (i:=1) rfl hb (by omega)).2 ?_)))
  rw[Xar,str_s]
  simp only[Xdi]
  refine if_of (Xbr (by simp only[List.length_append];omega)) (if_of (Xbr (by simp only[List.length_append];omega)) (if_of (by have:=(kid hks (i:=2) rfl hc (by omega)).1;exact decide_eq_true (by omega)) (Xaj (kid hks (i:=2) rfl hc (by omega)).2 ?_)))
  rw[Xar,str_s]
  simp only[Xdi]
  exact if_of (Xbr (by simp only[List.length_append];omega)) (if_of (Xbr (by simp only[List.length_append];omega)) rfl)
theorem Expr_sp (l:T)(hl:l.len≤9223372036854775807)(k:T)(hk:KW k):Ev fun N=>∀ op m,Xjh (K N) l op m k=rs (showT (Xaa l) (.mk op m (Xab k))):=by
 refine Ev.step ((Of_sp l hl k hk).imp2 (text_sp l k) fun N h1 h2 op m=> ?_)
 rw[C_show_Expr_K]
 refine Xaj (h1 op m) ?_
 unfold showT
 by_cases c:(sortE (Xaa l) (.mk op m (Xab k))).2=0
 ·rw[if_neg (by simpa using c)]
  obtain ⟨a,b⟩:=Xkr c
  exact Xag (by simpa [lookR,int_i] using c) (Xaj (h2 op m _ a (by omega)) rfl)
 ·rw[if_pos c]
  exact if_of (by simpa [lookR,int_i] using c) rfl
theorem refText_sp (l:T)(hl:l.len≤9223372036854775807)(k:T)(hk:KW k):Ev fun N=>∀ op m,Xkb (K N) l op m k=rs (showT (Xaa l) (.mk op m (Xab k))):=by
 refine Ev.step ((Xqb l hl k hk).imp2 (Xnj l k) fun N h1 h2 op m=> ?_)
 rw[Xtn]
 refine Xaj (h1 op m) ?_
 unfold showT
 by_cases c:(sortE (Xaa l) (.mk op m (Xab k))).2=0
 ·rw[if_neg (by simpa using c)]
  obtain ⟨a,b⟩:=Xkr c
  exact Xag (by simpa [lookR,int_i] using c) (Xaj (h2 op m _ a (by omega)) rfl)
 ·rw[if_pos c]
  exact if_of (by simpa [lookR,int_i] using c) rfl
end Go.Proofs.YtpjedhbfkfobcaaGreatDoor
