/- What the functions on expressions reckon, in plain words. -/
import Derived.Test.YtpjedhbfkfobcaaGreatDoorEng16
set_option linter.unusedVariables false
namespace Go.AM
inductive Ex where
 | mk (op n:Int) (kids:List Ex)
namespace Ex
def op:Ex→Int|mk o _ _=>o
def n:Ex→Int|mk _ n _=>n
def kids:Ex→List Ex|mk _ _ k=>k
end Ex
def Xab:T→List Ex
 | .l n g=>(List.range n).map fun i=>Ex.mk (g i 0).int (g i 1).int (Xab (g i 2))
 | _=>[]
def exAt (k:T)(i:Nat):Ex:=Ex.mk (k.el i 0).int (k.el i 1).int (Xab (k.el i 2))
theorem Xmo (k:T):Xab k=(List.range k.len).map (exAt k):=by
 cases k<;>rfl
theorem Xbd (k:T):(Xab k).length=k.len:=by rw[Xmo];simp
theorem Xkk (k:T){i:Nat}(h:i<k.len):(Xab k)[i]? =some (exAt k i):=by
 rw[Xmo,List.getElem?_map,List.getElem?_range h];rfl
theorem Xca (k:T)(i:Nat)(h:i<k.len):(Xab k).drop i=exAt k i::(Xab k).drop (i+1):=by
 have h1:i<(Xab k).length:=by rw[Xbd];exact h
 rw[List.drop_eq_getElem_cons h1]
 congr 1
 have:=Xkk k h
 rw[List.getElem?_eq_getElem h1] at this
 exact Option.some.inj this
def KW:T→Prop
 | .l n g=>n≤9223372036854775807∧∀ i,i<n→KW (g i 2)
 | _=>True
theorem KW.len {k:T}(h:KW k):k.len≤9223372036854775807:=by
 cases k with
 | l n g=>exact h.1
 | _=>exact Nat.zero_le _
theorem KW.el {k:T}(h:KW k){i:Nat}(hi:i<k.len):KW (k.el i 2):=by
 cases k with
 | l n g=>exact h.2 i hi
 | _=>exact absurd hi (Nat.not_lt_zero _)
theorem Xha {p:T→Prop}(h:∀ k,(∀ i,i<k.len→p (k.el i 2))→p k):∀ k,p k
 | .l n g=>h _ fun i _=>Xha h (g i 2)
 | .b _=>h _ fun i hi=>absurd hi (Nat.not_lt_zero _)
 | .i _=>h _ fun i hi=>absurd hi (Nat.not_lt_zero _)
 | .s _=>h _ fun i hi=>absurd hi (Nat.not_lt_zero _)
def ri (x:Int):Option R:=some (lookR [(0,.i x)])
def rb (x:Bool):Option R:=some (lookR [(0,.b x)])
def rii (x y:Int):Option R:=some (lookR [(0,.i x),(1,.i y)])
def rib (x:Int)(y:Bool):Option R:=some (lookR [(0,.i x),(1,.b y)])
theorem Xgv {α:Type}(x:Int)(f:R→Option α):(ri x).bind f=f (lookR [(0,.i x)]):=rfl
theorem Xlv {α:Type}(x:Bool)(f:R→Option α):(rb x).bind f=f (lookR [(0,.b x)]):=rfl
theorem rii_bind {α:Type}(x y:Int)(f:R→Option α):(rii x y).bind f=f (lookR [(0,.i x),(1,.i y)]):=rfl
theorem rib_bind {α:Type}(x:Int)(y:Bool)(f:R→Option α):(rib x y).bind f=f (lookR [(0,.i x),(1,.b y)]):=rfl
theorem some_bind {α β:Type}(x:α)(f:α→Option β):(some x).bind f=f x:=rfl
theorem int_i (x:Int):(T.i x).int=x:=rfl
theorem Xmw (x:Bool):(T.b x).bool=x:=rfl
def kidsN (op:Int):Int:=if 1≤op∧op≤4 then 0 else if op=5 then 1 else if 6≤op∧op≤14 then 2 else if op=15 then 3 else -1
def Xgw (op n:Int):Bool:=
 if op=1 then decide (-1000≤n∧n≤1000) else if op=2 then decide (n=0∨n=1) else if op=3∨op=4 then decide (0≤n∧n<6) else decide (n=0)
mutual
def Xed:Ex→Bool
 | .mk op n ks=>decide (0≤kidsN op)&&decide ((ks.length:Int)=kidsN op)&&Xgw op n&&Xhr ks
def Xhr:List Ex→Bool
 | []=>true
 | k::ks=>Xed k&&Xhr ks
end
mutual
def goesE:Ex→Int→Int→Bool→Int×Bool
 | .mk _ _ ks,d,n,b=>if 12<d then (n,true) else if 60<n+1 then (n+1,b) else goesL ks d (n+1) b
def goesL:List Ex→Int→Int→Bool→Int×Bool
 | [],_,n,b=>(n,b)
 | k::ks,d,n,b=>if 60<n then (n,b) else goesL ks d (goesE k (d+1) n b).1 (goesE k (d+1) n b).2
end
def nodesE (e:Ex):Int:=(goesE e 1 0 false).1
def Xfi (e:Ex):Bool:=decide (nodesE e≤60)&& !(goesE e 1 0 false).2
def mayE (e:Ex):Int:=if Xfi e then (if Xed e then 0 else 1) else 7
mutual
theorem goesE_range:∀ (e:Ex) (d n:Int) (b:Bool),0≤n→n≤60→n≤(goesE e d n b).1∧(goesE e d n b).1≤61
 | .mk op m ks,d,n,b,h0,h1=>by
  simp only[goesE]
  split
  ·exact ⟨Int.le_refl _,by omega⟩
  ·split
   ·exact ⟨by omega,by omega⟩
   ·have:=goesL_range ks d (n+1) b (by omega) (by omega)
    exact ⟨by omega,this.2⟩
theorem goesL_range:∀ (l:List Ex) (d n:Int) (b:Bool),0≤n→n≤61→n≤(goesL l d n b).1∧(goesL l d n b).1≤61
 | [],d,n,b,h0,h1=>⟨Int.le_refl _,h1⟩
 | k::ks,d,n,b,h0,h1=>by
  simp only[goesL]
  split
  ·exact ⟨Int.le_refl _,h1⟩
  ·have h2:=goesE_range k (d+1) n b h0 (by omega)
   have h3:=goesL_range ks d (goesE k (d+1) n b).1 (goesE k (d+1) n b).2 (by omega) h2.2
   exact ⟨by omega,h3.2⟩
end
end Go.AM
set_option linter.unusedVariables false
namespace Go.AM
structure Va where
 name:ByteArray
 env:Bool
 sort:Int
 lo:Int
 hi:Int
def vaAt (l:T)(i:Nat):Va:=⟨(l.el i 0).str,(l.el i 1).bool,(l.el i 2).int,(l.el i 3).int,(l.el i 4).int⟩
def Xaa (l:T):List Va:=(List.range l.len).map (vaAt l)
def strsOf (l:T):List ByteArray:=(List.range l.len).map fun i=>(l.el i 0).str
theorem Xdy {α:Type}(f:Nat→α){n i:Nat}(h:i<n):((List.range n).map f).drop i=f i::((List.range n).map f).drop (i+1):=by
 have h1:i<((List.range n).map f).length:=by simpa using h
 rw[List.drop_eq_getElem_cons h1]
 simp
theorem Xjo {α:Type}(f:Nat→α){n i:Nat}(h:n≤i):((List.range n).map f).drop i=[]:=List.drop_of_length_le (by simpa using h)
theorem Xcc (l:T):(Xaa l).length=l.len:=by simp[Xaa]
theorem Xfd (l:T){i:Nat}(h:i<l.len):(Xaa l)[i]? =some (vaAt l i):=by simp[Xaa,h]
def words:List ByteArray:=[⟨#[98,111,111,108]⟩,⟨#[105,110,116]⟩,⟨#[101,110,118]⟩,⟨#[115,121,115]⟩,⟨#[105,110,105,116]⟩,⟨#[119,104,101,110]⟩,⟨#[97,115,115,117,109,101]⟩,⟨#[101,110,115,117,114,101]⟩,
 ⟨#[112,114,105,111]⟩,⟨#[97,110,121]⟩,⟨#[116,114,117,101]⟩,⟨#[102,97,108,115,101]⟩,⟨#[105,102]⟩,⟨#[116,104,101,110]⟩,⟨#[101,108,115,101]⟩,⟨#[110,111,116]⟩,⟨#[97,110,100]⟩,⟨#[111,114]⟩]
def wordE (s:ByteArray):Bool:=words.any fun w=>strEq s w
def Xhy (i:Nat)(c:Int):Bool:=decide (97≤c∧c≤122∨0<i∧(48≤c∧c≤57∨c=95))
def Xee (s:ByteArray):Nat→Nat→Bool
 | _,0=>true
 | i,m+1=>Xhy i (bt s i)&&Xee s (i+1) m
def nameE (s:ByteArray):Bool:=decide (1≤s.size∧s.size≤16)&& !wordE s&&Xee s 0 s.size
def Xhp (s:ByteArray):List Va→Int→Int
 | [],_=> -1
 | v::r,i=>if strEq v.name s=true then i else Xhp s r (i+1)
def findE (l:List Va)(s:ByteArray):Int:=Xhp s l 0
def sizeV (v:Va):Int:=if v.sort=1 then 2 else if v.sort=2∧-1000≤v.lo∧v.lo≤v.hi∧v.hi≤1000 then v.hi-v.lo+1 else 0
def Xdu (v:Va):Int:=if v.sort≠1∧v.sort≠2 then 4 else if v.sort=1∧(v.lo≠0∨v.hi≠0)∨v.sort=2∧sizeV v=0 then 6 else 0
def lowV (v:Va):Int:=if v.sort=1 then 0 else v.lo
def Xio:List Va→Int→Int
 | [],n=>n
 | v::r,n=>if Xdu v≠0 then 0 else if 512<n*sizeV v then 0 else Xio r (n*sizeV v)
def Xlc (l:List Va):Int:=if 6<(l.length:Int) then 0 else Xio l 1
def Xgd (all:List Va):List Va→Int→Int
 | [],_=>if Xlc all=0 then 7 else 0
 | v::r,i=>if nameE v.name=false then 3 else if findE all v.name<i then 3 else if Xdu v≠0 then Xdu v else Xgd all r (i+1)
def mayV (l:List Va):Int:=Xgd l l 0
def valuesFrom:List Va→Int→List Int
 | [],_=>[]
 | v::r,s=>(lowV v+Int.tmod s (sizeV v))::valuesFrom r (Int.tdiv s (sizeV v))
def valuesOk (l:List Va)(s:Int):Bool:=decide (mayV l=0∧0≤s∧s<Xlc l)
theorem Xnh (v:Va):0≤sizeV v∧sizeV v≤2001:=by
 unfold sizeV
 split
 ·omega
 ·split
  ·rename_i h;omega
  ·omega
theorem Xrv:∀ (l:List Va) (n:Int),Xio l n≠0→∀ v∈l,Xdu v=0∧0<sizeV v
 | [],_,_,v,hv=>by cases hv
 | w::r,n,h,v,hv=>by
  simp only[Xio] at h
  split at h
  ·exact absurd rfl h
  ·rename_i h1
   have h1:Xdu w=0:=by simpa using h1
   split at h
   ·exact absurd rfl h
   ·rcases List.mem_cons.1 hv with rfl|hv
    ·refine ⟨h1,?_⟩
     have hr:=(Xnh v).1
     have h2:sizeV v≠0:=by
      intro h0
      unfold Xdu at h1
      split at h1
      ·cases h1
      ·rename_i h3
       split at h1
       ·cases h1
       ·rename_i h4
        have h5:v.sort=1∨v.sort=2:=by omega
        rcases h5 with h5|h5
        ·unfold sizeV at h0
         rw[if_pos h5] at h0
         cases h0
        ·exact h4 (.inr ⟨h5,h0⟩)
     omega
    ·exact Xrv r _ h v hv
theorem Xsn:∀ (r all:List Va) (i:Int),Xgd all r i=0→Xlc all≠0
 | [],all,i,h=>by
  simp only[Xgd] at h
  split at h
  ·cases h
  ·assumption
 | v::r,all,i,h=>by
  simp only[Xgd] at h
  split at h
  ·cases h
  ·split at h
   ·cases h
   ·split at h
    ·rename_i h1;exact absurd h h1
    ·exact Xsn r all _ h
theorem mayV_total {l:List Va}(h:mayV l=0):Xlc l≠0:=Xsn l l 0 h
theorem totalE_len {l:List Va}(h:Xlc l≠0):l.length≤6:=by
 unfold Xlc at h
 split at h
 ·exact absurd rfl h
 ·omega
theorem totalE_pos {l:List Va}(h:Xlc l≠0):∀ v∈l,Xdu v=0∧0<sizeV v:=by
 unfold Xlc at h
 split at h
 ·exact absurd rfl h
 ·exact Xrv l 1 h
end Go.AM
set_option linter.unusedVariables false
namespace Go.AM
def Xfc (op:Int):List Int:=if op=5 then [1] else if 6≤op∧op≤8 then [1,1] else if 10≤op∧op≤14 then [2,2] else if op=9 then [0,0] else if op=15 then [1,0,0] else []
def Xds:List Int→List Int→Int→Bool
 | [],_,_=>true
 | _::_,[],_=>false
 | w::ws,g::gs,same=>if w≠0∧g≠w then false else if w=0∧same≠0∧g≠same then false else if w=0 then Xds ws gs g else Xds ws gs same
def toldE (l:List Va)(op n:Int)(ss:List Int):Int:=
 if op=1∨12≤op∧op≤14 then 2 else if op=3∨op=4 then ((l[n.toNat]?).map Va.sort).getD 0 else if op=15 then ss.getD 1 0 else 1
def nodeE (l:List Va)(op n:Int)(ss:List Int):Int×Int:=
 if (op=3∨op=4)∧(l.length:Int)≤n then (0,3) else if Xds (Xfc op) ss 0=false then (0,4) else (toldE l op n ss,0)
mutual
def ofE (l:List Va):Ex→Int×Int
 | .mk op n ks=>if (ofL l ks).1≠0 then (0,(ofL l ks).1) else nodeE l op n (ofL l ks).2
def ofL (l:List Va):List Ex→Int×List Int
 | []=>(0,[])
 | k::ks=>if (ofE l k).2≠0 then ((ofE l k).2,[]) else if (ofL l ks).1≠0 then ((ofL l ks).1,[]) else (0,(ofE l k).1::(ofL l ks).2)
end
def sortE (l:List Va)(e:Ex):Int×Int:=if mayV l≠0 then (0,mayV l) else if mayE e≠0 then (0,mayE e) else ofE l e
theorem kidsN_needs {op:Int}(h:0≤kidsN op):((Xfc op).length:Int)=kidsN op:=by
 unfold Xfc
 unfold kidsN at h ⊢
 repeat' split
 all_goals first
  | rfl
  | (exfalso;omega)
  | (exfalso;simp_all;omega)
theorem kidsN_le (op:Int):kidsN op≤3:=by
 unfold kidsN
 repeat' split
 all_goals omega
def bitE (b:Bool):Int:=if b then 1 else 0
def twoE (op a b:Int):Int:=
 if op=9 then bitE (a==b) else if op=10 then bitE (decide (a<b)) else if op=11 then bitE (decide (a≤b)) else if op=12 then a+b else if op=13 then a-b else a*b
def lazyE (op a:Int):Int×Int:=
 if op=5 then (-1,1-a) else if op=6∧a=0 then (-1,0) else if op=7∧a=1∨op=8∧a=0 then (-1,1) else if op=15 then (2-a,0) else (1,0)
def nodeV (now next:List Int)(op n:Int)(vs:List (Int×Int)):Int×Int:=
 if op=1∨op=2 then (n,0) else if op=3 then (now.getD n.toNat 0,0) else if op=4 then (next.getD n.toNat 0,0) else
 if (vs.getD 0 (0,0)).2≠0 then (0,(vs.getD 0 (0,0)).2) else
 if op<9∨op=15 then (if (lazyE op (vs.getD 0 (0,0)).1).1<0 then ((lazyE op (vs.getD 0 (0,0)).1).2,0) else vs.getD (lazyE op (vs.getD 0 (0,0)).1).1.toNat (0,0)) else
 if (vs.getD 1 (0,0)).2≠0 then (0,(vs.getD 1 (0,0)).2) else
 if twoE op (vs.getD 0 (0,0)).1 (vs.getD 1 (0,0)).1< -1000∨1000<twoE op (vs.getD 0 (0,0)).1 (vs.getD 1 (0,0)).1 then (0,6) else (twoE op (vs.getD 0 (0,0)).1 (vs.getD 1 (0,0)).1,0)
mutual
def valE (now next:List Int):Ex→Int×Int
 | .mk op n ks=>nodeV now next op n (valL now next ks)
def valL (now next:List Int):List Ex→List (Int×Int)
 | []=>[]
 | k::ks=>valE now next k::valL now next ks
end
def valueE (l:List Va)(e:Ex)(now next:Int):Int×Int:=
 if (sortE l e).2≠0 then (0,(sortE l e).2) else if valuesOk l now=false∨valuesOk l next=false then (0,1) else valE (valuesFrom l now) (valuesFrom l next) e
def trueE (l:List Va)(e:Ex)(now next:Int):Bool:=
 decide ((sortE l e).2=0∧(sortE l e).1=1∧(valueE l e now next).2=0∧(valueE l e now next).1=1)
end Go.AM
set_option linter.unusedVariables false
set_option linter.unusedSimpArgs false
namespace Go.AM
def Sorts (l:List Va):Prop:=∀ v∈l,v.sort=1∨v.sort=2
theorem sortedV_sort {v:Va}(h:Xdu v=0):v.sort=1∨v.sort=2:=by
 unfold Xdu at h
 split at h
 ·cases h
 ·omega
theorem mayV_sorts {l:List Va}(h:mayV l=0):Sorts l:=fun v hv=>sortedV_sort (totalE_pos (mayV_total h) v hv).1
inductive Typed (l:List Va):Ex→Int→Prop
 | num {n:Int} (h1: -1000≤n) (h2:n≤1000):Typed l (.mk 1 n []) 2
 | bool {n:Int} (h:n=0∨n=1):Typed l (.mk 2 n []) 1
 | var {op:Int} {i:Nat} {v:Va} (ho:op=3∨op=4) (h:l[i]? =some v) (hi:i<6):Typed l (.mk op i []) v.sort
 | not {a:Ex} (ha:Typed l a 1):Typed l (.mk 5 0 [a]) 1
 | logic {op:Int} {a b:Ex} (ho:6≤op∧op≤8) (ha:Typed l a 1) (hb:Typed l b 1):Typed l (.mk op 0 [a,b]) 1
 | same {s:Int} {a b:Ex} (ha:Typed l a s) (hb:Typed l b s):Typed l (.mk 9 0 [a,b]) 1
 | less {op:Int} {a b:Ex} (ho:10≤op∧op≤11) (ha:Typed l a 2) (hb:Typed l b 2):Typed l (.mk op 0 [a,b]) 1
 | sum {op:Int} {a b:Ex} (ho:12≤op∧op≤14) (ha:Typed l a 2) (hb:Typed l b 2):Typed l (.mk op 0 [a,b]) 2
 | ite {s:Int} {a b c:Ex} (ha:Typed l a 1) (hb:Typed l b s) (hc:Typed l c s):Typed l (.mk 15 0 [a,b,c]) s
theorem Typed.sort {l:List Va}(hs:Sorts l){e:Ex}{s:Int}(h:Typed l e s):s=1∨s=2:=by
 induction h with
 | num=>exact .inr rfl
 | bool=>exact .inl rfl
 | var _ h _=>exact hs _ (List.mem_of_getElem? h)
 | not=>exact .inl rfl
 | logic=>exact .inl rfl
 | same=>exact .inl rfl
 | less=>exact .inl rfl
 | sum=>exact .inr rfl
 | ite _ _ _ _ ih _=>exact ih
theorem kids0 {ks:List Ex}(h:(ks.length:Int)=0):ks=[]:=List.eq_nil_of_length_eq_zero (by omega)
theorem kids1 {ks:List Ex}(h:(ks.length:Int)=1):∃ a,ks=[a]:=by
 match ks,h with
 | [a],_=>exact ⟨a,rfl⟩
 | [],h=>simp at h
 | _::_::_,h=>simp at h;omega
theorem kids2 {ks:List Ex}(h:(ks.length:Int)=2):∃ a b,ks=[a,b]:=by
 match ks,h with
 | [a,b],_=>exact ⟨a,b,rfl⟩
 | [],h=>simp at h
 | [_],h=>simp at h
 | _::_::_::_,h=>simp at h;omega
theorem kids3 {ks:List Ex}(h:(ks.length:Int)=3):∃ a b c,ks=[a,b,c]:=by
 match ks,h with
 | [a,b,c],_=>exact ⟨a,b,c,rfl⟩
 | [],h=>simp at h
 | [_],h=>simp at h
 | [_,_],h=>simp at h
 | _::_::_::_::_,h=>simp at h;omega
theorem fits2 (w x y:Int)(hw:w≠0):Xds [w,w] [x,y] 0=decide (x=w∧y=w):=by
 simp only[Xds]
 by_cases h1:x=w<;>by_cases h2:y=w<;>simp[h1,h2,hw]
theorem fits1 (w x:Int)(hw:w≠0):Xds [w] [x] 0=decide (x=w):=by
 simp only[Xds]
 by_cases h1:x=w<;>simp[h1,hw]
theorem fits00 (x y:Int)(hx:x≠0):Xds [0,0] [x,y] 0=decide (y=x):=by
 simp only[Xds]
 by_cases h1:y=x<;>simp[h1,hx]
theorem fits100 (x y z:Int)(hy:y≠0):Xds [1,0,0] [x,y,z] 0=decide (x=1∧z=y):=by
 simp only[Xds]
 by_cases h1:x=1<;>by_cases h2:z=y<;>simp[h1,h2,hy]
theorem Xsj {l:List Va}(hs:Sorts l):∀ (e:Ex),Xed e=true→((ofE l e).2=0→Typed l e (ofE l e).1)∧∀ s,Typed l e s→ofE l e=(s,0)
 | .mk op n ks,h=>by
  have hk:∀ k∈ks,Xed k=true→((ofE l k).2=0→Typed l k (ofE l k).1)∧∀ s,Typed l k s→ofE l k=(s,0):=fun k hk h=>Xsj hs k h
  simp only[Xed,Bool.and_eq_true,decide_eq_true_eq] at h
  obtain ⟨⟨⟨h1,h2⟩,h3⟩,h4⟩:=h
  have hop:op=1∨op=2∨(op=3∨op=4)∨op=5∨(6≤op∧op≤8)∨op=9∨(10≤op∧op≤11)∨(12≤op∧op≤14)∨op=15:=by
   unfold kidsN at h1
   repeat' split at h1
   all_goals omega
  have hn0:5≤op→n=0:=by
   intro h5
   unfold Xgw at h3
   rw[if_neg (by omega),if_neg (by omega),if_neg (by omega)] at h3
   exact of_decide_eq_true h3
  rcases hop with rfl|rfl|hop|rfl|hop|rfl|hop|hop|rfl
  ·obtain rfl:=kids0 (h2.trans rfl)
   have h5: -1000≤n∧n≤1000:=of_decide_eq_true h3
   refine ⟨fun _=> .num h5.1 h5.2,fun s ht=> ?_⟩
   cases ht with
   | num=>rfl
   | var ho=>omega
  ·obtain rfl:=kids0 (h2.trans rfl)
   have h5:n=0∨n=1:=of_decide_eq_true h3
   refine ⟨fun _=> .bool h5,fun s ht=> ?_⟩
   cases ht with
   | bool=>rfl
   | var ho=>omega
  ·have hkn:kidsN op=0:=by unfold kidsN;rw[if_pos (by omega)]
   obtain rfl:=kids0 (h2.trans hkn)
   have h5:0≤n∧n<6:=by
    unfold Xgw at h3
    rw[if_neg (by omega),if_neg (by omega),if_pos hop] at h3
    exact of_decide_eq_true h3
   obtain ⟨i,rfl⟩:=Int.eq_ofNat_of_zero_le h5.1
   have hnd:Xfc op=[]:=by
    unfold Xfc
    rw[if_neg (by omega),if_neg (by omega),if_neg (by omega),if_neg (by omega),if_neg (by omega)]
   have hof:ofE l (.mk op i [])=if (l.length:Int)≤i then (0,3) else (((l[i]?).map Va.sort).getD 0,0):=by
    simp only[ofE,ofL,nodeE,hnd,Xds,toldE]
    rw[if_neg (by simp)]
    by_cases c:(l.length:Int)≤i
    ·rw[if_pos ⟨hop,c⟩,if_pos c]
    ·rw[if_neg (by simp[c]),if_neg (by simp),if_neg c,if_neg (by omega),if_pos hop]
     rfl
   refine ⟨fun h0=> ?_,fun s ht=> ?_⟩
   ·rw[hof] at h0 ⊢
    by_cases c:(l.length:Int)≤i
    ·rw[if_pos c] at h0;cases h0
    ·rw[if_neg c]
     have hlt:i<l.length:=by omega
     have:=Typed.var (l:=l) (v:=l[i]) hop (List.getElem?_eq_getElem hlt) (by omega)
     simpa [List.getElem?_eq_getElem hlt] using this
   ·generalize hx:((i:Nat):Int)=x at ht
    generalize hks:([]:List Ex)=ks at ht
    cases ht with
    | num=>omega
    | bool=>omega
    | @var _ j v ho hv hi=>
     have hij:i=j:=by omega
     subst hij
     rw[hof]
     have hlt:i<l.length:=(List.getElem?_eq_some_iff.1 hv).1
     rw[if_neg (by omega),hv]
     rfl
    | _=>cases hks
  ·obtain ⟨a,rfl⟩:=kids1 (h2.trans rfl)
   obtain rfl:=hn0 (by omega)
   simp only[Xhr,Bool.and_eq_true] at h4
   obtain ⟨ih1,ih2⟩:=hk a (by simp) h4.1
   refine ⟨fun h0=> ?_,fun s ht=> ?_⟩
   ·simp only[ofE,ofL] at h0 ⊢
    by_cases c:(ofE l a).2=0
    ·simp only[c,ne_eq,not_true_eq_false,if_false] at h0 ⊢
     have hnd:Xfc 5=[1]:=rfl
     simp only[nodeE,hnd,fits1 1 _ (by omega)] at h0 ⊢
     rw[if_neg (by omega)] at h0 ⊢
     by_cases c2:(ofE l a).1=1
     ·simp only[c2,decide_true,Bool.true_eq_false,if_false]
      have:=ih1 c
      rw[c2] at this
      exact .not this
     ·simp[c2] at h0
    ·simp[c] at h0
   ·cases ht with
    | not ha=>
     have:=ih2 _ ha
     simp[ofE,ofL,nodeE,this,Xfc,Xds,toldE]
  ·have hkn:kidsN op=2:=by unfold kidsN;rw[if_neg (by omega),if_neg (by omega),if_pos (by omega)]
   obtain ⟨a,b,rfl⟩:=kids2 (h2.trans hkn)
   obtain rfl:=hn0 (by omega)
   simp only[Xhr,Bool.and_eq_true] at h4
   obtain ⟨ih1,ih2⟩:=hk a (by simp) h4.1
   obtain ⟨jh1,jh2⟩:=hk b (by simp) h4.2.1
   have hnd:Xfc op=[1,1]:=by unfold Xfc;rw[if_neg (by omega),if_pos (by omega)]
   have htd:∀ ss,toldE l op 0 ss=1:=fun ss=>by unfold toldE;rw[if_neg (by omega),if_neg (by omega),if_neg (by omega)]
   refine ⟨fun h0=> ?_,fun s ht=> ?_⟩
   ·simp only[ofE,ofL] at h0 ⊢
    by_cases c:(ofE l a).2=0
    ·by_cases c':(ofE l b).2=0
     ·simp only[c,c',ne_eq,not_true_eq_false,if_false,nodeE,hnd,fits2 1 _ _ (by omega),htd] at h0 ⊢
      rw[if_neg (by omega)] at h0 ⊢
      by_cases c2:(ofE l a).1=1∧(ofE l b).1=1
      ·simp only[c2,and_self,decide_true,Bool.true_eq_false,if_false]
       have t1:=ih1 c
       have t2:=jh1 c'
       rw[c2.1] at t1
       rw[c2.2] at t2
       exact .logic hop t1 t2
      ·simp[c2] at h0
     ·simp[c,c'] at h0
    ·simp[c] at h0
   ·cases ht with
    | logic ho ha hb=>
     simp only[ofE,ofL,ih2 _ ha,jh2 _ hb,nodeE,hnd,fits2 1 _ _ (by omega:(1:Int)≠0),htd]
     rw[if_neg (by simp)]
     simp only[ne_eq,not_true_eq_false,if_false,and_self,decide_true,Bool.true_eq_false,fits2 1 _ _ (by omega:(1:Int)≠0)]
     rw[if_neg (by omega)]
    | same=>omega
    | less ho=>omega
    | sum ho=>omega
  ·obtain ⟨a,b,rfl⟩:=kids2 (h2.trans rfl)
   obtain rfl:=hn0 (by omega)
   simp only[Xhr,Bool.and_eq_true] at h4
   obtain ⟨ih1,ih2⟩:=hk a (by simp) h4.1
   obtain ⟨jh1,jh2⟩:=hk b (by simp) h4.2.1
   have hnd:Xfc 9=[0,0]:=rfl
   refine ⟨fun h0=> ?_,fun s ht=> ?_⟩
   ·simp only[ofE,ofL] at h0 ⊢
    by_cases c:(ofE l a).2=0
    ·by_cases c':(ofE l b).2=0
     ·have t1:=ih1 c
      have t2:=jh1 c'
      have hne:(ofE l a).1≠0:=by rcases t1.sort hs with h|h<;>omega
      simp only[c,c',ne_eq,not_true_eq_false,if_false,nodeE,hnd,fits00 _ _ hne] at h0 ⊢
      rw[if_neg (by omega)] at h0 ⊢
      by_cases c2:(ofE l b).1=(ofE l a).1
      ·simp only[c2,decide_true,Bool.true_eq_false,if_false]
       rw[c2] at t2
       exact .same t1 t2
      ·simp[c2] at h0
     ·simp[c,c'] at h0
    ·simp[c] at h0
   ·cases ht with
    | @same s _ _ ha hb=>
     have hne:s≠0:=by rcases ha.sort hs with h|h<;>omega
     have e1:Xds [0,0] [s,s] 0=true:=by rw[fits00 _ _ hne];simp
     simp[ofE,ofL,ih2 _ ha,jh2 _ hb,nodeE,hnd,e1,toldE]
    | logic ho=>omega
    | less ho=>omega
    | sum ho=>omega
  ·have hkn:kidsN op=2:=by unfold kidsN;rw[if_neg (by omega),if_neg (by omega),if_pos (by omega)]
   obtain ⟨a,b,rfl⟩:=kids2 (h2.trans hkn)
   obtain rfl:=hn0 (by omega)
   simp only[Xhr,Bool.and_eq_true] at h4
   obtain ⟨ih1,ih2⟩:=hk a (by simp) h4.1
   obtain ⟨jh1,jh2⟩:=hk b (by simp) h4.2.1
   have hnd:Xfc op=[2,2]:=by unfold Xfc;rw[if_neg (by omega),if_neg (by omega),if_pos (by omega)]
   have htd:∀ ss,toldE l op 0 ss=1:=fun ss=>by unfold toldE;rw[if_neg (by omega),if_neg (by omega),if_neg (by omega)]
   have e2:Xds [2,2] [2,2] 0=true:=rfl
   refine ⟨fun h0=> ?_,fun s ht=> ?_⟩
   ·simp only[ofE,ofL] at h0 ⊢
    by_cases c:(ofE l a).2=0
    ·by_cases c':(ofE l b).2=0
     ·simp only[c,c',ne_eq,not_true_eq_false,if_false,nodeE,hnd,fits2 2 _ _ (by omega),htd] at h0 ⊢
      rw[if_neg (by omega)] at h0 ⊢
      by_cases c2:(ofE l a).1=2∧(ofE l b).1=2
      ·simp only[c2,and_self,decide_true,Bool.true_eq_false,if_false]
       have t1:=ih1 c
       have t2:=jh1 c'
       rw[c2.1] at t1
       rw[c2.2] at t2
       exact .less hop t1 t2
      ·simp[c2] at h0
     ·simp[c,c'] at h0
    ·simp[c] at h0
   ·cases ht with
    | less ho ha hb=>
     simp only[ofE,ofL,ih2 _ ha,jh2 _ hb,nodeE,hnd,htd,ne_eq,not_true_eq_false,if_false,e2,Bool.true_eq_false]
     rw[if_neg (by omega)]
    | same=>omega
    | logic ho=>omega
    | sum ho=>omega
  ·have hkn:kidsN op=2:=by unfold kidsN;rw[if_neg (by omega),if_neg (by omega),if_pos (by omega)]
   obtain ⟨a,b,rfl⟩:=kids2 (h2.trans hkn)
   obtain rfl:=hn0 (by omega)
   simp only[Xhr,Bool.and_eq_true] at h4
   obtain ⟨ih1,ih2⟩:=hk a (by simp) h4.1
   obtain ⟨jh1,jh2⟩:=hk b (by simp) h4.2.1
   have hnd:Xfc op=[2,2]:=by unfold Xfc;rw[if_neg (by omega),if_neg (by omega),if_pos (by omega)]
   have htd:∀ ss,toldE l op 0 ss=2:=fun ss=>by unfold toldE;rw[if_pos (by omega)]
   have e2:Xds [2,2] [2,2] 0=true:=rfl
   refine ⟨fun h0=> ?_,fun s ht=> ?_⟩
   ·simp only[ofE,ofL] at h0 ⊢
    by_cases c:(ofE l a).2=0
    ·by_cases c':(ofE l b).2=0
     ·simp only[c,c',ne_eq,not_true_eq_false,if_false,nodeE,hnd,fits2 2 _ _ (by omega),htd] at h0 ⊢
      rw[if_neg (by omega)] at h0 ⊢
      by_cases c2:(ofE l a).1=2∧(ofE l b).1=2
      ·simp only[c2,and_self,decide_true,Bool.true_eq_false,if_false]
       have t1:=ih1 c
       have t2:=jh1 c'
       rw[c2.1] at t1
       rw[c2.2] at t2
       exact .sum hop t1 t2
      ·simp[c2] at h0
     ·simp[c,c'] at h0
    ·simp[c] at h0
   ·cases ht with
    | sum ho ha hb=>
     simp only[ofE,ofL,ih2 _ ha,jh2 _ hb,nodeE,hnd,htd,ne_eq,not_true_eq_false,if_false,e2,Bool.true_eq_false]
     rw[if_neg (by omega)]
    | same=>omega
    | logic ho=>omega
    | less ho=>omega
  ·obtain ⟨a,b,c,rfl⟩:=kids3 (h2.trans rfl)
   obtain rfl:=hn0 (by omega)
   simp only[Xhr,Bool.and_eq_true] at h4
   obtain ⟨ih1,ih2⟩:=hk a (by simp) h4.1
   obtain ⟨jh1,jh2⟩:=hk b (by simp) h4.2.1
   obtain ⟨kh1,kh2⟩:=hk c (by simp) h4.2.2.1
   have hnd:Xfc 15=[1,0,0]:=rfl
   refine ⟨fun h0=> ?_,fun s ht=> ?_⟩
   ·simp only[ofE,ofL] at h0 ⊢
    by_cases c1:(ofE l a).2=0
    ·by_cases c2:(ofE l b).2=0
     ·by_cases c3:(ofE l c).2=0
      ·have t1:=ih1 c1
       have t2:=jh1 c2
       have t3:=kh1 c3
       have hne:(ofE l b).1≠0:=by rcases t2.sort hs with h|h<;>omega
       simp only[c1,c2,c3,ne_eq,not_true_eq_false,if_false,nodeE,hnd,fits100 _ _ _ hne] at h0 ⊢
       rw[if_neg (by omega)] at h0 ⊢
       by_cases c4:(ofE l a).1=1∧(ofE l c).1=(ofE l b).1
       ·simp only[c4,and_self,decide_true,Bool.true_eq_false,if_false]
        rw[c4.1] at t1
        rw[c4.2] at t3
        have e3:toldE l 15 0 [1,(ofE l b).1,(ofE l b).1]=(ofE l b).1:=rfl
        rw[e3]
        exact .ite t1 t2 t3
       ·simp[c4] at h0
      ·simp[c1,c2,c3] at h0
     ·simp[c1,c2] at h0
    ·simp[c1] at h0
   ·cases ht with
    | ite ha hb hc=>
     have hne:s≠0:=by rcases hb.sort hs with h|h<;>omega
     have e1:Xds [1,0,0] [1,s,s] 0=true:=by rw[fits100 _ _ _ hne];simp
     simp[ofE,ofL,ih2 _ ha,jh2 _ hb,kh2 _ hc,nodeE,hnd,e1,toldE]
end Go.AM
