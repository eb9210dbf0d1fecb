/- The law ArenaTurns: the game may be; the players take turns; each vertex is reached. -/
import Derived.Test.YtnjandhaeojieaaGreatLa68
set_option linter.unusedVariables false
set_option linter.unusedSimpArgs false
namespace Go.AM
open Go.Proofs.YtnjandhaeojieaaGreat
def SMap (x:T)(A:List Vx):Prop:=MK 3 x (A.map vl) fun _=>1
theorem SMap.nil:SMap noT []:=MK.nil 3 _
theorem SMap.get {x:T}{A:List Vx}(h:SMap x A)(v:Vx):(mget x 3 ([(T.i v.1),(T.i v.2.1),(T.i v.2.2)]:List T) ([(T.i 0)]:List T) 0).int=if v∈A then 1 else 0:=by
 have:=MK.get (b:=vl v) h rfl (z:=0)
 simp only[mem_vl] at this
 exact this
theorem SMap.set {x:T}{A:List Vx}(h:SMap x A)(v:Vx):SMap (mset x 3 ([(T.i v.1),(T.i v.2.1),(T.i v.2.2)]:List T) ([(T.i 1)]:List T)) (addV A v):=by
 have:=MK.set (b:=vl v) h rfl 1
 have e:(fun i=>if i=(A.map vl).idxOf (vl v) then (1:Int) else (fun _=>1) i)=fun _=>1:=by funext i;split<;>rfl
 rw[e] at this
 unfold addV
 by_cases hv:v∈A
 ·rw[if_pos (mem_vl.2 hv)] at this
  rw[if_pos hv]
  exact this
 ·rw[if_neg (fun q=>hv (mem_vl.1 q))] at this
  rw[if_neg hv]
  unfold SMap
  rw[List.map_append]
  exact this
theorem Inv.short {m:Md}{A:List Vx}{L:List (List Int)}(h:Inv m A.length A L)(hw:∀ v,(waysE m v).length≤24):∀ l∈L,l.length≤24:=by
 intro l hl
 obtain ⟨i,hi,rfl⟩:=List.getElem_of_mem hl
 have hiA:i<A.length:=by rw[←h.len];exact hi
 obtain ⟨_,d2⟩:=h.done i _ hiA (List.getElem?_eq_getElem hiA)
 rw[List.getElem?_eq_getElem hi] at d2
 have d2:=Option.some.inj d2
 rw[d2]
 unfold nextE
 rw[List.length_mergeSort,List.length_map]
 exact hw _
end Go.AM
namespace Go.Proofs.YtnjandhaeojieaaGreat
open Go.AM
section
variable {h:H}{m:Md}{A:List Vx}{L:List (List Int)}{tO tX:T}{nA:Nat}{gA:Nat→Nat→T}{Q:Option R}
variable (hI:Inv m A.length A L)(hv:Verts nA gA A)(ho:Ints tO (A.map ownE))(hXl:tX.len=L.length)(hX:∀ i l,L[i]? =some l→Ints (tX.el i 0) l)(hl24:∀ l∈L,l.length≤24)
include hI hv ho hXl hX hl24
end
end Go.Proofs.YtnjandhaeojieaaGreat
set_option linter.unusedVariables false
set_option linter.unusedSimpArgs false
namespace Go.Proofs.YtnjandhaeojieaaGreat
open Go.AM
def Bd (b:Int)(r:Option R):Prop:=∃ x,r=ri x∧0≤x∧x≤b
theorem Bd.eq {b:Int}{r s:Option R}(h:Bd b s)(e:r=s):Bd b r:=e▸h
theorem heavyVd {h:H}{l:T}(hl:l.len≤9223372036854775807):∀ (m i:Nat),i≤10→i+m=l.len→∀ N,m<N→Bd 11 (Xdn.B0 h N l (l.len:Int) (i:Int))
 | 0,i,h10,hi,N,hN=>by
  obtain ⟨N,rfl⟩:∃ M,N=M+1:=⟨N-1,by omega⟩
  exact ⟨0,by rw[Xdn.B0_eq];exact Xac (decide_eq_false (by omega)) rfl,by omega,by omega⟩
 | m+1,i,h10,hi,N,hN=>by
  obtain ⟨N,rfl⟩:∃ M,N=M+1:=⟨N-1,by omega⟩
  have e:Xdn.B0 h (N+1) l (l.len:Int) (i:Int)=_:=Xdn.B0_eq h N l (l.len:Int) (i:Int)
  rw[Xaq (a:=(i:Int)+1) (by omega) (by omega)] at e
  by_cases c1:(i:Int)≥10
  ·exact ⟨(i:Int)+1,by rw[e];exact if_of (decide_eq_true (by omega)) (if_of (by simp;omega) (if_of (decide_eq_true c1) rfl)),by omega,by omega⟩
  ·by_cases c2:(((l.el (i:Int).toNat 0).str.size:Nat):Int)>100
   ·exact ⟨(i:Int)+1,by rw[e];exact if_of (decide_eq_true (by omega)) (if_of (by simp;omega) (Xac (decide_eq_false c1) (if_of (decide_eq_true c2) rfl))),by omega,by omega⟩
   ·exact (heavyVd (h:=h) hl m (i+1) (by omega) (by omega) N (by omega)).eq (by rw[e];exact if_of (decide_eq_true (by omega)) (if_of (by simp;omega) (Xac (decide_eq_false c1) (Xac (decide_eq_false c2) rfl))))
theorem heavyV_bd (l:T)(hl:l.len≤9223372036854775807):Ev fun N=>Bd 11 (Xlu (K N) l):=by
 refine Ev.step ((Ev.ge (l.len+1)).imp fun N hN=> ?_)
 rw[Xvc]
 exact heavyVd hl l.len 0 (by omega) (by omega) N (by omega)
theorem weighD {h:H}{k:T}(hk:KW k){d r:Int}(hr:r≤500)(hc:∀ i,i<k.len→∀ op n d r,r≤500→Bd 1000 (Xhv h op n (k.el i 2) d r)):∀ (m i:Nat),i+m=k.len→∀ N n,m<N→0≤n→n≤r→Bd 1000 (Xdm.B0 h N d r n k (k.len:Int) (i:Int))
 | 0,i,hi,N,n,hN,n0,n1=>by
  obtain ⟨N,rfl⟩:∃ M,N=M+1:=⟨N-1,by omega⟩
  rw[Xdm.B0_eq]
  exact ⟨n,Xac (decide_eq_false (by omega)) rfl,by omega,by omega⟩
 | m+1,i,hi,N,n,hN,n0,n1=>by
  obtain ⟨N,rfl⟩:∃ M,N=M+1:=⟨N-1,by omega⟩
  have hl:=hk.len
  obtain ⟨y,hy,y0,y1⟩:=hc i (by omega) (k.el i 0).int (k.el i 1).int (IntKind.wrap .i64 (d+1)) (r-n) (by omega)
  have e:Xdm.B0 h (N+1) d r n k (k.len:Int) (i:Int)=_:=Xdm.B0_eq h N d r n k (k.len:Int) (i:Int)
  rw[Xaq (a:=(i:Int)+1) (by omega) (by omega),Int.toNat_natCast,Xaq (a:=r-n) (by omega) (by omega),hy,Xfd,Xal,int_i,Xaq (a:=n+y) (by omega) (by omega)] at e
  by_cases c1:n+y>r
  ·exact ⟨1000,by rw[e];exact if_of (decide_eq_true (by omega)) (if_of (by simp;omega) (if_of (decide_eq_true c1) rfl)),by omega,by omega⟩
  ·exact (weighD (h:=h) (d:=d) (r:=r) hk hr hc m (i+1) (by omega) N (n+y) (by omega) (by omega) (by omega)).eq (by rw[e];exact if_of (decide_eq_true (by omega)) (if_of (by simp;omega) (Xac (decide_eq_false c1) rfl)))
theorem weigh_bd:∀ k,KW k→Ev fun N=>∀ op n d r,r≤500→Bd 1000 (Xhv (K N) op n k d r):=by
 refine Xkc fun k ih hk=> ?_
 refine Ev.step ((Ev.all (k:=k.len) fun i hi=>ih i hi (hk.el hi)).imp2 (Ev.ge (k.len+1)) fun N hc hN op n d r hr=> ?_)
 rw[Xva]
 by_cases c1:d>40
 ·exact ⟨1000,if_of (decide_eq_true c1) rfl,by omega,by omega⟩
 ·by_cases c2:r<1
  ·exact ⟨1000,Xac (decide_eq_false c1) (if_of (decide_eq_true c2) rfl),by omega,by omega⟩
  ·obtain ⟨x,hx,x0,x1⟩:=weighD (d:=d) (r:=r) hk hr hc k.len 0 (by omega) N 1 (by omega) (by omega) (by omega)
   exact ⟨x,Xac (decide_eq_false c1) (Xac (decide_eq_false c2) hx),x0,x1⟩
theorem Xpn (k:T)(hk:KW k):Ev fun N=>∀ op n,Bd 1000 (Xby (K N) op n k):=by
 refine Ev.step ((weigh_bd k hk).imp fun N h op n=> ?_)
 obtain ⟨x,hx,x0,x1⟩:=h op n 0 500 (by omega)
 rw[Xvb,hx,Xfd,Xal,int_i]
 by_cases c:x>300
 ·exact ⟨x,if_of (decide_eq_true c) rfl,x0,x1⟩
 ·exact ⟨0,Xac (decide_eq_false c) rfl,by omega,by omega⟩
theorem hdB3 {h:H}{a b d t:T}{p4 u:Int}(ht:KW t)(hc:∀ i,i<t.len→∀ o n,Bd 1000 (Xby h o n (t.el i 2))){c:Nat}(hk:∀ M,c≤M→∀ n,0≤n→n+u≤1000000→Bd 1000000 (Xaj.B2 h M n a b d (IntKind.wrap .i64 (p4+1)))):
  ∀ (m i:Nat),i+m=t.len→∀ N n,c+m<N→0≤n→n+1000*m+u≤1000000→0≤u→Bd 1000000 (Xaj.B3 h N n a b d p4 t (t.len:Int) (i:Int))
 | 0,i,hi,N,n,hN,n0,n1,u0=>by
  obtain ⟨N,rfl⟩:∃ M,N=M+1:=⟨N-1,by omega⟩
  refine (hk N (by omega) n n0 (by omega)).eq ?_
  rw[Xaj.B3_eq]
  exact Xac (decide_eq_false (by omega)) rfl
 | m+1,i,hi,N,n,hN,n0,n1,u0=>by
  obtain ⟨N,rfl⟩:∃ M,N=M+1:=⟨N-1,by omega⟩
  have hl:=ht.len
  obtain ⟨y,hy,y0,y1⟩:=hc i (by omega) (t.el i 0).int (t.el i 1).int
  refine (hdB3 ht hc hk m (i+1) (by omega) N (n+y) (by omega) (by omega) (by omega) u0).eq ?_
  rw[Xaj.B3_eq,Int.toNat_natCast,Xaq (a:=(i:Int)+1) (by omega) (by omega)]
  refine if_of (decide_eq_true (by omega)) (if_of (by simp;omega) (Xag hy ?_))
  rw[Xal,int_i,Xaq (a:=n+y) (by omega) (by omega)]
  rfl
theorem hdB2 {h:H}{a b d:T}(ha:KW a)(hb:KW b)(hd:KW d)(ca:∀ i,i<a.len→∀ o n,Bd 1000 (Xby h o n (a.el i 2)))(cb:∀ i,i<b.len→∀ o n,Bd 1000 (Xby h o n (b.el i 2)))(cd:∀ i,i<d.len→∀ o n,Bd 1000 (Xby h o n (d.el i 2)))(la:a.len≤8)(lb:b.len≤8)(ld:d.len≤8):
  ∀ N n,40≤N→0≤n→n+24000≤1000000→Bd 1000000 (Xaj.B2 h N n a b d 0):=by
 have k3:∀ M,1≤M→∀ n,0≤n→n+0≤1000000→Bd 1000000 (Xaj.B2 h M n a b d (IntKind.wrap .i64 (2+1))):=by
  intro M hM n n0 n1
  obtain ⟨M,rfl⟩:∃ M',M=M'+1:=⟨M-1,by omega⟩
  rw[show IntKind.wrap .i64 ((2:Int)+1)=3 by decide,Xaj.B2_eq]
  exact ⟨n,Xac (by decide) rfl,n0,by omega⟩
 have k2:∀ M,12≤M→∀ n,0≤n→n+8000≤1000000→Bd 1000000 (Xaj.B2 h M n a b d (IntKind.wrap .i64 (1+1))):=by
  intro M hM n n0 n1
  obtain ⟨M,rfl⟩:∃ M',M=M'+1:=⟨M-1,by omega⟩
  refine (hdB3 (h:=h) (a:=a) (b:=b) (d:=d) (p4:=2) hd cd k3 d.len 0 (by omega) M n (by omega) n0 (by omega) (by omega)).eq ?_
  rw[show IntKind.wrap .i64 ((1:Int)+1)=2 by decide,Xaj.B2_eq]
  exact if_of (by decide) (Xac (by decide) (Xac (by decide) (if_of (by decide) rfl)))
 have k1:∀ M,24≤M→∀ n,0≤n→n+16000≤1000000→Bd 1000000 (Xaj.B2 h M n a b d (IntKind.wrap .i64 (0+1))):=by
  intro M hM n n0 n1
  obtain ⟨M,rfl⟩:∃ M',M=M'+1:=⟨M-1,by omega⟩
  refine (hdB3 (h:=h) (a:=a) (b:=b) (d:=d) (p4:=1) hb cb k2 b.len 0 (by omega) M n (by omega) n0 (by omega) (by omega)).eq ?_
  rw[show IntKind.wrap .i64 ((0:Int)+1)=1 by decide,Xaj.B2_eq]
  exact if_of (by decide) (Xac (by decide) (if_of (by decide) rfl))
 intro N n hN n0 n1
 obtain ⟨N,rfl⟩:∃ M',N=M'+1:=⟨N-1,by omega⟩
 refine (hdB3 (h:=h) (a:=a) (b:=b) (d:=d) (p4:=0) ha ca k1 a.len 0 (by omega) N n (by omega) n0 (by omega) (by omega)).eq ?_
 rw[Xaj.B2_eq]
 exact if_of (by decide) (if_of (by decide) rfl)
theorem hdB4 {h:H}{te ts l k1 k2 e0 s0 ta tn tp t s:T}{p3 o1 n1 o2 n2 q u:Int}{len:Int}(hs:KS s)(hc:∀ i,i<s.len→∀ o n,Bd 1000 (Xby h o n (s.el i 4))){c:Nat}(hk:∀ M,c≤M→∀ n,0≤n→n+u≤1000000→Bd 1000000 (Xaj.B1 h M n te ts p3 t len (IntKind.wrap .i64 (q+1)) l o1 n1 k1 o2 n2 k2 e0 s0 ta tn tp)):
  ∀ (m i:Nat),i+m=s.len→∀ N n,c+m<N→0≤n→n+1000*m+u≤1000000→0≤u→Bd 1000000 (Xaj.B4 h N n te ts p3 t len q s (s.len:Int) (i:Int) l o1 n1 k1 o2 n2 k2 e0 s0 ta tn tp)
 | 0,i,hi,N,n,hN,n0,n1,u0=>by
  obtain ⟨N,rfl⟩:∃ M,N=M+1:=⟨N-1,by omega⟩
  refine (hk N (by omega) n n0 (by omega)).eq ?_
  rw[Xaj.B4_eq]
  exact Xac (decide_eq_false (by omega)) rfl
 | m+1,i,hi,N,n,hN,n0,n1,u0=>by
  obtain ⟨N,rfl⟩:∃ M,N=M+1:=⟨N-1,by omega⟩
  have hl:=hs.1
  obtain ⟨y,hy,y0,y1⟩:=hc i (by omega) (s.el i 2).int (s.el i 3).int
  refine (hdB4 hs hc hk m (i+1) (by omega) N (n+y) (by omega) (by omega) (by omega) u0).eq ?_
  rw[Xaj.B4_eq,Int.toNat_natCast,Xaq (a:=(i:Int)+1) (by omega) (by omega)]
  refine if_of (decide_eq_true (by omega)) (if_of (by simp;omega) (Xag hy ?_))
  rw[Xal,int_i,Xaq (a:=n+y) (by omega) (by omega)]
  rfl
theorem hdB1 {h:H}{te ts l k1 k2 e0 s0 ta tn tp t:T}{p3 o1 n1 o2 n2 u:Int}(ht:KC t)(hg:∀ i,i<t.len→∀ o n,Bd 1000 (Xby h o n (t.el i 2)))(hc:∀ i,i<t.len→∀ j,j<(t.el i 3).len→∀ o n,Bd 1000 (Xby h o n ((t.el i 3).el j 4))){c:Nat}(hk:∀ M,c≤M→∀ n,0≤n→n+u≤1000000→Bd 1000000 (Xaj.B0 h M n te ts (IntKind.wrap .i64 (p3+1)) l o1 n1 k1 o2 n2 k2 e0 s0 ta tn tp)):
  ∀ (m i:Nat),i+m=t.len→∀ N n,c+20*m<N→0≤n→n+13000*m+u≤1000000→0≤u→Bd 1000000 (Xaj.B1 h N n te ts p3 t (t.len:Int) (i:Int) l o1 n1 k1 o2 n2 k2 e0 s0 ta tn tp)
 | 0,i,hi,N,n,hN,n0,n1',u0=>by
  obtain ⟨N,rfl⟩:∃ M,N=M+1:=⟨N-1,by omega⟩
  refine (hk N (by omega) n n0 (by omega)).eq ?_
  rw[Xaj.B1_eq]
  exact Xac (decide_eq_false (by omega)) rfl
 | m+1,i,hi,N,n,hN,n0,n1',u0=>by
  obtain ⟨N,rfl⟩:∃ M,N=M+1:=⟨N-1,by omega⟩
  have hl:=ht.1
  obtain ⟨y,hy,y0,y1⟩:=hg i (by omega) (t.el i 0).int (t.el i 1).int
  have e:Xaj.B1 h (N+1) n te ts p3 t (t.len:Int) (i:Int) l o1 n1 k1 o2 n2 k2 e0 s0 ta tn tp=_:=Xaj.B1_eq h N n te ts p3 t (t.len:Int) (i:Int) l o1 n1 k1 o2 n2 k2 e0 s0 ta tn tp
  rw[Int.toNat_natCast] at e
  by_cases c12:(t.el i 3).len≤12
  ·refine (hdB4 (h:=h) (te:=te) (ts:=ts) (l:=l) (k1:=k1) (k2:=k2) (e0:=e0) (s0:=s0) (ta:=ta) (tn:=tn) (tp:=tp) (t:=t) (p3:=p3) (o1:=o1) (n1:=n1) (o2:=o2) (n2:=n2) (q:=i) (len:=t.len) (u:=13000*m+u) (ht.2 i (by omega)).2 (hc i (by omega)) (c:=c+20*m+1) (fun M hM n g0 g1=>by
    rw[Xaq (a:=(i:Int)+1) (by omega) (by omega)]
    exact hdB1 ht hg hc hk m (i+1) (by omega) M n (by omega) g0 (by omega) u0) (t.el i 3).len 0 (by omega) N (n+y) (by omega) (by omega) (by omega) (by omega)).eq ?_
   rw[e]
   refine if_of (decide_eq_true (by omega)) (if_of (by simp;omega) (Xac (decide_eq_false (by omega)) (Xag hy ?_)))
   rw[Xal,int_i,Xaq (a:=n+y) (by omega) (by omega)]
   rfl
  ·exact ⟨1,by rw[e];exact if_of (decide_eq_true (by omega)) (if_of (by simp;omega) (if_of (decide_eq_true (by omega)) rfl)),by omega,by omega⟩
end Go.Proofs.YtnjandhaeojieaaGreat
set_option linter.unusedVariables false
set_option linter.unusedSimpArgs false
namespace Go.AM
open Go.Proofs.YtnjandhaeojieaaGreat
end Go.AM
namespace Go.Proofs.YtnjandhaeojieaaGreat
open Go.AM
theorem heavyM_bd (l k1 k2 te ts ta tn tp:T)(hl:l.len≤9223372036854775807)(h1:KW k1)(h2:KW k2)(he:KC te)(hs:KC ts)(ha:KW ta)(hn:KW tn)(hp:KW tp):Ev fun N=>∀ o1 n1 o2 n2,Bd 1000000 (Xlt (K N) l o1 n1 k1 o2 n2 k2 te ts ta tn tp):=by
 have hcs:∀ t,KC t→Ev fun N=>(∀ i,i<t.len→∀ o n,Bd 1000 (Xby (K N) o n (t.el i 2)))∧∀ i,i<t.len→∀ j,j<(t.el i 3).len→∀ o n,Bd 1000 (Xby (K N) o n ((t.el i 3).el j 4)):=fun t ht=>
  (Ev.all fun i hi=>Xpn _ (ht.2 i hi).1).and (Ev.all fun i hi=>Ev.all fun j hj=>Xpn _ ((ht.2 i hi).2.2 j hj))
 have hks:∀ t,KW t→Ev fun N=>∀ i,i<t.len→∀ o n,Bd 1000 (Xby (K N) o n (t.el i 2)):=fun t ht=>Ev.all fun i hi=>Xpn _ (ht.el hi)
 refine Ev.step (Ev.imp4 (Ev.and (heavyV_bd l hl) (Ev.and (Xpn k1 h1) (Xpn k2 h2))) (Ev.and (hcs te he) (hcs ts hs)) (Ev.and (hks ta ha) (Ev.and (hks tn hn) (hks tp hp))) (Ev.ge 5000) fun N q1 q2 q3 hN o1 n1 o2 n2=> ?_)
 obtain ⟨⟨y,hy,_,_⟩,hz1,hz2⟩:=q1
 obtain ⟨⟨ce1,ce2⟩,cs1,cs2⟩:=q2
 obtain ⟨ca,cn,cp⟩:=q3
 obtain ⟨z1,hz1,a1,a2⟩:=hz1 o1 n1
 obtain ⟨z2,hz2,a3,a4⟩:=hz2 o2 n2
 rw[Xuz]
 have one:∀ {r:Option R},r=ri 1→Bd 1000000 r:=fun e=>⟨1,e,by omega,by omega⟩
 by_cases g0:y>0
 ·exact one (Xag hy (if_of (decide_eq_true g0) rfl))
 have n0:∀ {X Y Z:Option R},Y=Z→(bif decide (((lookR [(0,T.i y)]) 0).int>(0:Int)) then X else Y)=Z:=fun h=>Xac (decide_eq_false g0) h
 by_cases g1:te.len>16
 ·exact one (Xag hy (n0 (if_of (decide_eq_true (by omega)) rfl)))
 by_cases g2:ts.len>16
 ·exact one (Xag hy (n0 (Xac (decide_eq_false (by omega)) (if_of (decide_eq_true (by omega)) rfl))))
 by_cases g3:ta.len>8
 ·exact one (Xag hy (n0 (Xac (decide_eq_false (by omega)) (Xac (decide_eq_false (by omega)) (if_of (decide_eq_true (by omega)) rfl)))))
 by_cases g4:tn.len>8
 ·exact one (Xag hy (n0 (Xac (decide_eq_false (by omega)) (Xac (decide_eq_false (by omega)) (Xac (decide_eq_false (by omega)) (if_of (decide_eq_true (by omega)) rfl))))))
 by_cases g5:tp.len>8
 ·exact one (Xag hy (n0 (Xac (decide_eq_false (by omega)) (Xac (decide_eq_false (by omega)) (Xac (decide_eq_false (by omega)) (Xac (decide_eq_false (by omega)) (if_of (decide_eq_true (by omega)) rfl)))))))
 have r2:∀ M,60≤M→∀ n,0≤n→n+30000≤1000000→Bd 1000000 (Xaj.B0 (K N) M n te ts (IntKind.wrap .i64 (1+1)) l o1 n1 k1 o2 n2 k2 te ts ta tn tp):=by
  intro M hM n n0 n1
  obtain ⟨M,rfl⟩:∃ M',M=M'+1:=⟨M-1,by omega⟩
  refine (hdB2 (h:=K N) ha hn hp ca cn cp (by omega) (by omega) (by omega) M n (by omega) n0 (by omega)).eq ?_
  rw[show IntKind.wrap .i64 ((1:Int)+1)=2 by decide,Xaj.B0_eq]
  exact Xac (by decide) rfl
 have r1:∀ M,500≤M→∀ n,0≤n→n+300000≤1000000→Bd 1000000 (Xaj.B0 (K N) M n te ts (IntKind.wrap .i64 (0+1)) l o1 n1 k1 o2 n2 k2 te ts ta tn tp):=by
  intro M hM n n0 n1'
  obtain ⟨M,rfl⟩:∃ M',M=M'+1:=⟨M-1,by omega⟩
  refine (hdB1 (h:=K N) (te:=te) (ts:=ts) (l:=l) (k1:=k1) (k2:=k2) (e0:=te) (s0:=ts) (ta:=ta) (tn:=tn) (tp:=tp) (p3:=1) (o1:=o1) (n1:=n1) (o2:=o2) (n2:=n2) hs cs1 cs2 r2 ts.len 0 (by omega) M n (by omega) n0 (by omega) (by omega)).eq ?_
  rw[show IntKind.wrap .i64 ((0:Int)+1)=1 by decide,Xaj.B0_eq]
  exact if_of (by decide) (Xac (by decide) (if_of (by decide) rfl))
 obtain ⟨N',hN'⟩:∃ M,N=M+1:=⟨N-1,by omega⟩
 have b0:Bd 1000000 (Xaj.B0 (K N) N (IntKind.wrap .i64 (z1+z2)) te ts 0 l o1 n1 k1 o2 n2 k2 te ts ta tn tp):=by
  have:=Xaj.B0_eq (K N) N' (IntKind.wrap .i64 (z1+z2)) te ts 0 l o1 n1 k1 o2 n2 k2 te ts ta tn tp
  rw[←hN'] at this
  rw[this,Xaq (a:=z1+z2) (by omega) (by omega)]
  refine (hdB1 (h:=K N) (te:=te) (ts:=ts) (l:=l) (k1:=k1) (k2:=k2) (e0:=te) (s0:=ts) (ta:=ta) (tn:=tn) (tp:=tp) (p3:=0) (o1:=o1) (n1:=n1) (o2:=o2) (n2:=n2) he ce1 ce2 r1 te.len 0 (by omega) N' (z1+z2) (by omega) (by omega) (by omega) (by omega)).eq ?_
  exact if_of (by decide) (if_of (by decide) rfl)
 refine b0.eq ?_
 exact Xag hy (n0 (Xac (decide_eq_false (by omega)) (Xac (decide_eq_false (by omega)) (Xac (decide_eq_false (by omega)) (Xac (decide_eq_false (by omega)) (Xac (decide_eq_false (by omega)) (Xag hz1 (Xag hz2 rfl))))))))
theorem heavy6_bd (l k1 k2 te ts ta tn tp:T)(hl:l.len≤9223372036854775807)(h1:KW k1)(h2:KW k2)(he:KC te)(hs:KC ts)(ha:KW ta)(hn:KW tn)(hp:KW tp):
  Ev fun N=>∀ o1 n1 o2 n2,∃ x,Xjp (K N) l o1 n1 k1 o2 n2 k2 te ts ta tn tp=ri x∧(0≤x∧x≤1000000)∧(¬0<x→mayV (Xaa l)=0→prodV (Xaa l)≤24):=by
 have tot:Ev fun N=>∃ x,Xcy (K N) l=ri x∧(mayV (Xaa l)=0→x=prodV (Xaa l)):=by
  by_cases c:mayV (Xaa l)=0
  ·exact (Xkk l hl c).imp fun N h=>⟨_,h,fun _=>(Xcp c).1⟩
  ·exact (totalAny_sp l hl).imp fun N h=>by
    obtain ⟨x,h⟩:=h
    exact ⟨x,h,fun q=>absurd q c⟩
 refine Ev.step (Ev.imp (Ev.and (heavyM_bd l k1 k2 te ts ta tn tp hl h1 h2 he hs ha hn hp) tot) fun N hb o1 n1 o2 n2=> ?_)
 obtain ⟨b1,x,b2,b3⟩:=hb
 obtain ⟨y,b1,y0,y1⟩:=b1 o1 n1 o2 n2
 rw[Xuy]
 by_cases c1:0<y
 ·exact ⟨y,Xag b1 (if_of (decide_eq_true c1) rfl),⟨y0,y1⟩,fun q=>absurd c1 q⟩
 by_cases c2:24<x
 ·exact ⟨1,Xag b1 (Xac (decide_eq_false c1) (Xag b2 (if_of (decide_eq_true c2) rfl))),⟨by omega,by omega⟩,fun q=>absurd (by omega) q⟩
 ·refine ⟨0,Xag b1 (Xac (decide_eq_false c1) (Xag b2 (Xac (decide_eq_false c2) rfl))),⟨by omega,by omega⟩,fun _ q=> ?_⟩
  rw[←b3 q];omega
end Go.Proofs.YtnjandhaeojieaaGreat
