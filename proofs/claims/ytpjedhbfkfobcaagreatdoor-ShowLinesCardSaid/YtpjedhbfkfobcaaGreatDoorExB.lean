/- What is told from outside is so: slices.Clip, slices.Compact and slices.Sort of whole numbers. -/
import Derived.Test.YtpjedhbfkfobcaaGreatDoorExA
import Derived.Shelf.Slices.CompactI
import Derived.Shelf.Sort.Plain
import Derived.Shelf.Slices.In.SortNone
import Derived.Sort.OwnSortedInts
import Derived.WalkKit
import Derived.WalkSpells
set_option linter.unusedVariables false
set_option linter.unusedSimpArgs false
namespace Go.Proofs
open Go.Shelf
def Tryz.lays189_ren:Go.Shelf.Ren:=⟨fun|189=>104|125=>123|257=>122|128=>141|129=>128|294=>132|295=>133|296=>134|297=>135|298=>136|299=>137|216=>138|300=>139|301=>140|328=>144|329=>145|330=>146|331=>147|332=>148|215=>149|343=>150|n=>n,fun|28=>93|3=>3|46=>144|0=>0|51=>150|53=>137|4=>4|183=>154|182=>153|131=>91|5=>5|9=>9|218=>161|222=>165|228=>169|229=>170|n=>n,fun|n=>n⟩
theorem Tryz.lays189:Go.Proofs.Lays.n189 Tryz.prog Tryz.lays189_ren:={
 mixed:=by kernel_rfl
 f125:=Tryz.func123.trans (congrArg some (by kernel_rfl))
 f128:=Tryz.func141.trans (congrArg some (by kernel_rfl))
 f129:=Tryz.func128.trans (congrArg some (by kernel_rfl))
 f189:=Tryz.func104.trans (congrArg some (by kernel_rfl))
 f215:=Tryz.func149.trans (congrArg some (by kernel_rfl))
 f216:=Tryz.func138.trans (congrArg some (by kernel_rfl))
 f257:=Tryz.func122.trans (congrArg some (by kernel_rfl))
 f294:=Tryz.func132.trans (congrArg some (by kernel_rfl))
 f295:=Tryz.func133.trans (congrArg some (by kernel_rfl))
 f296:=Tryz.func134.trans (congrArg some (by kernel_rfl))
 f297:=Tryz.func135.trans (congrArg some (by kernel_rfl))
 f298:=Tryz.func136.trans (congrArg some (by kernel_rfl))
 f299:=Tryz.func137.trans (congrArg some (by kernel_rfl))
 f300:=Tryz.func139.trans (congrArg some (by kernel_rfl))
 f301:=Tryz.func140.trans (congrArg some (by kernel_rfl))
 f328:=Tryz.func144.trans (congrArg some (by kernel_rfl))
 f329:=Tryz.func145.trans (congrArg some (by kernel_rfl))
 f330:=Tryz.func146.trans (congrArg some (by kernel_rfl))
 f331:=Tryz.func147.trans (congrArg some (by kernel_rfl))
 f332:=Tryz.func148.trans (congrArg some (by kernel_rfl))
 f343:=Tryz.func150.trans (congrArg some (by kernel_rfl))
 t0:=Tryz.underlying0
 a0:=Tryz.isAgg0
 z0:=Tryz.sizeOf0
 v0:=Tryz.zeroValue0
 t3:=Tryz.underlying3
 a3:=Tryz.isAgg3
 z3:=Tryz.sizeOf3
 v3:=Tryz.zeroValue3
 t4:=Tryz.underlying4
 a4:=Tryz.isAgg4
 z4:=Tryz.sizeOf4
 v4:=Tryz.zeroValue4
 t5:=Tryz.underlying5
 a5:=Tryz.isAgg5
 z5:=Tryz.sizeOf5
 v5:=Tryz.zeroValue5
 t9:=Tryz.underlying9
 a9:=Tryz.isAgg9
 z9:=Tryz.sizeOf9
 v9:=Tryz.zeroValue9
 t28:=Tryz.underlying93
 a28:=Tryz.isAgg93
 z28:=Tryz.sizeOf93
 v28:=Tryz.zeroValue93
 t46:=Tryz.underlying144
 a46:=Tryz.isAgg144
 z46:=Tryz.sizeOf144
 v46:=Tryz.zeroValue144
 t51:=Tryz.underlying150
 a51:=Tryz.isAgg150
 z51:=Tryz.sizeOf150
 v51:=Tryz.zeroValue150
 t53:=Tryz.underlying137
 a53:=Tryz.isAgg137
 z53:=Tryz.sizeOf137
 v53:=Tryz.zeroValue137
 t131:=Tryz.underlying91
 a131:=Tryz.isAgg91
 z131:=Tryz.sizeOf91
 v131:=Tryz.zeroValue91
 t182:=Tryz.underlying153
 a182:=Tryz.isAgg153
 z182:=Tryz.sizeOf153
 v182:=Tryz.zeroValue153
 t183:=Tryz.underlying154
 a183:=Tryz.isAgg154
 z183:=Tryz.sizeOf154
 v183:=Tryz.zeroValue154
 t218:=Tryz.underlying161
 a218:=Tryz.isAgg161
 z218:=Tryz.sizeOf161
 v218:=Tryz.zeroValue161
 t222:=Tryz.underlying165
 a222:=Tryz.isAgg165
 z222:=Tryz.sizeOf165
 v222:=Tryz.zeroValue165
 t228:=Tryz.underlying169
 a228:=Tryz.isAgg169
 z228:=Tryz.sizeOf169
 v228:=Tryz.zeroValue169
 t229:=Tryz.underlying170
 a229:=Tryz.isAgg170
 z229:=Tryz.sizeOf170
 v229:=Tryz.zeroValue170}
open Go.Sort Go.RowKit in
theorem Tryz.slices_Sort_int (blk off cap:Nat)(zs:List Int)(w:World)(hH:Holds (Value.int .i64) w blk off zs.toArray)(hblk:blk<w.heap.size)(hsz:zs.length<4611686018427387904):
  Calls Tryz.prog 104 #[.slice (some ⟨blk,off,none⟩) zs.length cap] w fun e w'=>
   e= .returned (.tuple #[])∧∃ n os,w'=grow (putRow (Value.int .i64) (Sort.ahead w n) blk off (zs.mergeSort fun x y=>decide (x≤y)).toArray) os:=Any.slices_Sort_int Tryz.lays189 blk off cap zs w hH hblk hsz
def Tryz.laysNm220_ren:Go.Shelf.Ren:=⟨fun|20=>106|n=>n,fun|22=>93|3=>3|4=>4|0=>0|n=>n,fun|n=>n⟩
theorem Tryz.laysNm220:Go.Proofs.Lays2.n20 Tryz.prog Tryz.laysNm220_ren:={
 mixed:=by kernel_rfl
 f20:=Tryz.func106.trans (congrArg some (by kernel_rfl))
 t0:=Tryz.underlying0
 a0:=Tryz.isAgg0
 z0:=Tryz.sizeOf0
 v0:=Tryz.zeroValue0
 t3:=Tryz.underlying3
 a3:=Tryz.isAgg3
 z3:=Tryz.sizeOf3
 v3:=Tryz.zeroValue3
 t4:=Tryz.underlying4
 a4:=Tryz.isAgg4
 z4:=Tryz.sizeOf4
 v4:=Tryz.zeroValue4
 t22:=Tryz.underlying93
 a22:=Tryz.isAgg93
 z22:=Tryz.sizeOf93
 v22:=Tryz.zeroValue93
 i3:=by kernel_rfl}
open Go.RowKit Go.Lib Go.Sort in
theorem Tryz.slices_Compact_int (blk off cap:Nat)(zs:List Int)(w:World)(hH:Holds (Value.int .i64) w blk off zs.toArray)(hsz:zs.length≤9223372036854775807)(hcap:zs.length≤cap):
  Calls Tryz.prog 106 #[.slice (some ⟨blk,off,none⟩) zs.length cap] w fun e w'=>e= .returned (.slice (some ⟨blk,off,none⟩) (Lib.compact zs).length cap)∧∃ q,w'=putRow (Value.int .i64) (Sort.ahead w q) blk off (Lib.compact zs++List.replicate (zs.length-(Lib.compact zs).length) 0).toArray:=Any.slices_Compact_int Tryz.laysNm220 blk off cap zs w hH hsz hcap
open Go.RowKit Go.Lib Go.Sort in
theorem Tryz.slices_Compact_int_empty (a:Option Addr)(cap:Nat)(w:World):
  Calls Tryz.prog 106 #[.slice a 0 cap] w fun e w'=>e= .returned (.slice a 0 cap)∧w'=w:=Any.slices_Compact_int_empty Tryz.laysNm220 a cap w
open Go.RowKit Go.Sort in
theorem Tryz.slices_Sort_int_none (p:Option Addr)(cap:Nat)(w:World):
  Calls Tryz.prog 104 #[.slice p 0 cap] w fun e w'=>e= .returned (.tuple #[])∧w'=w:=Any.slices_Sort_int_none Tryz.lays189 p cap w
end Go.Proofs
namespace Go.Proofs.YtpjedhbfkfobcaaGreatDoor
open Go.RowKit
set_option maxHeartbeats 400000 in
theorem clip_walk (A:Option Addr)(len cap:Nat)(hl:len≤cap)(w:World):
  Calls Tryz.prog 105 #[.slice A len cap] w fun e w'=>(∃ A',e= .returned (.slice A' len len)∧(0<len→A'=A))∧w'=w:=by
 go_enter Tryz.func105,Tryz.ntmps105
 go_wp2
 go_ret
 exact ⟨⟨_,rfl,fun _=>rfl⟩,rfl⟩
end Go.Proofs.YtpjedhbfkfobcaaGreatDoor
namespace Go.Proofs.YtpjedhbfkfobcaaGreatDoor
open Go.AM Go.Sort
theorem lv3:lv Tryz.prog 3=[3]:=by kernel_rfl
theorem res_still {F:Fr0}{args:List AV}{vals:Array Value}(hM:F.M=[])(ha:ArgsOk Tryz.prog F args vals){tp:Tpl}{r:R}{u:Value}{x:AV}(ht:TA.instL r tp.vs=[x])(hl:tp.vs.length=1)(hm:tp.M r=[])(hv:RA Tryz.prog F.w [] F.β F.hd x u):ResOk Tryz.prog F tp r F.w [u]:=by
 have hs:=ha.sim
 rw[hM] at hs
 refine ⟨by simp[hl],F.β,F.hd,rfl,by rw[hm];exact hs,fun q hq=> ?_,fun j y hy=> ?_⟩
 ·rw[hM] at hq;exact absurd rfl hq
 ·rw[ht] at hy
  rw[hm]
  match j,hy with
  | 0,hy=>obtain rfl:=Option.some.inj hy;exact hv
  | j+1,hy=>simp at hy
theorem clip_sound {args:List AV}{M:Store}{r:R}(h:clipX args M=some r):Xol Tryz.prog FR 105 args M r:=by
 intro F vals hM ha fn hfn
 unfold clipX at h
 split at h
 ·rename_i e x
  obtain ⟨hc,h⟩:=Xas h
  cases h
  obtain rfl:e=3:=by simpa using hc
  obtain ⟨v,rfl,hv⟩:=args1 ha
  cases hv with
  | c hr=>
   cases hr with
   | @sl t e x v hu hr=>
    have nb:∀ {b off:Nat} {vs:Nat→Nat→Value} {A:Option Addr} {c:Nat},x.len≤c→(0<x.len→A=some ⟨b,off,none⟩∧b<F.w.heap.size∧¬Own F.M F.β F.hd b)→
      (∀ i j τ,i<x.len→(lv Tryz.prog 3)[j]? =some τ→F.w.cell? ⟨b,off+i*(lv Tryz.prog 3).length+j,none⟩=some (vs i j))→
      (∀ i j τ,i<x.len→(lv Tryz.prog 3)[j]? =some τ→RT Tryz.prog F.w (Own F.M F.β F.hd) τ (x.el i j) (vs i j))→
      Calls Tryz.prog 105 #[.slice A x.len c] F.w fun e w'=>∃ us,e= .returned (outV us)∧ResOk Tryz.prog F (FR.tpl 105) (lookR [(0,x)]) w' us:=by
     intro b off vs A c hc hA hcell hrt
     refine (clip_walk A x.len c hc F.w).mono ?_
     rintro e w' ⟨⟨A',rfl,hA'⟩,rfl⟩
     refine ⟨[.slice A' x.len x.len],rfl,res_still hM ha (x:= .sl 3 x) (by rfl) (by rfl) (by rfl) ?_⟩
     rw[hM] at hrt hA
     exact .c (.sl (t:=93) Tryz.underlying93 (.sl Tryz.underlying93 (Nat.le_refl _) b off vs (fun h0=>by rw[hA' h0];exact hA h0) hcell hrt))
    cases hr with
    | int h=>rw[h] at hu;cases hu
    | bool h=>rw[h] at hu;cases hu
    | str h=>rw[h] at hu;cases hu
    | sl hu3 hc b off vs hA hcell hrt=>
     rw[hu3] at hu
     cases hu
     exact nb hc hA hcell hrt
 ·cases h
theorem intsR_len (n:Nat)(g:Nat→Nat→T):(intsR n g).length=n:=by simp[intsR]
theorem intsR_get {n:Nat}{g:Nat→Nat→T}{i:Nat}(h:i<n):(intsR n g)[i]? =some (g i 0).int:=by simp[intsR,h]
theorem res_row0 {F:Fr0}{k n:Nat}{g:Nat→Nat→T}{vals:Array Value}{args:List AV}(hM:F.M=[(k,.row 3 n g)])(ha:ArgsOk Tryz.prog F args vals){w':World}{hdv v:Value}{ys:List Int}
  (hu:Under F w') (hown:w'.ownsRow 0 3 1 hdv ys.length (ys.map (Value.int .i64))) (hb:∀ b,hdv.ownBlock=some b→F.mine b∧b<w'.heap.size) (hone:v.oneCell'=true) (hrow:RowV Tryz.prog 3 hdv ys.length 0 ys.length v):
  ResOk Tryz.prog F (FR.tpl 106) (lookR [(0,Xgm ys)]) w' [v]:=by
 have hMr:(FR.tpl 106).M (lookR [(0,Xgm ys)])=[(40,.row 3 ys.length fun i j=>(Xgm ys).el i j)]:=by rfl
 have hvs:TA.instL (lookR [(0,Xgm ys)]) (FR.tpl 106).vs=[.row 40 0 ys.length]:=by rfl
 have h40:k≠40:=by
  have:=ha.high k (by rw[hM];simp[Store.get])
  intro e
  rw[e] at this
  exact absurd this (by decide)
 refine ⟨rfl,F.β,fun q=>if q=40 then hdv else F.hd q,rfl,?_,?_,?_⟩
 ·rw[hMr]
  have get:∀ q o,Store.get [(40,Ob.row 3 ys.length fun i j=>(Xgm ys).el i j)] q=some o→q=40∧o= .row 3 ys.length fun i j=>(Xgm ys).el i j:=by
   intro q o h
   simp only[Store.get] at h
   by_cases hq:40=q
   ·subst hq
    simp at h
    exact ⟨rfl,h.symm⟩
   ·have h1:(40==q)=false:=by simpa using hq
    rw[h1] at h
    cases h
  have owns:∀ q b,Owns [(40,Ob.row 3 ys.length fun i j=>(Xgm ys).el i j)] F.β (fun q=>if q=40 then hdv else F.hd q) q b→q=40∧hdv.ownBlock=some b:=by
   rintro q b (⟨t,cs,h,_⟩|⟨e,n,g,h,h2⟩)
   ·obtain ⟨_,h1⟩:=get q _ h;cases h1
   ·obtain ⟨rfl,h1⟩:=get q _ h
    exact ⟨rfl,by simpa using h2⟩
  refine ⟨hu,fun q b h=> ?_,fun q q' b h h'=> ?_,ha.sim.far,fun q t cs h=> ?_,fun q e n g h=> ?_,ha.sim.tab⟩
  ·exact hb b (owns q b h).2
  ·exact (owns q b h).1.trans (owns q' b h').1.symm
  ·obtain ⟨_,h1⟩:=get q _ h;cases h1
  ·obtain ⟨rfl,h1⟩:=get q _ h
   cases h1
   rw[lv3]
   refine ⟨by decide,ys.map (Value.int .i64),by simpa using hown,fun i j τ hi hj=> ?_⟩
   match j,hj with
   | 0,hj=>
    obtain rfl:=Option.some.inj hj
    refine ⟨.int .i64 (ys.getD i 0),?_,.int (x:= .i (ys.getD i 0)) Tryz.underlying3⟩
    rw[List.length_singleton,Nat.mul_one,Nat.add_zero,List.getElem?_map,List.getD_eq_getElem?_getD,List.getElem?_eq_getElem hi]
    rfl
   | j+1,hj=>simp at hj
 ·rw[hMr]
  intro q hq
  rw[hM] at hq
  have hqk:k=q:=by
   by_cases h:k=q
   ·exact h
   ·have h1:(k==q)=false:=by simpa using h
    simp[Store.get,h1] at hq
  subst hqk
  have h1:(40==k)=false:=by simpa using fun e=>h40 e.symm
  refine ⟨fun t cs h=> ?_,fun e n g h=> ?_⟩<;>simp[Store.get,h1] at h
 ·rw[hvs,hMr]
  intro j x hj
  match j,hj with
  | 0,hj=>
   obtain rfl:=Option.some.inj hj
   refine .c (.row (by simp[Store.get]) hone fun e n g h=> ?_)
   have h2:Ob.row 3 ys.length (fun i j=>(Xgm ys).el i j)=Ob.row e n g:=by simpa [Store.get] using h
   cases h2
   exact hrow
  | j+1,hj=>simp at hj
theorem res_row {F:Fr0}{k n:Nat}{g:Nat→Nat→T}{vals:Array Value}{args:List AV}(hM:F.M=[(k,.row 3 n g)])(ha:ArgsOk Tryz.prog F args vals){w':World}{hdv:Value}{ys:List Int}
  (hu:Under F w') (hown:w'.ownsRow 0 3 1 hdv ys.length (ys.map (Value.int .i64))) (hb:∀ b,hdv.ownBlock=some b→F.mine b∧b<w'.heap.size) (hone:hdv.oneCell'=true) (hrow:RowV Tryz.prog 3 hdv ys.length 0 ys.length hdv):
  ResOk Tryz.prog F (FR.tpl 106) (lookR [(0,Xgm ys)]) w' [hdv]:=res_row0 hM ha hu hown hb hone hrow
theorem compact_sound {args:List AV}{M:Store}{r:R}(h:Xtc args M=some r):Xol Tryz.prog FR 106 args M r:=by
 intro F vals hM ha fn hfn
 unfold Xtc at h
 split at h
 ·rename_i k off n k' e m g
  obtain ⟨hc,h⟩:=Xas h
  cases h
  simp only[Bool.and_eq_true,Nat.beq_eq] at hc
  obtain ⟨⟨⟨rfl,rfl⟩,rfl⟩,rfl⟩:=hc
  obtain ⟨v,rfl,hv⟩:=args1 ha
  have hk:F.M.get k=some (.row 3 n g):=by rw[hM];simp[Store.get]
  obtain ⟨_,xs,hown,hcells⟩:=ha.sim.row k 3 n g hk
  rw[lv3] at hown hcells
  have hown:F.w.ownsRow 0 3 1 (F.hd k) n xs:=hown
  cases hv with
  | c hr=>
   cases hr with
   | row _ h1 hrow=>
    rcases hrow 3 n g hk with ⟨hh,⟨A,rfl⟩,_,h0⟩|⟨g0,cap,a,hh,hcap,_,rfl,haa⟩
    ·subst h0
     refine (Tryz.slices_Compact_int_empty A 0 F.w).mono ?_
     rintro e w' ⟨rfl,rfl⟩
     exact ⟨[.slice A 0 0],rfl,res_row0 (hdv:= .slice none 0 0) (ys:=[]) hM ha Under.refl ⟨rfl,.inl ⟨rfl,rfl⟩⟩ (fun b hb=>by cases hb) rfl (.inl ⟨rfl,⟨A,rfl⟩,rfl,rfl⟩)⟩
    ·have ea:a=⟨g0,0,none⟩:=by simpa using haa (.inr rfl)
     subst ea
     rcases hown.2 with ⟨hn,_⟩|⟨g1,cap1,cur,hv1,_,hb,hn,hmax,hsz,htake⟩
     ·rw[hn] at hh;cases hh
     ·rw[hh] at hv1
      cases hv1
      have hzl:=intsR_len n g
      have ht:cur.toList.take (intsR n g).length=(intsR n g).map (Value.int .i64):=by
       rw[hzl]
       rw[Nat.mul_one] at htake
       rw[htake]
       apply List.ext_getElem?
       intro i
       have hxl:xs.length=n:=by have:=hown.1;omega
       by_cases hi:i<n
       ·obtain ⟨v,hv2,hrt⟩:=hcells i 0 3 hi rfl
        rw[List.length_singleton,Nat.mul_one,Nat.add_zero] at hv2
        rw[hv2,List.getElem?_map,intsR_get hi]
        cases hrt with
        | int h=>rw[Tryz.underlying3] at h;cases h;rfl
        | bool h=>rw[Tryz.underlying3] at h;cases h
        | str h=>rw[Tryz.underlying3] at h;cases h
        | sl h=>rw[Tryz.underlying3] at h;cases h
       ·rw[List.getElem?_eq_none (by omega),List.getElem?_eq_none (by rw[List.length_map,hzl];omega)]
      have hH:=holds_of_blockI hb ht
      have hle:=compact_len (intsR n g)
      have hmx:n≤9223372036854775807:=Nat.le_trans hn hmax
      have C:=Tryz.slices_Compact_int g0 0 cap (intsR n g) F.w hH (by rw[hzl];exact hmx) (by rw[hzl];exact hn)
      rw[hzl] at C
      refine C.mono ?_
      rintro e w' ⟨rfl,q,rfl⟩
      generalize hcs:Lib.compact (intsR n g)=cs at hle ⊢
      have hlt:(cs++List.replicate (n-cs.length) 0).length=n:=by rw[List.length_append,List.length_replicate];omega
      have hheap:=heap_sortedI (n:=q) (os:=#[]) (cs++List.replicate (n-cs.length) 0).toArray hb
      rw[grow_empty] at hheap
      have hgrown:=grownBy_sortedI (w:=F.w) (g:=g0) (n:=q) (os:=#[]) (cs++List.replicate (n-cs.length) 0).toArray
      rw[grow_empty] at hgrown
      have htk:=take_putCellsI cur (cs++List.replicate (n-cs.length) 0) (by rw[hlt,hsz];omega)
      have hlent:F.lent g0:=⟨k,.inr ⟨3,n,g,hk,by rw[hh];rfl⟩⟩
      have hg0:g0<F.w.heap.size:=(Array.getElem?_eq_some_iff.1 hb).1
      refine ⟨[.slice (some ⟨g0,0,none⟩) cs.length cap],rfl,res_row hM ha ?_ ?_ ?_ rfl ?_⟩
      ·refine Under.refl.trans ⟨hgrown.os,hgrown.tape,hgrown.output,hgrown.size,fun b hb2=> ?_⟩
       have h3:b<F.w.heap.size:=Nat.lt_of_not_le fun h=>hb2 (.inl h)
       exact hgrown.block b h3 fun e=>hb2 (.inr (by cases e;exact hlent))
      ·refine ⟨by simp,.inr ⟨g0,cap,_,rfl,Nat.zero_le _,hheap,by omega,hmax,by simp[putCells,hsz],?_⟩⟩
       rw[hlt] at htk
       have h4:=congrArg (List.take cs.length) htk
       rw[List.take_take,Nat.min_eq_left (by omega),←List.map_take,List.take_left'] at h4
       ·rw[Nat.mul_one];exact h4
       ·rfl
      ·intro b hb2
       cases hb2
       exact ⟨.inr hlent,Nat.lt_of_lt_of_le hg0 hgrown.size⟩
      ·exact .inr ⟨g0,cap,⟨g0,0,none⟩,rfl,by omega,by omega,rfl,fun _=>by simp⟩
 ·cases h
theorem res_sorted {F:Fr0}{n:Nat}{g:Nat→Nat→T}{vals:Array Value}{args:List AV}(hM:F.M=[(4000000,.row 3 n g)])(ha:ArgsOk Tryz.prog F args vals){w':World}{ys:List Int}(hy:ys.length=n)
  (hu:Under F w') (hown:w'.ownsRow 0 3 1 (F.hd 4000000) n (ys.map (Value.int .i64))) (hb:∀ b,(F.hd 4000000).ownBlock=some b→b<w'.heap.size):
  ResOk Tryz.prog F (FR.tpl 104) (lookR [(0,Xgm ys)]) w' []:=by
 have hMr:(FR.tpl 104).M (lookR [(0,Xgm ys)])=[(4000000,.row 3 ys.length fun i j=>(Xgm ys).el i j)]:=by rfl
 have hk:F.M.get 4000000=some (.row 3 n g):=by rw[hM];simp[Store.get]
 have get:∀ q o,Store.get [(4000000,Ob.row 3 ys.length fun i j=>(Xgm ys).el i j)] q=some o→q=4000000∧o= .row 3 ys.length fun i j=>(Xgm ys).el i j:=by
  intro q o h
  simp only[Store.get] at h
  by_cases hq:4000000=q
  ·subst hq
   simp at h
   exact ⟨rfl,h.symm⟩
  ·have h1:(4000000==q)=false:=by simpa using hq
   rw[h1] at h
   cases h
 have owns:∀ q b,Owns [(4000000,Ob.row 3 ys.length fun i j=>(Xgm ys).el i j)] F.β F.hd q b→q=4000000∧(F.hd 4000000).ownBlock=some b:=by
  rintro q b (⟨t,cs,h,_⟩|⟨e,n,g,h,h2⟩)
  ·obtain ⟨_,h1⟩:=get q _ h;cases h1
  ·obtain ⟨rfl,h1⟩:=get q _ h
   exact ⟨rfl,h2⟩
 refine ⟨rfl,F.β,F.hd,rfl,?_,?_,fun j x hj=>by cases hj⟩
 ·rw[hMr]
  refine ⟨hu,fun q b h=> ?_,fun q q' b h h'=> ?_,ha.sim.far,fun q t cs h=> ?_,fun q e m g' h=> ?_,ha.sim.tab⟩
  ·have h1:=(owns q b h).2
   exact ⟨(ha.sim.ge 4000000 b (.inr ⟨3,n,g,hk,h1⟩)).1,hb b h1⟩
  ·exact (owns q b h).1.trans (owns q' b h').1.symm
  ·obtain ⟨_,h1⟩:=get q _ h;cases h1
  ·obtain ⟨rfl,h1⟩:=get q _ h
   cases h1
   rw[lv3]
   refine ⟨by decide,ys.map (Value.int .i64),by rw[hy];simpa using hown,fun i j τ hi hj=> ?_⟩
   match j,hj with
   | 0,hj=>
    obtain rfl:=Option.some.inj hj
    refine ⟨.int .i64 (ys.getD i 0),?_,.int (x:= .i (ys.getD i 0)) Tryz.underlying3⟩
    rw[List.length_singleton,Nat.mul_one,Nat.add_zero,List.getElem?_map,List.getD_eq_getElem?_getD,List.getElem?_eq_getElem hi]
    rfl
   | j+1,hj=>simp at hj
 ·rw[hMr]
  intro q hq
  refine ⟨fun t cs h=> ?_,fun e m g' h=> ?_⟩
  ·obtain ⟨_,h1⟩:=get q _ h;cases h1
  ·obtain ⟨rfl,h1⟩:=get q _ h
   cases h1
   exact ⟨⟨g,by rw[hk,hy]⟩,rfl⟩
theorem sort_sound {args:List AV}{M:Store}{r:R}(h:sortX args M=some r):Xol Tryz.prog FR 104 args M r:=by
 intro F vals hM ha fn hfn
 unfold sortX at h
 split at h
 ·rename_i k off n k' e m g
  obtain ⟨hc,h⟩:=Xas h
  cases h
  simp only[Bool.and_eq_true,Nat.beq_eq,Nat.blt_eq] at hc
  obtain ⟨⟨⟨⟨⟨rfl,rfl⟩,rfl⟩,rfl⟩,rfl⟩,hbig⟩:=hc
  obtain ⟨v,rfl,hv⟩:=args1 ha
  have hk:F.M.get 4000000=some (.row 3 n g):=by rw[hM];simp[Store.get]
  obtain ⟨_,xs,hown,hcells⟩:=ha.sim.row 4000000 3 n g hk
  rw[lv3] at hown hcells
  have hown:F.w.ownsRow 0 3 1 (F.hd 4000000) n xs:=hown
  have hzl:=intsR_len n g
  have hsl:((intsR n g).mergeSort fun x y=>decide (x≤y)).length=n:=by rw[List.length_mergeSort,hzl]
  cases hv with
  | c hr=>
   cases hr with
   | row _ h1 hrow=>
    rcases hrow 3 n g hk with ⟨hh,⟨A,rfl⟩,_,h0⟩|⟨g0,cap,a,hh,hcap,_,rfl,haa⟩
    ·subst h0
     refine (Tryz.slices_Sort_int_none A 0 F.w).mono ?_
     rintro e w' ⟨rfl,rfl⟩
     refine ⟨[],rfl,res_sorted hM ha hsl Under.refl ?_ (fun b hb=>by rw[hh] at hb;cases hb)⟩
     rw[hh]
     exact ⟨by simpa using hsl,.inl ⟨rfl,rfl⟩⟩
    ·have ea:a=⟨g0,0,none⟩:=by simpa using haa (.inr rfl)
     subst ea
     rcases hown.2 with ⟨hn,_⟩|⟨g1,cap1,cur,hv1,_,hb,hn,hmax,hsz,htake⟩
     ·rw[hn] at hh;cases hh
     ·rw[hh] at hv1
      cases hv1
      have ht:cur.toList.take (intsR n g).length=(intsR n g).map (Value.int .i64):=by
       rw[hzl]
       rw[Nat.mul_one] at htake
       rw[htake]
       apply List.ext_getElem?
       intro i
       have hxl:xs.length=n:=by have:=hown.1;omega
       by_cases hi:i<n
       ·obtain ⟨v,hv2,hrt⟩:=hcells i 0 3 hi rfl
        rw[List.length_singleton,Nat.mul_one,Nat.add_zero] at hv2
        rw[hv2,List.getElem?_map,intsR_get hi]
        cases hrt with
        | int h=>rw[Tryz.underlying3] at h;cases h;rfl
        | bool h=>rw[Tryz.underlying3] at h;cases h
        | str h=>rw[Tryz.underlying3] at h;cases h
        | sl h=>rw[Tryz.underlying3] at h;cases h
       ·rw[List.getElem?_eq_none (by omega),List.getElem?_eq_none (by rw[List.length_map,hzl];omega)]
      have hH:=holds_of_blockI hb ht
      have hg0:g0<F.w.heap.size:=(Array.getElem?_eq_some_iff.1 hb).1
      have C:=Tryz.slices_Sort_int g0 0 cap (intsR n g) F.w hH hg0 (by rw[hzl];exact hbig)
      rw[hzl] at C
      refine C.mono ?_
      rintro e w' ⟨rfl,q,os,rfl⟩
      have hso:=ownsRow_sortedI (w:=F.w) (base:=0) (n:=q) (os:=os) (ss:=intsR n g) (ts:=(intsR n g).mergeSort fun x y=>decide (x≤y)) (by rw[hsl,hzl]) (Nat.zero_le _) hb (by rw[hzl];exact hn) hmax hsz
      have hgrown:=grownBy_sortedI (w:=F.w) (g:=g0) (n:=q) (os:=os) ((intsR n g).mergeSort fun x y=>decide (x≤y)).toArray
      have hlent:F.lent g0:=⟨4000000,.inr ⟨3,n,g,hk,by rw[hh];rfl⟩⟩
      refine ⟨[],rfl,res_sorted hM ha hsl ?_ ?_ ?_⟩
      ·refine Under.refl.trans ⟨hgrown.os,hgrown.tape,hgrown.output,hgrown.size,fun b hb2=> ?_⟩
       have h3:b<F.w.heap.size:=Nat.lt_of_not_le fun h=>hb2 (.inl h)
       exact hgrown.block b h3 fun e=>hb2 (.inr (by cases e;exact hlent))
      ·rw[hh]
       rw[hzl] at hso
       exact hso
      ·intro b hb2
       rw[hh] at hb2
       cases hb2
       exact Nat.lt_of_lt_of_le hg0 hgrown.size
 ·cases h
theorem Xqf {f k:Nat}{X G:List AV→Store→Option R}{rest:Option (List AV→Store→Option R)}(h:(bif Nat.beq f k then some X else rest)=some G):(f=k∧X=G)∨rest=some G:=by
 cases hk:Nat.beq f k with
 | true=>rw[hk] at h;exact .inl ⟨Nat.eq_of_beq_eq_true hk,Option.some.inj h⟩
 | false=>rw[hk] at h;exact .inr h
theorem Xsz:∀ (f:FuncId) (X:List AV→Store→Option R) (args:List AV) (M:Store) (r:R),EXT f=some X→X args M=some r→Xol Tryz.prog FR f args M r:=by
 intro f X args M r hf hX
 unfold EXT at hf
 rcases Xqf hf with ⟨rfl,rfl⟩|hf
 ·exact string_sound hX
 rcases Xqf hf with ⟨rfl,rfl⟩|hf
 ·exact itoa_sound hX
 rcases Xqf hf with ⟨rfl,rfl⟩|hf
 ·exact check_sound hX
 rcases Xqf hf with ⟨rfl,rfl⟩|hf
 ·exact sort_sound hX
 rcases Xqf hf with ⟨rfl,rfl⟩|hf
 ·exact clip_sound hX
 rcases Xqf hf with ⟨rfl,rfl⟩|hf
 ·exact compact_sound hX
 cases hf
end Go.Proofs.YtpjedhbfkfobcaaGreatDoor
