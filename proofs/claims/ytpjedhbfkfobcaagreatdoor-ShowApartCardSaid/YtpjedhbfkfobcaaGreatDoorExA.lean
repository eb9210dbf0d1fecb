/- What is told from outside: the builder's String and copyCheck, Itoa. -/
import Derived.Test.YtpjedhbfkfobcaaGreatDoorFn0
import Derived.Test.YtpjedhbfkfobcaaGreatDoorEngX
import Derived.Shelf.Strings.Builder1
import Derived.Shelf.Strings.OnBuilder
import Derived.Shelf.Strconv.Itoa3
import Derived.Shelf.LaysM
import Derived.WalkKit
import Derived.WalkSpells
set_option linter.unusedVariables false
set_option linter.unusedSimpArgs false
namespace Go.Proofs
open Go.Shelf
def Tryz.lays169_ren:Go.Shelf.Ren:=⟨fun|169=>37|n=>n,fun|70=>60|9=>9|0=>0|72=>63|37=>61|127=>97|3=>3|5=>5|n=>n,fun|n=>n⟩
theorem Tryz.lays169:Go.Proofs.Lays.n169 Tryz.prog Tryz.lays169_ren:={
 mixed:=by kernel_rfl
 f169:=Tryz.func37.trans (congrArg some (by kernel_rfl))
 t0:=Tryz.underlying0
 a0:=Tryz.isAgg0
 z0:=Tryz.sizeOf0
 v0:=Tryz.zeroValue0
 t3:=Tryz.underlying3
 a3:=Tryz.isAgg3
 z3:=Tryz.sizeOf3
 v3:=Tryz.zeroValue3
 t9:=Tryz.underlying9
 a9:=Tryz.isAgg9
 z9:=Tryz.sizeOf9
 v9:=Tryz.zeroValue9
 t37:=Tryz.underlying61
 a37:=Tryz.isAgg61
 z37:=Tryz.sizeOf61
 v37:=Tryz.zeroValue61
 t70:=Tryz.underlying60
 a70:=Tryz.isAgg60
 z70:=Tryz.sizeOf60
 v70:=Tryz.zeroValue60
 t72:=Tryz.underlying63
 a72:=Tryz.isAgg63
 z72:=Tryz.sizeOf63
 v72:=Tryz.zeroValue63
 t127:=Tryz.underlying97
 a127:=Tryz.isAgg97
 z127:=Tryz.sizeOf97
 v127:=Tryz.zeroValue97}
theorem Tryz.Builder_Extra_169:Builder.Extra Tryz.prog Tryz.lays169_ren:={
 sizeBuilder:=by kernel_rfl
 liesBuilder:=by kernel_rfl
 t5:=Tryz.underlying5
 a5:=Tryz.isAgg5
 z5:=Tryz.sizeOf5
 v5:=Tryz.zeroValue5
 infoByte:=by kernel_rfl
 cellsByte:=by kernel_rfl
 sizeByte:=by kernel_rfl
 neB5:=by decide}
def Tryz.laysM171_ren:Go.Shelf.Ren:=⟨fun|171=>40|243=>79|246=>101|283=>118|284=>119|285=>120|286=>121|129=>128|317=>127|318=>129|319=>130|320=>131|337=>142|338=>143|n=>n,fun|3=>3|9=>9|2=>2|4=>4|171=>136|0=>0|53=>137|37=>61|5=>5|173=>140|212=>149|51=>150|20=>20|213=>151|46=>144|232=>167|233=>168|n=>n,fun|17=>0|18=>1|19=>2|n=>n⟩
theorem Tryz.laysM171:Go.Proofs.LaysM.n171 Tryz.prog Tryz.laysM171_ren:={
 mixed:=by kernel_rfl
 f129:=Tryz.func128.trans (congrArg some (by kernel_rfl))
 f171:=Tryz.func40.trans (congrArg some (by kernel_rfl))
 f243:=Tryz.func79.trans (congrArg some (by kernel_rfl))
 f246:=Tryz.func101.trans (congrArg some (by kernel_rfl))
 f283:=Tryz.func118.trans (congrArg some (by kernel_rfl))
 f284:=Tryz.func119.trans (congrArg some (by kernel_rfl))
 f285:=Tryz.func120.trans (congrArg some (by kernel_rfl))
 f286:=Tryz.func121.trans (congrArg some (by kernel_rfl))
 f317:=Tryz.func127.trans (congrArg some (by kernel_rfl))
 f318:=Tryz.func129.trans (congrArg some (by kernel_rfl))
 f319:=Tryz.func130.trans (congrArg some (by kernel_rfl))
 f320:=Tryz.func131.trans (congrArg some (by kernel_rfl))
 f337:=Tryz.func142.trans (congrArg some (by kernel_rfl))
 f338:=Tryz.func143.trans (congrArg some (by kernel_rfl))
 t0:=Tryz.underlying0
 a0:=Tryz.isAgg0
 z0:=Tryz.sizeOf0
 v0:=Tryz.zeroValue0
 t2:=Tryz.underlying2
 a2:=Tryz.isAgg2
 z2:=Tryz.sizeOf2
 v2:=Tryz.zeroValue2
 t3:=Tryz.underlying3
 a3:=Tryz.isAgg3
 z3:=Tryz.sizeOf3
 v3:=Tryz.zeroValue3
 t4:=Tryz.underlying4
 a4:=Tryz.isAgg4
 z4:=Tryz.sizeOf4
 v4:=Tryz.zeroValue4
 t5:=Tryz.underlying5
 a5:=Tryz.isAgg5
 z5:=Tryz.sizeOf5
 v5:=Tryz.zeroValue5
 t9:=Tryz.underlying9
 a9:=Tryz.isAgg9
 z9:=Tryz.sizeOf9
 v9:=Tryz.zeroValue9
 t20:=Tryz.underlying20
 a20:=Tryz.isAgg20
 z20:=Tryz.sizeOf20
 v20:=Tryz.zeroValue20
 t37:=Tryz.underlying61
 a37:=Tryz.isAgg61
 z37:=Tryz.sizeOf61
 v37:=Tryz.zeroValue61
 t46:=Tryz.underlying144
 a46:=Tryz.isAgg144
 z46:=Tryz.sizeOf144
 v46:=Tryz.zeroValue144
 t51:=Tryz.underlying150
 a51:=Tryz.isAgg150
 z51:=Tryz.sizeOf150
 v51:=Tryz.zeroValue150
 t53:=Tryz.underlying137
 a53:=Tryz.isAgg137
 z53:=Tryz.sizeOf137
 v53:=Tryz.zeroValue137
 t171:=Tryz.underlying136
 a171:=Tryz.isAgg136
 z171:=Tryz.sizeOf136
 v171:=Tryz.zeroValue136
 t173:=Tryz.underlying140
 a173:=Tryz.isAgg140
 z173:=Tryz.sizeOf140
 v173:=Tryz.zeroValue140
 t212:=Tryz.underlying149
 a212:=Tryz.isAgg149
 z212:=Tryz.sizeOf149
 v212:=Tryz.zeroValue149
 t213:=Tryz.underlying151
 a213:=Tryz.isAgg151
 z213:=Tryz.sizeOf151
 t232:=Tryz.underlying167
 a232:=Tryz.isAgg167
 z232:=Tryz.sizeOf167
 v232:=Tryz.zeroValue167
 t233:=Tryz.underlying168
 a233:=Tryz.isAgg168
 z233:=Tryz.sizeOf168
 v233:=Tryz.zeroValue168
 g17:=by kernel_rfl
 g18:=by kernel_rfl
 g19:=by kernel_rfl
 i0:=by kernel_rfl
 i2:=by kernel_rfl
 i3:=by kernel_rfl
 i4:=by kernel_rfl
 i5:=by kernel_rfl
 i9:=by kernel_rfl
 i20:=by kernel_rfl
 i37:=by kernel_rfl
 i46:=by kernel_rfl
 i51:=by kernel_rfl
 i53:=by kernel_rfl
 i171:=by kernel_rfl
 i173:=by kernel_rfl
 i212:=by kernel_rfl
 i232:=by kernel_rfl
 i233:=by kernel_rfl
 m17:=by kernel_rfl
 m18:=by kernel_rfl
 m19:=by kernel_rfl}
open Go.RowKit Go.Sort Go.Lib in
theorem Tryz.strconv_Itoa (n:Int)(h0: -9223372036854775808≤n)(h1:n≤9223372036854775807)(w:World)(htab:Lib.TabIs Tryz.prog w "internal/strconv.uint64pow10" .u64 Lib.pow10Tab):
  Calls Tryz.prog 40 #[.int .i64 n] w fun e w'=>e= .returned (.string ⟨(Lib.itoa n).toArray⟩)∧∃ k os,w'=grow (w.drewN k) os:=Any.strconv_Itoa Tryz.laysM171 n h0 h1 w htab
def Tryz.lays240_ren:Go.Shelf.Ren:=⟨fun|240=>71|276=>99|n=>n,fun|0=>0|4=>4|9=>9|20=>20|70=>60|72=>63|37=>61|164=>116|n=>n,fun|n=>n⟩
theorem Tryz.lays240:Go.Proofs.Lays.n240 Tryz.prog Tryz.lays240_ren:={
 mixed:=by kernel_rfl
 f240:=Tryz.func71.trans (congrArg some (by kernel_rfl))
 f276:=Tryz.func99.trans (congrArg some (by kernel_rfl))
 t0:=Tryz.underlying0
 a0:=Tryz.isAgg0
 z0:=Tryz.sizeOf0
 v0:=Tryz.zeroValue0
 t4:=Tryz.underlying4
 a4:=Tryz.isAgg4
 z4:=Tryz.sizeOf4
 v4:=Tryz.zeroValue4
 t9:=Tryz.underlying9
 a9:=Tryz.isAgg9
 z9:=Tryz.sizeOf9
 v9:=Tryz.zeroValue9
 t20:=Tryz.underlying20
 a20:=Tryz.isAgg20
 z20:=Tryz.sizeOf20
 v20:=Tryz.zeroValue20
 t70:=Tryz.underlying60
 a70:=Tryz.isAgg60
 z70:=Tryz.sizeOf60
 v70:=Tryz.zeroValue60
 t72:=Tryz.underlying63
 a72:=Tryz.isAgg63
 z72:=Tryz.sizeOf63
 v72:=Tryz.zeroValue63
 t164:=Tryz.underlying116
 a164:=Tryz.isAgg116
 z164:=Tryz.sizeOf116
 v164:=Tryz.zeroValue116}
theorem Tryz.Builder_X72_240:Builder.X72 Tryz.prog Tryz.lays240_ren:={
 sizeBuilder:=by kernel_rfl
 liesBuilder:=by kernel_rfl}
end Go.Proofs
namespace Go.Proofs.YtpjedhbfkfobcaaGreatDoor
open Go.RowKit Go.Shelf
section
set_option maxHeartbeats 1000000 in
set_option maxRecDepth 100000 in
theorem str_walk0 {P:Program}{ρ:Ren}(L:Lays.n169 P ρ)(X:Builder.Extra P ρ)(b g cap:Nat)(p:Value)(l:List UInt8)(w:World)(hbk:w.heap[b]? =some (.cells #[p,.slice (some ⟨g,0,none⟩) l.length cap] (ρ.t 72) (0,0)))(hown:w.ownsRow 0 (ρ.t 5) 1 (.slice (some ⟨g,0,none⟩) l.length cap) l.length (Lib.byteCells l))(h0:l≠[]):
  Calls P (ρ.f 169) #[.pointer (some ⟨b,0,none⟩)] w fun e w'=>e= .returned (.string ⟨l.toArray⟩)∧w'=(w.drew).freeze ⟨g,0,none⟩ l.length:=by
 have hl0:l.length≠0:=by simpa using h0
 obtain ⟨cur,hg,hnc,hcm,hcs,htake⟩:∃ cur,w.heap[g]? =some (.cells cur (ρ.t 5) (0,0))∧l.length≤cap∧cap≤maxLen∧cur.size=cap*1∧cur.toList.take (l.length*1)=Lib.byteCells l:=by
  rcases hown.2 with ⟨h,_⟩|⟨g',cap',cur,hv,_,r⟩
  ·cases h
  ·cases hv
   exact ⟨cur,r⟩
 have c1:w.drew.cell? ⟨b,1,none⟩=some (.slice (some ⟨g,0,none⟩) l.length cap):=by
  have:w.drew.heap[b]? =some (.cells #[p,.slice (some ⟨g,0,none⟩) l.length cap] (ρ.t 72) (0,0)):=hbk
  rw[Lib.cell_of_heap this];rfl
 have hSD:(Builtin.unsafeSliceData_ #[(ρ.t 37)] (ρ.t 127) #[.slice (some ⟨g,0,none⟩) l.length cap]).run P w.drew= .ok (.pointer (some ⟨g,0,none⟩)) w.drew:=
  Lib.run_unsafeSliceData_row _ _ _ _ _ _ (by omega)
 have hUS:(Builtin.unsafeString_ #[(ρ.t 127),(ρ.t 3)] (ρ.t 9) #[.pointer (some ⟨g,0,none⟩),.int .i64 l.length]).run P w.drew= .ok (.string ⟨l.toArray⟩) (w.drew.freeze ⟨g,0,none⟩ l.length):=by
  refine Lib.run_unsafeString_row w.drew (ρ.t 127) (ρ.t 3) (ρ.t 9) (ρ.t 5) L.t127 X.cellsByte g cur.size (by have hg':w.drew.heap[g]? =some (.cells cur (ρ.t 5) (0,0)):=hg;simp[World.shape?,hg']) l h0 (by omega) (by unfold maxLen at hcm;omega) ?_
  intro j x hx
  have:=hown.cells (g:=g) rfl j (.int .u8 x.toNat) (by simp[Lib.byteCells,hx])
  exact this
 have mixed:=L.mixed
 have t72:=L.t72;have a72:=L.a72;have z72:=L.z72;have v72:=L.v72;have u72:=run_underlying L.t72
 have t70:=L.t70;have a70:=L.a70;have z70:=L.z70;have v70:=L.v70;have u70:=run_underlying L.t70
 have t37:=L.t37;have a37:=L.a37;have z37:=L.z37;have v37:=L.v37;have u37:=run_underlying L.t37
 have t127:=L.t127;have a127:=L.a127;have z127:=L.z127;have v127:=L.v127;have u127:=run_underlying L.t127
 have t3:=L.t3;have a3:=L.a3;have z3:=L.z3;have v3:=L.v3;have u3:=run_underlying L.t3
 have t9:=L.t9;have a9:=L.a9;have z9:=L.z9;have v9:=L.v9;have u9:=run_underlying L.t9
 have t5:=X.t5;have a5:=X.a5;have z5:=X.z5;have v5:=X.v5;have u5:=run_underlying X.t5
 go_enter L.f169,Body.n169_ntmps ρ
 go_wp2
 go_region_o
 all_goals (go_wp2;go_ret;exact ⟨rfl,rfl⟩)
theorem str_walk (b g cap:Nat)(p:Value)(l:List UInt8)(w:World)(hbk:w.heap[b]? =some (.cells #[p,.slice (some ⟨g,0,none⟩) l.length cap] 63 (0,0)))(hown:w.ownsRow 0 5 1 (.slice (some ⟨g,0,none⟩) l.length cap) l.length (Lib.byteCells l))(h0:l≠[]):
  Calls Tryz.prog 37 #[.pointer (some ⟨b,0,none⟩)] w fun e w'=>e= .returned (.string ⟨l.toArray⟩)∧w'=(w.drew).freeze ⟨g,0,none⟩ l.length:=str_walk0 Tryz.lays169 Tryz.Builder_Extra_169 b g cap p l w hbk hown h0
end
end Go.Proofs.YtpjedhbfkfobcaaGreatDoor
namespace Go.Proofs.YtpjedhbfkfobcaaGreatDoor
open Go.AM Go.RowKit Go.Shelf
theorem lvByte:lv Tryz.prog 5=[5]:=by kernel_rfl
theorem undByte:Tryz.prog.underlying 5=some (.int .u8):=by kernel_rfl
theorem noMapB:Xct 63=false:=by kernel_rfl
theorem args1 {F:Fr0}{x:AV}{vals:Array Value}(ha:ArgsOk Tryz.prog F [x] vals):∃ v,vals=#[v]∧RA Tryz.prog F.w F.M F.β F.hd x v:=by
 have h1:=ha.len
 have h2:=ha.val 0 x rfl
 rcases vals with ⟨_|⟨v,_|⟨z,l⟩⟩⟩<;>simp at h1
 exact ⟨v,rfl,h2⟩
theorem args2 {F:Fr0}{x y:AV}{vals:Array Value}(ha:ArgsOk Tryz.prog F [x,y] vals):∃ v u,vals=#[v,u]∧RA Tryz.prog F.w F.M F.β F.hd x v∧RA Tryz.prog F.w F.M F.β F.hd y u:=by
 have h1:=ha.len
 have h2:=ha.val 0 x rfl
 have h3:=ha.val 1 y rfl
 rcases vals with ⟨_|⟨v,_|⟨u,_|⟨z,l⟩⟩⟩⟩<;>simp at h1
 exact ⟨v,u,rfl,h2,h3⟩
structure Bld (F:Fr0)(n:Nat)(g:Nat→Nat→T)(p v:Value)(xs:List Value):Prop where
 box:F.w.heap[F.β HB]? =some (.cells #[p,v] 63 (0,0))
 row:F.w.ownsRow 0 5 1 (F.hd (HB+9)) n xs
 head:RowV Tryz.prog 5 (F.hd (HB+9)) n 0 n v
 one:v.oneCell'=true
 cells:∀ i,i<n→∃ x,xs[i]? =some x∧RT Tryz.prog F.w (Own F.M F.β F.hd) 5 (g i 0) x
section
variable {F:Fr0}{args:List AV}{vals:Array Value}{c0:AV}{n:Nat}{g:Nat→Nat→T}{p v:Value}{xs:List Value}
theorem bld_of (ha:ArgsOk Tryz.prog F args vals)(hM:F.M=[(HB,.box 63 [c0,.row (HB+9) 0 n]),(HB+9,.row 5 n g)]):∃ p v xs,Bld F n g p v xs∧RC Tryz.prog F.w F.M F.β F.hd c0 p:=by
 have h1:F.M.get HB=some (.box 63 [c0,.row (HB+9) 0 n]):=by rw[hM];rfl
 have h2:F.M.get (HB+9)=some (.row 5 n g):=by rw[hM];rfl
 obtain ⟨c,hc,hsz,hcs⟩:=(ha.sim.box HB _ _ h1).cellsT noMapB
 obtain ⟨_,xs,hown,hcells⟩:=ha.sim.row _ _ _ _ h2
 rw[lvByte] at hown hcells
 rcases c with ⟨_|⟨p,_|⟨v,_|⟨z,l⟩⟩⟩⟩<;>simp at hsz
 have r0:RC Tryz.prog F.w F.M F.β F.hd c0 p:=hcs 0 c0 rfl
 have r1:RC Tryz.prog F.w F.M F.β F.hd (.row (HB+9) 0 n) v:=hcs 1 _ rfl
 refine ⟨p,v,xs,⟨hc,hown,?_,r1.one,fun i hi=> ?_⟩,r0⟩
 ·cases r1 with
  | row _ _ h=>exact h _ _ _ h2
 ·obtain ⟨x,hx,hr⟩:=hcells i 0 5 hi rfl
  exact ⟨x,by simpa using hx,hr⟩
theorem addr_inv (h:addrOk c0=true){cs:List AV}(hb:F.M.get HB=some (.box 63 cs))(hr:RC Tryz.prog F.w F.M F.β F.hd c0 p):p= .pointer none∨p= .pointer (some ⟨F.β HB,0,none⟩):=by
 unfold addrOk at h
 split at h
 ·rename_i f
  obtain rfl:=Nat.eq_of_beq_eq_true h
  cases hr with
  | clo hf _ _=>exact absurd hf (by decide)
  | np=>exact .inl rfl
 ·rename_i k
  obtain rfl:=Nat.eq_of_beq_eq_true h
  cases hr with
  | ptr _ _ h=>exact .inr (by rw[h _ _ hb,Xkh noMapB])
 ·cases h
theorem res_check (ha:ArgsOk Tryz.prog F args vals)(hM:F.M=[(HB,.box 63 [c0,.row (HB+9) 0 n]),(HB+9,.row 5 n g)])(hB:Bld F n g p v xs){w':World}(hu:Under F w')
  (hbox:w'.heap[F.β HB]? =some (.cells #[.pointer (some ⟨F.β HB,0,none⟩),v] 63 (0,0))) (hsame:∀ b,b<F.w.heap.size→b≠F.β HB→w'.heap[b]? =F.w.heap[b]?) (hg:F.w.grownBy w' (some (F.β HB))):
  ResOk Tryz.prog F (FR.tpl 71) (lookR [(0,T.l n g)]) w' []:=by
 have hMr:(FR.tpl 71).M (lookR [(0,T.l n g)])=[(40,.row 5 n fun i j=>g i j),(HB,.box 63 [.ptr HB 0,.row 40 0 n])]:=by rfl
 have hvs:TA.instL (lookR [(0,T.l n g)]) (FR.tpl 71).vs=[]:=by rfl
 have h1:F.M.get HB=some (.box 63 [c0,.row (HB+9) 0 n]):=by rw[hM];rfl
 have h2:F.M.get (HB+9)=some (.row 5 n g):=by rw[hM];rfl
 have hne:∀ b,(F.hd (HB+9)).ownBlock=some b→b≠F.β HB:=fun b hb e=>by
  have:=ha.sim.inj HB (HB+9) b (.inl ⟨_,_,h1,e.symm⟩) (.inr ⟨_,_,_,h2,hb⟩)
  exact absurd this (by decide)
 have get:∀ {q o},Store.get [(40,Ob.row 5 n fun i j=>g i j),(HB,Ob.box 63 [.ptr HB 0,.row 40 0 n])] q=some o→(q=40∧o=Ob.row 5 n fun i j=>g i j)∨(q=HB∧o=Ob.box 63 [.ptr HB 0,.row 40 0 n]):=by
  intro q o h
  simp only[Store.get] at h
  cases c1:(40==q) with
  | true=>rw[c1] at h;exact .inl ⟨(eq_of_beq c1).symm,(Option.some.inj h).symm⟩
  | false=>
   rw[c1] at h
   cases c2:(HB==q) with
   | true=>rw[c2] at h;exact .inr ⟨(eq_of_beq c2).symm,(Option.some.inj h).symm⟩
   | false=>rw[c2] at h;cases h
 refine ⟨rfl,F.β,fun q=>if q=40 then F.hd (HB+9) else F.hd q,rfl,?_,?_,?_⟩
 ·rw[hMr]
  have owns:∀ {q b},Owns [(40,Ob.row 5 n fun i j=>g i j),(HB,Ob.box 63 [.ptr HB 0,.row 40 0 n])] F.β (fun q=>if q=40 then F.hd (HB+9) else F.hd q) q b→(q=40∧Owns F.M F.β F.hd (HB+9) b)∨(q=HB∧Owns F.M F.β F.hd HB b):=by
   rintro q b (⟨t,cs,h,h3⟩|⟨e,m,f,h,h3⟩)
   ·rcases get h with ⟨_,h4⟩|⟨rfl,_⟩
    ·cases h4
    ·exact .inr ⟨rfl,.inl ⟨_,_,h1,h3⟩⟩
   ·rcases get h with ⟨rfl,_⟩|⟨_,h4⟩
    ·exact .inl ⟨rfl,.inr ⟨_,_,_,h2,by simpa using h3⟩⟩
    ·cases h4
  have keep:Keeps F.w (Own F.M F.β F.hd) w' (Own [(40,Ob.row 5 n fun i j=>g i j),(HB,Ob.box 63 [.ptr HB 0,.row 40 0 n])] F.β (fun q=>if q=40 then F.hd (HB+9) else F.hd q)):=
   ⟨Under.size hu,fun b hb ho=>⟨hsame b hb (fun e=>ho (.inl ⟨HB,.inl ⟨_,_,h1,e.symm⟩⟩)),fun ho'=>by
    rcases ho' with ⟨q,hq⟩|hq
    ·rcases owns hq with ⟨_,h3⟩|⟨_,h3⟩
     ·exact ho (.inl ⟨_,h3⟩)
     ·exact ho (.inl ⟨_,h3⟩)
    ·exact ho (.inr hq)⟩⟩
  refine ⟨hu,fun q b h=> ?_,fun q q' b h h'=> ?_,ha.sim.far,fun q t cs h=> ?_,fun q e m f h=> ?_,ha.sim.tab⟩
  ·rcases owns h with ⟨_,h3⟩|⟨_,h3⟩
   ·exact ⟨.inr ⟨_,h3⟩,Nat.lt_of_lt_of_le (ha.sim.ge _ _ h3).2 (Under.size hu)⟩
   ·exact ⟨.inr ⟨_,h3⟩,Nat.lt_of_lt_of_le (ha.sim.ge _ _ h3).2 (Under.size hu)⟩
  ·rcases owns h with ⟨rfl,h3⟩|⟨rfl,h3⟩<;>rcases owns h' with ⟨rfl,h4⟩|⟨rfl,h4⟩
   ·rfl
   ·exact absurd (ha.sim.inj _ _ b h3 h4) (by decide)
   ·exact absurd (ha.sim.inj _ _ b h3 h4) (by decide)
   ·rfl
  ·rcases get h with ⟨_,h4⟩|⟨rfl,h4⟩
   ·cases h4
   ·cases h4
    refine .inl ⟨noMapB,_,hbox,rfl,fun j x hj=> ?_⟩
    match j,hj with
    | 0,hj=>
     obtain rfl:=Option.some.inj hj
     exact .ptr (fun e=>by have e':some (Ob.box 63 [.ptr HB 0,.row 40 0 n])=none:=e;cases e') rfl fun t cs h5=>by
      rcases get h5 with ⟨h6,_⟩|⟨_,h6⟩
      ·exact absurd h6 (by decide)
      ·cases h6
       rw[Xkh noMapB]
       rfl
    | 1,hj=>
     obtain rfl:=Option.some.inj hj
     exact .row (fun e=>by have e':some (Ob.row 5 n fun i j=>g i j)=none:=e;cases e') hB.one fun e m f h5=>by
      rcases get h5 with ⟨_,h6⟩|⟨h6,_⟩
      ·cases h6
       exact hB.head
      ·exact absurd h6 (by decide)
    | j+2,hj=>simp at hj
  ·rcases get h with ⟨rfl,h4⟩|⟨_,h4⟩
   ·cases h4
    rw[lvByte]
    refine ⟨by decide,xs,?_,fun i j τ hi hj=> ?_⟩
    ·have:=hB.row.kept hg (by
      cases hb:(F.hd (HB+9)).ownBlock with
      | none=>exact .inl rfl
      | some b=>exact .inr fun e=>hne b hb (Option.some.inj e))
     exact this
    ·match j,hj with
     | 0,hj=>
      obtain rfl:=Option.some.inj hj
      obtain ⟨x,hx,hr⟩:=hB.cells i hi
      exact ⟨x,by simpa using hx,hr.keep keep⟩
     | j+1,hj=>simp at hj
   ·cases h4
 ·rw[hMr]
  intro q hq
  refine ⟨fun t cs h=> ?_,fun e m f h=> ?_⟩
  ·rcases get h with ⟨_,h4⟩|⟨rfl,h4⟩
   ·cases h4
   ·cases h4
    exact ⟨⟨_,h1⟩,rfl⟩
  ·rcases get h with ⟨rfl,_⟩|⟨_,h4⟩
   ·exact absurd (ha.high 40 hq) (by decide)
   ·cases h4
 ·rw[hvs]
  intro j x hj
  simp at hj
theorem check_sound {args:List AV}{M:Store}{r:R}(h:checkX args M=some r):Xol Tryz.prog FR 71 args M r:=by
 intro F vals hM ha fn hfn
 unfold checkX at h
 split at h
 ·rename_i k k1 t c0 q n q1 e m g
  obtain ⟨hc,h⟩:=Xas h
  cases h
  simp only[Bool.and_eq_true,Nat.beq_eq] at hc
  obtain ⟨⟨rfl,rfl⟩,⟨rfl,rfl⟩,⟨rfl,rfl⟩,rfl,hc0⟩:=hc
  obtain ⟨u,rfl,hv⟩:=args1 ha
  obtain ⟨p,v,xs,hB,hr0⟩:=bld_of ha hM
  have hk:F.M.get HB=some (.box 63 [c0,.row (HB+9) 0 n]):=by rw[hM];rfl
  have hvp:=hv.ptr_inv hk noMapB
  subst hvp
  have hlent:F.lent (F.β HB):=⟨HB,.inl ⟨_,_,hk,rfl⟩⟩
  rcases addr_inv hc0 hk hr0 with rfl|rfl
  ·refine (Any.Builder_copyCheck_fresh Tryz.lays240 Tryz.Builder_X72_240 (F.β HB) F.w (by rw[Lib.cell_of_heap hB.box];rfl) (by simp[World.shape?,hB.box];rfl) (Lib.frozen_of_heap hB.box 0)).mono ?_
   rintro e w' ⟨rfl,rfl⟩
   have hb:∀ b,b≠F.β HB→(F.w.setCell ⟨F.β HB,0,none⟩ (.pointer (some ⟨F.β HB,0,none⟩))).heap[b]? =F.w.heap[b]? :=fun b hb=>heap_setCell_other _ _ _ _ hb
   refine ⟨[],rfl,res_check ha hM hB ⟨rfl,rfl,rfl,by simp,fun b hn=>hb b (fun e=>hn (.inr (e▸hlent)))⟩ ?_ (fun b _ hn=>hb b hn) ⟨rfl,rfl,rfl,by simp,fun b _ hn=>hb b (fun e=>hn (by rw[e]))⟩⟩
   exact heap_setCell_same _ _ _ _ _ _ hB.box
  ·refine (Any.Builder_copyCheck_used Tryz.lays240 Tryz.Builder_X72_240 (F.β HB) F.w (by rw[Lib.cell_of_heap hB.box];rfl)).mono ?_
   rintro e w' ⟨rfl,rfl⟩
   exact ⟨[],rfl,res_check ha hM hB Under.refl hB.box (fun _ _ _=>rfl) ⟨rfl,rfl,rfl,Nat.le_refl _,fun _ _ _=>rfl⟩⟩
 ·cases h
end
end Go.Proofs.YtpjedhbfkfobcaaGreatDoor
namespace Go.Proofs.YtpjedhbfkfobcaaGreatDoor
open Go.AM Go.RowKit Go.Shelf
theorem freeze_grown (w:World)(p:Addr)(n:Nat):w.grownBy (w.freeze p n) (some p.block):=by
 unfold World.freeze
 split
 ·exact ⟨rfl,rfl,rfl,Nat.le_refl _,fun _ _ _=>rfl⟩
 ·refine ⟨rfl,rfl,rfl,by simp,fun k hk hn=> ?_⟩
  simp only[Array.getElem?_modify]
  rw[if_neg (fun e=>hn (by rw[e]))]
theorem res_str {F:Fr0}{args:List AV}{vals:Array Value}(ha:ArgsOk Tryz.prog F args vals){f:FuncId}(hvs:(FR.tpl f).vs=[.s 0])(hbs:(FR.tpl f).bs=[])(hrs:(FR.tpl f).rs=[]){w':World}(hu:Under F w')(y:ByteArray):
  ResOk Tryz.prog F (FR.tpl f) (lookR [(0,.s y)]) w' [.string y]:=by
 have hM:(FR.tpl f).M (lookR [(0,.s y)])=[]:=by
  unfold Tpl.M Tpl.ents Tpl.rows
  rw[hvs,hbs,hrs]
  rfl
 have hno:∀ k b,¬Owns [] F.β F.hd k b:=by
  rintro k b (⟨t,cs,h,_⟩|⟨e,n,g,h,_⟩)<;>cases h
 refine ⟨by rw[hvs];rfl,F.β,F.hd,rfl,?_,?_,?_⟩
 ·rw[hM]
  exact ⟨hu,fun k b h=>absurd h (hno k b),fun k k' b h=>absurd h (hno k b),ha.sim.far,(fun k t cs h=>by cases h),(fun k e n g h=>by cases h),ha.sim.tab⟩
 ·rw[hM]
  exact fun q _=>⟨(fun t cs h=>by cases h),(fun e n g h=>by cases h)⟩
 ·rw[hM,hvs]
  intro j x hj
  match j,hj with
  | 0,hj=>
   obtain rfl:=Option.some.inj hj
   exact .c (.s _)
  | j+1,hj=>simp[TA.instL] at hj
theorem under_below {F:Fr0}{w':World}(h:Below F.w.heap.size F.w w'):Under F w':=
 ⟨h.os,h.tape,h.output,h.size,fun b hb=>h.block b (by have h2:¬F.w.heap.size≤b:=fun e=>hb (.inl e);omega)⟩
theorem string_sound {args:List AV}{M:Store}{r:R}(h:stringX args M=some r):Xol Tryz.prog FR 37 args M r:=by
 intro F vals hM ha fn hfn
 unfold stringX at h
 split at h
 ·rename_i k k1 t c0 q n q1 e m g
  obtain ⟨hc,h⟩:=Xas h
  cases h
  simp only[Bool.and_eq_true,Nat.beq_eq] at hc
  obtain ⟨⟨rfl,rfl⟩,⟨rfl,rfl⟩,⟨rfl,rfl⟩,rfl,hn,hu8⟩:=hc
  have hn:0<n:=by simpa using hn
  obtain ⟨u,rfl,hv⟩:=args1 ha
  obtain ⟨p,v,xs,hB,hr0⟩:=bld_of ha hM
  have hk:F.M.get HB=some (.box 63 [c0,.row (HB+9) 0 n]):=by rw[hM];rfl
  have hk2:F.M.get (HB+9)=some (.row 5 n g):=by rw[hM];rfl
  have hvp:=hv.ptr_inv hk noMapB
  subst hvp
  rcases hB.head with ⟨_,_,_,h0⟩|⟨gb,cap,a,hhd,hcap,_,hvv,haa⟩
  ·omega
  have ea:a=⟨gb,0,none⟩:=by simpa using haa (.inr rfl)
  subst ea
  rw[Nat.sub_zero] at hvv
  subst hvv
  have hrow:=hB.row
  rw[hhd] at hrow
  have hbox:=hB.box
  obtain ⟨l,hl⟩:∃ l,l=Xpj n g:=⟨_,rfl⟩
  have hlen:l.length=n:=by rw[hl];simp[Xpj]
  have hxs:xs=Lib.byteCells l:=by
   have hxl:xs.length=n:=by simpa using hrow.1
   apply List.ext_getElem?
   intro i
   by_cases hi:i<n
   ·obtain ⟨x,hx,hr⟩:=hB.cells i hi
    rw[hx,hl]
    have hb:=List.all_eq_true.1 hu8 i (List.mem_range.2 hi)
    simp only[Bool.and_eq_true,decide_eq_true_eq] at hb
    have e1:(Lib.byteCells (Xpj n g))[i]? =some (.int .u8 ((UInt8.ofNat (g i 0).int.toNat).toNat:Int)):=by
     simp[Lib.byteCells,Xpj,hi]
    rw[e1]
    cases hr with
    | int h=>
     rw[undByte] at h
     cases h
     have e2:((UInt8.ofNat (g i 0).int.toNat).toNat:Int)=(g i 0).int:=by
      rw[UInt8.toNat_ofNat']
      omega
     rw[e2]
    | bool h=>rw[undByte] at h;cases h
    | str h=>rw[undByte] at h;cases h
    | sl h=>rw[undByte] at h;cases h
   ·rw[List.getElem?_eq_none (by omega),List.getElem?_eq_none (by rw[Lib.byteCells,List.length_map];omega)]
  rw[hxs] at hrow
  rw[←hl]
  rw[←hlen] at hrow hbox
  refine (str_walk (F.β HB) gb cap p l F.w hbox hrow (by intro e;rw[e] at hlen;simp at hlen;omega)).mono ?_
  rintro e w' ⟨rfl,rfl⟩
  have hgr:=freeze_grown F.w.drew ⟨gb,0,none⟩ l.length
  have hlent:F.lent gb:=⟨HB+9,.inr ⟨_,_,_,hk2,by rw[hhd];rfl⟩⟩
  refine ⟨[.string ⟨l.toArray⟩],rfl,res_str ha (f:=37) (by rfl) (by rfl) (by rfl) ⟨hgr.os,hgr.tape,hgr.output,hgr.size,fun b hb=> ?_⟩ _⟩
  have h2:¬F.w.heap.size≤b:=fun e=>hb (.inl e)
  exact hgr.block b (by show b<F.w.heap.size;omega) (fun e=>hb (.inr (Option.some.inj e▸hlent)))
 ·cases h
theorem lvStr:lv Tryz.prog 9=[9]:=by kernel_rfl
theorem undStr:Tryz.prog.underlying 9=some .string:=by kernel_rfl
theorem itoa_sound {args:List AV}{M:Store}{r:R}(h:itoaX args M=some r):Xol Tryz.prog FR 40 args M r:=by
 intro F vals hM ha fn hfn
 unfold itoaX at h
 split at h
 ·rename_i k n
  obtain ⟨hc,h⟩:=Xas h
  cases h
  simp only[Bool.and_eq_true,beq_iff_eq,decide_eq_true_eq] at hc
  obtain ⟨rfl,h0,h1⟩:=hc
  obtain ⟨v,rfl,hv⟩:=args1 ha
  have hv:=hv.i_inv
  subst hv
  have hg:(Tryz.prog.globalNamed "internal/strconv.uint64pow10").isSome=true:=by kernel_rfl
  obtain ⟨g,hg⟩:=Option.isSome_iff_exists.1 hg
  refine (Tryz.strconv_Itoa n h0 h1 F.w (ha.sim.tab g hg).2.2).mono ?_
  rintro e w' ⟨rfl,k,os,rfl⟩
  suffices hu:Under F (Go.Sort.grow (F.w.drewN k) os) from ⟨[.string _],rfl,res_str ha (f:=40) (by rfl) (by rfl) (by rfl) hu _⟩
  refine ⟨rfl,rfl,rfl,by simp[Go.Sort.grow],fun b hb=> ?_⟩
  have h2:¬F.w.heap.size≤b:=fun e=>hb (.inl e)
  show (F.w.heap++os)[b]? =F.w.heap[b]?
  rw[Array.getElem?_append_left (by omega)]
 ·cases h
theorem res_i64 {F:Fr0}{args:List AV}{vals:Array Value}(ha:ArgsOk Tryz.prog F args vals){f:FuncId}(hvs:(FR.tpl f).vs=[.i .i64 0])(hbs:(FR.tpl f).bs=[])(hrs:(FR.tpl f).rs=[]){w':World}(hu:Under F w')(y:Int):
  ResOk Tryz.prog F (FR.tpl f) (lookR [(0,.i y)]) w' [.int .i64 y]:=by
 have hM:(FR.tpl f).M (lookR [(0,.i y)])=[]:=by
  unfold Tpl.M Tpl.ents Tpl.rows
  rw[hvs,hbs,hrs]
  rfl
 have hno:∀ k b,¬Owns [] F.β F.hd k b:=by
  rintro k b (⟨t,cs,h,_⟩|⟨e,n,g,h,_⟩)<;>cases h
 refine ⟨by rw[hvs];rfl,F.β,F.hd,rfl,?_,?_,?_⟩
 ·rw[hM]
  exact ⟨hu,fun k b h=>absurd h (hno k b),fun k k' b h=>absurd h (hno k b),ha.sim.far,(fun k t cs h=>by cases h),(fun k e n g h=>by cases h),ha.sim.tab⟩
 ·rw[hM]
  exact fun q _=>⟨(fun t cs h=>by cases h),(fun e n g h=>by cases h)⟩
 ·rw[hM,hvs]
  intro j x hj
  match j,hj with
  | 0,hj=>
   obtain rfl:=Option.some.inj hj
   exact .c (.i _ _)
  | j+1,hj=>simp[TA.instL] at hj
theorem one_byte {t:ByteArray}(h:Nat.beq t.size 1=true):t=⟨#[t.data.getD 0 0]⟩:=by
 have h:=Nat.eq_of_beq_eq_true h
 obtain ⟨⟨_|⟨c,_|⟨d,l⟩⟩⟩⟩:=t<;>simp[ByteArray.size] at h
 rfl
theorem under_refl (F:Fr0):Under F F.w:=⟨rfl,rfl,rfl,Nat.le_refl _,fun _ _=>rfl⟩
end Go.Proofs.YtpjedhbfkfobcaaGreatDoor
