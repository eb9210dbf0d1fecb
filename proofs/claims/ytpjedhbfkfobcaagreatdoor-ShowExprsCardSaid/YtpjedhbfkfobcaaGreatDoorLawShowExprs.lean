/- The law ShowExprs: whatever it is called with, it answers true, and its arguments read as they did. -/
import Derived.Test.YtpjedhbfkfobcaaGreatDoorRows
import Derived.Test.YtpjedhbfkfobcaaGreatDoorCards
import Derived.Test.YtpjedhbfkfobcaaGreatDoorTie
import Derived.Test.YtpjedhbfkfobcaaGreatDoorSh8
import Derived.Test.YtpjedhbfkfobcaaGreatDoorTop0
import Derived.Test.YtpjedhbfkfobcaaGreatDoorExB
import Derived.WalkKit
import Derived.ProofKit
import Derived.OpenShut
import Derived.ChangeOld
import Derived.Below
import Derived.SizedLaws
import Derived.LaidMore
import Derived.SevenTiedAt
import Derived.Stop.Joined
namespace Go.Proofs.YtpjedhbfkfobcaaGreatDoor.showExprs
open Go.ChangeShapes Go.WideShapes Go.ChangeAt Go.RowKit Go.AM
set_option linter.unusedVariables false
theorem own:ownKnob Tryz.prog.godebug=none:=by kernel_rfl
theorem laidOut:laidOutB Tryz.prog=true:=by kernel_rfl
theorem mix:Tryz.prog.follows .mixedOrders=true:=by kernel_rfl
def ts:List TypeId:=[22,53,9,4,3,25,23]
theorem good:tyGood Tryz.prog ts=true:=by kernel_rfl
theorem lv22:lv Tryz.prog 22=[22]:=by kernel_rfl
theorem lv25:lv Tryz.prog 25=[3,3,23]:=by kernel_rfl
theorem tabOf {W:World}(h:laidMetH Tryz.prog Rows.showExprsRow.laid W):∀ g,Tryz.prog.globalNamed "internal/strconv.uint64pow10" =some g→g<W.heap.size∧Lib.TabIs Tryz.prog W "internal/strconv.uint64pow10" .u64 Lib.pow10Tab:=by
 rw[MakeChecks.laidMetH_plain _ _ _ (by kernel_rfl)] at h
 obtain ⟨ps,⟨_,_,_,_,_,_,_,_,_,_,⟨_,_,_,_,_,_,_,_,_,_,⟨g',t',cs,fuel,p,q,hg',ht',hvar,hd,_,_⟩,_⟩,_⟩,_,_⟩:=h
 have ty:((Tryz.prog.globalNamed "internal/strconv.uint64pow10").bind fun g=>(Tryz.prog.globals[g]?).map (·.type))=some 149:=by kernel_rfl
 rw[hg',Option.bind_some,ht'] at ty
 obtain rfl:t'=149:=Option.some.inj ty
 have hcs:=Lib.cells_of_tab (zs:=Lib.pow10Tab) (k:= .u64) Tryz.underlying149 Tryz.underlying137 (by kernel_rfl) (by kernel_rfl) hd
 have htab:Lib.TabIs Tryz.prog W "internal/strconv.uint64pow10" .u64 Lib.pow10Tab:=by
  unfold Lib.TabIs
  rw[hvar,←hcs]
 intro g hg
 refine ⟨?_,htab⟩
 unfold World.var? at hvar
 rw[hg,Option.bind_some] at hvar
 rcases Nat.lt_or_ge g W.heap.size with h1|h1
 ·exact h1
 ·rw[Array.getElem?_eq_none h1] at hvar
  cases hvar
theorem doorMet (os:Os)(args:Array Value):laidMetH Tryz.prog Rows.showExprsRow.laid ((World.doorLaid Tryz.prog 34 os).forCall (fun _ _=>0) ⟨#[],args,[]⟩).memory:=
 laidMetH_of_parts3 (fuel:=8) (laidMet_of_run' 8 (by kernel_rfl) (by kernel_rfl)) (by kernel_rfl) (by kernel_rfl)
set_option maxRecDepth 100000 in
theorem lifted (os:Os)(started:os.Started)(H:Type)(enc:TypeId×Value→H):
  ReturnsInHanded {} Tryz.checked os 3 .any (fun w args=>(Rows.showExprsSpec.pre enc Tryz.prog Tryz.f3 [] false w args∧laidMetH Tryz.prog Rows.showExprsRow.laid w)∧sizedMet enc Tryz.prog Tryz.f3 (OpenSpec.ofChange Rows.showExprsSpec) false w args)
   (Rows.showExprsSpec.post enc Tryz.prog Tryz.f3 false true false false):=by
 refine returnsInHanded_of_change_and (C:=Tryz.checked) (X:=fun w _=>laidMetH Tryz.prog Rows.showExprsRow.laid w) (fun _ _ _ hh h=>h.of_heap hh) own started (by kernel_rfl) Tryz.func3
  (ChangeSpec.witness_shaped (enc:=enc) (C:=Tryz.checked) (os:=os) (X:=fun w _=>laidMetH Tryz.prog Rows.showExprsRow.laid w) false (World.doorLaid Tryz.prog 34 os) #[.slice none 0 0,.agg #[.int .i64 0,.int .i64 0,.slice none 0 0],.agg #[.int .i64 0,.int .i64 0,.slice none 0 0]] 8 rfl (World.shaped_of_RefB (by kernel_rfl) (by kernel_rfl)) (by kernel_rfl) (by kernel_rfl) (by kernel_rfl) (doorMet os _)) ?_
 intro W base args ds gs before hval0 hW _ _ hL _
 have hval:∀ (j:Nat) t v,Tryz.f3.params[j]? =some t→args[j]? =some v→Value.okWide Tryz.prog W .any base t v:=hval0
 have hW':=hW
 obtain ⟨p,q,hA0,hV,rfl,hfz,hnd⟩:=hW
 have hA:DataW.TrodAll enc Tryz.prog W 0 (fun _=>true) true Tryz.f3.params.toList args.toList ds p:=hA0
 rw[Tryz.params3] at hA hval
 obtain ⟨v0,vs0,d0,ds0,p0,q0,hargs,rfl,rfl,h0,r0⟩:=trodAll_cons hA
 obtain ⟨v1,vs1,d1,ds1,p1,q1,rfl,rfl,rfl,h1,r1⟩:=trodAll_cons r0
 obtain ⟨v2,vs2,d2,ds2,p2,q2,rfl,rfl,rfl,h2,r2⟩:=trodAll_cons r1
 obtain ⟨rfl,rfl,rfl⟩:=trodAll_nil r2
 obtain rfl:args=#[v0,v1,v2]:=by cases args;simp_all
 obtain ⟨rfl,rfl⟩:=trodVars_none hV
 have k0:=h0
 have lt0:∀ x∈p0,x.block<W.heap.size:=by obtain ⟨m,hm⟩:=k0;exact DataW.trod_lt m _ _ _ hm
 obtain ⟨xs0,xl0,xw0,ra0⟩:=Xlw good (t:=22) (by decide) (hval 0 22 v0 rfl rfl) h0
 have w0_0:WT Tryz.prog 22 (xs0.getD 0 (.b false)):=by
  obtain ⟨x,hx,hw⟩:=xw0 0 22 (by rw[lv22];rfl)
  rw[List.getD_eq_getElem?_getD,hx]
  exact hw
 have k1:=h1
 have lt1:∀ x∈p1,x.block<W.heap.size:=by obtain ⟨m,hm⟩:=k1;exact DataW.trod_lt m _ _ _ hm
 obtain ⟨xs1,xl1,xw1,ra1⟩:=Xlw good (t:=25) (by decide) (hval 1 25 v1 rfl rfl) h1
 have w1_2:WT Tryz.prog 23 (xs1.getD 2 (.b false)):=by
  obtain ⟨x,hx,hw⟩:=xw1 2 23 (by rw[lv25];rfl)
  rw[List.getD_eq_getElem?_getD,hx]
  exact hw
 have k2:=h2
 have lt2:∀ x∈p2,x.block<W.heap.size:=by obtain ⟨m,hm⟩:=k2;exact DataW.trod_lt m _ _ _ hm
 obtain ⟨xs2,xl2,xw2,ra2⟩:=Xlw good (t:=25) (by decide) (hval 2 25 v2 rfl rfl) h2
 have w2_2:WT Tryz.prog 23 (xs2.getD 2 (.b false)):=by
  obtain ⟨x,hx,hw⟩:=xw2 2 23 (by rw[lv25];rfl)
  rw[List.getD_eq_getElem?_getD,hx]
  exact hw
 clear hA0 hval0
 obtain ⟨n,hn⟩:=ShowExprs_sp (xs0.getD 0 (.b false)) (xs1.getD 0 (.b false)).int (xs1.getD 1 (.b false)).int (xs1.getD 2 (.b false)) (xs2.getD 0 (.b false)).int (xs2.getD 1 (.b false)).int (xs2.getD 2 (.b false)) w0_0 w1_2 w2_2
 have hc:=hn n (Nat.le_refl n)
 have hr:call Tryz.prog PL FR EXT n 3 [loadT Tryz.prog 22 fun j=>xs0.getD j (.b false),loadT Tryz.prog 25 fun j=>xs1.getD j (.b false),loadT Tryz.prog 25 fun j=>xs2.getD j (.b false)] []=some (lookR [(0,.b true)]):=by
  have e:Xhi (K n) (xs0.getD 0 (.b false)) (xs1.getD 0 (.b false)).int (xs1.getD 1 (.b false)).int (xs1.getD 2 (.b false)) (xs2.getD 0 (.b false)).int (xs2.getD 1 (.b false)).int (xs2.getD 2 (.b false))=call Tryz.prog PL FR EXT n 3 [loadT Tryz.prog 22 fun j=>xs0.getD j (.b false),loadT Tryz.prog 25 fun j=>xs1.getD j (.b false),loadT Tryz.prog 25 fun j=>xs2.getD j (.b false)] []:=by kernel_rfl
  rw[←e];exact hc
 refine (Xsr mix Xsz Tryz.func3 hr (by kernel_rfl) rfl (vals:=#[v0,v1,v2]) rfl (fun j x hj=>by
  match j,hj with
  | 0,hj=>obtain rfl:=Option.some.inj hj;exact ra0
  | 1,hj=>obtain rfl:=Option.some.inj hj;exact ra1
  | 2,hj=>obtain rfl:=Option.some.inj hj;exact ra2
  | j+3,hj=>cases hj) (tabOf hL)).mono fun e W' ⟨he,bel⟩=> ?_
 subst he
 exact ⟨_,rfl,_,_,_,[],_,[],hW',trodAll_mk1 (shut_bool Tryz.underlying4 _),(trodAll_cons_mk (Below.trod laidOut (by kernel_rfl) (of_decide_eq_true (by kernel_rfl)) k0 bel lt0) (trodAll_cons_mk (Below.trod laidOut (by kernel_rfl) (of_decide_eq_true (by kernel_rfl)) k1 bel lt1) (trodAll_cons_mk (Below.trod laidOut (by kernel_rfl) (of_decide_eq_true (by kernel_rfl)) k2 bel lt2) trodAll_mk0))),rfl,bel.frame _,fun h=>by cases h⟩
theorem over:Rows.showExprsRow.holds Tryz.pinned (OpenSpec.ofChange Rows.showExprsSpec):=
 OpenClaim.holds_of_wide 3 Tryz.f3 rfl rfl rfl rfl rfl rfl rfl ⟨rfl,rfl,rfl,rfl,rfl⟩ rfl rfl rfl rfl rfl (by kernel_rfl) Tryz.func3 (by kernel_rfl)
  (of_decide_eq_true (by kernel_rfl)) (by unfold Func.isWrapper;first|(rw[if_pos (by decide +kernel)];kernel_rfl)|(rw[if_neg (by decide +kernel)];exact ⟨rfl,rfl⟩))
  (fun os started H enc _=>lifted os started H enc)
theorem card:Rows.ShowExprsCardSaid:=
 Claim7.holds_tied_plain_at .later [] [.data,.data,.data] true (true, "61fc6daca209267d6cc1372209749c17597d01da54ebeedfa15ea6842b6da6e0") false over (fun _ h=>by cases h) (by kernel_rfl) (fun _ h=>by cases h) showExprs_row_tie rfl ⟨rfl,rfl⟩ (by kernel_rfl) rfl
  (fun f fn hf hfn=>by
   obtain rfl:f=3:=Option.some.inj ((show Tryz.prog.funcNamed "parry/parrylaw7.ShowExprs" =some 3 by kernel_rfl).symm.trans hf) |>.symm
   obtain rfl:fn=Tryz.f3:=(Option.some.inj (Tryz.func3.symm.trans hfn)).symm
   refine ⟨by kernel_rfl,fun j t ht=> ?_⟩
   rw[Tryz.params3] at ht
   match j,ht with
   | 0,ht=>obtain rfl:=Option.some.inj ht;exact (show Tryz.prog.wantsStandIn 22=false by kernel_rfl)
   | 1,ht=>obtain rfl:=Option.some.inj ht;exact (show Tryz.prog.wantsStandIn 25=false by kernel_rfl)
   | 2,ht=>obtain rfl:=Option.some.inj ht;exact (show Tryz.prog.wantsStandIn 25=false by kernel_rfl)
   | j+3,ht=>simp at ht)
  (by kernel_rfl)
#print axioms card
end Go.Proofs.YtpjedhbfkfobcaaGreatDoor.showExprs
namespace Go.Proofs.YtpjedhbfkfobcaaGreatDoor
theorem showExprs_holds:Rows.ShowExprsCardSaid:=showExprs.card
end Go.Proofs.YtpjedhbfkfobcaaGreatDoor
