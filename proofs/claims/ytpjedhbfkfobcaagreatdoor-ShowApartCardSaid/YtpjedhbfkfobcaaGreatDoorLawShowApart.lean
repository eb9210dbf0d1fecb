/- The law ShowApart: whatever it is called with, it answers true, and its arguments read as they did. -/
import Derived.Test.YtpjedhbfkfobcaaGreatDoorRows
import Derived.Test.YtpjedhbfkfobcaaGreatDoorCards
import Derived.Test.YtpjedhbfkfobcaaGreatDoorTie
import Derived.Test.YtpjedhbfkfobcaaGreatDoorSh8
import Derived.Test.YtpjedhbfkfobcaaGreatDoorTop0
import Derived.Test.YtpjedhbfkfobcaaGreatDoorExB
import Derived.WalkKit
import Derived.ProofKit
import Derived.OpenShut
import Derived.ChangeOld
import Derived.Below
import Derived.SizedLaws
import Derived.LaidMore
import Derived.SevenTiedAt
import Derived.Stop.Joined
namespace Go.Proofs.YtpjedhbfkfobcaaGreatDoor.showApart
open Go.ChangeShapes Go.WideShapes Go.ChangeAt Go.RowKit Go.AM
set_option linter.unusedVariables false
theorem own:ownKnob Tryz.prog.godebug=none:=by kernel_rfl
theorem laidOut:laidOutB Tryz.prog=true:=by kernel_rfl
theorem mix:Tryz.prog.follows .mixedOrders=true:=by kernel_rfl
def ts:List TypeId:=[29,22,53,9,4,3,25,23,27,42,40,50]
theorem good:tyGood Tryz.prog ts=true:=by kernel_rfl
theorem lv29:lv Tryz.prog 29=[22,3,3,23,3,3,23,27,27,23,23,23]:=by kernel_rfl
theorem tabOf {W:World}(h:laidMetH Tryz.prog Rows.showApartRow.laid W):∀ g,Tryz.prog.globalNamed "internal/strconv.uint64pow10" =some g→g<W.heap.size∧Lib.TabIs Tryz.prog W "internal/strconv.uint64pow10" .u64 Lib.pow10Tab:=by
 rw[MakeChecks.laidMetH_plain _ _ _ (by kernel_rfl)] at h
 obtain ⟨ps,⟨_,_,_,_,_,_,_,_,_,_,⟨_,_,_,_,_,_,_,_,_,_,⟨g',t',cs,fuel,p,q,hg',ht',hvar,hd,_,_⟩,_⟩,_⟩,_,_⟩:=h
 have ty:((Tryz.prog.globalNamed "internal/strconv.uint64pow10").bind fun g=>(Tryz.prog.globals[g]?).map (·.type))=some 149:=by kernel_rfl
 rw[hg',Option.bind_some,ht'] at ty
 obtain rfl:t'=149:=Option.some.inj ty
 have hcs:=Lib.cells_of_tab (zs:=Lib.pow10Tab) (k:= .u64) Tryz.underlying149 Tryz.underlying137 (by kernel_rfl) (by kernel_rfl) hd
 have htab:Lib.TabIs Tryz.prog W "internal/strconv.uint64pow10" .u64 Lib.pow10Tab:=by
  unfold Lib.TabIs
  rw[hvar,←hcs]
 intro g hg
 refine ⟨?_,htab⟩
 unfold World.var? at hvar
 rw[hg,Option.bind_some] at hvar
 rcases Nat.lt_or_ge g W.heap.size with h1|h1
 ·exact h1
 ·rw[Array.getElem?_eq_none h1] at hvar
  cases hvar
theorem doorMet (os:Os)(args:Array Value):laidMetH Tryz.prog Rows.showApartRow.laid ((World.doorLaid Tryz.prog 34 os).forCall (fun _ _=>0) ⟨#[],args,[]⟩).memory:=
 laidMetH_of_parts3 (fuel:=8) (laidMet_of_run' 8 (by kernel_rfl) (by kernel_rfl)) (by kernel_rfl) (by kernel_rfl)
set_option maxRecDepth 100000 in
theorem lifted (os:Os)(started:os.Started)(H:Type)(enc:TypeId×Value→H):
  ReturnsInHanded {} Tryz.checked os 6 .any (fun w args=>(Rows.showApartSpec.pre enc Tryz.prog Tryz.f6 [] false w args∧laidMetH Tryz.prog Rows.showApartRow.laid w)∧sizedMet enc Tryz.prog Tryz.f6 (OpenSpec.ofChange Rows.showApartSpec) false w args)
   (Rows.showApartSpec.post enc Tryz.prog Tryz.f6 false true false false):=by
 refine returnsInHanded_of_change_and (C:=Tryz.checked) (X:=fun w _=>laidMetH Tryz.prog Rows.showApartRow.laid w) (fun _ _ _ hh h=>h.of_heap hh) own started (by kernel_rfl) Tryz.func6
  (ChangeSpec.witness_shaped (enc:=enc) (C:=Tryz.checked) (os:=os) (X:=fun w _=>laidMetH Tryz.prog Rows.showApartRow.laid w) false (World.doorLaid Tryz.prog 34 os) #[.agg #[.slice none 0 0,.int .i64 0,.int .i64 0,.slice none 0 0,.int .i64 0,.int .i64 0,.slice none 0 0,.slice none 0 0,.slice none 0 0,.slice none 0 0,.slice none 0 0,.slice none 0 0],.agg #[.slice none 0 0,.int .i64 0,.int .i64 0,.slice none 0 0,.int .i64 0,.int .i64 0,.slice none 0 0,.slice none 0 0,.slice none 0 0,.slice none 0 0,.slice none 0 0,.slice none 0 0]] 8 rfl (World.shaped_of_RefB (by kernel_rfl) (by kernel_rfl)) (by kernel_rfl) (by kernel_rfl) (by kernel_rfl) (doorMet os _)) ?_
 intro W base args ds gs before hval0 hW _ _ hL _
 have hval:∀ (j:Nat) t v,Tryz.f6.params[j]? =some t→args[j]? =some v→Value.okWide Tryz.prog W .any base t v:=hval0
 have hW':=hW
 obtain ⟨p,q,hA0,hV,rfl,hfz,hnd⟩:=hW
 have hA:DataW.TrodAll enc Tryz.prog W 0 (fun _=>true) true Tryz.f6.params.toList args.toList ds p:=hA0
 rw[Tryz.params6] at hA hval
 obtain ⟨v0,vs0,d0,ds0,p0,q0,hargs,rfl,rfl,h0,r0⟩:=trodAll_cons hA
 obtain ⟨v1,vs1,d1,ds1,p1,q1,rfl,rfl,rfl,h1,r1⟩:=trodAll_cons r0
 obtain ⟨rfl,rfl,rfl⟩:=trodAll_nil r1
 obtain rfl:args=#[v0,v1]:=by cases args;simp_all
 obtain ⟨rfl,rfl⟩:=trodVars_none hV
 have k0:=h0
 have lt0:∀ x∈p0,x.block<W.heap.size:=by obtain ⟨m,hm⟩:=k0;exact DataW.trod_lt m _ _ _ hm
 obtain ⟨xs0,xl0,xw0,ra0⟩:=Xlw good (t:=29) (by decide) (hval 0 29 v0 rfl rfl) h0
 have w0_0:WT Tryz.prog 22 (xs0.getD 0 (.b false)):=by
  obtain ⟨x,hx,hw⟩:=xw0 0 22 (by rw[lv29];rfl)
  rw[List.getD_eq_getElem?_getD,hx]
  exact hw
 have w0_3:WT Tryz.prog 23 (xs0.getD 3 (.b false)):=by
  obtain ⟨x,hx,hw⟩:=xw0 3 23 (by rw[lv29];rfl)
  rw[List.getD_eq_getElem?_getD,hx]
  exact hw
 have w0_6:WT Tryz.prog 23 (xs0.getD 6 (.b false)):=by
  obtain ⟨x,hx,hw⟩:=xw0 6 23 (by rw[lv29];rfl)
  rw[List.getD_eq_getElem?_getD,hx]
  exact hw
 have w0_7:WT Tryz.prog 27 (xs0.getD 7 (.b false)):=by
  obtain ⟨x,hx,hw⟩:=xw0 7 27 (by rw[lv29];rfl)
  rw[List.getD_eq_getElem?_getD,hx]
  exact hw
 have w0_8:WT Tryz.prog 27 (xs0.getD 8 (.b false)):=by
  obtain ⟨x,hx,hw⟩:=xw0 8 27 (by rw[lv29];rfl)
  rw[List.getD_eq_getElem?_getD,hx]
  exact hw
 have w0_9:WT Tryz.prog 23 (xs0.getD 9 (.b false)):=by
  obtain ⟨x,hx,hw⟩:=xw0 9 23 (by rw[lv29];rfl)
  rw[List.getD_eq_getElem?_getD,hx]
  exact hw
 have w0_10:WT Tryz.prog 23 (xs0.getD 10 (.b false)):=by
  obtain ⟨x,hx,hw⟩:=xw0 10 23 (by rw[lv29];rfl)
  rw[List.getD_eq_getElem?_getD,hx]
  exact hw
 have w0_11:WT Tryz.prog 23 (xs0.getD 11 (.b false)):=by
  obtain ⟨x,hx,hw⟩:=xw0 11 23 (by rw[lv29];rfl)
  rw[List.getD_eq_getElem?_getD,hx]
  exact hw
 have k1:=h1
 have lt1:∀ x∈p1,x.block<W.heap.size:=by obtain ⟨m,hm⟩:=k1;exact DataW.trod_lt m _ _ _ hm
 obtain ⟨xs1,xl1,xw1,ra1⟩:=Xlw good (t:=29) (by decide) (hval 1 29 v1 rfl rfl) h1
 have w1_0:WT Tryz.prog 22 (xs1.getD 0 (.b false)):=by
  obtain ⟨x,hx,hw⟩:=xw1 0 22 (by rw[lv29];rfl)
  rw[List.getD_eq_getElem?_getD,hx]
  exact hw
 have w1_3:WT Tryz.prog 23 (xs1.getD 3 (.b false)):=by
  obtain ⟨x,hx,hw⟩:=xw1 3 23 (by rw[lv29];rfl)
  rw[List.getD_eq_getElem?_getD,hx]
  exact hw
 have w1_6:WT Tryz.prog 23 (xs1.getD 6 (.b false)):=by
  obtain ⟨x,hx,hw⟩:=xw1 6 23 (by rw[lv29];rfl)
  rw[List.getD_eq_getElem?_getD,hx]
  exact hw
 have w1_7:WT Tryz.prog 27 (xs1.getD 7 (.b false)):=by
  obtain ⟨x,hx,hw⟩:=xw1 7 27 (by rw[lv29];rfl)
  rw[List.getD_eq_getElem?_getD,hx]
  exact hw
 have w1_8:WT Tryz.prog 27 (xs1.getD 8 (.b false)):=by
  obtain ⟨x,hx,hw⟩:=xw1 8 27 (by rw[lv29];rfl)
  rw[List.getD_eq_getElem?_getD,hx]
  exact hw
 have w1_9:WT Tryz.prog 23 (xs1.getD 9 (.b false)):=by
  obtain ⟨x,hx,hw⟩:=xw1 9 23 (by rw[lv29];rfl)
  rw[List.getD_eq_getElem?_getD,hx]
  exact hw
 have w1_10:WT Tryz.prog 23 (xs1.getD 10 (.b false)):=by
  obtain ⟨x,hx,hw⟩:=xw1 10 23 (by rw[lv29];rfl)
  rw[List.getD_eq_getElem?_getD,hx]
  exact hw
 have w1_11:WT Tryz.prog 23 (xs1.getD 11 (.b false)):=by
  obtain ⟨x,hx,hw⟩:=xw1 11 23 (by rw[lv29];rfl)
  rw[List.getD_eq_getElem?_getD,hx]
  exact hw
 clear hA0 hval0
 obtain ⟨n,hn⟩:=ShowApart_sp (xs0.getD 0 (.b false)) (xs0.getD 1 (.b false)).int (xs0.getD 2 (.b false)).int (xs0.getD 3 (.b false)) (xs0.getD 4 (.b false)).int (xs0.getD 5 (.b false)).int (xs0.getD 6 (.b false)) (xs0.getD 7 (.b false)) (xs0.getD 8 (.b false)) (xs0.getD 9 (.b false)) (xs0.getD 10 (.b false)) (xs0.getD 11 (.b false)) (xs1.getD 0 (.b false)) (xs1.getD 1 (.b false)).int (xs1.getD 2 (.b false)).int (xs1.getD 3 (.b false)) (xs1.getD 4 (.b false)).int (xs1.getD 5 (.b false)).int (xs1.getD 6 (.b false)) (xs1.getD 7 (.b false)) (xs1.getD 8 (.b false)) (xs1.getD 9 (.b false)) (xs1.getD 10 (.b false)) (xs1.getD 11 (.b false)) w0_0 w0_3 w0_6 w0_7 w0_8 w0_9 w0_10 w0_11 w1_0 w1_3 w1_6 w1_7 w1_8 w1_9 w1_10 w1_11
 have hc:=hn n (Nat.le_refl n)
 have hr:call Tryz.prog PL FR EXT n 6 [loadT Tryz.prog 29 fun j=>xs0.getD j (.b false),loadT Tryz.prog 29 fun j=>xs1.getD j (.b false)] []=some (lookR [(0,.b true)]):=by
  have e:Xhj (K n) (xs0.getD 0 (.b false)) (xs0.getD 1 (.b false)).int (xs0.getD 2 (.b false)).int (xs0.getD 3 (.b false)) (xs0.getD 4 (.b false)).int (xs0.getD 5 (.b false)).int (xs0.getD 6 (.b false)) (xs0.getD 7 (.b false)) (xs0.getD 8 (.b false)) (xs0.getD 9 (.b false)) (xs0.getD 10 (.b false)) (xs0.getD 11 (.b false)) (xs1.getD 0 (.b false)) (xs1.getD 1 (.b false)).int (xs1.getD 2 (.b false)).int (xs1.getD 3 (.b false)) (xs1.getD 4 (.b false)).int (xs1.getD 5 (.b false)).int (xs1.getD 6 (.b false)) (xs1.getD 7 (.b false)) (xs1.getD 8 (.b false)) (xs1.getD 9 (.b false)) (xs1.getD 10 (.b false)) (xs1.getD 11 (.b false))=call Tryz.prog PL FR EXT n 6 [loadT Tryz.prog 29 fun j=>xs0.getD j (.b false),loadT Tryz.prog 29 fun j=>xs1.getD j (.b false)] []:=by kernel_rfl
  rw[←e];exact hc
 refine (Xsr mix Xsz Tryz.func6 hr (by kernel_rfl) rfl (vals:=#[v0,v1]) rfl (fun j x hj=>by
  match j,hj with
  | 0,hj=>obtain rfl:=Option.some.inj hj;exact ra0
  | 1,hj=>obtain rfl:=Option.some.inj hj;exact ra1
  | j+2,hj=>cases hj) (tabOf hL)).mono fun e W' ⟨he,bel⟩=> ?_
 subst he
 exact ⟨_,rfl,_,_,_,[],_,[],hW',trodAll_mk1 (shut_bool Tryz.underlying4 _),(trodAll_cons_mk (Below.trod laidOut (by kernel_rfl) (of_decide_eq_true (by kernel_rfl)) k0 bel lt0) (trodAll_cons_mk (Below.trod laidOut (by kernel_rfl) (of_decide_eq_true (by kernel_rfl)) k1 bel lt1) trodAll_mk0)),rfl,bel.frame _,fun h=>by cases h⟩
theorem over:Rows.showApartRow.holds Tryz.pinned (OpenSpec.ofChange Rows.showApartSpec):=
 OpenClaim.holds_of_wide 6 Tryz.f6 rfl rfl rfl rfl rfl rfl rfl ⟨rfl,rfl,rfl,rfl,rfl⟩ rfl rfl rfl rfl rfl (by kernel_rfl) Tryz.func6 (by kernel_rfl)
  (of_decide_eq_true (by kernel_rfl)) (by unfold Func.isWrapper;first|(rw[if_pos (by decide +kernel)];kernel_rfl)|(rw[if_neg (by decide +kernel)];exact ⟨rfl,rfl⟩))
  (fun os started H enc _=>lifted os started H enc)
theorem card:Rows.ShowApartCardSaid:=
 Claim7.holds_tied_plain_at .later [] [.data,.data,.data] true (true, "61fc6daca209267d6cc1372209749c17597d01da54ebeedfa15ea6842b6da6e0") false over (fun _ h=>by cases h) (by kernel_rfl) (fun _ h=>by cases h) showApart_row_tie rfl ⟨rfl,rfl⟩ (by kernel_rfl) rfl
  (fun f fn hf hfn=>by
   obtain rfl:f=6:=Option.some.inj ((show Tryz.prog.funcNamed "parry/parrylaw7.ShowApart" =some 6 by kernel_rfl).symm.trans hf) |>.symm
   obtain rfl:fn=Tryz.f6:=(Option.some.inj (Tryz.func6.symm.trans hfn)).symm
   refine ⟨by kernel_rfl,fun j t ht=> ?_⟩
   rw[Tryz.params6] at ht
   match j,ht with
   | 0,ht=>obtain rfl:=Option.some.inj ht;exact (show Tryz.prog.wantsStandIn 29=false by kernel_rfl)
   | 1,ht=>obtain rfl:=Option.some.inj ht;exact (show Tryz.prog.wantsStandIn 29=false by kernel_rfl)
   | j+2,ht=>simp at ht)
  (by kernel_rfl)
#print axioms card
end Go.Proofs.YtpjedhbfkfobcaaGreatDoor.showApart
namespace Go.Proofs.YtpjedhbfkfobcaaGreatDoor
theorem showApart_holds:Rows.ShowApartCardSaid:=showApart.card
end Go.Proofs.YtpjedhbfkfobcaaGreatDoor
