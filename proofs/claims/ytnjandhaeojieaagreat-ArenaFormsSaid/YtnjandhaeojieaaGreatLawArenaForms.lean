/- The law ArenaForms: whatever it is called with, it answers true, and its arguments read as they did. -/
import Derived.Test.YtnjandhaeojieaaGreatRows
import Derived.Test.YtnjandhaeojieaaGreatLa86
import Derived.Test.YtnjandhaeojieaaGreatTop0
import Derived.Test.YtnjandhaeojieaaGreatEx1
import Derived.WalkKit
import Derived.ProofKit
import Derived.OpenShut
import Derived.ChangeOld
import Derived.Below
import Derived.SizedLaws
namespace Go.Proofs.YtnjandhaeojieaaGreat.arenaForms
open Go.ChangeShapes Go.WideShapes Go.ChangeAt Go.RowKit Go.AM
set_option linter.unusedVariables false
theorem own:ownKnob Tryz.prog.godebug=none:=by kernel_rfl
theorem laidOut:laidOutB Tryz.prog=true:=by kernel_rfl
theorem mix:Tryz.prog.follows .mixedOrders=true:=by kernel_rfl
def ts:List TypeId:=[28,22,81,9,4,3,25,23,26,31,29,87]
theorem good:tyGood Tryz.prog ts=true:=by kernel_rfl
theorem lv25:lv Tryz.prog 25=[3,3,23]:=by kernel_rfl
theorem lv28:lv Tryz.prog 28=[22,3,3,23,3,3,23,26,26,23,23,23]:=by kernel_rfl
set_option maxRecDepth 100000 in
theorem lifted (os:Os)(started:os.Started)(H:Type)(enc:TypeId×Value→H):
  ReturnsInHanded {} Tryz.checked os 8 .any (Rows.arenaFormsSpec.pre6 enc Tryz.prog Tryz.f8 Rows.arenaFormsRow.domain false) (Rows.arenaFormsSpec.post enc Tryz.prog Tryz.f8 false true false false):=by
 refine returnsInHanded_of_change_sized (C:=Tryz.checked) own started (by kernel_rfl) Tryz.func8
  (ChangeSpec.witness6 (enc:=enc) (C:=Tryz.checked) false ⟨#[],#[.agg #[.slice none 0 0,.int .i64 0,.int .i64 0,.slice none 0 0,.int .i64 0,.int .i64 0,.slice none 0 0,.slice none 0 0,.slice none 0 0,.slice none 0 0,.slice none 0 0,.slice none 0 0],.agg #[.int .i64 0,.int .i64 0,.slice none 0 0]],[]⟩ 8 (by kernel_rfl) (by kernel_rfl) (by kernel_rfl) (by kernel_rfl)) ?_
 intro W base args ds gs before hval0 hW hcnd hsz0 _
 have hval:∀ (j:Nat) t v,Tryz.f8.params[j]? =some t→args[j]? =some v→Value.okWide Tryz.prog W .any base t v:=hval0
 have hW':=hW
 obtain ⟨p,q,hA0,hV,rfl,hfz,hnd⟩:=hW
 have hA:DataW.TrodAll enc Tryz.prog W 0 (fun _=>true) true Tryz.f8.params.toList args.toList ds p:=hA0
 rw[Tryz.params8] at hA hval
 obtain ⟨v0,vs0,d0,ds0,p0,q0,hargs,rfl,rfl,h0,r0⟩:=trodAll_cons hA
 obtain ⟨v1,vs1,d1,ds1,p1,q1,rfl,rfl,rfl,h1,r1⟩:=trodAll_cons r0
 obtain ⟨rfl,rfl,rfl⟩:=trodAll_nil r1
 obtain rfl:args=#[v0,v1]:=by cases args;simp_all
 obtain ⟨rfl,rfl⟩:=trodVars_none hV
 have k0:=h0
 have lt0:∀ x∈p0,x.block<W.heap.size:=by obtain ⟨m,hm⟩:=k0;exact DataW.trod_lt m _ _ _ hm
 obtain ⟨xs0,xl0,xw0,ra0⟩:=arg_rel good (t:=28) (by decide) (hval 0 28 v0 rfl rfl) h0
 have w0_0:WT Tryz.prog 22 (xs0.getD 0 (.b false)):=by
  obtain ⟨x,hx,hw⟩:=xw0 0 22 (by rw[lv28];rfl)
  rw[List.getD_eq_getElem?_getD,hx]
  exact hw
 have w0_3:WT Tryz.prog 23 (xs0.getD 3 (.b false)):=by
  obtain ⟨x,hx,hw⟩:=xw0 3 23 (by rw[lv28];rfl)
  rw[List.getD_eq_getElem?_getD,hx]
  exact hw
 have w0_6:WT Tryz.prog 23 (xs0.getD 6 (.b false)):=by
  obtain ⟨x,hx,hw⟩:=xw0 6 23 (by rw[lv28];rfl)
  rw[List.getD_eq_getElem?_getD,hx]
  exact hw
 have w0_7:WT Tryz.prog 26 (xs0.getD 7 (.b false)):=by
  obtain ⟨x,hx,hw⟩:=xw0 7 26 (by rw[lv28];rfl)
  rw[List.getD_eq_getElem?_getD,hx]
  exact hw
 have w0_8:WT Tryz.prog 26 (xs0.getD 8 (.b false)):=by
  obtain ⟨x,hx,hw⟩:=xw0 8 26 (by rw[lv28];rfl)
  rw[List.getD_eq_getElem?_getD,hx]
  exact hw
 have w0_9:WT Tryz.prog 23 (xs0.getD 9 (.b false)):=by
  obtain ⟨x,hx,hw⟩:=xw0 9 23 (by rw[lv28];rfl)
  rw[List.getD_eq_getElem?_getD,hx]
  exact hw
 have w0_10:WT Tryz.prog 23 (xs0.getD 10 (.b false)):=by
  obtain ⟨x,hx,hw⟩:=xw0 10 23 (by rw[lv28];rfl)
  rw[List.getD_eq_getElem?_getD,hx]
  exact hw
 have w0_11:WT Tryz.prog 23 (xs0.getD 11 (.b false)):=by
  obtain ⟨x,hx,hw⟩:=xw0 11 23 (by rw[lv28];rfl)
  rw[List.getD_eq_getElem?_getD,hx]
  exact hw
 have k1:=h1
 have lt1:∀ x∈p1,x.block<W.heap.size:=by obtain ⟨m,hm⟩:=k1;exact DataW.trod_lt m _ _ _ hm
 obtain ⟨xs1,xl1,xw1,ra1⟩:=arg_rel good (t:=25) (by decide) (hval 1 25 v1 rfl rfl) h1
 have w1_2:WT Tryz.prog 23 (xs1.getD 2 (.b false)):=by
  obtain ⟨x,hx,hw⟩:=xw1 2 23 (by rw[lv25];rfl)
  rw[List.getD_eq_getElem?_getD,hx]
  exact hw
 clear hA0 hval0 hsz0
 obtain ⟨n,hn⟩:=ArenaForms_sp (xs0.getD 0 (.b false)) (xs0.getD 1 (.b false)).int (xs0.getD 2 (.b false)).int (xs0.getD 3 (.b false)) (xs0.getD 4 (.b false)).int (xs0.getD 5 (.b false)).int (xs0.getD 6 (.b false)) (xs0.getD 7 (.b false)) (xs0.getD 8 (.b false)) (xs0.getD 9 (.b false)) (xs0.getD 10 (.b false)) (xs0.getD 11 (.b false)) (xs1.getD 0 (.b false)).int (xs1.getD 1 (.b false)).int (xs1.getD 2 (.b false)) w0_0 w0_3 w0_6 w0_7 w0_8 w0_9 w0_10 w0_11 w1_2
 have hc:=hn n (Nat.le_refl n)
 have hr:call Tryz.prog PL FR EXT n 8 [loadT Tryz.prog 28 fun j=>xs0.getD j (.b false),loadT Tryz.prog 25 fun j=>xs1.getD j (.b false)] []=some (lookR [(0,.b true)]):=by
  have e:Xgc (K n) (xs0.getD 0 (.b false)) (xs0.getD 1 (.b false)).int (xs0.getD 2 (.b false)).int (xs0.getD 3 (.b false)) (xs0.getD 4 (.b false)).int (xs0.getD 5 (.b false)).int (xs0.getD 6 (.b false)) (xs0.getD 7 (.b false)) (xs0.getD 8 (.b false)) (xs0.getD 9 (.b false)) (xs0.getD 10 (.b false)) (xs0.getD 11 (.b false)) (xs1.getD 0 (.b false)).int (xs1.getD 1 (.b false)).int (xs1.getD 2 (.b false))=call Tryz.prog PL FR EXT n 8 [loadT Tryz.prog 28 fun j=>xs0.getD j (.b false),loadT Tryz.prog 25 fun j=>xs1.getD j (.b false)] []:=by kernel_rfl
  rw[←e];exact hc
 refine (law_calls mix ext_sound Tryz.func8 hr (by kernel_rfl) rfl (vals:=#[v0,v1]) rfl (fun j x hj=>by
  match j,hj with
  | 0,hj=>obtain rfl:=Option.some.inj hj;exact ra0
  | 1,hj=>obtain rfl:=Option.some.inj hj;exact ra1
  | j+2,hj=>cases hj)).mono fun e W' ⟨he,bel⟩=> ?_
 subst he
 exact ⟨_,rfl,_,_,_,[],_,[],hW',trodAll_mk1 (shut_bool Tryz.underlying4 _),(trodAll_cons_mk (Below.trod laidOut (by kernel_rfl) (of_decide_eq_true (by kernel_rfl)) k0 bel lt0) (trodAll_cons_mk (Below.trod laidOut (by kernel_rfl) (of_decide_eq_true (by kernel_rfl)) k1 bel lt1) trodAll_mk0)),rfl,bel.frame _,fun h=>by cases h⟩
theorem over:Rows.arenaFormsRow.holds Tryz.pinned (OpenSpec.ofChange Rows.arenaFormsSpec):=
 OpenClaim.holds_of_wide 8 Tryz.f8 rfl rfl rfl rfl rfl rfl rfl ⟨rfl,rfl,rfl,rfl,rfl⟩ rfl rfl rfl rfl rfl (by kernel_rfl) Tryz.func8 (by kernel_rfl)
  (of_decide_eq_true (by kernel_rfl)) (by unfold Func.isWrapper;first|(rw[if_pos (by decide +kernel)];kernel_rfl)|(rw[if_neg (by decide +kernel)];exact ⟨rfl,rfl⟩))
  (fun os started H enc _=>lifted os started H enc)
theorem proved:Rows.ArenaFormsSaid:=over
#print axioms proved
end Go.Proofs.YtnjandhaeojieaaGreat.arenaForms
namespace Go.Proofs.YtnjandhaeojieaaGreat
theorem arenaForms_holds:Rows.ArenaFormsSaid:=arenaForms.proved
end Go.Proofs.YtnjandhaeojieaaGreat
