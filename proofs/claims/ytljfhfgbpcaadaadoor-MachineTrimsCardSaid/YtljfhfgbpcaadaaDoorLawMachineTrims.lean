/- The law MachineTrims: whatever it is called with, it answers true, and its arguments read as they did. -/
import Derived.Test.YtljfhfgbpcaadaaDoorRows
import Derived.Test.YtljfhfgbpcaadaaDoorCards
import Derived.Test.YtljfhfgbpcaadaaDoorTie
import Derived.Test.YtljfhfgbpcaadaaDoorTr4
import Derived.Test.YtljfhfgbpcaadaaDoorTop0
import Derived.Test.YtljfhfgbpcaadaaDoorExB
import Derived.WalkKit
import Derived.ProofKit
import Derived.OpenShut
import Derived.ChangeOld
import Derived.Below
import Derived.SizedLaws
import Derived.LaidMore
import Derived.SevenTiedAt
import Derived.Stop.Joined
namespace Go.Proofs.YtljfhfgbpcaadaaDoor.machineTrims
open Go.ChangeShapes Go.WideShapes Go.ChangeAt Go.RowKit Go.AM
set_option linter.unusedVariables false
theorem own : ownKnob Tryd.prog.godebug = none := by kernel_rfl
theorem laidOut : laidOutB Tryd.prog = true := by kernel_rfl
theorem mix : Tryd.prog.follows .mixedOrders = true := by kernel_rfl
def ts : List TypeId := [24, 3, 22, 34, 25, 4]
theorem good : tyGood Tryd.prog ts = true := by kernel_rfl
theorem lv24 : lv Tryd.prog 24 = [3, 22, 22] := by kernel_rfl
theorem lv25 : lv Tryd.prog 25 = [25] := by kernel_rfl
theorem tabOf {W : World} (h : laidMetH Tryd.prog Rows.machineTrimsRow.laid W) : ∀ g, Tryd.prog.globalNamed "internal/strconv.uint64pow10" = some g → g < W.heap.size ∧ Lib.TabIs Tryd.prog W "internal/strconv.uint64pow10" .u64 Lib.pow10Tab := by
  rw [MakeChecks.laidMetH_plain _ _ _ (by kernel_rfl)] at h
  obtain ⟨ps, ⟨_, _, _, _, _, _, _, _, _, _, ⟨_, _, _, _, _, _, _, _, _, _, ⟨g', t', cs, fuel, p, q, hg', ht', hvar, hd, _, _⟩, _⟩, _⟩, _, _⟩ := h
  have ty : ((Tryd.prog.globalNamed "internal/strconv.uint64pow10").bind fun g => (Tryd.prog.globals[g]?).map (·.type)) = some 103 := by kernel_rfl
  rw [hg', Option.bind_some, ht'] at ty
  obtain rfl : t' = 103 := Option.some.inj ty
  have hcs := Lib.cells_of_tab (zs := Lib.pow10Tab) (k := .u64) Tryd.underlying103 Tryd.underlying84 (by kernel_rfl) (by kernel_rfl) hd
  have htab : Lib.TabIs Tryd.prog W "internal/strconv.uint64pow10" .u64 Lib.pow10Tab := by
    unfold Lib.TabIs
    rw [hvar, ← hcs]
  intro g hg
  refine ⟨?_, htab⟩
  unfold World.var? at hvar
  rw [hg, Option.bind_some] at hvar
  rcases Nat.lt_or_ge g W.heap.size with h1 | h1
  · exact h1
  · rw [Array.getElem?_eq_none h1] at hvar
    cases hvar
theorem doorMet (os : Os) (args : Array Value) : laidMetH Tryd.prog Rows.machineTrimsRow.laid ((World.doorLaid Tryd.prog 34 os).forCall (fun _ _ => 0) ⟨#[], args, []⟩).memory :=
  laidMetH_of_parts3 (fuel := 8) (laidMet_of_run' 8 (by kernel_rfl) (by kernel_rfl)) (by kernel_rfl) (by kernel_rfl)
set_option maxRecDepth 100000 in
theorem lifted (os : Os) (started : os.Started) (H : Type) (enc : TypeId × Value → H) :
    ReturnsInHanded {} Tryd.checked os 3 .any (fun w args => (Rows.machineTrimsSpec.pre enc Tryd.prog Tryd.f3 [] false w args ∧ laidMetH Tryd.prog Rows.machineTrimsRow.laid w) ∧ sizedMet enc Tryd.prog Tryd.f3 (OpenSpec.ofChange Rows.machineTrimsSpec) false w args)
      (Rows.machineTrimsSpec.post enc Tryd.prog Tryd.f3 false true false false) := by
  refine returnsInHanded_of_change_and (C := Tryd.checked) (X := fun w _ => laidMetH Tryd.prog Rows.machineTrimsRow.laid w) (fun _ _ _ hh h => h.of_heap hh) own started (by kernel_rfl) Tryd.func3
    (ChangeSpec.witness_shaped (enc := enc) (C := Tryd.checked) (os := os) (X := fun w _ => laidMetH Tryd.prog Rows.machineTrimsRow.laid w) false (World.doorLaid Tryd.prog 34 os) #[.agg #[.int .i64 0, .slice none 0 0, .slice none 0 0], .slice none 0 0] 8 rfl (World.shaped_of_RefB (by kernel_rfl) (by kernel_rfl)) (by kernel_rfl) (by kernel_rfl) (by kernel_rfl) (doorMet os _)) ?_
  intro W base args ds gs before hval0 hW _ _ hL _
  have hval : ∀ (j : Nat) t v, Tryd.f3.params[j]? = some t → args[j]? = some v → Value.okWide Tryd.prog W .any base t v := hval0
  have hW' := hW
  obtain ⟨p, q, hA0, hV, rfl, hfz, hnd⟩ := hW
  have hA : DataW.TrodAll enc Tryd.prog W 0 (fun _ => true) true Tryd.f3.params.toList args.toList ds p := hA0
  rw [Tryd.params3] at hA hval
  obtain ⟨v0, vs0, d0, ds0, p0, q0, hargs, rfl, rfl, h0, r0⟩ := trodAll_cons hA
  obtain ⟨v1, vs1, d1, ds1, p1, q1, rfl, rfl, rfl, h1, r1⟩ := trodAll_cons r0
  obtain ⟨rfl, rfl, rfl⟩ := trodAll_nil r1
  obtain rfl : args = #[v0, v1] := by cases args; simp_all
  obtain ⟨rfl, rfl⟩ := trodVars_none hV
  have k0 := h0
  have lt0 : ∀ x ∈ p0, x.block < W.heap.size := by obtain ⟨m, hm⟩ := k0; exact DataW.trod_lt m _ _ _ hm
  obtain ⟨xs0, xl0, xw0, ra0⟩ := arg_rel good (t := 24) (by decide) (hval 0 24 v0 rfl rfl) h0
  have w0_1 : WT Tryd.prog 22 (xs0.getD 1 (.b false)) := by
    obtain ⟨x, hx, hw⟩ := xw0 1 22 (by rw [lv24]; rfl)
    rw [List.getD_eq_getElem?_getD, hx]
    exact hw
  have w0_2 : WT Tryd.prog 22 (xs0.getD 2 (.b false)) := by
    obtain ⟨x, hx, hw⟩ := xw0 2 22 (by rw [lv24]; rfl)
    rw [List.getD_eq_getElem?_getD, hx]
    exact hw
  have k1 := h1
  have lt1 : ∀ x ∈ p1, x.block < W.heap.size := by obtain ⟨m, hm⟩ := k1; exact DataW.trod_lt m _ _ _ hm
  obtain ⟨xs1, xl1, xw1, ra1⟩ := arg_rel good (t := 25) (by decide) (hval 1 25 v1 rfl rfl) h1
  have w1_0 : WT Tryd.prog 25 (xs1.getD 0 (.b false)) := by
    obtain ⟨x, hx, hw⟩ := xw1 0 25 (by rw [lv25]; rfl)
    rw [List.getD_eq_getElem?_getD, hx]
    exact hw
  clear hA0 hval0
  obtain ⟨n, hn⟩ := MachineTrims_sp (xs0.getD 0 (.b false)).int (xs0.getD 1 (.b false)) (xs0.getD 2 (.b false)) (xs1.getD 0 (.b false)) w0_1 w0_2 w1_0
  have hc := hn n (Nat.le_refl n)
  have hr : call Tryd.prog PL FR EXT n 3 [loadT Tryd.prog 24 fun j => xs0.getD j (.b false), loadT Tryd.prog 25 fun j => xs1.getD j (.b false)] [] = some (lookR [(0, .b true)]) := by
    have e : C_parrylaw25_MachineTrims (K n) (xs0.getD 0 (.b false)).int (xs0.getD 1 (.b false)) (xs0.getD 2 (.b false)) (xs1.getD 0 (.b false)) = call Tryd.prog PL FR EXT n 3 [loadT Tryd.prog 24 fun j => xs0.getD j (.b false), loadT Tryd.prog 25 fun j => xs1.getD j (.b false)] [] := by kernel_rfl
    rw [← e]; exact hc
  refine (law_calls mix ext_sound Tryd.func3 hr (by kernel_rfl) rfl (vals := #[v0, v1]) rfl (fun j x hj => by
    match j, hj with
    | 0, hj => obtain rfl := Option.some.inj hj; exact ra0
    | 1, hj => obtain rfl := Option.some.inj hj; exact ra1
    | j + 2, hj => cases hj) (tabOf hL)).mono fun e W' ⟨he, bel⟩ => ?_
  subst he
  exact ⟨_, rfl, _, _, _, [], _, [], hW', trodAll_mk1 (shut_bool Tryd.underlying4 _), (trodAll_cons_mk (Below.trod laidOut (by kernel_rfl) (of_decide_eq_true (by kernel_rfl)) k0 bel lt0) (trodAll_cons_mk (Below.trod laidOut (by kernel_rfl) (of_decide_eq_true (by kernel_rfl)) k1 bel lt1) trodAll_mk0)), rfl, bel.frame _, fun h => by cases h⟩
theorem over : Rows.machineTrimsRow.holds Tryd.pinned (OpenSpec.ofChange Rows.machineTrimsSpec) :=
  OpenClaim.holds_of_wide 3 Tryd.f3 rfl rfl rfl rfl rfl rfl rfl ⟨rfl, rfl, rfl, rfl, rfl⟩ rfl rfl rfl rfl rfl (by kernel_rfl) Tryd.func3 (by kernel_rfl)
    (of_decide_eq_true (by kernel_rfl)) (by unfold Func.isWrapper; first | (rw [if_pos (by decide +kernel)]; kernel_rfl) | (rw [if_neg (by decide +kernel)]; exact ⟨rfl, rfl⟩))
    (fun os started H enc _ => lifted os started H enc)
theorem card : Rows.MachineTrimsCardSaid :=
  Claim7.holds_tied_plain_at .later [] [.data, .data, .data] true (true, "e027a0b86217e035f0fabda6e25c780a5a41f9c157629443acb7983c02555d9e") false over (fun _ h => by cases h) (by kernel_rfl) (fun _ h => by cases h) machineTrims_row_tie rfl ⟨rfl, rfl⟩ (by kernel_rfl) rfl
    (fun f fn hf hfn => by
      obtain rfl : f = 3 := Option.some.inj ((show Tryd.prog.funcNamed "parry/parrylaw25.MachineTrims" = some 3 by kernel_rfl).symm.trans hf) |>.symm
      obtain rfl : fn = Tryd.f3 := (Option.some.inj (Tryd.func3.symm.trans hfn)).symm
      refine ⟨by kernel_rfl, fun j t ht => ?_⟩
      rw [Tryd.params3] at ht
      match j, ht with
      | 0, ht => obtain rfl := Option.some.inj ht; exact (show Tryd.prog.wantsStandIn 24 = false by kernel_rfl)
      | 1, ht => obtain rfl := Option.some.inj ht; exact (show Tryd.prog.wantsStandIn 25 = false by kernel_rfl)
      | j + 2, ht => simp at ht)
    (by kernel_rfl)
#print axioms card
end Go.Proofs.YtljfhfgbpcaadaaDoor.machineTrims
namespace Go.Proofs.YtljfhfgbpcaadaaDoor
theorem machineTrims_holds : Rows.MachineTrimsCardSaid := machineTrims.card
end Go.Proofs.YtljfhfgbpcaadaaDoor
