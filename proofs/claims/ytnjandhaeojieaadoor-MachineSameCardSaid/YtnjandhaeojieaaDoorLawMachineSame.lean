/- The law MachineSame: whatever it is called with, it answers true, and its arguments read as they did. -/
import Derived.Test.YtnjandhaeojieaaDoorRows
import Derived.Test.YtnjandhaeojieaaDoorCards
import Derived.Test.YtnjandhaeojieaaDoorTie
import Derived.Test.YtnjandhaeojieaaDoorMc5
import Derived.Test.YtnjandhaeojieaaDoorTop0
import Derived.Test.YtnjandhaeojieaaDoorTopW
import Derived.Test.YtnjandhaeojieaaDoorExD
import Derived.WalkKit
import Derived.ProofKit
import Derived.OpenShut
import Derived.ChangeOld
import Derived.Below
import Derived.SizedLaws
import Derived.LaidMore
import Derived.SevenTiedAt
import Derived.Stop.Joined
namespace Go.Proofs.YtnjandhaeojieaaDoor.machineSame
open Go.ChangeShapes Go.WideShapes Go.ChangeAt Go.RowKit Go.AM
set_option linter.unusedVariables false
theorem own : ownKnob Tryd.prog.godebug = none := by kernel_rfl
theorem laidOut : laidOutB Tryd.prog = true := by kernel_rfl
theorem mix : Tryd.prog.follows .mixedOrders = true := by kernel_rfl
def ts : List TypeId := [24, 3, 22, 36, 4]
theorem good : tyGood Tryd.prog ts = true := by kernel_rfl
theorem lv3 : lv Tryd.prog 3 = [3] := by kernel_rfl
theorem lv24 : lv Tryd.prog 24 = [3, 22, 22] := by kernel_rfl
theorem tabOf {W : World} (h : laidMetH Tryd.prog Rows.machineSameRow.laid W) : ∀ g, Tryd.prog.globalNamed "internal/strconv.uint64pow10" = some g → g < W.heap.size ∧ Lib.TabIs Tryd.prog W "internal/strconv.uint64pow10" .u64 Lib.pow10Tab := by
  rw [MakeChecks.laidMetH_plain _ _ _ (by kernel_rfl)] at h
  obtain ⟨ps, ⟨_, _, _, _, _, _, _, _, _, _, ⟨_, _, _, _, _, _, _, _, _, _, ⟨g', t', cs, fuel, p, q, hg', ht', hvar, hd, _, _⟩, _⟩, _⟩, _, _⟩ := h
  have ty : ((Tryd.prog.globalNamed "internal/strconv.uint64pow10").bind fun g => (Tryd.prog.globals[g]?).map (·.type)) = some 119 := by kernel_rfl
  rw [hg', Option.bind_some, ht'] at ty
  obtain rfl : t' = 119 := Option.some.inj ty
  have hcs := Lib.cells_of_tab (zs := Lib.pow10Tab) (k := .u64) Tryd.underlying119 Tryd.underlying28 (by kernel_rfl) (by kernel_rfl) hd
  have htab : Lib.TabIs Tryd.prog W "internal/strconv.uint64pow10" .u64 Lib.pow10Tab := by
    unfold Lib.TabIs
    rw [hvar, ← hcs]
  intro g hg
  refine ⟨?_, htab⟩
  unfold World.var? at hvar
  rw [hg, Option.bind_some] at hvar
  rcases Nat.lt_or_ge g W.heap.size with h1 | h1
  · exact h1
  · rw [Array.getElem?_eq_none h1] at hvar
    cases hvar
theorem doorMet (os : Os) (args : Array Value) : laidMetH Tryd.prog Rows.machineSameRow.laid ((World.doorLaid Tryd.prog 34 os).forCall (fun _ _ => 0) ⟨#[], args, []⟩).memory :=
  laidMetH_of_parts3 (fuel := 8) (laidMet_of_run' 8 (by kernel_rfl) (by kernel_rfl)) (by kernel_rfl) (by kernel_rfl)
set_option maxRecDepth 100000 in
theorem lifted (os : Os) (started : os.Started) (H : Type) (enc : TypeId × Value → H) :
    ReturnsInHanded {} Tryd.checked os 4 .any (fun w args => (Rows.machineSameSpec.pre enc Tryd.prog Tryd.f4 [] false w args ∧ laidMetH Tryd.prog Rows.machineSameRow.laid w) ∧ sizedMet enc Tryd.prog Tryd.f4 (OpenSpec.ofChange Rows.machineSameSpec) false w args)
      (Rows.machineSameSpec.post enc Tryd.prog Tryd.f4 false true false false) := by
  refine returnsInHanded_of_change_and (C := Tryd.checked) (X := fun w _ => laidMetH Tryd.prog Rows.machineSameRow.laid w) (fun _ _ _ hh h => h.of_heap hh) own started (by kernel_rfl) Tryd.func4
    (ChangeSpec.witness_shaped (enc := enc) (C := Tryd.checked) (os := os) (X := fun w _ => laidMetH Tryd.prog Rows.machineSameRow.laid w) false (World.doorLaid Tryd.prog 34 os) #[.agg #[.int .i64 0, .slice none 0 0, .slice none 0 0], .int .i64 0, .int .i64 0] 8 rfl (World.shaped_of_RefB (by kernel_rfl) (by kernel_rfl)) (by kernel_rfl) (by kernel_rfl) (by kernel_rfl) (doorMet os _)) ?_
  intro W base args ds gs before hval0 hW _ hsz hL _
  have hval : ∀ (j : Nat) t v, Tryd.f4.params[j]? = some t → args[j]? = some v → Value.okWide Tryd.prog W .any base t v := hval0
  have hW' := hW
  obtain ⟨p, q, hA0, hV, rfl, hfz, hnd⟩ := hW
  have hA : DataW.TrodAll enc Tryd.prog W 0 (fun _ => true) true Tryd.f4.params.toList args.toList ds p := hA0
  rw [Tryd.params4] at hA hval
  obtain ⟨v0, vs0, d0, ds0, p0, q0, hargs, rfl, rfl, h0, r0⟩ := trodAll_cons hA
  obtain ⟨v1, vs1, d1, ds1, p1, q1, rfl, rfl, rfl, h1, r1⟩ := trodAll_cons r0
  obtain ⟨v2, vs2, d2, ds2, p2, q2, rfl, rfl, rfl, h2, r2⟩ := trodAll_cons r1
  obtain ⟨rfl, rfl, rfl⟩ := trodAll_nil r2
  obtain rfl : args = #[v0, v1, v2] := by cases args; simp_all
  obtain ⟨rfl, rfl⟩ := trodVars_none hV
  have k0 := h0
  have lt0 : ∀ x ∈ p0, x.block < W.heap.size := by obtain ⟨m, hm⟩ := k0; exact DataW.trod_lt m _ _ _ hm
  obtain ⟨xs0, xl0, xw0, ra0⟩ := arg_rel good (t := 24) (by decide) (hval 0 24 v0 rfl rfl) h0
  have w0_1 : WT Tryd.prog 22 (xs0.getD 1 (.b false)) := by
    obtain ⟨x, hx, hw⟩ := xw0 1 22 (by rw [lv24]; rfl)
    rw [List.getD_eq_getElem?_getD, hx]
    exact hw
  have w0_2 : WT Tryd.prog 22 (xs0.getD 2 (.b false)) := by
    obtain ⟨x, hx, hw⟩ := xw0 2 22 (by rw [lv24]; rfl)
    rw [List.getD_eq_getElem?_getD, hx]
    exact hw
  have k1 := h1
  have lt1 : ∀ x ∈ p1, x.block < W.heap.size := by obtain ⟨m, hm⟩ := k1; exact DataW.trod_lt m _ _ _ hm
  obtain ⟨xs1, xl1, xw1, ra1⟩ := arg_rel good (t := 3) (by decide) (hval 1 3 v1 rfl rfl) h1
  have k2 := h2
  have lt2 : ∀ x ∈ p2, x.block < W.heap.size := by obtain ⟨m, hm⟩ := k2; exact DataW.trod_lt m _ _ _ hm
  obtain ⟨xs2, xl2, xw2, ra2⟩ := arg_rel good (t := 3) (by decide) (hval 2 3 v2 rfl rfl) h2
  have w2_0 : WT Tryd.prog 3 (xs2.getD 0 (.b false)) := by
    obtain ⟨x, hx, hw⟩ := xw2 0 3 (by rw [lv3]; rfl)
    rw [List.getD_eq_getElem?_getD, hx]
    exact hw
  have h32 : (xs0.getD 2 (.b false)).len * 32 ≤ 140737488351232 := by
    have hz : ∀ z ∈ d0.weights Tryd.prog 24, z ≤ reachBytes := fun z hz => by
      have := List.all_eq_true.1 hsz z (weights_in (i := 0) (t := 24) (d := d0) (by rw [Tryd.params4]; rfl) rfl z hz)
      exact of_decide_eq_true this
    have h := field_len (i := 2) Tryd.underlying24 k0 rfl (e := 36) Tryd.underlying22 (by kernel_rfl) ra0 (by kernel_rfl) (by rw [lv24]; rfl) hz
    rw [show Tryd.prog.bytesOf 36 = 32 by kernel_rfl] at h
    exact h
  clear hA0 hval0
  obtain ⟨n, hn⟩ := MachineSame_sp (xs0.getD 0 (.b false)).int (xs0.getD 1 (.b false)) (xs0.getD 2 (.b false)) (xs1.getD 0 (.b false)).int (xs2.getD 0 (.b false)).int w0_1 w0_2 (WT_int w2_0) h32
  have hc := hn n (Nat.le_refl n)
  have hr : call Tryd.prog PL FR EXT n 4 [loadT Tryd.prog 24 fun j => xs0.getD j (.b false), loadT Tryd.prog 3 fun j => xs1.getD j (.b false), loadT Tryd.prog 3 fun j => xs2.getD j (.b false)] [] = some (lookR [(0, .b true)]) := by
    have e : C_parrylaw25_MachineSame (K n) (xs0.getD 0 (.b false)).int (xs0.getD 1 (.b false)) (xs0.getD 2 (.b false)) (xs1.getD 0 (.b false)).int (xs2.getD 0 (.b false)).int = call Tryd.prog PL FR EXT n 4 [loadT Tryd.prog 24 fun j => xs0.getD j (.b false), loadT Tryd.prog 3 fun j => xs1.getD j (.b false), loadT Tryd.prog 3 fun j => xs2.getD j (.b false)] [] := by kernel_rfl
    rw [← e]; exact hc
  refine (law_calls mix ext_sound Tryd.func4 hr (by kernel_rfl) rfl (vals := #[v0, v1, v2]) rfl (fun j x hj => by
    match j, hj with
    | 0, hj => obtain rfl := Option.some.inj hj; exact ra0
    | 1, hj => obtain rfl := Option.some.inj hj; exact ra1
    | 2, hj => obtain rfl := Option.some.inj hj; exact ra2
    | j + 3, hj => cases hj) (tabOf hL)).mono fun e W' ⟨he, bel⟩ => ?_
  subst he
  exact ⟨_, rfl, _, _, _, [], _, [], hW', trodAll_mk1 (shut_bool Tryd.underlying4 _), (trodAll_cons_mk (Below.trod laidOut (by kernel_rfl) (of_decide_eq_true (by kernel_rfl)) k0 bel lt0) (trodAll_cons_mk (Below.trod laidOut (by kernel_rfl) (of_decide_eq_true (by kernel_rfl)) k1 bel lt1) (trodAll_cons_mk (Below.trod laidOut (by kernel_rfl) (of_decide_eq_true (by kernel_rfl)) k2 bel lt2) trodAll_mk0))), rfl, bel.frame _, fun h => by cases h⟩
theorem over : Rows.machineSameRow.holds Tryd.pinned (OpenSpec.ofChange Rows.machineSameSpec) :=
  OpenClaim.holds_of_wide 4 Tryd.f4 rfl rfl rfl rfl rfl rfl rfl ⟨rfl, rfl, rfl, rfl, rfl⟩ rfl rfl rfl rfl rfl (by kernel_rfl) Tryd.func4 (by kernel_rfl)
    (of_decide_eq_true (by kernel_rfl)) (by unfold Func.isWrapper; first | (rw [if_pos (by decide +kernel)]; kernel_rfl) | (rw [if_neg (by decide +kernel)]; exact ⟨rfl, rfl⟩))
    (fun os started H enc _ => lifted os started H enc)
theorem card : Rows.MachineSameCardSaid :=
  Claim7.holds_tied_plain_at .later [] [.data, .data, .data] true (true, "1e95d4d3decd9744a8ed95313241adf4b4f6c4e0e80e939577c876e3cf0e3695") false over (fun _ h => by cases h) (by kernel_rfl) (fun _ h => by cases h) machineSame_row_tie rfl ⟨rfl, rfl⟩ (by kernel_rfl) rfl
    (fun f fn hf hfn => by
      obtain rfl : f = 4 := Option.some.inj ((show Tryd.prog.funcNamed "parry/parrylaw25.MachineSame" = some 4 by kernel_rfl).symm.trans hf) |>.symm
      obtain rfl : fn = Tryd.f4 := (Option.some.inj (Tryd.func4.symm.trans hfn)).symm
      refine ⟨by kernel_rfl, fun j t ht => ?_⟩
      rw [Tryd.params4] at ht
      match j, ht with
      | 0, ht => obtain rfl := Option.some.inj ht; exact (show Tryd.prog.wantsStandIn 24 = false by kernel_rfl)
      | 1, ht => obtain rfl := Option.some.inj ht; exact (show Tryd.prog.wantsStandIn 3 = false by kernel_rfl)
      | 2, ht => obtain rfl := Option.some.inj ht; exact (show Tryd.prog.wantsStandIn 3 = false by kernel_rfl)
      | j + 3, ht => simp at ht)
    (by kernel_rfl)
#print axioms card
end Go.Proofs.YtnjandhaeojieaaDoor.machineSame
namespace Go.Proofs.YtnjandhaeojieaaDoor
theorem machineSame_holds : Rows.MachineSameCardSaid := machineSame.card
end Go.Proofs.YtnjandhaeojieaaDoor
