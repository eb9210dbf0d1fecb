/- The law EvalForms: whatever it is called with, it answers true, and its arguments read as they did. -/
import Derived.Test.YtfejbgnbganolaaRows
import Derived.Test.YtfejbgnbganolaaLa28
import Derived.Test.YtfejbgnbganolaaTop0
import Derived.Test.YtfejbgnbganolaaEx1
import Derived.WalkKit
import Derived.ProofKit
import Derived.OpenShut
import Derived.ChangeOld
import Derived.Below
import Derived.SizedLaws
namespace Go.Proofs.Ytfejbgnbganolaa.evalForms
open Go.ChangeShapes Go.WideShapes Go.ChangeAt Go.RowKit Go.AM
set_option linter.unusedVariables false
theorem own : ownKnob Try.prog.godebug = none := by kernel_rfl
theorem laidOut : laidOutB Try.prog = true := by kernel_rfl
theorem mix : Try.prog.follows .mixedOrders = true := by kernel_rfl
def ts : List TypeId := [36, 61, 9, 4, 3, 30, 28]
theorem good : tyGood Try.prog ts = true := by kernel_rfl
theorem lv3 : lv Try.prog 3 = [3] := by kernel_rfl
theorem lv30 : lv Try.prog 30 = [3, 3, 28] := by kernel_rfl
theorem lv36 : lv Try.prog 36 = [36] := by kernel_rfl
set_option maxRecDepth 100000 in
theorem lifted (os : Os) (started : os.Started) (H : Type) (enc : TypeId × Value → H) :
    ReturnsInHanded {} Try.checked os 17 .any (Rows.evalFormsSpec.pre6 enc Try.prog Try.f17 Rows.evalFormsRow.domain false) (Rows.evalFormsSpec.post enc Try.prog Try.f17 false true false false) := by
  refine returnsInHanded_of_change_sized (C := Try.checked) own started (by kernel_rfl) Try.func17
    (ChangeSpec.witness6 (enc := enc) (C := Try.checked) false ⟨#[], #[.slice none 0 0, .agg #[.int .i64 0, .int .i64 0, .slice none 0 0], .int .i64 0, .int .i64 0], []⟩ 8 (by kernel_rfl) (by kernel_rfl) (by kernel_rfl) (by kernel_rfl)) ?_
  intro W base args ds gs before hval0 hW hcnd hsz0 _
  have hval : ∀ (j : Nat) t v, Try.f17.params[j]? = some t → args[j]? = some v → Value.okWide Try.prog W .any base t v := hval0
  have hW' := hW
  obtain ⟨p, q, hA0, hV, rfl, hfz, hnd⟩ := hW
  have hA : DataW.TrodAll enc Try.prog W 0 (fun _ => true) true Try.f17.params.toList args.toList ds p := hA0
  rw [Try.params17] at hA hval
  obtain ⟨v0, vs0, d0, ds0, p0, q0, hargs, rfl, rfl, h0, r0⟩ := trodAll_cons hA
  obtain ⟨v1, vs1, d1, ds1, p1, q1, rfl, rfl, rfl, h1, r1⟩ := trodAll_cons r0
  obtain ⟨v2, vs2, d2, ds2, p2, q2, rfl, rfl, rfl, h2, r2⟩ := trodAll_cons r1
  obtain ⟨v3, vs3, d3, ds3, p3, q3, rfl, rfl, rfl, h3, r3⟩ := trodAll_cons r2
  obtain ⟨rfl, rfl, rfl⟩ := trodAll_nil r3
  obtain rfl : args = #[v0, v1, v2, v3] := by cases args; simp_all
  obtain ⟨rfl, rfl⟩ := trodVars_none hV
  have k0 := h0
  have lt0 : ∀ x ∈ p0, x.block < W.heap.size := by obtain ⟨m, hm⟩ := k0; exact DataW.trod_lt m _ _ _ hm
  obtain ⟨xs0, xl0, xw0, ra0⟩ := arg_rel good (t := 36) (by decide) (hval 0 36 v0 rfl rfl) h0
  have w0_0 : WT Try.prog 36 (xs0.getD 0 (.b false)) := by
    obtain ⟨x, hx, hw⟩ := xw0 0 36 (by rw [lv36]; rfl)
    rw [List.getD_eq_getElem?_getD, hx]
    exact hw
  have k1 := h1
  have lt1 : ∀ x ∈ p1, x.block < W.heap.size := by obtain ⟨m, hm⟩ := k1; exact DataW.trod_lt m _ _ _ hm
  obtain ⟨xs1, xl1, xw1, ra1⟩ := arg_rel good (t := 30) (by decide) (hval 1 30 v1 rfl rfl) h1
  have w1_2 : WT Try.prog 28 (xs1.getD 2 (.b false)) := by
    obtain ⟨x, hx, hw⟩ := xw1 2 28 (by rw [lv30]; rfl)
    rw [List.getD_eq_getElem?_getD, hx]
    exact hw
  have k2 := h2
  have lt2 : ∀ x ∈ p2, x.block < W.heap.size := by obtain ⟨m, hm⟩ := k2; exact DataW.trod_lt m _ _ _ hm
  obtain ⟨xs2, xl2, xw2, ra2⟩ := arg_rel good (t := 3) (by decide) (hval 2 3 v2 rfl rfl) h2
  have k3 := h3
  have lt3 : ∀ x ∈ p3, x.block < W.heap.size := by obtain ⟨m, hm⟩ := k3; exact DataW.trod_lt m _ _ _ hm
  obtain ⟨xs3, xl3, xw3, ra3⟩ := arg_rel good (t := 3) (by decide) (hval 3 3 v3 rfl rfl) h3
  clear hA0 hval0 hsz0
  obtain ⟨n, hn⟩ := EvalForms_sp (xs0.getD 0 (.b false)) (xs1.getD 0 (.b false)).int (xs1.getD 1 (.b false)).int (xs1.getD 2 (.b false)) (xs2.getD 0 (.b false)).int (xs3.getD 0 (.b false)).int w0_0 w1_2
  have hc := hn n (Nat.le_refl n)
  have hr : call Try.prog PL FR EXT n 17 [loadT Try.prog 36 fun j => xs0.getD j (.b false), loadT Try.prog 30 fun j => xs1.getD j (.b false), loadT Try.prog 3 fun j => xs2.getD j (.b false), loadT Try.prog 3 fun j => xs3.getD j (.b false)] [] = some (lookR [(0, .b true)]) := by
    have e : C_parrylaw4_EvalForms (K n) (xs0.getD 0 (.b false)) (xs1.getD 0 (.b false)).int (xs1.getD 1 (.b false)).int (xs1.getD 2 (.b false)) (xs2.getD 0 (.b false)).int (xs3.getD 0 (.b false)).int = call Try.prog PL FR EXT n 17 [loadT Try.prog 36 fun j => xs0.getD j (.b false), loadT Try.prog 30 fun j => xs1.getD j (.b false), loadT Try.prog 3 fun j => xs2.getD j (.b false), loadT Try.prog 3 fun j => xs3.getD j (.b false)] [] := by kernel_rfl
    rw [← e]; exact hc
  refine (law_calls mix ext_sound Try.func17 hr (by kernel_rfl) rfl (vals := #[v0, v1, v2, v3]) rfl (fun j x hj => by
    match j, hj with
    | 0, hj => obtain rfl := Option.some.inj hj; exact ra0
    | 1, hj => obtain rfl := Option.some.inj hj; exact ra1
    | 2, hj => obtain rfl := Option.some.inj hj; exact ra2
    | 3, hj => obtain rfl := Option.some.inj hj; exact ra3
    | j + 4, hj => cases hj)).mono fun e W' ⟨he, bel⟩ => ?_
  subst he
  exact ⟨_, rfl, _, _, _, [], _, [], hW', trodAll_mk1 (shut_bool Try.underlying4 _), (trodAll_cons_mk (Below.trod laidOut (by kernel_rfl) (of_decide_eq_true (by kernel_rfl)) k0 bel lt0) (trodAll_cons_mk (Below.trod laidOut (by kernel_rfl) (of_decide_eq_true (by kernel_rfl)) k1 bel lt1) (trodAll_cons_mk (Below.trod laidOut (by kernel_rfl) (of_decide_eq_true (by kernel_rfl)) k2 bel lt2) (trodAll_cons_mk (Below.trod laidOut (by kernel_rfl) (of_decide_eq_true (by kernel_rfl)) k3 bel lt3) trodAll_mk0)))), rfl, bel.frame _, fun h => by cases h⟩
theorem over : Rows.evalFormsRow.holds Try.pinned (OpenSpec.ofChange Rows.evalFormsSpec) :=
  OpenClaim.holds_of_wide 17 Try.f17 rfl rfl rfl rfl rfl rfl rfl ⟨rfl, rfl, rfl, rfl, rfl⟩ rfl rfl rfl rfl rfl (by kernel_rfl) Try.func17 (by kernel_rfl)
    (of_decide_eq_true (by kernel_rfl)) (by unfold Func.isWrapper; first | (rw [if_pos (by decide +kernel)]; kernel_rfl) | (rw [if_neg (by decide +kernel)]; exact ⟨rfl, rfl⟩))
    (fun os started H enc _ => lifted os started H enc)
theorem proved : Rows.EvalFormsSaid := over
#print axioms proved
end Go.Proofs.Ytfejbgnbganolaa.evalForms
namespace Go.Proofs.Ytfejbgnbganolaa
/-- The row, under a short name, for the claim. -/
theorem evalForms_holds : Rows.EvalFormsSaid := evalForms.proved
end Go.Proofs.Ytfejbgnbganolaa
