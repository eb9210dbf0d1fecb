/- The laws' own small values, and what every program must know. -/
import Derived.Test.YtfejbgnbganolaaSp7
set_option linter.unusedVariables false
set_option linter.unusedSimpArgs false
namespace Go.Proofs.Ytfejbgnbganolaa
open Go.AM

theorem bind_of {α β : Type} {x : Option α} {r : α} {f : α → Option β} {y : Option β} (h : x = some r) (k : f r = y) : x.bind f = y := by rw [h]; exact k
theorem if_of {α : Type} {c : Bool} {x y z : α} (h : c = true) (k : x = z) : (bif c then x else y) = z := by rw [h]; exact k
theorem if_not {α : Type} {c : Bool} {x y z : α} (h : c = false) (k : y = z) : (bif c then x else y) = z := by rw [h]; exact k
/-- Two numbers, as kids. -/
def num2 (a b : Int) : T := T.l 2 fun i j => (([[.i 1, .i a, noT], [.i 1, .i b, noT]] : List (List T)).getD (0 + i) []).getD j (.b false)
theorem KW_noT : KW noT := ⟨by omega, fun i hi => absurd hi (Nat.not_lt_zero _)⟩
theorem KW_two {a b c d : T} {p q : T} (h1 : KW p) (h2 : KW q) : KW (T.l 2 fun i j => (([[a, b, p], [c, d, q]] : List (List T)).getD (0 + i) []).getD j (.b false)) := by
  refine ⟨by omega, fun i hi => ?_⟩
  match i, hi with
  | 0, _ => exact h1
  | 1, _ => exact h2
theorem KW_num2 (a b : Int) : KW (num2 a b) := KW_two KW_noT KW_noT
theorem kidsOf_num2 (a b : Int) : kidsOf (num2 a b) = [.mk 1 a [], .mk 1 b []] := by simp only [num2, kidsOf]; rfl
theorem kidsOf_noT : kidsOf noT = [] := rfl
/-- Two, and the second variable. -/
def numVar : T := T.l 2 fun i j => (([[.i 1, .i 2, noT], [.i 3, .i 1, noT]] : List (List T)).getD (0 + i) []).getD j (.b false)
theorem KW_numVar : KW numVar := KW_two KW_noT KW_noT
theorem kidsOf_numVar : kidsOf numVar = [.mk 1 2 [], .mk 3 1 []] := by simp only [numVar, kidsOf]; rfl
/-- The laws' variables. -/
def xy : T := T.l 2 fun i j => (([[.s (ByteArray.mk #[120]), .b true, .i 1, .i 0, .i 0], [.s (ByteArray.mk #[121]), .b false, .i 2, .i 1, .i 3]] : List (List T)).getD (0 + i) []).getD j (.b false)
def xyV : List Va := [⟨⟨#[120]⟩, true, 1, 0, 0⟩, ⟨⟨#[121]⟩, false, 2, 1, 3⟩]
theorem varsOf_xy : varsOf xy = xyV := by rfl
theorem num_sp : Ev fun N => ∀ n, C_parrylaw4_num (K N) n = some (lookR [(0, .i 1), (1, .i n), (2, noT)]) :=
  Ev.step ⟨0, fun N _ n => C_parrylaw4_num_K N n⟩
theorem op_sp : Ev fun N => ∀ o k, C_parrylaw4_op (K N) o k = some (lookR [(0, .i o), (1, .i 0), (2, k)]) :=
  Ev.step ⟨0, fun N _ o k => C_parrylaw4_op_K N o k⟩
def xyR : R := lookR [(0, T.l 2 fun i j => (([[.s (ByteArray.mk #[120]), .b true, .i 1, .i 0, .i 0], [.s (ByteArray.mk #[121]), .b false, .i 2, .i 1, .i 3]] : List (List T)).getD i []).getD j (.b false))]
theorem vars_sp : Ev fun N => C_parrylaw4_vars (K N) = some xyR :=
  Ev.step ⟨0, fun N _ => C_parrylaw4_vars_K N⟩

theorem v1 : valueE xyV (.mk 12 0 [.mk 1 2 [], .mk 3 1 []]) 5 0 = (5, 0) := by decide +kernel
theorem v2 : valueE xyV (.mk 12 0 [.mk 1 1000 [], .mk 1 1 []]) 0 0 = (0, 6) := by decide +kernel
theorem v3 : trueE xyV (.mk 10 0 [.mk 1 1 [], .mk 1 2 []]) 0 0 = true := by decide +kernel
theorem awake_sp : Ev fun N => C_parrylaw4_awake (K N) = rb true := by
  have hl : xy.len ≤ 9223372036854775807 := by show 2 ≤ _; omega
  refine Ev.step (Ev.imp4 vars_sp num_sp op_sp (Ev.and (Value_sp xy hl numVar KW_numVar) (Ev.and (Value_sp xy hl (num2 1000 1) (KW_num2 ..)) (True_sp xy hl (num2 1 2) (KW_num2 ..)))) fun N h1 h2 h3 h4 => ?_)
  obtain ⟨h4, h5, h6⟩ := h4
  have e1 := h4 12 0 5 0
  have e2 := h5 12 0 0 0
  have e3 := h6 10 0 0 0
  rw [varsOf_xy, kidsOf_numVar, v1] at e1
  rw [varsOf_xy, kidsOf_num2, v2] at e2
  rw [varsOf_xy, kidsOf_num2, v3] at e3
  rw [C_parrylaw4_awake_K]
  refine bind_of h1 (bind_of (h2 _) (bind_of (h3 _ _) (bind_of e1 (bind_of h1 (bind_of (h2 _) (bind_of (h2 _) (bind_of (h3 _ _) (bind_of e2 ?_))))))))
  exact bind_of h1 (bind_of (h2 _) (bind_of (h2 _) (bind_of (h3 _ _) (bind_of e3 rfl))))
end Go.Proofs.Ytfejbgnbganolaa
