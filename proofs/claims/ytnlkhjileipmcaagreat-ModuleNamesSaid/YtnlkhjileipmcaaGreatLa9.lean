/- ExprDeep: not within one another so often, and one more, may be; nor too many side by side. -/
import Derived.Test.YtnlkhjileipmcaaGreatLa8
set_option linter.unusedVariables false
set_option linter.unusedSimpArgs false
namespace Go.Proofs.YtnlkhjileipmcaaGreat
open Go.AM

/-- An expression as the law holds it: how many kids, operation, number, kids. -/
abbrev XS := Nat × Int × Int × (Nat → Nat → T)
def kT (s : XS) : T := T.l s.1 fun i j => s.2.2.2 (0 + i) j
def exS (s : XS) : Ex := .mk s.2.1 s.2.2.1 (kidsOf (kT s))
def chS : Nat → XS
  | 0 => (0, 2, 1, fun _ _ => .b false)
  | m + 1 => (1, 5, 0, fun i j => (([[T.i (chS m).2.1, T.i (chS m).2.2.1, T.l (chS m).1 fun i j => (chS m).2.2.2 (0 + i) j]] : List (List T)).getD i []).getD j (.b false))
def wS : Nat → XS
  | 0 => (0, 2, 0, fun _ _ => .b false)
  | m + 1 => (2, 6, 0, fun i j => (([[T.i (wS m).2.1, T.i (wS m).2.2.1, T.l (wS m).1 fun i j => (wS m).2.2.2 (0 + i) j], [T.i (wS m).2.1, T.i (wS m).2.2.1, T.l (wS m).1 fun i j => (wS m).2.2.2 (0 + i) j]] : List (List T)).getD i []).getD j (.b false))
def chE : Nat → Ex
  | 0 => .mk 2 1 []
  | m + 1 => .mk 5 0 [chE m]
def wE : Nat → Ex
  | 0 => .mk 2 0 []
  | m + 1 => .mk 6 0 [wE m, wE m]
theorem exS_ch : ∀ m, exS (chS m) = chE m
  | 0 => rfl
  | m + 1 => by
    have ih := exS_ch m
    rw [chE, ← ih]
    simp only [exS, kT, chS, kidsOf]
    rfl
theorem exS_w : ∀ m, exS (wS m) = wE m
  | 0 => rfl
  | m + 1 => by
    have ih := exS_w m
    rw [wE, ← ih]
    simp only [exS, kT, wS, kidsOf]
    rfl
theorem KW_ch : ∀ m, KW (kT (chS m))
  | 0 => ⟨by show 0 ≤ _; omega, fun i hi => absurd hi (Nat.not_lt_zero _)⟩
  | m + 1 => by
    refine ⟨by show 1 ≤ _; omega, fun i hi => ?_⟩
    have hi : i < 1 := hi
    obtain rfl : i = 0 := by omega
    exact KW_ch m
theorem KW_w : ∀ m, KW (kT (wS m))
  | 0 => ⟨by show 0 ≤ _; omega, fun i hi => absurd hi (Nat.not_lt_zero _)⟩
  | m + 1 => by
    refine ⟨by show 2 ≤ _; omega, fun i hi => ?_⟩
    have hi : i < 2 := hi
    match i, hi with
    | 0, _ => exact KW_w m
    | 1, _ => exact KW_w m
theorem ch_may : ∀ m, m < 30 → mayE (chE m) = if (m : Int) + 1 > 12 then 7 else 0 := by decide +kernel
theorem ch_nodes : ∀ m, m < 30 → nodesE (chE m) = if (12 : Int) < (m : Int) + 1 then 12 else (m : Int) + 1 := by decide +kernel
theorem w_may : mayE (wE 7) = 7 := by decide +kernel
theorem w_nodes : nodesE (wE 7) = 61 := by decide +kernel
end Go.Proofs.YtnlkhjileipmcaaGreat
