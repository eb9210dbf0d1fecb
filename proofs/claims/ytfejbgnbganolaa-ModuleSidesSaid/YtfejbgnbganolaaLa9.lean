/- ExprDeep: not within one another so often, and one more, may be; nor too many side by side. -/
import Derived.Test.YtfejbgnbganolaaLa8
set_option linter.unusedVariables false
set_option linter.unusedSimpArgs false
namespace Go.Proofs.Ytfejbgnbganolaa
open Go.AM

/-- An expression as the law holds it: how many kids, operation, number, kids. -/
abbrev XS := Nat × Int × Int × (Nat → Nat → T)
def kT (s : XS) : T := T.l s.1 fun i j => s.2.2.2 (0 + i) j
def exS (s : XS) : Ex := .mk s.2.1 s.2.2.1 (kidsOf (kT s))
def chS : Nat → XS
  | 0 => (0, 2, 1, fun _ _ => .b false)
  | m + 1 => (1, 5, 0, fun i j => (([[T.i (chS m).2.1, T.i (chS m).2.2.1, T.l (chS m).1 fun i j => (chS m).2.2.2 (0 + i) j]] : List (List T)).getD i []).getD j (.b false))
def wS : Nat → XS
  | 0 => (0, 2, 0, fun _ _ => .b false)
  | m + 1 => (2, 6, 0, fun i j => (([[T.i (wS m).2.1, T.i (wS m).2.2.1, T.l (wS m).1 fun i j => (wS m).2.2.2 (0 + i) j], [T.i (wS m).2.1, T.i (wS m).2.2.1, T.l (wS m).1 fun i j => (wS m).2.2.2 (0 + i) j]] : List (List T)).getD i []).getD j (.b false))
def chE : Nat → Ex
  | 0 => .mk 2 1 []
  | m + 1 => .mk 5 0 [chE m]
def wE : Nat → Ex
  | 0 => .mk 2 0 []
  | m + 1 => .mk 6 0 [wE m, wE m]
theorem exS_ch : ∀ m, exS (chS m) = chE m
  | 0 => rfl
  | m + 1 => by
    have ih := exS_ch m
    rw [chE, ← ih]
    simp only [exS, kT, chS, kidsOf]
    rfl
theorem exS_w : ∀ m, exS (wS m) = wE m
  | 0 => rfl
  | m + 1 => by
    have ih := exS_w m
    rw [wE, ← ih]
    simp only [exS, kT, wS, kidsOf]
    rfl
theorem KW_ch : ∀ m, KW (kT (chS m))
  | 0 => ⟨by show 0 ≤ _; omega, fun i hi => absurd hi (Nat.not_lt_zero _)⟩
  | m + 1 => by
    refine ⟨by show 1 ≤ _; omega, fun i hi => ?_⟩
    have hi : i < 1 := hi
    obtain rfl : i = 0 := by omega
    exact KW_ch m
theorem KW_w : ∀ m, KW (kT (wS m))
  | 0 => ⟨by show 0 ≤ _; omega, fun i hi => absurd hi (Nat.not_lt_zero _)⟩
  | m + 1 => by
    refine ⟨by show 2 ≤ _; omega, fun i hi => ?_⟩
    have hi : i < 2 := hi
    match i, hi with
    | 0, _ => exact KW_w m
    | 1, _ => exact KW_w m
theorem ch_may : ∀ m, m < 30 → mayE (chE m) = if (m : Int) + 1 > 12 then 7 else 0 := by decide +kernel
theorem ch_nodes : ∀ m, m < 30 → nodesE (chE m) = if (12 : Int) < (m : Int) + 1 then 12 else (m : Int) + 1 := by decide +kernel
theorem w_may : mayE (wE 7) = 7 := by decide +kernel
theorem w_nodes : nodesE (wE 7) = 61 := by decide +kernel
theorem deepB {h : H} {m : Nat} (hm : m < 30) {Q : Option R} {N : Nat} : ∀ (d i : Nat), i + d = m → parrylaw2_ExprDeep.B0 h N (chS m).1 (m : Int) (m : Int) (m : Int) (chS m).2.1 (chS m).2.2.1 (chS m).2.2.2 = Q →
    parrylaw2_ExprDeep.B0 h (N + d) (chS i).1 (m : Int) (m : Int) (i : Int) (chS i).2.1 (chS i).2.2.1 (chS i).2.2.2 = Q
  | 0, i, hi, hq => by
    obtain rfl : i = m := by omega
    exact hq
  | d + 1, i, hi, hq => by
    rw [show N + (d + 1) = (N + d) + 1 by omega, parrylaw2_ExprDeep.B0_eq]
    refine if_of (decide_eq_true (by omega)) ?_
    rw [wrap_eq (a := (i : Int) + 1) (by omega) (by omega)]
    exact deepB hm d (i + 1) (by omega) hq
theorem wideB {h : H} {p0 : Nat} {p2 p3 p5 p6 : Int} {p7 : Nat → Nat → T} {Q : Option R} {N : Nat} : ∀ (d i : Nat), i + d = 7 → parrylaw2_ExprDeep.B2 h N p0 (wS 7).1 p2 p3 ((7 : Nat) : Int) p5 p6 p7 (wS 7).2.1 (wS 7).2.2.1 (wS 7).2.2.2 = Q →
    parrylaw2_ExprDeep.B2 h (N + d) p0 (wS i).1 p2 p3 (i : Int) p5 p6 p7 (wS i).2.1 (wS i).2.2.1 (wS i).2.2.2 = Q
  | 0, i, hi, hq => by
    obtain rfl : i = 7 := by omega
    exact hq
  | d + 1, i, hi, hq => by
    rw [show N + (d + 1) = (N + d) + 1 by omega, parrylaw2_ExprDeep.B2_eq]
    refine if_of (decide_eq_true (by omega)) ?_
    rw [wrap_eq (a := (i : Int) + 1) (by omega) (by omega)]
    exact wideB d (i + 1) (by omega) hq
theorem Deep_sp (a : Int) : Ev fun N => C_parrylaw2_ExprDeep (K N) a = rb true := by
  obtain ⟨m, hm, em⟩ : ∃ m : Nat, m < 30 ∧ IntKind.wrap .i64 (Int.tmod (IntKind.wrap .u64 a) 30) = (m : Int) := by
    have h1 : 0 ≤ Int.tmod (IntKind.wrap .u64 a) 30 := Int.tmod_nonneg _ (wrapu_nonneg a)
    have h2 : Int.tmod (IntKind.wrap .u64 a) 30 < 30 := Int.tmod_lt_of_pos _ (by omega)
    rw [wrap_eq (by omega) (by omega)]
    exact ⟨(Int.tmod (IntKind.wrap .u64 a) 30).toNat, by omega, by omega⟩
  refine Ev.step (Ev.imp4 (Ev.and (May_sp _ (KW_ch m)) (Nodes_sp _ (KW_ch m))) (Ev.and (May_sp _ (KW_w 7)) (Nodes_sp _ (KW_w 7))) awake2_sp (Ev.ge 60) fun N h1 h2 h3 hN => ?_)
  obtain ⟨hma, hna⟩ := h1
  obtain ⟨hmw, hnw⟩ := h2
  rw [C_parrylaw2_ExprDeep_K, em]
  obtain ⟨M, rfl⟩ : ∃ M, N = M + 1 + 7 + 1 + 1 + m := ⟨N - 10 - m, by omega⟩
  have aw : ((C_parrylaw2_awake (K (M + 1 + 7 + 1 + 1 + m))).bind fun r => some (lookR [(0, T.b (r 0).bool)])) = rb true := by rw [h3]; rfl
  have xa := hma (chS m).2.1 (chS m).2.2.1
  have xn := hna (chS m).2.1 (chS m).2.2.1
  have xw := hmw (wS 7).2.1 (wS 7).2.2.1
  have xv := hnw (wS 7).2.1 (wS 7).2.2.1
  have ex1 : Ex.mk (chS m).2.1 (chS m).2.2.1 (kidsOf (kT (chS m))) = chE m := exS_ch m
  have ex2 : Ex.mk (wS 7).2.1 (wS 7).2.2.1 (kidsOf (kT (wS 7))) = wE 7 := exS_w 7
  rw [ex1, ch_may m hm] at xa
  rw [ex1, ch_nodes m hm] at xn
  rw [ex2, w_may] at xw
  rw [ex2, w_nodes] at xv
  have last : ∀ want : Int, (want = if (m : Int) + 1 > 12 then 7 else 0) → parrylaw2_ExprDeep.B2 (K (M + 1 + 7 + 1 + 1 + m)) (M + 1) (chS m).1 (wS 7).1 (m : Int) want ((7 : Nat) : Int) (chS m).2.1 (chS m).2.2.1 (chS m).2.2.2 (wS 7).2.1 (wS 7).2.2.1 (wS 7).2.2.2 = rb true := by
    intro want hw
    rw [parrylaw2_ExprDeep.B2_eq]
    refine if_not rfl (bind_of xa (if_of (by rw [lookR_0, int_i, ← hw]; exact beq_self_eq_true _) (bind_of xn (if_of ?_ (bind_of xw (if_of rfl (bind_of xv (if_of rfl aw))))))))
    rw [lookR_0, int_i, wrap_eq (a := (m : Int) + 1) (by omega) (by omega)]
    exact beq_self_eq_true _
  have two : ∀ want : Int, (want = if (m : Int) + 1 > 12 then 7 else 0) → parrylaw2_ExprDeep.B1 (K (M + 1 + 7 + 1 + 1 + m)) (M + 1 + 7 + 1) (chS m).1 (m : Int) want (chS m).2.1 (chS m).2.2.1 (chS m).2.2.2 = rb true := by
    intro want hw
    rw [parrylaw2_ExprDeep.B1_eq]
    exact wideB 7 0 rfl (last want hw)
  refine deepB hm m 0 (by omega) ?_
  rw [parrylaw2_ExprDeep.B0_eq]
  refine if_not (decide_eq_false (by omega)) ?_
  have hw : IntKind.wrap .i64 ((m : Int) + 1) = (m : Int) + 1 := wrap_eq (by omega) (by omega)
  by_cases c : (m : Int) + 1 > 12
  · exact if_of (decide_eq_true (by show IntKind.wrap .i64 ((m : Int) + 1) > 12; rw [hw]; exact c)) (two 7 (by rw [if_pos c]))
  · exact if_not (decide_eq_false (by show ¬ IntKind.wrap .i64 ((m : Int) + 1) > 12; rw [hw]; exact c)) (two 0 (by rw [if_neg c]))
end Go.Proofs.Ytfejbgnbganolaa
