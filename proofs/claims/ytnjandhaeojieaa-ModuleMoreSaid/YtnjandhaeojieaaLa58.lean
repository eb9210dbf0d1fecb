/- The law ChoiceMore: with one command more nothing that may be chosen is lost. -/
import Derived.Test.YtnjandhaeojieaaLa45
import Derived.Test.YtnjandhaeojieaaLa27
import Derived.Test.YtnjandhaeojieaaLa50
import Derived.Test.YtnjandhaeojieaaMp1
import Derived.Test.YtnjandhaeojieaaLa51
set_option linter.unusedVariables false
set_option linter.unusedSimpArgs false
namespace Go.Proofs.Ytnjandhaeojieaa
open Go.AM
def addC (t : T) (o n : Int) (k s : T) : T := T.l ((0 + t.len) + 1) (fun i j => (bif Nat.blt (0 + i) (0 + t.len) then (bif Nat.blt (0 + i) 0 then ((([] : List (List T)).getD (0 + i) []).getD j (.b false)) else (t.el (0 + i) j)) else ((([[(T.i o), (T.i n), k, s]] : List (List T)).getD (0 + ((0 + i) - (0 + t.len))) []).getD j (.b false))))
def one1C (o n : Int) (k s : T) : T := T.l 1 (fun i j => ((([[(T.i o), (T.i n), k, s]] : List (List T)).getD (0 + i) []).getD j (.b false)))
theorem KC_one1 {o n : Int} {k s : T} (hk : KW k) (hs : KS s) : KC (one1C o n k s) := KC_one rfl hk hs
section
variable {t : T} {o n : Int} {k s : T}
theorem addC_len : (addC t o n k s).len = t.len + 1 := by show 0 + t.len + 1 = _; omega
theorem addC_lt {i : Nat} (h : i < t.len) (j : Nat) : (addC t o n k s).el i j = t.el i j := by
  show (bif Nat.blt (0 + i) (0 + t.len) then _ else _) = _
  have e1 : Nat.blt (0 + i) (0 + t.len) = true := by rw [Nat.blt_eq]; omega
  have e2 : Nat.blt (0 + i) 0 = false := by
    cases hc : Nat.blt (0 + i) 0 with
    | false => rfl
    | true => rw [Nat.blt_eq] at hc; omega
  rw [e1, cond_true, e2, cond_false, Nat.zero_add]
theorem addC_at (j : Nat) : (addC t o n k s).el t.len j = ([(T.i o), (T.i n), k, s] : List T).getD j (.b false) := by
  show (bif Nat.blt (0 + t.len) (0 + t.len) then _ else _) = _
  have e1 : Nat.blt (0 + t.len) (0 + t.len) = false := by
    cases hc : Nat.blt (0 + t.len) (0 + t.len) with
    | false => rfl
    | true => rw [Nat.blt_eq] at hc; omega
  rw [e1, cond_false, Nat.sub_self]
  rfl
theorem cmds_add : cmdsOf (addC t o n k s) = cmdsOf t ++ [⟨.mk o n (kidsOf k), setsOf s⟩] := by
  unfold cmdsOf
  rw [addC_len, List.range_succ, List.map_append]
  congr 1
  · apply List.map_congr_left
    intro i hi
    have hi : i < t.len := List.mem_range.1 hi
    simp only [cmAt, addC_lt hi]
  · simp only [List.map_cons, List.map_nil, cmAt, addC_at]
    rfl
theorem KC_add (h : KC t) (hb : t.len + 1 ≤ 9223372036854775807) (hk : KW k) (hs : KS s) : KC (addC t o n k s) := by
  refine ⟨by rw [addC_len]; exact hb, fun i hi => ?_⟩
  rw [addC_len] at hi
  by_cases hit : i < t.len
  · rw [addC_lt hit, addC_lt hit]
    exact h.2 i hit
  · obtain rfl : i = t.len := by omega
    rw [addC_at, addC_at]
    exact ⟨hk, hs⟩
end
section
variable {h : H} {l : T} {o1 n1 : Int} {k1 : T} {o2 n2 : Int} {k2 te ts ta tn tp : T}
end
end Go.Proofs.Ytnjandhaeojieaa
