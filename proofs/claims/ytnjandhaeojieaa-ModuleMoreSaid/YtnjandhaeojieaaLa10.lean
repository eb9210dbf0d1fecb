/- ExprSame: alike is alike in both ways; with one number as another one it is not. -/
import Derived.Test.YtnjandhaeojieaaLa7
set_option linter.unusedVariables false
set_option linter.unusedSimpArgs false
namespace Go.AM
mutual
def sameE : Ex → Ex → Bool
  | .mk o n ks, .mk p m ls => decide (o = p) && (decide (n = m) && sameL ks ls)
def sameL : List Ex → List Ex → Bool
  | [], [] => true
  | k :: ks, l :: ls => sameE k l && sameL ks ls
  | _, _ => false
end
mutual
theorem sameE_iff : ∀ a b : Ex, sameE a b = true ↔ a = b
  | .mk o n ks, .mk p m ls => by
    have ih := sameL_iff ks ls
    simp only [sameE, Bool.and_eq_true, decide_eq_true_eq, ih, Ex.mk.injEq]
theorem sameL_iff : ∀ a b : List Ex, sameL a b = true ↔ a = b
  | [], [] => by simp [sameL]
  | [], _ :: _ => by simp [sameL]
  | _ :: _, [] => by simp [sameL]
  | k :: ks, l :: ls => by
    have h1 := sameE_iff k l
    have h2 := sameL_iff ks ls
    simp only [sameL, Bool.and_eq_true, h1, h2, List.cons.injEq]
end
theorem sameL_len : ∀ (a b : List Ex), a.length ≠ b.length → sameL a b = false := by
  intro a b h
  cases hs : sameL a b with
  | false => rfl
  | true => rw [sameL_iff] at hs; exact absurd (congrArg List.length hs) h
theorem sameE_self (a : Ex) : sameE a a = true := (sameE_iff a a).2 rfl
end Go.AM
namespace Go.Proofs.Ytnjandhaeojieaa
open Go.AM
theorem alikeB {h : H} {k k2 : T} (hk : KW k) (hl : k.len = k2.len) (hc : ∀ i, i < k.len → ∀ o n p m, C_expr_alike h o n (k.el i 2) p m (k2.el i 2) = rb (sameE (.mk o n (kidsOf (k.el i 2))) (.mk p m (kidsOf (k2.el i 2))))) :
    ∀ (m i : Nat), i + m = k.len → ∀ N, m < N → slices_EqualFunc_Expr_by_expr_alike.B0 h N k2 k (k.len : Int) (i : Int) = rb (sameL ((kidsOf k).drop i) ((kidsOf k2).drop i))
  | 0, i, hi, N, hN => by
    obtain ⟨N, rfl⟩ : ∃ M, N = M + 1 := ⟨N - 1, by omega⟩
    rw [slices_EqualFunc_Expr_by_expr_alike.B0_eq, List.drop_of_length_le (by rw [kidsOf_len]; omega), List.drop_of_length_le (by rw [kidsOf_len]; omega)]
    exact if_not (decide_eq_false (by omega)) rfl
  | m + 1, i, hi, N, hN => by
    obtain ⟨N, rfl⟩ : ∃ M, N = M + 1 := ⟨N - 1, by omega⟩
    have hlen := hk.len
    have ih := alikeB (h := h) hk hl hc m (i + 1) (by omega) N (by omega)
    have e1 := hc i (by omega) (k.el i 0).int (k.el i 1).int (k2.el i 0).int (k2.el i 1).int
    have x1 : Ex.mk (k.el i 0).int (k.el i 1).int (kidsOf (k.el i 2)) = exAt k i := rfl
    have x2 : Ex.mk (k2.el i 0).int (k2.el i 1).int (kidsOf (k2.el i 2)) = exAt k2 i := rfl
    rw [x1, x2] at e1
    rw [slices_EqualFunc_Expr_by_expr_alike.B0_eq, kidsOf_from k i (by omega), kidsOf_from k2 i (by omega), wrap_eq (by omega) (by omega), Int.toNat_natCast]
    refine if_of (decide_eq_true (by omega)) (if_of (by simp; omega) (if_of (by simp; omega) (bind_of e1 ?_)))
    simp only [sameL]
    cases hs : sameE (exAt k i) (exAt k2 i) with
    | false => exact if_of rfl rfl
    | true => exact if_not rfl ih
theorem alike_sp : ∀ k, KW k → ∀ k2, KW k2 → Ev fun N => ∀ o n p m, C_expr_alike (K N) o n k p m k2 = rb (sameE (.mk o n (kidsOf k)) (.mk p m (kidsOf k2))) := by
  refine kids_ind fun k ih hk k2 hk2 => ?_
  by_cases hl : k.len = k2.len
  · refine Ev.step (Ev.step ((Ev.all (k := k.len) fun i hi => ih i hi (hk.el hi) (k2.el i 2) (hk2.el (by omega))).imp2 (Ev.ge (k.len + 1)) fun N hc hN o n p m => ?_))
    have hb := alikeB (h := K N) hk hl hc k.len 0 (by omega) N (by omega)
    rw [C_expr_alike_K, C_slices_EqualFunc_Expr_by_expr_alike_K]
    simp only [sameE]
    by_cases c1 : o = p
    · by_cases c2 : n = m
      · refine if_of (by simpa using c1) (if_of (by simpa using c2) (bind_of (r := lookR [(0, .b (sameL (kidsOf k) (kidsOf k2)))]) (if_not (by simp [hl]) hb) ?_))
        rw [decide_eq_true c1, decide_eq_true c2]
        rfl
      · refine if_of (by simpa using c1) (if_not (by simpa using c2) ?_)
        rw [decide_eq_true c1, decide_eq_false c2]
        rfl
    · refine if_not (by simpa using c1) ?_
      rw [decide_eq_false c1]
      rfl
  · refine Ev.step (Ev.step (Ev.of fun N o n p m => ?_))
    have hs := sameL_len (kidsOf k) (kidsOf k2) (by rw [kidsOf_len, kidsOf_len]; exact hl)
    rw [C_expr_alike_K, C_slices_EqualFunc_Expr_by_expr_alike_K]
    simp only [sameE, hs, Bool.and_false]
    have hl' : ¬ ((k.len : Int) = (k2.len : Int)) := by omega
    refine if_both (fun _ => if_both (fun _ => bind_of (r := lookR [(0, .b false)]) (if_of (by simpa using hl') rfl) rfl) fun _ => rfl) fun _ => rfl
theorem Same_sp (k k2 : T) (hk : KW k) (hk2 : KW k2) : Ev fun N => ∀ o n p m, C_expr_Same (K N) o n k p m k2 = rb (lightE (.mk o n (kidsOf k)) && lightE (.mk p m (kidsOf k2)) && sameE (.mk o n (kidsOf k)) (.mk p m (kidsOf k2))) := by
  refine Ev.step (Ev.imp3 (light_sp k hk) (light_sp k2 hk2) (alike_sp k hk k2 hk2) fun N h1 h2 h3 o n p m => ?_)
  rw [C_expr_Same_K]
  refine bind_of (h1 _ _) ?_
  cases c1 : lightE (.mk o n (kidsOf k)) with
  | false => exact if_not rfl rfl
  | true =>
    refine if_of rfl (bind_of (h2 _ _) ?_)
    cases c2 : lightE (.mk p m (kidsOf k2)) with
    | false => exact if_not rfl rfl
    | true => exact if_of rfl (bind_of (h3 _ _ _ _) rfl)
end Go.Proofs.Ytnjandhaeojieaa
