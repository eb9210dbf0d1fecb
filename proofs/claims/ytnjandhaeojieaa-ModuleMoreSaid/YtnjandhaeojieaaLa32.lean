/- module.May and module.Same. -/
import Derived.Test.YtnjandhaeojieaaLa30
set_option linter.unusedVariables false
set_option linter.unusedSimpArgs false
namespace Go.Proofs.Ytnjandhaeojieaa
open Go.AM
theorem full_sp (N : Nat) (l : T) (o1 n1 : Int) (k1 : T) (o2 n2 : Int) (k2 te ts ta tn tp : T) (m : Md) (he : m.env.length = te.len) (hs : m.sys.length = ts.len) (ha : m.assume.length = ta.len) (hn : m.ensure.length = tn.len) (hp : m.prio.length = tp.len) : C_module_full (K (N + 1)) l o1 n1 k1 o2 n2 k2 te ts ta tn tp = rb (fullM m) := by
  rw [C_module_full_K]
  unfold fullM
  rw [he, hs, ha, hn, hp]
  have e1 : (if (te.len : Int) < (ts.len : Int) then (ts.len : Int) else (te.len : Int)) = ((max te.len ts.len : Nat) : Int) := by split <;> omega
  have e2 : (if (ta.len : Int) < (tn.len : Int) then (tn.len : Int) else (ta.len : Int)) = ((max ta.len tn.len : Nat) : Int) := by split <;> omega
  rw [e1, e2]
  by_cases c1 : 12 < max te.len ts.len
  · rw [decide_eq_true c1, Bool.true_or, Bool.true_or]
    exact if_of (decide_eq_true (by omega)) rfl
  · rw [decide_eq_false c1, Bool.false_or]
    refine if_not (decide_eq_false (by omega)) ?_
    by_cases c2 : 4 < max ta.len tn.len
    · rw [decide_eq_true c2, Bool.true_or]
      exact if_of (decide_eq_true (by omega)) rfl
    · rw [decide_eq_false c2, Bool.false_or]
      refine if_not (decide_eq_false (by omega)) ?_
      have : decide ((tp.len : Int) > 6) = decide (6 < tp.len) := by rw [Bool.eq_iff_iff, decide_eq_true_eq, decide_eq_true_eq]; omega
      rw [this]; rfl
theorem MayM_sp (l : T) (hl : l.len ≤ 9223372036854775807) (k1 k2 te ts ta tn tp : T) (h1 : KW k1) (h2 : KW k2) (he : KC te) (hs : KC ts) (ha : KW ta) (hn : KW tn) (hp : KW tp) :
    Ev fun N => ∀ o1 n1 o2 n2, C_module_May (K N) l o1 n1 k1 o2 n2 k2 te ts ta tn tp = ri (mayM ⟨varsOf l, .mk o1 n1 (kidsOf k1), .mk o2 n2 (kidsOf k2), cmdsOf te, cmdsOf ts, kidsOf ta, kidsOf tn, kidsOf tp⟩) := by
  have base := Ev.imp4 ((MayV_sp l hl).up 2) (Ev.and ((Needs_sp l hl k1 h1).up 1) ((Needs_sp l hl k2 h2).up 1)) (Ev.and (Ev.all (k := te.len) fun i hi => MayCommand_sp l hl _ _ (he.2 i hi).1 (he.2 i hi).2) (Ev.all (k := ts.len) fun i hi => MayCommand_sp l hl _ _ (hs.2 i hi).1 (hs.2 i hi).2)) (Ev.ge (te.len + ts.len + 20)) fun N a b c d => (⟨a, b, c, d⟩ : _ ∧ _ ∧ _ ∧ _)
  by_cases small : ta.len ≤ 4 ∧ tn.len ≤ 4 ∧ tp.len ≤ 6
  · obtain ⟨t, ct, kt, wt⟩ := concat_sp ha hn hp small.1 small.2.1 small.2.2
    have ltt : t.len = ta.len + tn.len + tp.len := by
      have := congrArg List.length kt
      simpa only [kidsOf_len, List.length_append] using this
    refine Ev.step (Ev.step (Ev.step (Ev.imp3 base (ct.up 2) (Ev.and (Ev.all (k := t.len) fun i hi => Needs_sp l hl (t.el i 2) (wt.el hi)) (Ev.ge (t.len + 20))) fun N hb hct h3 o1 n1 o2 n2 => ?_)))
    obtain ⟨hv, ⟨hN1, hN2⟩, ⟨hce, hcs⟩, hN⟩ := hb
    obtain ⟨hNt, hN'⟩ := h3
    rw [C_module_May_K]
    unfold mayM
    simp only
    refine bind_of hv ?_
    by_cases c1 : mayV (varsOf l) = 0
    rotate_left
    · rw [if_pos c1]; exact if_of (by simpa [lookR_0, int_i] using c1) rfl
    rw [if_neg (by simpa using c1)]
    refine if_not (by simp [lookR_0, int_i, c1]) (bind_of (C_module_May_1_K (N + 1) false _) (bind_of (mayB1_sp (N := N + 1) (now := false) (o := o1) (n := n1) hN1 rfl rfl) ?_))
    by_cases c2 : needsE (varsOf l) (.mk o1 n1 (kidsOf k1)) 1 false false false = 0
    rotate_left
    · rw [if_pos c2]; exact if_of (by simpa [lookR_0, int_i] using c2) rfl
    rw [if_neg (by simpa using c2)]
    refine if_not (by simp [lookR_0, int_i, c2]) (bind_of (C_module_May_1_K (N + 1) true _) (bind_of (mayB1_sp (N := N + 1) (now := true) (o := o2) (n := n2) hN2 rfl rfl) ?_))
    by_cases c3 : needsE (varsOf l) (.mk o2 n2 (kidsOf k2)) 1 true false false = 0
    rotate_left
    · rw [if_pos c3]; exact if_of (by simpa [lookR_0, int_i] using c3) rfl
    rw [if_neg (by simpa using c3)]
    refine if_not (by simp [lookR_0, int_i, c3]) (bind_of (full_sp (N + 1) l o1 n1 k1 o2 n2 k2 te ts ta tn tp ⟨varsOf l, .mk o1 n1 (kidsOf k1), .mk o2 n2 (kidsOf k2), cmdsOf te, cmdsOf ts, kidsOf ta, kidsOf tn, kidsOf tp⟩ (cmdsOf_len _) (cmdsOf_len _) (kidsOf_len _) (kidsOf_len _) (kidsOf_len _)) ?_)
    by_cases c4 : fullM ⟨varsOf l, .mk o1 n1 (kidsOf k1), .mk o2 n2 (kidsOf k2), cmdsOf te, cmdsOf ts, kidsOf ta, kidsOf tn, kidsOf tp⟩ = true
    · rw [if_pos c4]; exact if_of c4 rfl
    rw [if_neg c4]
    have fe : ∀ c1 c2 : Nat → T, c1 0 = l → c2 0 = .b true → C_module_first_Command_by_module_May_2_1 (K (N + 1 + 1)) te c1 c2 = ri (firstE (mayCmd (varsOf l) true) (cmdsOf te)) := by
      intro c1 c2 q1 q2
      rw [C_module_first_Command_by_module_May_2_1_K]
      have := firstC_sp (h := K (N + 1)) (t := te) (c1 := c1) (c2 := c2) (f := mayCmd (varsOf l) true) he.1 (fun i hi => mayB2_sp (hce i hi) q1 q2) te.len 0 (by omega) (N + 1) (by omega)
      simpa using this
    have fs : ∀ c1 c2 : Nat → T, c1 0 = l → c2 0 = .b false → C_module_first_Command_by_module_May_2_1 (K (N + 1 + 1)) ts c1 c2 = ri (firstE (mayCmd (varsOf l) false) (cmdsOf ts)) := by
      intro c1 c2 q1 q2
      rw [C_module_first_Command_by_module_May_2_1_K]
      have := firstC_sp (h := K (N + 1)) (t := ts) (c1 := c1) (c2 := c2) (f := mayCmd (varsOf l) false) hs.1 (fun i hi => mayB2_sp (hcs i hi) q1 q2) ts.len 0 (by omega) (N + 1) (by omega)
      simpa using this
    refine if_not (by rw [lookR_0, bool_b]; simpa using c4) (bind_of (C_module_May_2_K (N + 1) true _) (bind_of (fe _ _ rfl rfl) ?_))
    by_cases c5 : firstE (mayCmd (varsOf l) true) (cmdsOf te) = 0
    rotate_left
    · rw [if_pos c5]; exact if_of (by simpa [lookR_0, int_i] using c5) rfl
    rw [if_neg (by simpa using c5)]
    refine if_not (by simp [lookR_0, int_i, c5]) (bind_of (C_module_May_2_K (N + 1) false _) (bind_of (fs _ _ rfl rfl) ?_))
    by_cases c6 : firstE (mayCmd (varsOf l) false) (cmdsOf ts) = 0
    rotate_left
    · rw [if_pos c6]; exact if_of (by simpa [lookR_0, int_i] using c6) rfl
    rw [if_neg (by simpa using c6)]
    refine if_not (by simp [lookR_0, int_i, c6]) ?_
    have last : module_May.B0 (K (N + 1 + 1)) (N + 1 + 1) (fun j => ([l, T.i o1, T.i n1, k1, T.i o2, T.i n2, k2, te, ts, ta, tn, tp] : List T).getD j (.b false)) (fun j => ([l, T.i o1, T.i n1, k1, T.i o2, T.i n2, k2, te, ts, ta, tn, tp] : List T).getD j (.b false)) = ri (firstE (fun e => needsE (varsOf l) e 1 true false false) (kidsOf ta ++ kidsOf tn ++ kidsOf tp)) := by
      have ff : ∀ c1 c2 : Nat → T, c1 0 = l → c2 0 = .b true → C_module_first_Expr_by_module_May_1_1 (K (N + 1 + 1)) (T.l t.len fun i j => t.el (0 + i) j) c1 c2 = ri (firstE (fun e => needsE (varsOf l) e 1 true false false) (kidsOf ta ++ kidsOf tn ++ kidsOf tp)) := by
        intro c1 c2 q1 q2
        rw [C_module_first_Expr_by_module_May_1_1_K]
        have hk : kidsOf (T.l t.len fun i j => t.el (0 + i) j) = kidsOf t := by rw [kidsOf_eq, kidsOf_eq t]; refine List.map_congr_left fun i _ => ?_; show Ex.mk (t.el (0 + i) 0).int (t.el (0 + i) 1).int (kidsOf (t.el (0 + i) 2)) = _; rw [Nat.zero_add]; rfl
        have := firstX_sp (h := K (N + 1)) (t := T.l t.len fun i j => t.el (0 + i) j) (c1 := c1) (c2 := c2) (f := fun e => needsE (varsOf l) e 1 true false false) (by show t.len ≤ _; omega) (fun i hi => by
          show C_module_May_1_1 (K (N + 1)) (t.el (0 + i) 0).int (t.el (0 + i) 1).int (t.el (0 + i) 2) _ _ = ri (needsE (varsOf l) (.mk (t.el (0 + i) 0).int (t.el (0 + i) 1).int (kidsOf (t.el (0 + i) 2))) 1 true false false)
          rw [Nat.zero_add]
          exact mayB1_sp (hNt i hi) q1 q2) t.len 0 (by show 0 + t.len = t.len; omega) (N + 1) (by omega)
        rw [hk, kt, List.drop_zero] at this
        exact this
      rw [module_May.B0_eq]
      exact bind_of hct (bind_of (C_module_May_1_K (N + 1) true _) (bind_of (ff _ _ rfl rfl) rfl))
    by_cases c7 : 0 < tp.len
    · by_cases c8 : 0 < ta.len + tn.len
      · rw [if_pos ⟨by rw [kidsOf_len]; exact c7, by rw [kidsOf_len, kidsOf_len]; exact c8⟩]
        refine if_of (decide_eq_true (by show (tp.len : Int) > 0; omega)) (if_of (decide_eq_true ?_) rfl)
        show IntKind.wrap .i64 ((ta.len : Int) + (tn.len : Int)) > 0
        rw [wrap_eq (by omega) (by omega)]; omega
      · rw [if_neg (by rw [kidsOf_len, kidsOf_len, kidsOf_len]; omega)]
        refine if_of (decide_eq_true (by show (tp.len : Int) > 0; omega)) (if_not (decide_eq_false ?_) last)
        show ¬ IntKind.wrap .i64 ((ta.len : Int) + (tn.len : Int)) > 0
        rw [wrap_eq (by omega) (by omega)]; omega
    · rw [if_neg (by rw [kidsOf_len, kidsOf_len, kidsOf_len]; omega)]
      exact if_not (decide_eq_false (by show ¬ (tp.len : Int) > 0; omega)) last
  · refine Ev.step (Ev.step (Ev.step (base.imp fun N hb o1 n1 o2 n2 => ?_)))
    obtain ⟨hv, ⟨hN1, hN2⟩, ⟨hce, hcs⟩, hN⟩ := hb
    have hf : fullM ⟨varsOf l, .mk o1 n1 (kidsOf k1), .mk o2 n2 (kidsOf k2), cmdsOf te, cmdsOf ts, kidsOf ta, kidsOf tn, kidsOf tp⟩ = true := by
      unfold fullM
      simp only [cmdsOf_len, kidsOf_len, Bool.or_eq_true, decide_eq_true_eq]
      omega
    rw [C_module_May_K]
    unfold mayM
    simp only
    refine bind_of hv ?_
    by_cases c1 : mayV (varsOf l) = 0
    rotate_left
    · rw [if_pos c1]; exact if_of (by simpa [lookR_0, int_i] using c1) rfl
    rw [if_neg (by simpa using c1)]
    refine if_not (by simp [lookR_0, int_i, c1]) (bind_of (C_module_May_1_K (N + 1) false _) (bind_of (mayB1_sp (N := N + 1) (now := false) (o := o1) (n := n1) hN1 rfl rfl) ?_))
    by_cases c2 : needsE (varsOf l) (.mk o1 n1 (kidsOf k1)) 1 false false false = 0
    rotate_left
    · rw [if_pos c2]; exact if_of (by simpa [lookR_0, int_i] using c2) rfl
    rw [if_neg (by simpa using c2)]
    refine if_not (by simp [lookR_0, int_i, c2]) (bind_of (C_module_May_1_K (N + 1) true _) (bind_of (mayB1_sp (N := N + 1) (now := true) (o := o2) (n := n2) hN2 rfl rfl) ?_))
    by_cases c3 : needsE (varsOf l) (.mk o2 n2 (kidsOf k2)) 1 true false false = 0
    rotate_left
    · rw [if_pos c3]; exact if_of (by simpa [lookR_0, int_i] using c3) rfl
    rw [if_neg (by simpa using c3)]
    have hfs := full_sp (N + 1) l o1 n1 k1 o2 n2 k2 te ts ta tn tp ⟨varsOf l, .mk o1 n1 (kidsOf k1), .mk o2 n2 (kidsOf k2), cmdsOf te, cmdsOf ts, kidsOf ta, kidsOf tn, kidsOf tp⟩ (cmdsOf_len _) (cmdsOf_len _) (kidsOf_len _) (kidsOf_len _) (kidsOf_len _)
    rw [hf] at hfs ⊢
    rw [if_pos rfl]
    exact if_not (by simp [lookR_0, int_i, c3]) (bind_of hfs (if_of rfl rfl))
theorem eqSets_sp {h : H} {s t : T} (hl : s.len ≤ 9223372036854775807) (hst : s.len = t.len) (hc : ∀ i, i < s.len → C_module_sameSet h (s.el i 0).int (s.el i 1).bool (s.el i 2).int (s.el i 3).int (s.el i 4) (t.el i 0).int (t.el i 1).bool (t.el i 2).int (t.el i 3).int (t.el i 4) = rb (sameS (seAt s i) (seAt t i))) :
    ∀ (m i : Nat), i + m = s.len → ∀ M, m < M → slices_EqualFunc_Set_by_module_sameSet.B0 h M t s (s.len : Int) (i : Int) = rb (eqL sameS ((setsOf s).drop i) ((setsOf t).drop i))
  | 0, i, hi, M, hM => by
    obtain ⟨M, rfl⟩ : ∃ M', M = M' + 1 := ⟨M - 1, by omega⟩
    rw [slices_EqualFunc_Set_by_module_sameSet.B0_eq, List.drop_of_length_le (by rw [setsOf_len]; omega), List.drop_of_length_le (by rw [setsOf_len]; omega)]
    exact if_not (decide_eq_false (by omega)) rfl
  | m + 1, i, hi, M, hM => by
    obtain ⟨M, rfl⟩ : ∃ M', M = M' + 1 := ⟨M - 1, by omega⟩
    have ih := eqSets_sp hl hst hc m (i + 1) (by omega) M (by omega)
    have e := hc i (by omega)
    rw [slices_EqualFunc_Set_by_module_sameSet.B0_eq, Int.toNat_natCast, setsOf_from s (by omega), setsOf_from t (by omega), wrap_eq (a := (i : Int) + 1) (by omega) (by omega)]
    simp only [eqL]
    refine if_of (decide_eq_true (by omega)) (if_of (by simp; omega) (if_of (by simp; omega) (bind_of e ?_)))
    cases c : sameS (seAt s i) (seAt t i) with
    | true => exact if_not rfl ih
    | false => exact if_of rfl rfl
theorem eqCmds_sp {h : H} {s t : T} (hl : s.len ≤ 9223372036854775807) (hst : s.len = t.len) (hc : ∀ i, i < s.len → C_module_sameCommand h (s.el i 0).int (s.el i 1).int (s.el i 2) (s.el i 3) (t.el i 0).int (t.el i 1).int (t.el i 2) (t.el i 3) = rb (sameC (cmAt s i) (cmAt t i))) :
    ∀ (m i : Nat), i + m = s.len → ∀ M, m < M → slices_EqualFunc_Command_by_module_sameCommand.B0 h M t s (s.len : Int) (i : Int) = rb (eqL sameC ((cmdsOf s).drop i) ((cmdsOf t).drop i))
  | 0, i, hi, M, hM => by
    obtain ⟨M, rfl⟩ : ∃ M', M = M' + 1 := ⟨M - 1, by omega⟩
    rw [slices_EqualFunc_Command_by_module_sameCommand.B0_eq, List.drop_of_length_le (by rw [cmdsOf_len]; omega), List.drop_of_length_le (by rw [cmdsOf_len]; omega)]
    exact if_not (decide_eq_false (by omega)) rfl
  | m + 1, i, hi, M, hM => by
    obtain ⟨M, rfl⟩ : ∃ M', M = M' + 1 := ⟨M - 1, by omega⟩
    have ih := eqCmds_sp hl hst hc m (i + 1) (by omega) M (by omega)
    have e := hc i (by omega)
    rw [slices_EqualFunc_Command_by_module_sameCommand.B0_eq, Int.toNat_natCast, cmdsOf_from s (by omega), cmdsOf_from t (by omega), wrap_eq (a := (i : Int) + 1) (by omega) (by omega)]
    simp only [eqL]
    refine if_of (decide_eq_true (by omega)) (if_of (by simp; omega) (if_of (by simp; omega) (bind_of e ?_)))
    cases c : sameC (cmAt s i) (cmAt t i) with
    | true => exact if_not rfl ih
    | false => exact if_of rfl rfl
theorem eqRows_sp {h : H} {s t : T} (hl : s.len ≤ 9223372036854775807) (hst : s.len = t.len) (hc : ∀ i, i < s.len → C_expr_Same h (s.el i 0).int (s.el i 1).int (s.el i 2) (t.el i 0).int (t.el i 1).int (t.el i 2) = rb (sameX (exAt s i) (exAt t i))) :
    ∀ (m i : Nat), i + m = s.len → ∀ M, m < M → slices_EqualFunc_Expr_by_expr_Same.B0 h M t s (s.len : Int) (i : Int) = rb (eqL sameX ((kidsOf s).drop i) ((kidsOf t).drop i))
  | 0, i, hi, M, hM => by
    obtain ⟨M, rfl⟩ : ∃ M', M = M' + 1 := ⟨M - 1, by omega⟩
    rw [slices_EqualFunc_Expr_by_expr_Same.B0_eq, List.drop_of_length_le (by rw [kidsOf_len]; omega), List.drop_of_length_le (by rw [kidsOf_len]; omega)]
    exact if_not (decide_eq_false (by omega)) rfl
  | m + 1, i, hi, M, hM => by
    obtain ⟨M, rfl⟩ : ∃ M', M = M' + 1 := ⟨M - 1, by omega⟩
    have ih := eqRows_sp hl hst hc m (i + 1) (by omega) M (by omega)
    have e := hc i (by omega)
    rw [slices_EqualFunc_Expr_by_expr_Same.B0_eq, Int.toNat_natCast, kidsOf_from s i (by omega), kidsOf_from t i (by omega), wrap_eq (a := (i : Int) + 1) (by omega) (by omega)]
    simp only [eqL]
    refine if_of (decide_eq_true (by omega)) (if_of (by simp; omega) (if_of (by simp; omega) (bind_of e ?_)))
    cases c : sameX (exAt s i) (exAt t i) with
    | true => exact if_not rfl ih
    | false => exact if_of rfl rfl
theorem eqVars_sp {h : H} {s t : T} (hl : s.len ≤ 9223372036854775807) (hst : s.len = t.len) :
    ∀ (m i : Nat), i + m = s.len → ∀ M, m < M → slices_Equal_Var.B0 h M s t (s.len : Int) (i : Int) = rb (eqL sameV ((varsOf s).drop i) ((varsOf t).drop i))
  | 0, i, hi, M, hM => by
    obtain ⟨M, rfl⟩ : ∃ M', M = M' + 1 := ⟨M - 1, by omega⟩
    rw [slices_Equal_Var.B0_eq, List.drop_of_length_le (by rw [varsOf_len]; omega), List.drop_of_length_le (by rw [varsOf_len]; omega)]
    exact if_not (decide_eq_false (by omega)) rfl
  | m + 1, i, hi, M, hM => by
    obtain ⟨M, rfl⟩ : ∃ M', M = M' + 1 := ⟨M - 1, by omega⟩
    have ih := eqVars_sp (h := h) hl hst m (i + 1) (by omega) M (by omega)
    have es : (varsOf s).drop i = vaAt s i :: (varsOf s).drop (i + 1) := by unfold varsOf; exact range_from _ (by omega)
    have et : (varsOf t).drop i = vaAt t i :: (varsOf t).drop (i + 1) := by unfold varsOf; exact range_from _ (by omega)
    rw [slices_Equal_Var.B0_eq, Int.toNat_natCast, es, et, wrap_eq (a := (i : Int) + 1) (by omega) (by omega)]
    simp only [eqL]
    refine if_of (decide_eq_true (by omega)) (if_of (by simp; omega) (if_of (by simp; omega) ?_))
    have e : sameV (vaAt s i) (vaAt t i) = (strEq (s.el i 0).str (t.el i 0).str && (((s.el i 1).bool == (t.el i 1).bool) && (((s.el i 2).int == (t.el i 2).int) && (((s.el i 3).int == (t.el i 3).int) && (((s.el i 4).int == (t.el i 4).int) && true))))) := rfl
    rw [← e]
    cases c : sameV (vaAt s i) (vaAt t i) with
    | true => exact if_not rfl ih
    | false => exact if_of rfl rfl
theorem sameX_sp (k k2 : T) (hk : KW k) (hk2 : KW k2) : Ev fun N => ∀ o n p m, C_expr_Same (K N) o n k p m k2 = rb (sameX (.mk o n (kidsOf k)) (.mk p m (kidsOf k2))) := Same_sp k k2 hk hk2
theorem sameSet_sp (k k2 : T) (hk : KW k) (hk2 : KW k2) : Ev fun N => ∀ v a o n w b p m, C_module_sameSet (K N) v a o n k w b p m k2 = rb (sameS ⟨v, a, .mk o n (kidsOf k)⟩ ⟨w, b, .mk p m (kidsOf k2)⟩) := by
  refine Ev.step (Ev.step (((sameX_sp k k2 hk hk2).up 1).imp fun N hs v a o n w b p m => ?_))
  rw [C_module_sameSet_K]
  have b1 := bare_sp N o n k
  have b2 := bare_sp N p m k2
  have es : sameS ⟨v, a, .mk o n (kidsOf k)⟩ ⟨w, b, .mk p m (kidsOf k2)⟩ = ((decide (v = w) && (a == b)) && ((bareE (.mk o n (kidsOf k)) && bareE (.mk p m (kidsOf k2))) || sameX (.mk o n (kidsOf k)) (.mk p m (kidsOf k2)))) := rfl
  rw [es]
  by_cases c1 : v = w
  · rw [decide_eq_true c1, Bool.true_and]
    refine if_of (by simpa using c1) ?_
    cases c2 : (a == b) with
    | false => exact if_not rfl rfl
    | true =>
      refine if_of rfl (bind_of b1 ?_)
      cases c3 : bareE (.mk o n (kidsOf k)) with
      | false => exact if_not rfl (bind_of (hs o n p m) rfl)
      | true =>
        refine if_of rfl (bind_of b2 ?_)
        cases c4 : bareE (.mk p m (kidsOf k2)) with
        | false => exact if_not rfl (bind_of (hs o n p m) rfl)
        | true => exact if_of rfl rfl
  · rw [decide_eq_false c1, Bool.false_and, Bool.false_and]
    exact if_not (by simpa using c1) rfl
theorem eqS_sp (s t : T) (hs : KS s) (ht : KS t) : Ev fun N => C_slices_EqualFunc_Set_by_module_sameSet (K N) s t = rb (eqL sameS (setsOf s) (setsOf t)) := by
  by_cases hst : s.len = t.len
  · refine Ev.step (Ev.imp2 (Ev.all (k := s.len) fun i hi => sameSet_sp (s.el i 4) (t.el i 4) (hs.2 i hi) (ht.2 i (by omega))) (Ev.ge (s.len + 5)) fun N hc hN => ?_)
    have := eqSets_sp (h := K N) hs.1 hst (fun i hi => hc i hi _ _ _ _ _ _ _ _) s.len 0 (by omega) N (by omega)
    rw [C_slices_EqualFunc_Set_by_module_sameSet_K]
    refine if_not (by rw [hst]; simp) ?_
    simpa using this
  · refine Ev.step (Ev.of fun N => ?_)
    rw [C_slices_EqualFunc_Set_by_module_sameSet_K, eqL_len (by rw [setsOf_len, setsOf_len]; exact hst)]
    exact if_of (by simp; omega) rfl
theorem sameCmd_sp (k k2 s t : T) (hk : KW k) (hk2 : KW k2) (hs : KS s) (ht : KS t) : Ev fun N => ∀ o n p m, C_module_sameCommand (K N) o n k s p m k2 t = rb (sameC ⟨.mk o n (kidsOf k), setsOf s⟩ ⟨.mk p m (kidsOf k2), setsOf t⟩) := by
  refine Ev.step (Ev.imp2 (sameX_sp k k2 hk hk2) (eqS_sp s t hs ht) fun N h1 h2 o n p m => ?_)
  rw [C_module_sameCommand_K]
  have es : sameC ⟨.mk o n (kidsOf k), setsOf s⟩ ⟨.mk p m (kidsOf k2), setsOf t⟩ = (sameX (.mk o n (kidsOf k)) (.mk p m (kidsOf k2)) && eqL sameS (setsOf s) (setsOf t)) := rfl
  rw [es]
  refine bind_of (h1 o n p m) ?_
  cases sameX (.mk o n (kidsOf k)) (.mk p m (kidsOf k2)) with
  | true => exact if_of rfl (bind_of h2 rfl)
  | false => exact if_not rfl rfl
theorem eqC_sp (s t : T) (hs : KC s) (ht : KC t) : Ev fun N => C_module_Same_1 (K N) s t = rb (eqL sameC (cmdsOf s) (cmdsOf t)) := by
  by_cases hst : s.len = t.len
  · refine Ev.step (Ev.step (Ev.imp2 (Ev.all (k := s.len) fun i hi => sameCmd_sp (s.el i 2) (t.el i 2) (s.el i 3) (t.el i 3) (hs.2 i hi).1 (ht.2 i (by omega)).1 (hs.2 i hi).2 (ht.2 i (by omega)).2) (Ev.ge (s.len + 5)) fun N hc hN => ?_))
    have := eqCmds_sp (h := K N) hs.1 hst (fun i hi => hc i hi _ _ _ _) s.len 0 (by omega) N (by omega)
    have e : C_slices_EqualFunc_Command_by_module_sameCommand (K (N + 1)) s t = rb (eqL sameC (cmdsOf s) (cmdsOf t)) := by
      rw [C_slices_EqualFunc_Command_by_module_sameCommand_K]
      refine if_not (by rw [hst]; simp) ?_
      simpa using this
    rw [C_module_Same_1_K]
    exact bind_of e rfl
  · refine Ev.step (Ev.step (Ev.of fun N => ?_))
    have e : C_slices_EqualFunc_Command_by_module_sameCommand (K (N + 1)) s t = rb (eqL sameC (cmdsOf s) (cmdsOf t)) := by
      rw [C_slices_EqualFunc_Command_by_module_sameCommand_K, eqL_len (by rw [cmdsOf_len, cmdsOf_len]; exact hst)]
      exact if_of (by simp; omega) rfl
    rw [C_module_Same_1_K]
    exact bind_of e rfl
theorem eqX_sp (s t : T) (hs : KW s) (ht : KW t) : Ev fun N => C_module_Same_2 (K N) s t = rb (eqL sameX (kidsOf s) (kidsOf t)) := by
  by_cases hst : s.len = t.len
  · refine Ev.step (Ev.step (Ev.imp2 (Ev.all (k := s.len) fun i hi => sameX_sp (s.el i 2) (t.el i 2) (hs.el hi) (ht.el (by omega))) (Ev.ge (s.len + 5)) fun N hc hN => ?_))
    have := eqRows_sp (h := K N) hs.len hst (fun i hi => hc i hi _ _ _ _) s.len 0 (by omega) N (by omega)
    have e : C_slices_EqualFunc_Expr_by_expr_Same (K (N + 1)) s t = rb (eqL sameX (kidsOf s) (kidsOf t)) := by
      rw [C_slices_EqualFunc_Expr_by_expr_Same_K]
      refine if_not (by rw [hst]; simp) ?_
      simpa using this
    rw [C_module_Same_2_K]
    exact bind_of e rfl
  · refine Ev.step (Ev.step (Ev.of fun N => ?_))
    have e : C_slices_EqualFunc_Expr_by_expr_Same (K (N + 1)) s t = rb (eqL sameX (kidsOf s) (kidsOf t)) := by
      rw [C_slices_EqualFunc_Expr_by_expr_Same_K, eqL_len (by rw [kidsOf_len, kidsOf_len]; exact hst)]
      exact if_of (by simp; omega) rfl
    rw [C_module_Same_2_K]
    exact bind_of e rfl
theorem eqV_sp (s t : T) (hs : s.len ≤ 9223372036854775807) : Ev fun N => C_slices_Equal_Var (K N) s t = rb (eqL sameV (varsOf s) (varsOf t)) := by
  by_cases hst : s.len = t.len
  · refine Ev.step ((Ev.ge (s.len + 5)).imp fun N hN => ?_)
    have := eqVars_sp (h := K N) hs hst s.len 0 (by omega) N (by omega)
    rw [C_slices_Equal_Var_K]
    refine if_not (by rw [hst]; simp) ?_
    simpa using this
  · refine Ev.step (Ev.of fun N => ?_)
    rw [C_slices_Equal_Var_K, eqL_len (by rw [varsOf_len, varsOf_len]; exact hst)]
    exact if_of (by simp; omega) rfl
theorem sameM_sp (l k1 k2 te ts ta tn tp l' k1' k2' te' ts' ta' tn' tp' : T) (hl : l.len ≤ 9223372036854775807) (h1 : KW k1) (h2 : KW k2) (he : KC te) (hs : KC ts) (ha : KW ta) (hn : KW tn) (hp : KW tp) (h1' : KW k1') (h2' : KW k2') (he' : KC te') (hs' : KC ts') (ha' : KW ta') (hn' : KW tn') (hp' : KW tp') :
    Ev fun N => ∀ o1 n1 o2 n2 p1 m1 p2 m2, C_module_Same (K N) l o1 n1 k1 o2 n2 k2 te ts ta tn tp l' p1 m1 k1' p2 m2 k2' te' ts' ta' tn' tp' = rb (sameM ⟨varsOf l, .mk o1 n1 (kidsOf k1), .mk o2 n2 (kidsOf k2), cmdsOf te, cmdsOf ts, kidsOf ta, kidsOf tn, kidsOf tp⟩ ⟨varsOf l', .mk p1 m1 (kidsOf k1'), .mk p2 m2 (kidsOf k2'), cmdsOf te', cmdsOf ts', kidsOf ta', kidsOf tn', kidsOf tp'⟩) := by
  refine Ev.step (Ev.imp4 (Ev.and (eqV_sp l l' hl) (Ev.and (sameX_sp k1 k1' h1 h1') (sameX_sp k2 k2' h2 h2'))) (Ev.and (eqC_sp te te' he he') (eqC_sp ts ts' hs hs')) (Ev.and (eqX_sp ta ta' ha ha') (eqX_sp tn tn' hn hn')) (eqX_sp tp tp' hp hp') fun N a b c d o1 n1 o2 n2 p1 m1 p2 m2 => ?_)
  obtain ⟨a1, a2, a3⟩ := a
  obtain ⟨b1, b2⟩ := b
  obtain ⟨c1, c2⟩ := c
  rw [C_module_Same_K]
  unfold sameM
  simp only
  refine bind_of a1 ?_
  cases eqL sameV (varsOf l) (varsOf l') with
  | false => exact if_not rfl rfl
  | true =>
  refine if_of rfl (bind_of (a2 ..) ?_)
  cases sameX (.mk o1 n1 (kidsOf k1)) (.mk p1 m1 (kidsOf k1')) with
  | false => exact if_not rfl rfl
  | true =>
  refine if_of rfl (bind_of (a3 ..) ?_)
  cases sameX (.mk o2 n2 (kidsOf k2)) (.mk p2 m2 (kidsOf k2')) with
  | false => exact if_not rfl rfl
  | true =>
  refine if_of rfl (bind_of b1 ?_)
  cases eqL sameC (cmdsOf te) (cmdsOf te') with
  | false => exact if_not rfl rfl
  | true =>
  refine if_of rfl (bind_of b2 ?_)
  cases eqL sameC (cmdsOf ts) (cmdsOf ts') with
  | false => exact if_not rfl rfl
  | true =>
  refine if_of rfl (bind_of c1 ?_)
  cases eqL sameX (kidsOf ta) (kidsOf ta') with
  | false => exact if_not rfl rfl
  | true =>
  refine if_of rfl (bind_of c2 ?_)
  cases eqL sameX (kidsOf tn) (kidsOf tn') with
  | false => exact if_not rfl rfl
  | true => exact if_of rfl (bind_of d rfl)
end Go.Proofs.Ytnjandhaeojieaa
