/- module.May and module.Same. -/
import Derived.Test.YtnjandhaeojieaaGreatLa30
set_option linter.unusedVariables false
set_option linter.unusedSimpArgs false
namespace Go.Proofs.YtnjandhaeojieaaGreat
open Go.AM
theorem full_sp (N : Nat) (l : T) (o1 n1 : Int) (k1 : T) (o2 n2 : Int) (k2 te ts ta tn tp : T) (m : Md) (he : m.env.length = te.len) (hs : m.sys.length = ts.len) (ha : m.assume.length = ta.len) (hn : m.ensure.length = tn.len) (hp : m.prio.length = tp.len) : C_module_full (K (N + 1)) l o1 n1 k1 o2 n2 k2 te ts ta tn tp = rb (fullM m) := by
  rw [C_module_full_K]
  unfold fullM
  rw [he, hs, ha, hn, hp]
  have e1 : (if (te.len : Int) < (ts.len : Int) then (ts.len : Int) else (te.len : Int)) = ((max te.len ts.len : Nat) : Int) := by split <;> omega
  have e2 : (if (ta.len : Int) < (tn.len : Int) then (tn.len : Int) else (ta.len : Int)) = ((max ta.len tn.len : Nat) : Int) := by split <;> omega
  rw [e1, e2]
  by_cases c1 : 12 < max te.len ts.len
  · rw [decide_eq_true c1, Bool.true_or, Bool.true_or]
    exact if_of (decide_eq_true (by omega)) rfl
  · rw [decide_eq_false c1, Bool.false_or]
    refine if_not (decide_eq_false (by omega)) ?_
    by_cases c2 : 4 < max ta.len tn.len
    · rw [decide_eq_true c2, Bool.true_or]
      exact if_of (decide_eq_true (by omega)) rfl
    · rw [decide_eq_false c2, Bool.false_or]
      refine if_not (decide_eq_false (by omega)) ?_
      have : decide ((tp.len : Int) > 6) = decide (6 < tp.len) := by rw [Bool.eq_iff_iff, decide_eq_true_eq, decide_eq_true_eq]; omega
      rw [this]; rfl
theorem MayM_sp (l : T) (hl : l.len ≤ 9223372036854775807) (k1 k2 te ts ta tn tp : T) (h1 : KW k1) (h2 : KW k2) (he : KC te) (hs : KC ts) (ha : KW ta) (hn : KW tn) (hp : KW tp) :
    Ev fun N => ∀ o1 n1 o2 n2, C_module_May (K N) l o1 n1 k1 o2 n2 k2 te ts ta tn tp = ri (mayM ⟨varsOf l, .mk o1 n1 (kidsOf k1), .mk o2 n2 (kidsOf k2), cmdsOf te, cmdsOf ts, kidsOf ta, kidsOf tn, kidsOf tp⟩) := by
  have base := Ev.imp4 ((MayV_sp l hl).up 2) (Ev.and ((Needs_sp l hl k1 h1).up 1) ((Needs_sp l hl k2 h2).up 1)) (Ev.and (Ev.all (k := te.len) fun i hi => MayCommand_sp l hl _ _ (he.2 i hi).1 (he.2 i hi).2) (Ev.all (k := ts.len) fun i hi => MayCommand_sp l hl _ _ (hs.2 i hi).1 (hs.2 i hi).2)) (Ev.ge (te.len + ts.len + 20)) fun N a b c d => (⟨a, b, c, d⟩ : _ ∧ _ ∧ _ ∧ _)
  by_cases small : ta.len ≤ 4 ∧ tn.len ≤ 4 ∧ tp.len ≤ 6
  · obtain ⟨t, ct, kt, wt⟩ := concat_sp ha hn hp small.1 small.2.1 small.2.2
    have ltt : t.len = ta.len + tn.len + tp.len := by
      have := congrArg List.length kt
      simpa only [kidsOf_len, List.length_append] using this
    refine Ev.step (Ev.step (Ev.step (Ev.imp3 base (ct.up 2) (Ev.and (Ev.all (k := t.len) fun i hi => Needs_sp l hl (t.el i 2) (wt.el hi)) (Ev.ge (t.len + 20))) fun N hb hct h3 o1 n1 o2 n2 => ?_)))
    obtain ⟨hv, ⟨hN1, hN2⟩, ⟨hce, hcs⟩, hN⟩ := hb
    obtain ⟨hNt, hN'⟩ := h3
    rw [C_module_May_K]
    unfold mayM
    simp only
    refine bind_of hv ?_
    by_cases c1 : mayV (varsOf l) = 0
    rotate_left
    · rw [if_pos c1]; exact if_of (by simpa [lookR_0, int_i] using c1) rfl
    rw [if_neg (by simpa using c1)]
    refine if_not (by simp [lookR_0, int_i, c1]) (bind_of (C_module_May_1_K (N + 1) false _) (bind_of (mayB1_sp (N := N + 1) (now := false) (o := o1) (n := n1) hN1 rfl rfl) ?_))
    by_cases c2 : needsE (varsOf l) (.mk o1 n1 (kidsOf k1)) 1 false false false = 0
    rotate_left
    · rw [if_pos c2]; exact if_of (by simpa [lookR_0, int_i] using c2) rfl
    rw [if_neg (by simpa using c2)]
    refine if_not (by simp [lookR_0, int_i, c2]) (bind_of (C_module_May_1_K (N + 1) true _) (bind_of (mayB1_sp (N := N + 1) (now := true) (o := o2) (n := n2) hN2 rfl rfl) ?_))
    by_cases c3 : needsE (varsOf l) (.mk o2 n2 (kidsOf k2)) 1 true false false = 0
    rotate_left
    · rw [if_pos c3]; exact if_of (by simpa [lookR_0, int_i] using c3) rfl
    rw [if_neg (by simpa using c3)]
    refine if_not (by simp [lookR_0, int_i, c3]) (bind_of (full_sp (N + 1) l o1 n1 k1 o2 n2 k2 te ts ta tn tp ⟨varsOf l, .mk o1 n1 (kidsOf k1), .mk o2 n2 (kidsOf k2), cmdsOf te, cmdsOf ts, kidsOf ta, kidsOf tn, kidsOf tp⟩ (cmdsOf_len _) (cmdsOf_len _) (kidsOf_len _) (kidsOf_len _) (kidsOf_len _)) ?_)
    by_cases c4 : fullM ⟨varsOf l, .mk o1 n1 (kidsOf k1), .mk o2 n2 (kidsOf k2), cmdsOf te, cmdsOf ts, kidsOf ta, kidsOf tn, kidsOf tp⟩ = true
    · rw [if_pos c4]; exact if_of c4 rfl
    rw [if_neg c4]
    have fe : ∀ c1 c2 : Nat → T, c1 0 = l → c2 0 = .b true → C_module_first_Command_by_module_May_2_1 (K (N + 1 + 1)) te c1 c2 = ri (firstE (mayCmd (varsOf l) true) (cmdsOf te)) := by
      intro c1 c2 q1 q2
      rw [C_module_first_Command_by_module_May_2_1_K]
      have := firstC_sp (h := K (N + 1)) (t := te) (c1 := c1) (c2 := c2) (f := mayCmd (varsOf l) true) he.1 (fun i hi => mayB2_sp (hce i hi) q1 q2) te.len 0 (by omega) (N + 1) (by omega)
      simpa using this
    have fs : ∀ c1 c2 : Nat → T, c1 0 = l → c2 0 = .b false → C_module_first_Command_by_module_May_2_1 (K (N + 1 + 1)) ts c1 c2 = ri (firstE (mayCmd (varsOf l) false) (cmdsOf ts)) := by
      intro c1 c2 q1 q2
      rw [C_module_first_Command_by_module_May_2_1_K]
      have := firstC_sp (h := K (N + 1)) (t := ts) (c1 := c1) (c2 := c2) (f := mayCmd (varsOf l) false) hs.1 (fun i hi => mayB2_sp (hcs i hi) q1 q2) ts.len 0 (by omega) (N + 1) (by omega)
      simpa using this
    refine if_not (by rw [lookR_0, bool_b]; simpa using c4) (bind_of (C_module_May_2_K (N + 1) true _) (bind_of (fe _ _ rfl rfl) ?_))
    by_cases c5 : firstE (mayCmd (varsOf l) true) (cmdsOf te) = 0
    rotate_left
    · rw [if_pos c5]; exact if_of (by simpa [lookR_0, int_i] using c5) rfl
    rw [if_neg (by simpa using c5)]
    refine if_not (by simp [lookR_0, int_i, c5]) (bind_of (C_module_May_2_K (N + 1) false _) (bind_of (fs _ _ rfl rfl) ?_))
    by_cases c6 : firstE (mayCmd (varsOf l) false) (cmdsOf ts) = 0
    rotate_left
    · rw [if_pos c6]; exact if_of (by simpa [lookR_0, int_i] using c6) rfl
    rw [if_neg (by simpa using c6)]
    refine if_not (by simp [lookR_0, int_i, c6]) ?_
    have last : module_May.B0 (K (N + 1 + 1)) (N + 1 + 1) (fun j => ([l, T.i o1, T.i n1, k1, T.i o2, T.i n2, k2, te, ts, ta, tn, tp] : List T).getD j (.b false)) (fun j => ([l, T.i o1, T.i n1, k1, T.i o2, T.i n2, k2, te, ts, ta, tn, tp] : List T).getD j (.b false)) = ri (firstE (fun e => needsE (varsOf l) e 1 true false false) (kidsOf ta ++ kidsOf tn ++ kidsOf tp)) := by
      have ff : ∀ c1 c2 : Nat → T, c1 0 = l → c2 0 = .b true → C_module_first_Expr_by_module_May_1_1 (K (N + 1 + 1)) (T.l t.len fun i j => t.el (0 + i) j) c1 c2 = ri (firstE (fun e => needsE (varsOf l) e 1 true false false) (kidsOf ta ++ kidsOf tn ++ kidsOf tp)) := by
        intro c1 c2 q1 q2
        rw [C_module_first_Expr_by_module_May_1_1_K]
        have hk : kidsOf (T.l t.len fun i j => t.el (0 + i) j) = kidsOf t := by rw [kidsOf_eq, kidsOf_eq t]; refine List.map_congr_left fun i _ => ?_; show Ex.mk (t.el (0 + i) 0).int (t.el (0 + i) 1).int (kidsOf (t.el (0 + i) 2)) = _; rw [Nat.zero_add]; rfl
        have := firstX_sp (h := K (N + 1)) (t := T.l t.len fun i j => t.el (0 + i) j) (c1 := c1) (c2 := c2) (f := fun e => needsE (varsOf l) e 1 true false false) (by show t.len ≤ _; omega) (fun i hi => by
          show C_module_May_1_1 (K (N + 1)) (t.el (0 + i) 0).int (t.el (0 + i) 1).int (t.el (0 + i) 2) _ _ = ri (needsE (varsOf l) (.mk (t.el (0 + i) 0).int (t.el (0 + i) 1).int (kidsOf (t.el (0 + i) 2))) 1 true false false)
          rw [Nat.zero_add]
          exact mayB1_sp (hNt i hi) q1 q2) t.len 0 (by show 0 + t.len = t.len; omega) (N + 1) (by omega)
        rw [hk, kt, List.drop_zero] at this
        exact this
      rw [module_May.B0_eq]
      exact bind_of hct (bind_of (C_module_May_1_K (N + 1) true _) (bind_of (ff _ _ rfl rfl) rfl))
    by_cases c7 : 0 < tp.len
    · by_cases c8 : 0 < ta.len + tn.len
      · rw [if_pos ⟨by rw [kidsOf_len]; exact c7, by rw [kidsOf_len, kidsOf_len]; exact c8⟩]
        refine if_of (decide_eq_true (by show (tp.len : Int) > 0; omega)) (if_of (decide_eq_true ?_) rfl)
        show IntKind.wrap .i64 ((ta.len : Int) + (tn.len : Int)) > 0
        rw [wrap_eq (by omega) (by omega)]; omega
      · rw [if_neg (by rw [kidsOf_len, kidsOf_len, kidsOf_len]; omega)]
        refine if_of (decide_eq_true (by show (tp.len : Int) > 0; omega)) (if_not (decide_eq_false ?_) last)
        show ¬ IntKind.wrap .i64 ((ta.len : Int) + (tn.len : Int)) > 0
        rw [wrap_eq (by omega) (by omega)]; omega
    · rw [if_neg (by rw [kidsOf_len, kidsOf_len, kidsOf_len]; omega)]
      exact if_not (decide_eq_false (by show ¬ (tp.len : Int) > 0; omega)) last
  · refine Ev.step (Ev.step (Ev.step (base.imp fun N hb o1 n1 o2 n2 => ?_)))
    obtain ⟨hv, ⟨hN1, hN2⟩, ⟨hce, hcs⟩, hN⟩ := hb
    have hf : fullM ⟨varsOf l, .mk o1 n1 (kidsOf k1), .mk o2 n2 (kidsOf k2), cmdsOf te, cmdsOf ts, kidsOf ta, kidsOf tn, kidsOf tp⟩ = true := by
      unfold fullM
      simp only [cmdsOf_len, kidsOf_len, Bool.or_eq_true, decide_eq_true_eq]
      omega
    rw [C_module_May_K]
    unfold mayM
    simp only
    refine bind_of hv ?_
    by_cases c1 : mayV (varsOf l) = 0
    rotate_left
    · rw [if_pos c1]; exact if_of (by simpa [lookR_0, int_i] using c1) rfl
    rw [if_neg (by simpa using c1)]
    refine if_not (by simp [lookR_0, int_i, c1]) (bind_of (C_module_May_1_K (N + 1) false _) (bind_of (mayB1_sp (N := N + 1) (now := false) (o := o1) (n := n1) hN1 rfl rfl) ?_))
    by_cases c2 : needsE (varsOf l) (.mk o1 n1 (kidsOf k1)) 1 false false false = 0
    rotate_left
    · rw [if_pos c2]; exact if_of (by simpa [lookR_0, int_i] using c2) rfl
    rw [if_neg (by simpa using c2)]
    refine if_not (by simp [lookR_0, int_i, c2]) (bind_of (C_module_May_1_K (N + 1) true _) (bind_of (mayB1_sp (N := N + 1) (now := true) (o := o2) (n := n2) hN2 rfl rfl) ?_))
    by_cases c3 : needsE (varsOf l) (.mk o2 n2 (kidsOf k2)) 1 true false false = 0
    rotate_left
    · rw [if_pos c3]; exact if_of (by simpa [lookR_0, int_i] using c3) rfl
    rw [if_neg (by simpa using c3)]
    have hfs := full_sp (N + 1) l o1 n1 k1 o2 n2 k2 te ts ta tn tp ⟨varsOf l, .mk o1 n1 (kidsOf k1), .mk o2 n2 (kidsOf k2), cmdsOf te, cmdsOf ts, kidsOf ta, kidsOf tn, kidsOf tp⟩ (cmdsOf_len _) (cmdsOf_len _) (kidsOf_len _) (kidsOf_len _) (kidsOf_len _)
    rw [hf] at hfs ⊢
    rw [if_pos rfl]
    exact if_not (by simp [lookR_0, int_i, c3]) (bind_of hfs (if_of rfl rfl))
end Go.Proofs.YtnjandhaeojieaaGreat
