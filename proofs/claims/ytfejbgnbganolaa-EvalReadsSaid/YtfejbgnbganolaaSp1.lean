/- What package expr's functions come to. -/
import Derived.Test.YtfejbgnbganolaaMo1
import Derived.Test.YtfejbgnbganolaaFn1
import Derived.Test.YtfejbgnbganolaaFn2
import Derived.Test.YtfejbgnbganolaaFn3
import Derived.Test.YtfejbgnbganolaaFn4
import Derived.Test.YtfejbgnbganolaaFn5
import Derived.Test.YtfejbgnbganolaaFn6
import Derived.Test.YtfejbgnbganolaaFn7
import Derived.Test.YtfejbgnbganolaaFn8
set_option linter.unusedVariables false
set_option linter.unusedSimpArgs false
namespace Go.Proofs.Ytfejbgnbganolaa
open Go.AM

theorem Kids_sp : Ev fun n => ∀ op, C_expr_Kids (K n) op = ri (kidsN op) := by
  refine ⟨9, fun n hn op => ?_⟩
  obtain ⟨m, rfl⟩ : ∃ m, n = m + 2 := ⟨n - 2, by omega⟩
  rw [C_expr_Kids_K, expr_Kids.B0_eq]
  unfold kidsN ri
  simp only [Bool.cond_eq_ite, decide_eq_true_eq, beq_iff_eq]
  repeat' split
  all_goals first | rfl | (exfalso; omega)
theorem number_sp : Ev fun N => ∀ op n k, C_expr_number (K N) op n k = rb (numberE op n) := by
  refine ⟨9, fun N hn op n k => ?_⟩
  obtain ⟨m, rfl⟩ : ∃ m, N = m + 2 := ⟨N - 2, by omega⟩
  rw [C_expr_number_K, expr_number.B0_eq, expr_number.B0_eq]
  unfold numberE
  simp only [Bool.cond_eq_ite, decide_eq_true_eq, beq_iff_eq]
  repeat' split
  all_goals first
    | rfl
    | (exfalso; omega)
    | (refine congrArg rb ?_; rw [Bool.eq_iff_iff]; simp only [decide_eq_true_eq, beq_iff_eq, Bool.false_eq_true, eq_self_iff_true, true_iff, false_iff]; omega)
theorem goesB_sp {h : H} {k : T} (hk : KW k) {d : Int} (h0 : 0 ≤ d) (h1 : d ≤ 12)
    (hc : ∀ i, i < k.len → ∀ op m n b, 0 ≤ n → n ≤ 60 → C_expr_count_goes h op m (k.el i 2) (d + 1) n b = rib (goesE (.mk op m (kidsOf (k.el i 2))) (d + 1) n b).1 (goesE (.mk op m (kidsOf (k.el i 2))) (d + 1) n b).2) :
    ∀ (m i : Nat), i + m = k.len → ∀ (N : Nat) (n : Int) (b : Bool), m < N → 0 ≤ n → n ≤ 61 → expr_count_goes.B0 h N d k (k.len : Int) (i : Int) n b = rib (goesL ((kidsOf k).drop i) d n b).1 (goesL ((kidsOf k).drop i) d n b).2
  | 0, i, hi, N, n, b, hN, hn0, hn1 => by
    obtain ⟨N, rfl⟩ : ∃ M, N = M + 1 := ⟨N - 1, by omega⟩
    rw [expr_count_goes.B0_eq, List.drop_of_length_le (by rw [kidsOf_len]; omega)]
    simp only [Bool.cond_eq_ite, decide_eq_true_eq]
    rw [if_neg (by omega)]
    rfl
  | m + 1, i, hi, N, n, b, hN, hn0, hn1 => by
    obtain ⟨N, rfl⟩ : ∃ M, N = M + 1 := ⟨N - 1, by omega⟩
    have hlt : i < k.len := by omega
    have hlen := hk.len
    rw [expr_count_goes.B0_eq, kidsOf_from k i hlt]
    simp only [Bool.cond_eq_ite, decide_eq_true_eq, Bool.and_eq_true, goesL]
    rw [if_pos (by omega), if_pos (by omega)]
    by_cases hn : 60 < n
    · rw [if_pos hn, if_pos hn]; rfl
    · rw [if_neg hn, if_neg hn, wrap_eq (by omega) (by omega), Int.toNat_natCast, hc i hlt _ _ n b hn0 (by omega), rib_bind, lookR_0, lookR_1, int_i, bool_b, wrap_eq (by omega) (by omega)]
      have hr := goesE_range (exAt k i) (d + 1) n b hn0 (by omega)
      exact goesB_sp hk h0 h1 hc m (i + 1) (by omega) N _ _ (by omega) (by unfold exAt at hr; omega) hr.2
theorem goes_sp : ∀ k, KW k → ∀ d : Int, 0 ≤ d → d ≤ 13 → Ev fun N => ∀ op m n b, 0 ≤ n → n ≤ 60 → C_expr_count_goes (K N) op m k d n b = rib (goesE (.mk op m (kidsOf k)) d n b).1 (goesE (.mk op m (kidsOf k)) d n b).2 := by
  refine kids_ind fun k ih hk d h0 h1 => ?_
  by_cases hd : 12 < d
  · refine ⟨1, fun N hN op m n b hn0 hn1 => ?_⟩
    obtain ⟨N, rfl⟩ : ∃ M, N = M + 1 := ⟨N - 1, by omega⟩
    rw [C_expr_count_goes_K]
    simp only [Bool.cond_eq_ite, decide_eq_true_eq, goesE]
    rw [if_pos (by omega), if_pos hd]
    rfl
  · refine Ev.step ((Ev.all (k := k.len) fun i hi => ih i hi (hk.el hi) (d + 1) (by omega) (by omega)).imp2 (Ev.ge (k.len + 1)) fun N hc hN op m n b hn0 hn1 => ?_)
    rw [C_expr_count_goes_K]
    simp only [Bool.cond_eq_ite, decide_eq_true_eq, goesE]
    rw [if_neg (by omega), if_neg hd, wrap_eq (by omega) (by omega)]
    by_cases hn : 60 < n + 1
    · rw [if_pos (by omega), if_pos hn]; rfl
    · rw [if_neg (by omega), if_neg hn]
      have := goesB_sp hk h0 (by omega) hc k.len 0 (by omega) N (n + 1) b (by omega) (by omega) (by omega)
      simpa using this
theorem counted_sp (k : T) (hk : KW k) : Ev fun N => ∀ op m, C_expr_counted (K N) op m k = rib (nodesE (.mk op m (kidsOf k))) (goesE (.mk op m (kidsOf k)) 1 0 false).2 :=
  Ev.step ((goes_sp k hk 1 (by omega) (by omega)).imp fun N h op m => by
    rw [C_expr_counted_K, h op m 0 false (by omega) (by omega)]; rfl)
theorem Nodes_sp (k : T) (hk : KW k) : Ev fun N => ∀ op m, C_expr_Nodes (K N) op m k = ri (nodesE (.mk op m (kidsOf k))) :=
  Ev.step ((counted_sp k hk).imp fun N h op m => by rw [C_expr_Nodes_K, h]; rfl)
theorem light_sp (k : T) (hk : KW k) : Ev fun N => ∀ op m, C_expr_light (K N) op m k = rb (lightE (.mk op m (kidsOf k))) :=
  Ev.step ((counted_sp k hk).imp fun N h op m => by
    rw [C_expr_light_K, h, rib_bind, lookR_0, lookR_1, int_i, bool_b]
    simp only [Bool.cond_eq_ite, decide_eq_true_eq, lightE]
    split
    · rename_i hle; simp [hle, rb]
    · rename_i hle; simp [hle, rb])
theorem soundI_sp {h : H} {k : T} (hk : KW k) (hc : ∀ i, i < k.len → ∀ op m, C_expr_sound_1 h op m (k.el i 2) = rb (!soundE (.mk op m (kidsOf (k.el i 2))))) :
    ∀ (m i : Nat), i + m = k.len → ∀ (N : Nat), m < N → ∃ x, slices_IndexFunc_Expr_by_expr_sound_1.B0 h N k (k.len : Int) (i : Int) = ri x ∧ decide (x ≥ 0) = !soundL ((kidsOf k).drop i)
  | 0, i, hi, N, hN => by
    obtain ⟨N, rfl⟩ : ∃ M, N = M + 1 := ⟨N - 1, by omega⟩
    refine ⟨-1, ?_, ?_⟩
    · rw [slices_IndexFunc_Expr_by_expr_sound_1.B0_eq]
      simp only [Bool.cond_eq_ite, decide_eq_true_eq]
      rw [if_neg (by omega)]
      rfl
    · rw [List.drop_of_length_le (by rw [kidsOf_len]; omega)]; rfl
  | m + 1, i, hi, N, hN => by
    obtain ⟨N, rfl⟩ : ∃ M, N = M + 1 := ⟨N - 1, by omega⟩
    have hlt : i < k.len := by omega
    have hlen := hk.len
    rw [slices_IndexFunc_Expr_by_expr_sound_1.B0_eq, kidsOf_from k i hlt]
    simp only [Bool.cond_eq_ite, decide_eq_true_eq, Bool.and_eq_true, soundL]
    rw [if_pos (by omega), if_pos (by omega), Int.toNat_natCast, hc i hlt, rb_bind, lookR_0, bool_b, wrap_eq (by omega) (by omega)]
    show ∃ x, (if (!soundE (exAt k i)) = true then _ else _) = ri x ∧ _
    cases hs : soundE (exAt k i) with
    | false => exact ⟨i, rfl, by simp⟩
    | true =>
      obtain ⟨x, h1, h2⟩ := soundI_sp hk hc m (i + 1) (by omega) N (by omega)
      exact ⟨x, by rw [if_neg (by simp)]; exact h1, by rw [h2]; rfl⟩
theorem sound_sp : ∀ k, KW k → Ev fun N => ∀ op m, C_expr_sound (K N) op m k = rb (soundE (.mk op m (kidsOf k))) := by
  refine kids_ind fun k ih hk => ?_
  have h1 : Ev fun N => ∀ i, i < k.len → ∀ op m, C_expr_sound_1 (K N) op m (k.el i 2) = rb (!soundE (.mk op m (kidsOf (k.el i 2)))) :=
    Ev.all fun i hi => Ev.step ((ih i hi (hk.el hi)).imp fun N h op m => by rw [C_expr_sound_1_K, h]; rfl)
  have h2 : Ev fun N => ∃ x, C_slices_IndexFunc_Expr_by_expr_sound_1 (K N) k = ri x ∧ decide (x ≥ 0) = !soundL (kidsOf k) :=
    Ev.step ((h1.imp2 (Ev.ge (k.len + 1))) fun N h hN => by
      rw [C_slices_IndexFunc_Expr_by_expr_sound_1_K]
      have := soundI_sp hk h k.len 0 (by omega) N (by omega)
      simpa using this)
  have h3 : Ev fun N => C_slices_ContainsFunc_Expr_by_expr_sound_1 (K N) k = rb (!soundL (kidsOf k)) :=
    Ev.step (h2.imp fun N ⟨x, h, hx⟩ => by
      rw [C_slices_ContainsFunc_Expr_by_expr_sound_1_K, h, ri_bind, lookR_0, int_i, hx]; rfl)
  refine Ev.step (Ev.imp3 h3 Kids_sp number_sp fun N h3 hK hn op m => ?_)
  rw [C_expr_sound_K, hK, ri_bind, lookR_0, int_i, hn, rb_bind, lookR_0, bool_b, h3, rb_bind, lookR_0, bool_b]
  simp only [Bool.cond_eq_ite, decide_eq_true_eq, beq_iff_eq, soundE, kidsOf_len, ge_iff_le]
  by_cases c1 : 0 ≤ kidsN op
  · rw [if_pos c1]
    by_cases c2 : (k.len : Int) = kidsN op
    · rw [if_pos c2]
      cases c3 : numberE op m with
      | true => simp [c1, c2, rb]
      | false => simp [c1, c2, rb]
    · rw [if_neg c2]; simp [c1, c2, rb]
  · rw [if_neg c1]; simp [c1, rb]
theorem May_sp (k : T) (hk : KW k) : Ev fun N => ∀ op m, C_expr_May (K N) op m k = ri (mayE (.mk op m (kidsOf k))) :=
  Ev.step ((light_sp k hk).imp2 (sound_sp k hk) fun N h1 h2 op m => by
    rw [C_expr_May_K, h1, rb_bind, lookR_0, bool_b, h2, rb_bind, lookR_0, bool_b]
    unfold mayE
    cases lightE (.mk op m (kidsOf k)) <;> cases soundE (.mk op m (kidsOf k)) <;> rfl)
end Go.Proofs.Ytfejbgnbganolaa
