/- What package dom's functions come to. -/
import Derived.Test.YtfejbgnbganolaaMo2
import Derived.Test.YtfejbgnbganolaaSp1
set_option linter.unusedVariables false
set_option linter.unusedSimpArgs false
namespace Go.Proofs.Ytfejbgnbganolaa
open Go.AM

theorem indexS_sp {h : H} {l : T} (hl : l.len ≤ 9223372036854775807) (s : ByteArray) : ∀ (m i : Nat), i + m = l.len → ∀ N, m < N → ∃ x, slices_Index_string.B0 h N l s (l.len : Int) (i : Int) = ri x ∧ decide (x ≥ 0) = ((strsOf l).drop i).any fun w => strEq s w
  | 0, i, hi, N, hN => by
    obtain ⟨N, rfl⟩ : ∃ M, N = M + 1 := ⟨N - 1, by omega⟩
    refine ⟨-1, ?_, ?_⟩
    · rw [slices_Index_string.B0_eq]
      simp only [Bool.cond_eq_ite, decide_eq_true_eq]
      rw [if_neg (by omega)]
      rfl
    · unfold strsOf; rw [range_end _ (by omega)]; rfl
  | m + 1, i, hi, N, hN => by
    obtain ⟨N, rfl⟩ : ∃ M, N = M + 1 := ⟨N - 1, by omega⟩
    have hlt : i < l.len := by omega
    have ih := indexS_sp (h := h) hl s m (i + 1) (by omega) N (by omega)
    unfold strsOf at ih ⊢
    rw [slices_Index_string.B0_eq, range_from _ hlt]
    simp only [Bool.cond_eq_ite, decide_eq_true_eq, Bool.and_eq_true, List.any_cons]
    rw [if_pos (by omega), if_pos (by omega), Int.toNat_natCast, wrap_eq (by omega) (by omega)]
    cases hs : strEq s (l.el i 0).str with
    | true => exact ⟨i, rfl, by simp⟩
    | false =>
      obtain ⟨x, h1, h2⟩ := ih
      exact ⟨x, by rw [if_neg (by simp)]; exact h1, by rw [h2]; rfl⟩
theorem containsS_sp (l : T) (hl : l.len ≤ 9223372036854775807) : Ev fun N => ∀ s, C_slices_Contains_string (K N) l s = rb ((strsOf l).any fun w => strEq s w) :=
  Ev.step (Ev.step ((Ev.ge (l.len + 1)).imp fun N hN s => by
    obtain ⟨x, h1, h2⟩ := indexS_sp (h := K N) hl s l.len 0 (by omega) N (by omega)
    rw [C_slices_Contains_string_K, C_slices_Index_string_K]
    have h1 : slices_Index_string.B0 (K N) N l s (l.len : Int) 0 = ri x := h1
    rw [h1, ri_bind, lookR_0, int_i, h2]
    rfl))
theorem nameB_sp {h : H} {s : ByteArray} (hs : s.size ≤ 16) : ∀ (m i : Nat), i + m = s.size → ∀ N, 2 * m < N → dom_name.B0 h N s (s.size : Int) (i : Int) = rb (charsFrom s i m)
  | 0, i, hi, N, hN => by
    obtain ⟨N, rfl⟩ : ∃ M, N = M + 1 := ⟨N - 1, by omega⟩
    rw [dom_name.B0_eq]
    simp only [Bool.cond_eq_ite, decide_eq_true_eq]
    rw [if_neg (by omega)]
    rfl
  | m + 1, i, hi, N, hN => by
    obtain ⟨N, rfl⟩ : ∃ M, N = M + 2 := ⟨N - 2, by omega⟩
    have ih := nameB_sp (h := h) hs m (i + 1) (by omega) N (by omega)
    rw [dom_name.B0_eq, dom_name.B1_eq, wrap_eq (by omega) (by omega)]
    have ih' : dom_name.B0 h N s (s.size : Int) ((i : Int) + 1) = rb (charsFrom s (i + 1) m) := ih
    rw [ih', Int.toNat_natCast]
    simp only [Bool.cond_eq_ite, decide_eq_true_eq, Bool.and_eq_true, beq_iff_eq, charsFrom]
    rw [if_pos (by omega), if_pos (by omega)]
    generalize bt s i = c
    have e : ∀ b : Bool, charOk i c = b → (charOk i c && charsFrom s (i + 1) m) = (b && charsFrom s (i + 1) m) := fun b hb => by rw [hb]
    have yes : charOk i c = true ↔ (97 ≤ c ∧ c ≤ 122 ∨ 0 < i ∧ (48 ≤ c ∧ c ≤ 57 ∨ c = 95)) := by unfold charOk; simp
    have no : charOk i c = false ↔ ¬ (97 ≤ c ∧ c ≤ 122 ∨ 0 < i ∧ (48 ≤ c ∧ c ≤ 57 ∨ c = 95)) := by rw [← yes]; simp
    repeat' split
    all_goals first
      | (rw [e true (yes.2 (by omega))]; rfl)
      | (rw [e false (no.2 (by omega))]; rfl)
theorem words_sp : Ev fun N => C_dom_words (K N) = some (lookR [(0, (T.l 18 fun i j => ((words.map fun w => [T.s w]).getD i []).getD j (.b false)))]) :=
  Ev.step (Ev.of fun N => C_dom_words_K N)
theorem name_sp : Ev fun N => ∀ s, C_dom_name (K N) s = rb (nameE s) := by
  refine Ev.step (Ev.imp3 words_sp (containsS_sp (T.l 18 fun i j => ((words.map fun w => [T.s w]).getD i []).getD j (.b false)) (by decide)) (Ev.ge 40) fun N hw hc hN s => ?_)
  rw [C_dom_name_K]
  unfold nameE
  simp only [Bool.cond_eq_ite, decide_eq_true_eq]
  by_cases h1 : (s.size : Int) < 1
  · rw [if_pos h1]
    have : decide (1 ≤ s.size ∧ s.size ≤ 16) = false := by simp; omega
    rw [this]; rfl
  · rw [if_neg h1]
    by_cases h2 : (s.size : Int) > 16
    · rw [if_pos h2]
      have : decide (1 ≤ s.size ∧ s.size ≤ 16) = false := by simp; omega
      rw [this]; rfl
    · rw [if_neg h2]
      have h3 : decide (1 ≤ s.size ∧ s.size ≤ 16) = true := by simp; omega
      rw [h3, hw, some_bind, lookR_0]
      have e1 : (T.l ((T.l 18 fun i j => ((words.map fun w => [T.s w]).getD i []).getD j (.b false)).len) fun i j => (T.l 18 fun i j => ((words.map fun w => [T.s w]).getD i []).getD j (.b false)).el (0 + i) j) = (T.l 18 fun i j => ((words.map fun w => [T.s w]).getD i []).getD j (.b false)) := by
        show T.l 18 _ = T.l 18 _
        congr 1
        funext i j
        show ((words.map fun w => [T.s w]).getD (0 + i) []).getD j (.b false) = _
        rw [Nat.zero_add]
      rw [e1, hc s, rb_bind, lookR_0, bool_b]
      have e2 : (strsOf (T.l 18 fun i j => ((words.map fun w => [T.s w]).getD i []).getD j (.b false))) = words := rfl
      rw [e2]
      show (if (wordE s) = true then _ else _) = _
      cases hwd : wordE s with
      | true => rfl
      | false =>
        rw [if_neg (by simp)]
        have := nameB_sp (h := K N) (s := s) (by omega) s.size 0 (by omega) N (by omega)
        simpa using this
theorem Find1_sp (N : Nat) (a : ByteArray) (b : Bool) (x y z : Int) (c : Nat → T) : C_dom_Find_1 (K (N + 1)) a b x y z c = rb (strEq a (c 0).str) := C_dom_Find_1_K N a b x y z c
theorem findI_sp {N : Nat} {l : T} (hl : l.len ≤ 9223372036854775807) (c : Nat → T) : ∀ (m i : Nat), i + m = l.len → ∀ M, m < M → slices_IndexFunc_Var_by_dom_Find_1.B0 (K (N + 1)) M l c (l.len : Int) (i : Int) = ri (findFrom (c 0).str ((varsOf l).drop i) i)
  | 0, i, hi, M, hM => by
    obtain ⟨M, rfl⟩ : ∃ M', M = M' + 1 := ⟨M - 1, by omega⟩
    rw [slices_IndexFunc_Var_by_dom_Find_1.B0_eq]
    unfold varsOf
    rw [range_end _ (by omega)]
    simp only [Bool.cond_eq_ite, decide_eq_true_eq]
    rw [if_neg (by omega)]
    rfl
  | m + 1, i, hi, M, hM => by
    obtain ⟨M, rfl⟩ : ∃ M', M = M' + 1 := ⟨M - 1, by omega⟩
    have hlt : i < l.len := by omega
    have ih := findI_sp (N := N) hl c m (i + 1) (by omega) M (by omega)
    unfold varsOf at ih ⊢
    rw [slices_IndexFunc_Var_by_dom_Find_1.B0_eq, range_from _ hlt, Find1_sp, rb_bind, lookR_0, bool_b]
    simp only [Bool.cond_eq_ite, decide_eq_true_eq, Bool.and_eq_true, findFrom]
    rw [if_pos (by omega), if_pos (by omega), Int.toNat_natCast, wrap_eq (by omega) (by omega)]
    show (if strEq (vaAt l i).name (c 0).str = true then _ else _) = _
    split
    · rfl
    · exact ih
theorem Find_sp (l : T) (hl : l.len ≤ 9223372036854775807) : Ev fun N => ∀ s, C_dom_Find (K N) l s = ri (findE (varsOf l) s) := by
  refine ⟨l.len + 5, fun N hN s => ?_⟩
  obtain ⟨N, rfl⟩ : ∃ M, N = M + 3 := ⟨N - 3, by omega⟩
  rw [C_dom_Find_K, C_slices_IndexFunc_Var_by_dom_Find_1_K]
  have := findI_sp (N := N) hl (fun j => ([T.s s] : List T).getD j (.b false)) l.len 0 (by omega) (N + 1) (by omega)
  have e : ((([T.s s] : List T).getD 0 (.b false))).str = s := rfl
  simp only [e] at this
  have this : slices_IndexFunc_Var_by_dom_Find_1.B0 (K (N + 1)) (N + 1) l (fun j => ([T.s s] : List T).getD j (.b false)) (l.len : Int) 0 = ri (findFrom s ((varsOf l).drop 0) 0) := this
  rw [this]
  rfl
theorem Size_sp : Ev fun N => ∀ a b x y z, C_dom_Size (K N) a b x y z = ri (sizeV ⟨a, b, x, y, z⟩) := by
  refine ⟨2, fun N hN a b x y z => ?_⟩
  obtain ⟨N, rfl⟩ : ∃ M, N = M + 2 := ⟨N - 2, by omega⟩
  rw [C_dom_Size_K, dom_Size.B0_eq]
  unfold sizeV
  simp only [Bool.cond_eq_ite, decide_eq_true_eq, beq_iff_eq]
  repeat' split
  all_goals first
    | rfl
    | (exfalso; omega)
    | (show ri _ = ri _; congr 1; rw [wrap_eq (a := z - y) (by omega) (by omega), wrap_eq (by omega) (by omega)])
theorem low_sp : Ev fun N => ∀ a b x y z, C_dom_low (K N) a b x y z = ri (lowV ⟨a, b, x, y, z⟩) := by
  refine ⟨2, fun N hN a b x y z => ?_⟩
  obtain ⟨N, rfl⟩ : ∃ M, N = M + 2 := ⟨N - 2, by omega⟩
  rw [C_dom_low_K]
  unfold lowV
  simp only [Bool.cond_eq_ite, decide_eq_true_eq, beq_iff_eq]
  split <;> rfl
theorem sorted_sp : Ev fun N => ∀ a b x y z, C_dom_sorted (K N) a b x y z = ri (sortedV ⟨a, b, x, y, z⟩) := by
  refine Ev.step (Size_sp.imp2 (Ev.ge 2) fun N hS hN a b x y z => ?_)
  obtain ⟨N, rfl⟩ : ∃ M, N = M + 1 := ⟨N - 1, by omega⟩
  rw [C_dom_sorted_K]
  simp only [hS, ri_bind, lookR_0, int_i, dom_sorted.B0_eq]
  unfold sortedV
  simp only [Bool.cond_eq_ite, decide_eq_true_eq, beq_iff_eq, bne_iff_ne, ne_eq]
  generalize sizeV ⟨a, b, x, y, z⟩ = q
  repeat' split
  all_goals first
    | rfl
    | (exfalso; simp_all; done)
    | (exfalso; omega)
end Go.Proofs.Ytfejbgnbganolaa
