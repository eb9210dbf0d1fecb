/- What package dom's other functions come to. -/
import Derived.Test.YtfejbgnbganolaaSp2
set_option linter.unusedVariables false
set_option linter.unusedSimpArgs false
namespace Go.Proofs.Ytfejbgnbganolaa
open Go.AM

theorem totalB_sp {h : H} {l : T} (hl : l.len ≤ 9223372036854775807) (hs : ∀ a b x y z, C_dom_sorted h a b x y z = ri (sortedV ⟨a, b, x, y, z⟩)) (hz : ∀ a b x y z, C_dom_Size h a b x y z = ri (sizeV ⟨a, b, x, y, z⟩)) :
    ∀ (m i : Nat), i + m = l.len → ∀ N n, m < N → 0 ≤ n → n ≤ 512 → dom_Total.B0 h N n l (l.len : Int) (i : Int) = ri (totalFrom ((varsOf l).drop i) n)
  | 0, i, hi, N, n, hN, h0, h1 => by
    obtain ⟨N, rfl⟩ : ∃ M, N = M + 1 := ⟨N - 1, by omega⟩
    rw [dom_Total.B0_eq]
    unfold varsOf
    rw [range_end _ (by omega)]
    simp only [Bool.cond_eq_ite, decide_eq_true_eq]
    rw [if_neg (by omega)]
    rfl
  | m + 1, i, hi, N, n, hN, h0, h1 => by
    obtain ⟨N, rfl⟩ : ∃ M, N = M + 1 := ⟨N - 1, by omega⟩
    have hlt : i < l.len := by omega
    have hr := sizeV_range (vaAt l i)
    have hm0 : 0 ≤ n * sizeV (vaAt l i) := Int.mul_nonneg h0 hr.1
    have hm1 : n * sizeV (vaAt l i) ≤ 512 * 2001 := Int.le_trans (Int.mul_le_mul_of_nonneg_left hr.2 h0) (Int.mul_le_mul_of_nonneg_right h1 (by omega))
    have e : (varsOf l).drop i = vaAt l i :: (varsOf l).drop (i + 1) := by unfold varsOf; exact range_from _ hlt
    have e1 : (⟨(l.el (i : Int).toNat 0).str, (l.el (i : Int).toNat 1).bool, (l.el (i : Int).toNat 2).int, (l.el (i : Int).toNat 3).int, (l.el (i : Int).toNat 4).int⟩ : Va) = vaAt l i := by rw [Int.toNat_natCast]; rfl
    rw [dom_Total.B0_eq, hs, ri_bind, lookR_0, int_i, hz, ri_bind, lookR_0, int_i, e, e1]
    simp only [Bool.cond_eq_ite, decide_eq_true_eq, Bool.and_eq_true, totalFrom, bne_iff_ne, ne_eq]
    rw [if_pos (by omega), if_pos (by omega), wrap_eq (a := (i : Int) + 1) (by omega) (by omega), wrap_eq (a := n * sizeV (vaAt l i)) (by omega) (by omega)]
    by_cases c1 : sortedV (vaAt l i) = 0
    · simp only [c1, not_true_eq_false, if_false, gt_iff_lt]
      by_cases c2 : 512 < n * sizeV (vaAt l i)
      · simp only [c2, if_true]; rfl
      · simp only [c2, if_false]
        exact totalB_sp hl hs hz m (i + 1) (by omega) N _ (by omega) hm0 (by omega)
    · simp only [c1, not_false_eq_true, if_true]; rfl
theorem Total_sp (l : T) (hl : l.len ≤ 9223372036854775807) : Ev fun N => C_dom_Total (K N) l = ri (totalE (varsOf l)) := by
  refine Ev.step (Ev.imp3 sorted_sp Size_sp (Ev.ge (l.len + 1)) fun N hs hz hN => ?_)
  rw [C_dom_Total_K]
  unfold totalE
  simp only [Bool.cond_eq_ite, decide_eq_true_eq, varsOf_len]
  by_cases c : (l.len : Int) > 6
  · rw [if_pos c, if_pos (by omega)]; rfl
  · rw [if_neg c, if_neg (by omega)]
    have := totalB_sp hl hs hz l.len 0 (by omega) N 1 (by omega) (by omega) (by omega)
    simpa using this
theorem mayB_sp {h : H} {l : T} (hl : l.len ≤ 9223372036854775807) (hn : ∀ s, C_dom_name h s = rb (nameE s)) (hf : ∀ s, C_dom_Find h l s = ri (findE (varsOf l) s)) (hs : ∀ a b x y z, C_dom_sorted h a b x y z = ri (sortedV ⟨a, b, x, y, z⟩)) (ht : C_dom_Total h l = ri (totalE (varsOf l))) :
    ∀ (m i : Nat), i + m = l.len → ∀ N, m < N → dom_May.B0 h N l l (l.len : Int) (i : Int) = ri (mayFrom (varsOf l) ((varsOf l).drop i) i)
  | 0, i, hi, N, hN => by
    obtain ⟨N, rfl⟩ : ∃ M, N = M + 1 := ⟨N - 1, by omega⟩
    have e : (varsOf l).drop i = [] := by unfold varsOf; exact range_end _ (by omega)
    rw [dom_May.B0_eq, e, ht, ri_bind, lookR_0, int_i]
    simp only [Bool.cond_eq_ite, decide_eq_true_eq, beq_iff_eq, mayFrom]
    rw [if_neg (by omega)]
    split <;> rfl
  | m + 1, i, hi, N, hN => by
    obtain ⟨N, rfl⟩ : ∃ M, N = M + 1 := ⟨N - 1, by omega⟩
    have hlt : i < l.len := by omega
    have e : (varsOf l).drop i = vaAt l i :: (varsOf l).drop (i + 1) := by unfold varsOf; exact range_from _ hlt
    have e1 : (⟨(l.el (i : Int).toNat 0).str, (l.el (i : Int).toNat 1).bool, (l.el (i : Int).toNat 2).int, (l.el (i : Int).toNat 3).int, (l.el (i : Int).toNat 4).int⟩ : Va) = vaAt l i := by rw [Int.toNat_natCast]; rfl
    have e2 : (l.el (i : Int).toNat 0).str = (vaAt l i).name := by rw [Int.toNat_natCast]; rfl
    rw [dom_May.B0_eq, e, hn, rb_bind, lookR_0, bool_b, hf, ri_bind, lookR_0, int_i, hs, ri_bind, lookR_0, int_i, e1, e2]
    simp only [Bool.cond_eq_ite, decide_eq_true_eq, Bool.and_eq_true, mayFrom, bne_iff_ne, ne_eq]
    rw [if_pos (by omega), if_pos (by omega), wrap_eq (a := (i : Int) + 1) (by omega) (by omega)]
    cases c1 : nameE (vaAt l i).name with
    | false => rfl
    | true =>
      simp only [Bool.not_true, Bool.false_eq_true, if_false, Bool.true_eq_false]
      by_cases c2 : findE (varsOf l) (vaAt l i).name < (i : Int)
      · simp only [c2, if_true]; rfl
      · simp only [c2, if_false]
        by_cases c3 : sortedV (vaAt l i) = 0
        · simp only [c3, not_true_eq_false, if_false]
          exact mayB_sp hl hn hf hs ht m (i + 1) (by omega) N (by omega)
        · simp only [c3, not_false_eq_true, if_true]; rfl
theorem MayV_sp (l : T) (hl : l.len ≤ 9223372036854775807) : Ev fun N => C_dom_May (K N) l = ri (mayV (varsOf l)) := by
  refine Ev.step (Ev.imp2 (Ev.imp4 name_sp (Find_sp l hl) sorted_sp (Total_sp l hl) fun N h1 h2 h3 h4 => (⟨h1, h2, h3, h4⟩ : _ ∧ _ ∧ _ ∧ _)) (Ev.ge (l.len + 1)) fun N h hN => ?_)
  rw [C_dom_May_K]
  have := mayB_sp hl h.1 h.2.1 h.2.2.1 h.2.2.2 l.len 0 (by omega) N (by omega)
  simpa [mayV] using this
/-- Data that are whole numbers. -/
def Ints (t : T) (l : List Int) : Prop := t.len = l.length ∧ ∀ i v, l[i]? = some v → (t.el i 0).int = v
theorem Ints.intsOf {t : T} {l : List Int} (h : Ints t l) : intsOf t = l := by
  apply List.ext_getElem?
  intro i
  by_cases hi : i < t.len
  · rw [intsOf_get t hi]
    have h1 : i < l.length := by rw [← h.1]; exact hi
    rw [List.getElem?_eq_getElem h1, h.2 i _ (List.getElem?_eq_getElem h1)]
  · rw [List.getElem?_eq_none (by rw [intsOf_len]; omega), List.getElem?_eq_none (by rw [← h.1]; omega)]
theorem Ints.shift {t : T} {l : List Int} (h : Ints t l) : Ints (T.l t.len fun i j => t.el (0 + i) j) l := ⟨h.1, fun i v hv => by show (t.el (0 + i) 0).int = v; rw [Nat.zero_add]; exact h.2 i v hv⟩
theorem valuesB_sp {h : H} {l : T} (hl : l.len ≤ 6) (hz : ∀ a b x y z, C_dom_Size h a b x y z = ri (sizeV ⟨a, b, x, y, z⟩)) (hw : ∀ a b x y z, C_dom_low h a b x y z = ri (lowV ⟨a, b, x, y, z⟩)) (hp : ∀ v ∈ varsOf l, sortedV v = 0 ∧ 0 < sizeV v) :
    ∀ (m i : Nat), i + m = l.len → ∀ N s g, m < N → 0 ≤ s → s ≤ 512 → ∃ g', dom_Values.B0 h N i s l (l.len : Int) (i : Int) g = some (lookR [(0, T.l l.len g'), (1, .b true)]) ∧ (∀ j c, j < i → g' j c = g j c) ∧ (∀ j v, (valuesFrom ((varsOf l).drop i) s)[j]? = some v → (g' (i + j) 0).int = v)
  | 0, i, hi, N, s, g, hN, h0, h1 => by
    obtain ⟨N, rfl⟩ : ∃ M, N = M + 1 := ⟨N - 1, by omega⟩
    have e : (varsOf l).drop i = [] := by unfold varsOf; exact range_end _ (by omega)
    have hil : i = l.len := by omega
    refine ⟨g, ?_, fun _ _ _ => rfl, fun j v hj => by rw [e] at hj; simp [valuesFrom] at hj⟩
    rw [dom_Values.B0_eq]
    simp only [Bool.cond_eq_ite, decide_eq_true_eq]
    rw [if_neg (by omega), hil]
  | m + 1, i, hi, N, s, g, hN, h0, h1 => by
    obtain ⟨N, rfl⟩ : ∃ M, N = M + 1 := ⟨N - 1, by omega⟩
    have hlt : i < l.len := by omega
    have e : (varsOf l).drop i = vaAt l i :: (varsOf l).drop (i + 1) := by unfold varsOf; exact range_from _ hlt
    have hmem : vaAt l i ∈ varsOf l := List.mem_of_getElem? (varsOf_get l hlt)
    obtain ⟨hso, hpos⟩ := hp _ hmem
    have hsz := sizeV_range (vaAt l i)
    have hlow : -1000 ≤ lowV (vaAt l i) ∧ lowV (vaAt l i) ≤ 1000 := by
      unfold lowV
      split
      · omega
      · rename_i h2
        unfold sizeV at hpos
        rw [if_neg h2] at hpos
        split at hpos
        · omega
        · omega
    have hmod0 : 0 ≤ Int.tmod s (sizeV (vaAt l i)) := Int.tmod_nonneg _ h0
    have hmod1 : Int.tmod s (sizeV (vaAt l i)) < sizeV (vaAt l i) := Int.tmod_lt_of_pos _ hpos
    have hdiv0 : 0 ≤ Int.tdiv s (sizeV (vaAt l i)) := Int.tdiv_nonneg h0 (by omega)
    have hdiv1 : Int.tdiv s (sizeV (vaAt l i)) ≤ s := by
      rw [Int.tdiv_eq_ediv_of_nonneg h0]
      exact Int.ediv_le_self _ h0
    rw [dom_Values.B0_eq, hz, ri_bind, lookR_0, int_i, hw, ri_bind, lookR_0, int_i]
    have e1 : (⟨(l.el (i : Int).toNat 0).str, (l.el (i : Int).toNat 1).bool, (l.el (i : Int).toNat 2).int, (l.el (i : Int).toNat 3).int, (l.el (i : Int).toNat 4).int⟩ : Va) = vaAt l i := by rw [Int.toNat_natCast]; rfl
    rw [e1]
    simp only [Bool.cond_eq_ite, decide_eq_true_eq, Bool.and_eq_true, Bool.not_eq_true', beq_eq_false_iff_ne, ne_eq]
    rw [if_pos (by omega), if_pos (by omega), if_pos (by omega), if_pos (by omega), if_pos (by omega), wrap_eq (a := (i : Int) + 1) (by omega) (by omega), wrap_eq (a := Int.tdiv s (sizeV (vaAt l i))) (by omega) (by omega)]
    obtain ⟨g', h2, h3, h4⟩ := valuesB_sp hl hz hw hp m (i + 1) (by omega) N (Int.tdiv s (sizeV (vaAt l i))) (fun q j => (bif Nat.blt q i then (g q j) else ((([[(T.i (IntKind.wrap .i64 (lowV (vaAt l i) + Int.tmod s (sizeV (vaAt l i)))))]] : List (List T)).getD (0 + (q - i)) []).getD j (.b false)))) (by omega) hdiv0 (by omega)
    simp only [Bool.cond_eq_ite] at h2
    refine ⟨g', h2, fun j c hj => ?_, fun j v hj => ?_⟩
    · rw [h3 j c (by omega)]
      have : Nat.blt j i = true := by rw [Nat.blt_eq]; exact hj
      simp only [this, cond_true]
    · rw [e] at hj
      simp only [valuesFrom] at hj
      cases j with
      | zero =>
        obtain rfl : lowV (vaAt l i) + Int.tmod s (sizeV (vaAt l i)) = v := by simpa using hj
        rw [Nat.add_zero, h3 i 0 (by omega)]
        have : Nat.blt i i = false := by
          cases hb : Nat.blt i i with
          | false => rfl
          | true => rw [Nat.blt_eq] at hb; omega
        simp only [this, cond_false, Nat.sub_self]
        show IntKind.wrap .i64 _ = _
        rw [wrap_eq (by omega) (by omega)]
      | succ j =>
        have := h4 j v (by simpa using hj)
        rwa [show i + (j + 1) = i + 1 + j by omega]
theorem Values_sp (l : T) (hl : l.len ≤ 9223372036854775807) : Ev fun N => ∀ s, ∃ t, C_dom_Values (K N) l s = some (lookR [(0, t), (1, .b (valuesOk (varsOf l) s))]) ∧ (valuesOk (varsOf l) s = true → Ints t (valuesFrom (varsOf l) s)) := by
  refine Ev.step (Ev.imp2 (Ev.imp4 (MayV_sp l hl) (Total_sp l hl) Size_sp low_sp fun N h1 h2 h3 h4 => (⟨h1, h2, h3, h4⟩ : _ ∧ _ ∧ _ ∧ _)) (Ev.ge (l.len + 1)) fun N h hN s => ?_)
  obtain ⟨hm, ht, hz, hw⟩ := h
  rw [C_dom_Values_K, hm, ri_bind, lookR_0, int_i, ht, ri_bind, lookR_0, int_i]
  simp only [Bool.cond_eq_ite, decide_eq_true_eq, bne_iff_ne, ne_eq]
  unfold valuesOk
  by_cases c1 : mayV (varsOf l) = 0
  · rw [if_neg (by simpa using c1)]
    by_cases c2 : s < 0
    · rw [if_pos c2]
      have : decide (mayV (varsOf l) = 0 ∧ 0 ≤ s ∧ s < totalE (varsOf l)) = false := by simp; omega
      rw [this]
      exact ⟨_, rfl, fun h => by cases h⟩
    · rw [if_neg c2]
      by_cases c3 : s ≥ totalE (varsOf l)
      · rw [if_pos c3]
        have : decide (mayV (varsOf l) = 0 ∧ 0 ≤ s ∧ s < totalE (varsOf l)) = false := by simp; omega
        rw [this]
        exact ⟨_, rfl, fun h => by cases h⟩
      · rw [if_neg c3]
        have h5 : decide (mayV (varsOf l) = 0 ∧ 0 ≤ s ∧ s < totalE (varsOf l)) = true := by simp; omega
        rw [h5]
        have htot := mayV_total c1
        have hlen := totalE_len htot
        rw [varsOf_len] at hlen
        have hr := totalE_range (varsOf l)
        obtain ⟨g', h6, _, h7⟩ := valuesB_sp hlen hz hw (totalE_pos htot) l.len 0 (by omega) N s (fun _ _ => .b false) (by omega) (by omega) (by omega)
        refine ⟨_, h6, fun _ => ⟨?_, fun i v hv => ?_⟩⟩
        · rw [valuesFrom_len, varsOf_len]; rfl
        · have := h7 i v (by simpa using hv)
          rw [Nat.zero_add] at this
          exact this
  · rw [if_pos (by simpa using c1)]
    have : decide (mayV (varsOf l) = 0 ∧ 0 ≤ s ∧ s < totalE (varsOf l)) = false := by simp [c1]
    rw [this]
    exact ⟨_, rfl, fun h => by cases h⟩
end Go.Proofs.Ytfejbgnbganolaa
