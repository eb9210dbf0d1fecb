/- The document's own answers on values; the laws EvalSame and EvalForms. -/
import Derived.Test.YtnjandhaeojieaaGreatLa26
set_option linter.unusedVariables false
set_option linter.unusedSimpArgs false
namespace Go.AM
theorem sortedV_bool {v : Va} (h : sortedV v = 0) (h1 : v.sort = 1) : v.lo = 0 ∧ v.hi = 0 := by
  unfold sortedV at h
  rw [if_neg (by omega)] at h
  split at h
  · cases h
  · omega
theorem sortedV_low {v : Va} (h : sortedV v = 0) : lowV v = v.lo := by
  unfold lowV
  split
  · rename_i h1; exact (sortedV_bool h h1).1.symm
  · rfl
end Go.AM
namespace Go.Proofs.YtnjandhaeojieaaGreat
open Go.AM
theorem totalB1 {h : H} {l : T} (hl : l.len ≤ 9223372036854775807) (hz : ∀ a b x y z, C_parryref1_Size h a b x y z = ri (sizeV ⟨a, b, x, y, z⟩)) (hp : ∀ v ∈ varsOf l, sortedV v = 0 ∧ 0 < sizeV v) {t : Int} (hq : C_parryref1_product h l = ri t) :
    ∀ (m i : Nat), i + m = l.len → ∀ N, 2 * m < N → parryref1_Total.B1 h N l l (l.len : Int) (i : Int) = ri t
  | 0, i, hi, N, hN => by
    obtain ⟨N, rfl⟩ : ∃ M, N = M + 1 := ⟨N - 1, by omega⟩
    rw [parryref1_Total.B1_eq]
    exact if_not (decide_eq_false (by omega)) (bind_of hq rfl)
  | m + 1, i, hi, N, hN => by
    obtain ⟨N, rfl⟩ : ∃ M, N = M + 1 + 1 := ⟨N - 2, by omega⟩
    have hlt : i < l.len := by omega
    have hmem : vaAt l i ∈ varsOf l := List.mem_of_getElem? (varsOf_get l hlt)
    obtain ⟨hso, hpos⟩ := hp _ hmem
    have ih := totalB1 hl hz hp hq m (i + 1) (by omega) N (by omega)
    have b2 : parryref1_Total.B2 h (N + 1) l l (l.len : Int) (i : Int) = ri t := by
      rw [parryref1_Total.B2_eq, wrap_eq (a := (i : Int) + 1) (by omega) (by omega)]; exact ih
    rw [parryref1_Total.B1_eq, Int.toNat_natCast]
    refine if_of (decide_eq_true (by omega)) (if_of (by simp; omega) (bind_of (hz _ _ _ _ _) (if_not ?_ (if_both (fun c => ?_) fun _ => b2))))
    · have : sizeV (vaAt l i) ≠ 0 := by omega
      show (sizeV (vaAt l i) == 0) = false
      simpa using this
    · have c : ((l.el i 2).int == 1) = true := c
      have hb := sortedV_bool hso (show (l.el i 2).int = 1 by simpa using c)
      have l0 : (l.el i 3).int = 0 := hb.1
      have h0 : (l.el i 4).int = 0 := hb.2
      exact if_not (by rw [l0]; rfl) (if_not (by rw [h0]; rfl) b2)
theorem refTotal_sp (l : T) (hl : l.len ≤ 9223372036854775807) (hm : mayV (varsOf l) = 0) : Ev fun N => C_parryref1_Total (K N) l = ri (totalE (varsOf l)) := by
  refine Ev.step (Ev.imp4 (refMay_sp l hl) refSize_sp (refProd_sp l hl) (Ev.ge (2 * l.len + 9)) fun N h1 h2 h3 hN => ?_)
  have htot := mayV_total hm
  have hp := totalE_pos htot
  have hlen := totalE_len htot
  rw [varsOf_len] at hlen
  have hpt : prodFrom (varsOf l) 1 ≤ 512 ∧ totalE (varsOf l) = prodFrom (varsOf l) 1 := by
    have e : totalE (varsOf l) = totalFrom (varsOf l) 1 := by unfold totalE; rw [if_neg (by rw [varsOf_len]; omega)]
    rcases prod_total (varsOf l) 1 (by omega) (by omega) (fun v hv => (hp v hv).1) with h | h
    · exact absurd (e.trans h.2) htot
    · exact ⟨h.1, e.trans h.2.2⟩
  obtain ⟨N, rfl⟩ : ∃ M, N = M + 1 := ⟨N - 1, by omega⟩
  rw [C_parryref1_Total_K]
  refine bind_of h1 (if_not (by simp [lookR_0, int_i, hm]) ?_)
  rw [parryref1_Total.B0_eq]
  refine if_not (decide_eq_false (by omega)) (bind_of h3 (if_not (decide_eq_false (by rw [lookR_0, int_i]; omega)) ?_))
  rw [hpt.2]
  exact totalB1 hl h2 hp h3 l.len 0 (by omega) N (by omega)
theorem refValuesB {h : H} {l : T} (hl : l.len ≤ 6) (hz : ∀ a b x y z, C_parryref1_Size h a b x y z = ri (sizeV ⟨a, b, x, y, z⟩)) (hp : ∀ v ∈ varsOf l, sortedV v = 0 ∧ 0 < sizeV v) :
    ∀ (m i : Nat), i + m = l.len → ∀ N s g, m < N → 0 ≤ s → s ≤ 512 → ∃ g', parryref1_Values.B0 h N i s l (l.len : Int) (i : Int) g = some (lookR [(0, T.l l.len g'), (1, .b true)]) ∧ intsR l.len g' = intsR i g ++ valuesFrom ((varsOf l).drop i) s
  | 0, i, hi, N, s, g, hN, h0, h1 => by
    obtain ⟨N, rfl⟩ : ∃ M, N = M + 1 := ⟨N - 1, by omega⟩
    have e : (varsOf l).drop i = [] := by unfold varsOf; exact range_end _ (by omega)
    obtain rfl : i = l.len := by omega
    refine ⟨g, ?_, by rw [e]; simp [valuesFrom]⟩
    rw [parryref1_Values.B0_eq]
    exact if_not (decide_eq_false (by omega)) rfl
  | m + 1, i, hi, N, s, g, hN, h0, h1 => by
    obtain ⟨N, rfl⟩ : ∃ M, N = M + 1 := ⟨N - 1, by omega⟩
    have hlt : i < l.len := by omega
    have e : (varsOf l).drop i = vaAt l i :: (varsOf l).drop (i + 1) := by unfold varsOf; exact range_from _ hlt
    have hmem : vaAt l i ∈ varsOf l := List.mem_of_getElem? (varsOf_get l hlt)
    obtain ⟨hso, hpos⟩ := hp _ hmem
    have hsz := sizeV_range (vaAt l i)
    have elow := sortedV_low hso
    have hlow : -1000 ≤ lowV (vaAt l i) ∧ lowV (vaAt l i) ≤ 1000 := by
      unfold lowV
      split
      · omega
      · rename_i h2
        unfold sizeV at hpos
        rw [if_neg h2] at hpos
        split at hpos
        · omega
        · omega
    have hmod0 : 0 ≤ Int.tmod s (sizeV (vaAt l i)) := Int.tmod_nonneg _ h0
    have hmod1 : Int.tmod s (sizeV (vaAt l i)) < sizeV (vaAt l i) := Int.tmod_lt_of_pos _ hpos
    have hdiv0 : 0 ≤ Int.tdiv s (sizeV (vaAt l i)) := Int.tdiv_nonneg h0 (by omega)
    have hdiv1 : Int.tdiv s (sizeV (vaAt l i)) ≤ s := by
      rw [Int.tdiv_eq_ediv_of_nonneg h0]
      exact Int.ediv_le_self _ h0
    obtain ⟨g', h2, h3⟩ := refValuesB hl hz hp m (i + 1) (by omega) N (Int.tdiv s (sizeV (vaAt l i))) (pushG i g (lowV (vaAt l i) + Int.tmod s (sizeV (vaAt l i)))) (by omega) hdiv0 (by omega)
    have hne : (!(sizeV (vaAt l i) == 0)) = true := by
      have : sizeV (vaAt l i) ≠ 0 := by omega
      simpa using this
    have ew : IntKind.wrap .i64 (Int.tmod s (sizeV (vaAt l i)) + (l.el i 3).int) = lowV (vaAt l i) + Int.tmod s (sizeV (vaAt l i)) := by
      have : (l.el i 3).int = lowV (vaAt l i) := elow.symm
      rw [this, wrap_eq (by omega) (by omega)]
      omega
    refine ⟨g', ?_, ?_⟩
    · rw [parryref1_Values.B0_eq, Int.toNat_natCast]
      refine if_of (decide_eq_true (by omega)) (if_of (by simp; omega) (bind_of (hz _ _ _ _ _) (if_of hne (if_of (decide_eq_true (by omega)) (if_of hne ?_)))))
      have e1 : ((lookR [(0, T.i (sizeV ⟨(l.el i 0).str, (l.el i 1).bool, (l.el i 2).int, (l.el i 3).int, (l.el i 4).int⟩))]) 0).int = sizeV (vaAt l i) := rfl
      rw [e1, ew, wrap_eq (a := (i : Int) + 1) (by omega) (by omega), wrap_eq (a := Int.tdiv s (sizeV (vaAt l i))) (by omega) (by omega)]
      exact h2
    · rw [h3, intsR_pushG, e, List.append_assoc]
      simp only [valuesFrom]
      rfl
theorem refValues_sp (l : T) (hl : l.len ≤ 9223372036854775807) : Ev fun N => ∀ s, ∃ t, C_parryref1_Values (K N) l s = some (lookR [(0, t), (1, .b (valuesOk (varsOf l) s))]) ∧ (valuesOk (varsOf l) s = true → Ints t (valuesFrom (varsOf l) s)) := by
  by_cases c1 : mayV (varsOf l) = 0
  · refine Ev.step (Ev.imp4 (refMay_sp l hl) (refTotal_sp l hl c1) refSize_sp (Ev.ge (l.len + 9)) fun N h1 h2 h3 hN s => ?_)
    have htot := mayV_total c1
    have hlen := totalE_len htot
    rw [varsOf_len] at hlen
    have hr := totalE_range (varsOf l)
    rw [C_parryref1_Values_K]
    unfold valuesOk
    by_cases c2 : s < 0
    · have : decide (mayV (varsOf l) = 0 ∧ 0 ≤ s ∧ s < totalE (varsOf l)) = false := decide_eq_false (by omega)
      rw [this]
      exact ⟨_, bind_of h1 (if_not (by simp [lookR_0, int_i, c1]) (if_of (decide_eq_true c2) rfl)), fun h => by cases h⟩
    · by_cases c3 : s ≥ totalE (varsOf l)
      · have : decide (mayV (varsOf l) = 0 ∧ 0 ≤ s ∧ s < totalE (varsOf l)) = false := decide_eq_false (by omega)
        rw [this]
        exact ⟨_, bind_of h1 (if_not (by simp [lookR_0, int_i, c1]) (if_not (decide_eq_false c2) (bind_of h2 (if_of (decide_eq_true c3) rfl)))), fun h => by cases h⟩
      · have : decide (mayV (varsOf l) = 0 ∧ 0 ≤ s ∧ s < totalE (varsOf l)) = true := decide_eq_true ⟨c1, by omega, by omega⟩
        rw [this]
        obtain ⟨g', e1, e2⟩ := refValuesB (h := K N) hlen h3 (totalE_pos htot) l.len 0 (by omega) N s (fun _ _ => .b false) (by omega) (by omega) (by omega)
        refine ⟨_, bind_of h1 (if_not (by simp [lookR_0, int_i, c1]) (if_not (decide_eq_false c2) (bind_of h2 (if_not (decide_eq_false c3) e1)))), fun _ => Ints_intsR ?_⟩
        rw [e2, List.drop_zero]; rfl
  · refine Ev.step ((refMay_sp l hl).imp fun N h1 s => ?_)
    rw [C_parryref1_Values_K]
    have : valuesOk (varsOf l) s = false := decide_eq_false (by intro h; exact c1 h.1)
    rw [this]
    exact ⟨_, bind_of h1 (if_of (by simpa [lookR_0, int_i] using c1) rfl), fun h => by cases h⟩
/-- A value, or none. -/
def VR (c : Option R) (v : Int × Int) : Prop := ∃ x, c = some (lookR [(0, .i x), (1, .b (decide (v.2 = 0)))]) ∧ (v.2 = 0 → x = v.1)
theorem VR.no {c : Option R} {v : Int × Int} (h : VR c v) (h0 : v.2 ≠ 0) : ∃ x, c = some (lookR [(0, .i x), (1, .b false)]) := by
  obtain ⟨x, h1, h2⟩ := h
  exact ⟨x, by rw [h1, decide_eq_false h0]⟩
theorem VR.mk {c : Option R} {x : Int} (h : c = some (lookR [(0, .i x), (1, .b true)])) : VR c (x, 0) := ⟨x, h, fun _ => rfl⟩
end Go.Proofs.YtnjandhaeojieaaGreat
