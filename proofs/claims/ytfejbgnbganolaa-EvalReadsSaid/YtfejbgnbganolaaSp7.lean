/- Values over states. -/
import Derived.Test.YtfejbgnbganolaaSp6
set_option linter.unusedVariables false
set_option linter.unusedSimpArgs false
namespace Go.Proofs.Ytfejbgnbganolaa
open Go.AM

theorem valuesFrom_at : ∀ (l : List Va) (s : Int), 0 ≤ s → (∀ v ∈ l, sortedV v = 0 ∧ 0 < sizeV v) → ∀ (i : Nat) (v : Va), l[i]? = some v → ∃ x : Int, (valuesFrom l s)[i]? = some x ∧ lowV v ≤ x ∧ x < lowV v + sizeV v
  | [], _, _, _, i, v, h => by simp at h
  | w :: r, s, h0, hp, i, v, h => by
    have hw := hp w (List.mem_cons_self ..)
    have hmod0 : 0 ≤ Int.tmod s (sizeV w) := Int.tmod_nonneg _ h0
    have hmod1 : Int.tmod s (sizeV w) < sizeV w := Int.tmod_lt_of_pos _ hw.2
    cases i with
    | zero =>
      obtain rfl : w = v := by simpa using h
      exact ⟨_, rfl, by omega, by omega⟩
    | succ i =>
      obtain ⟨x, h1, h2⟩ := valuesFrom_at r (Int.tdiv s (sizeV w)) (Int.tdiv_nonneg h0 (by omega)) (fun v hv => hp v (List.mem_cons_of_mem _ hv)) i v (by simpa using h)
      exact ⟨x, by simpa [valuesFrom] using h1, h2⟩
theorem var_range {v : Va} (h : sortedV v = 0) (hp : 0 < sizeV v) {x : Int} (h1 : lowV v ≤ x) (h2 : x < lowV v + sizeV v) : -1000 ≤ x ∧ x ≤ 1000 ∧ (v.sort = 1 → x = 0 ∨ x = 1) := by
  unfold lowV sizeV at *
  rcases sortedV_sort h with hs | hs
  · rw [if_pos hs] at h1 h2
    rw [if_pos hs] at h2
    exact ⟨by omega, by omega, fun _ => by omega⟩
  · rw [if_neg (show ¬ v.sort = 1 by omega)] at h1 h2 hp
    rw [if_neg (show ¬ v.sort = 1 by omega)] at h2
    split at hp
    · rename_i h3
      rw [if_pos h3] at h2
      exact ⟨by omega, by omega, fun h => by omega⟩
    · omega
theorem valuesOk_vals {l : List Va} {s : Int} (h : valuesOk l s = true) : Vals l (valuesFrom l s) := by
  have h1 : mayV l = 0 ∧ 0 ≤ s ∧ s < totalE l := of_decide_eq_true h
  have hp := totalE_pos (mayV_total h1.1)
  intro n v hv
  obtain ⟨x, h2, h3, h4⟩ := valuesFrom_at l s h1.2.1 hp n.toNat v hv
  have := hp v (List.mem_of_getElem? hv)
  exact ⟨x, h2, var_range this.1 this.2 h3 h4⟩
/-- What an expression's sort says of it. -/
theorem sortE_ok {l : List Va} {e : Ex} (h : (sortE l e).2 = 0) : mayV l = 0 ∧ mayE e = 0 ∧ soundE e = true ∧ lightE e = true ∧ sortE l e = ofE l e ∧ Typed l e (sortE l e).1 := by
  unfold sortE at h
  split at h
  · rename_i h1; exact absurd h h1
  · rename_i h1
    have h1 : mayV l = 0 := by simpa using h1
    split at h
    · rename_i h2; exact absurd h h2
    · rename_i h2
      have h2 : mayE e = 0 := by simpa using h2
      have h3 : soundE e = true ∧ lightE e = true := by
        unfold mayE at h2
        split at h2
        · split at h2
          · exact ⟨by assumption, by assumption⟩
          · cases h2
        · cases h2
      have e1 : sortE l e = ofE l e := by unfold sortE; rw [if_neg (by simpa using h1), if_neg (by simpa using h2)]
      exact ⟨h1, h2, h3.1, h3.2, e1, by rw [e1]; exact (ofE_typed (mayV_sorts h1) e h3.1).1 h⟩
theorem Value_sp (l : T) (hl : l.len ≤ 9223372036854775807) (k : T) (hk : KW k) : Ev fun N => ∀ op n now next, C_eval_Value (K N) l op n k now next = rii (valueE (varsOf l) (.mk op n (kidsOf k)) now next).1 (valueE (varsOf l) (.mk op n (kidsOf k)) now next).2 := by
  refine Ev.step (Ev.imp3 (Of_sp l hl k hk) (Values_sp l hl) (value_sp (l := varsOf l) k hk) fun N h1 h2 h3 op n now next => ?_)
  rw [C_eval_Value_K, h1, rii_bind, lookR_1, int_i]
  unfold valueE
  simp only [Bool.cond_eq_ite, bne_iff_ne, ne_eq]
  by_cases c1 : (sortE (varsOf l) (.mk op n (kidsOf k))).2 = 0
  · rw [if_neg (by simpa using c1), if_neg (by simpa using c1)]
    obtain ⟨ta, ha, ia⟩ := h2 now
    obtain ⟨tb, hb, ib⟩ := h2 next
    rw [ha, some_bind, hb, some_bind, lookR_1, lookR_1, bool_b, bool_b, lookR_0, lookR_0]
    cases ca : valuesOk (varsOf l) now with
    | false => simp only [Bool.not_false, if_true, true_or]; rfl
    | true =>
      cases cb : valuesOk (varsOf l) next with
      | false => simp only [Bool.not_true, Bool.not_false, if_true, Bool.false_eq_true, if_false, or_true]; rfl
      | true =>
        have ht := (sortE_ok c1).2.2.2.2.2
        have := h3 _ _ _ _ op n _ (ia ca).shift (ib cb).shift ht (Vals.rdOk (valuesOk_vals ca) (valuesOk_vals cb) _)
        simp only [Bool.not_true, Bool.false_eq_true, if_false, Bool.true_eq_false, or_self]
        rw [this, rii_bind]
        rfl
  · rw [if_pos c1, if_pos c1]; rfl
theorem True_sp (l : T) (hl : l.len ≤ 9223372036854775807) (k : T) (hk : KW k) : Ev fun N => ∀ op n now next, C_eval_True (K N) l op n k now next = rb (trueE (varsOf l) (.mk op n (kidsOf k)) now next) := by
  refine Ev.step (Ev.imp2 (Of_sp l hl k hk) (Value_sp l hl k hk) fun N h1 h2 op n now next => ?_)
  rw [C_eval_True_K, h1, rii_bind, lookR_1, lookR_0, int_i, int_i, h2, rii_bind, lookR_0, lookR_1, int_i, int_i]
  unfold trueE
  simp only [Bool.cond_eq_ite, bne_iff_ne, ne_eq, beq_iff_eq]
  generalize sortE (varsOf l) (.mk op n (kidsOf k)) = s
  generalize valueE (varsOf l) (.mk op n (kidsOf k)) now next = v
  by_cases c1 : s.2 = 0
  · rw [if_neg (by simpa using c1)]
    by_cases c2 : s.1 = 1
    · rw [if_neg (by simpa using c2)]
      by_cases c3 : v.2 = 0
      · rw [if_pos c3]
        refine congrArg rb ?_
        rw [Bool.eq_iff_iff]
        simp [c1, c2, c3]
      · rw [if_neg c3]; simp [c1, c2, c3, rb]
    · rw [if_pos c2]; simp [c1, c2, rb]
  · rw [if_pos c1]; simp [c1, rb]
end Go.Proofs.Ytfejbgnbganolaa
