/- The law SortNeeds: what needs less is let through where more may be read. -/
import Derived.Test.YtfejbgnbganolaaLa22
set_option linter.unusedVariables false
set_option linter.unusedSimpArgs false
namespace Go.AM
theorem any_false {l : List Int} {p : Int → Bool} (h : l.any p ≠ true) : ∀ x ∈ l, p x = false := by
  intro x hx
  cases c : p x with
  | false => rfl
  | true => exact absurd (List.any_eq_true.2 ⟨x, hx, c⟩) h
theorem needsE_zero {l : List Va} {e : Ex} {want : Int} {now env sys : Bool} (h : needsE l e want now env sys = 0) : (sortE l e).2 = 0 ∧ (sortE l e).1 = want ∧ (∀ x ∈ readsE 4 e, nextBad l env sys x = false) ∧ (∀ x ∈ readsE 3 e, hidBad l now x = false) := by
  unfold needsE at h
  by_cases c1 : (sortE l e).2 = 0
  · rw [if_neg (by simpa using c1)] at h
    by_cases c2 : (sortE l e).1 = want
    · rw [if_neg (by simpa using c2)] at h
      cases c3 : (readsE 4 e).any (nextBad l env sys) with
      | true => rw [c3] at h; cases h
      | false =>
        cases c4 : (readsE 3 e).any (hidBad l now) with
        | true => rw [c3, c4] at h; cases h
        | false => exact ⟨c1, c2, any_false (by rw [c3]; simp), any_false (by rw [c4]; simp)⟩
    · rw [if_pos c2] at h; cases h
  · rw [if_pos c1] at h; exact absurd h c1
theorem needsE_of {l : List Va} {e : Ex} {want : Int} {now env sys : Bool} (h1 : (sortE l e).2 = 0) (h2 : (sortE l e).1 = want) (h3 : ∀ x ∈ readsE 4 e, nextBad l env sys x = false) (h4 : ∀ x ∈ readsE 3 e, hidBad l now x = false) : needsE l e want now env sys = 0 := by
  have z : ∀ (l : List Int) (p : Int → Bool), (∀ x ∈ l, p x = false) → l.any p = false := by
    intro l p h
    cases hc : l.any p with
    | false => rfl
    | true =>
      obtain ⟨x, hx, hp⟩ := List.any_eq_true.1 hc
      rw [h x hx] at hp
      cases hp
  unfold needsE
  rw [if_neg (by simpa using h1), if_neg (by simpa using h2), z _ _ h3, z _ _ h4]
  rfl
theorem nextBad_all (l : List Va) (v : Int) : nextBad l true true v = false := by unfold nextBad; split <;> rfl
theorem hidBad_all (l : List Va) (v : Int) : hidBad l true v = false := by unfold hidBad; simp
theorem needsE_sides {l : List Va} {e : Ex} {want : Int} {now env sys env' sys' : Bool} (h : readsE 4 e = []) : needsE l e want now env sys = needsE l e want now env' sys' := by
  unfold needsE
  rw [h]
  rfl
end Go.AM
namespace Go.Proofs.Ytfejbgnbganolaa
open Go.AM
theorem snB4 {h : H} {Q : Option R} {l t k : T} {want a op m0 : Int} {now env sys : Bool} {xs : List Int} (hx : Ints t xs) (hl : xs.length ≤ 60) (hr : ∀ x ∈ xs, 0 ≤ x ∧ x < (l.len : Int)) (hb : ∀ x ∈ xs, hidBad (varsOf l) now x = false) {c : Nat} (hc : ∀ M, c ≤ M → parrylaw3_SortNeeds.B1 h M l want now env sys a op m0 k = Q) : ∀ (m i : Nat), i + m = xs.length → ∀ M, c + 2 * m + 1 ≤ M →
    parrylaw3_SortNeeds.B4 h M l want now env sys a t (t.len : Int) (i : Int) op m0 k = Q
  | 0, i, hi, M, hM => by
    obtain ⟨M, rfl⟩ : ∃ M', M = M' + 1 := ⟨M - 1, by omega⟩
    have h1 := hx.1
    rw [parrylaw3_SortNeeds.B4_eq]
    exact if_not (decide_eq_false (by omega)) (hc M (by omega))
  | m + 1, i, hi, M, hM => by
    obtain ⟨M, rfl⟩ : ∃ M', M = M' + 1 + 1 := ⟨M - 2, by omega⟩
    have h1 := hx.1
    have hlt : i < xs.length := by omega
    have hv := hr xs[i] (List.getElem_mem hlt)
    have hv2 := hb xs[i] (List.getElem_mem hlt)
    have ih := snB4 (h := h) (want := want) (a := a) (op := op) (m0 := m0) (k := k) (env := env) (sys := sys) hx hl hr hb hc m (i + 1) (by omega) M (by omega)
    have hg : (decide (0 ≤ xs[i]) && decide (xs[i] < (l.len : Int))) = true := by simp; omega
    rw [parrylaw3_SortNeeds.B4_eq, Int.toNat_natCast, hx.el0 hlt]
    have b5 : parrylaw3_SortNeeds.B5 h (M + 1) l want now env sys a t (t.len : Int) (i : Int) op m0 k = Q := by
      rw [parrylaw3_SortNeeds.B5_eq, wrap_eq (a := (i : Int) + 1) (by omega) (by omega)]
      exact ih
    refine if_of (decide_eq_true (by omega)) (if_of (by simp; omega) (if_not (decide_eq_false (by omega)) (if_not (decide_eq_false (by omega)) (if_of hg ?_))))
    unfold hidBad at hv2
    rw [envAt_of hv.1 hv.2] at hv2
    cases c1 : (l.el xs[i].toNat 1).bool with
    | true => exact if_not rfl b5
    | false =>
      rw [c1] at hv2
      cases now with
      | false => cases hv2
      | true => exact if_of rfl (if_not rfl b5)
theorem snB0 {h : H} {Q : Option R} {l t k : T} {want a op m0 : Int} {now env sys : Bool} {xs ys : List Int} (hx : Ints t xs) (hl : xs.length ≤ 60) (hr : ∀ x ∈ xs, 0 ≤ x ∧ x < (l.len : Int)) (hb : ∀ x ∈ xs, nextBad (varsOf l) env sys x = false)
    (hy : ∃ t', C_expr_Reads h op m0 k false = some (lookR [(0, t')]) ∧ Ints t' ys) (hl2 : ys.length ≤ 60) (hr2 : ∀ x ∈ ys, 0 ≤ x ∧ x < (l.len : Int)) (hb2 : ∀ x ∈ ys, hidBad (varsOf l) now x = false) {c : Nat} (hc : ∀ M, c ≤ M → parrylaw3_SortNeeds.B1 h M l want now env sys a op m0 k = Q) : ∀ (m i : Nat), i + m = xs.length → ∀ M, c + 200 + 2 * m + 1 ≤ M →
    parrylaw3_SortNeeds.B0 h M l want now env sys a t (t.len : Int) (i : Int) op m0 k = Q
  | 0, i, hi, M, hM => by
    obtain ⟨M, rfl⟩ : ∃ M', M = M' + 1 := ⟨M - 1, by omega⟩
    have h1 := hx.1
    obtain ⟨t', e1, e2⟩ := hy
    rw [parrylaw3_SortNeeds.B0_eq]
    exact if_not (decide_eq_false (by omega)) (bind_of e1 (snB4 e2 hl2 hr2 hb2 hc ys.length 0 (by omega) M (by omega)))
  | m + 1, i, hi, M, hM => by
    obtain ⟨M, rfl⟩ : ∃ M', M = M' + 1 + 1 := ⟨M - 2, by omega⟩
    have h1 := hx.1
    have hlt : i < xs.length := by omega
    have hv := hr xs[i] (List.getElem_mem hlt)
    have hv2 := hb xs[i] (List.getElem_mem hlt)
    have ih := snB0 (h := h) (want := want) (a := a) (op := op) (m0 := m0) (k := k) hx hl hr hb hy hl2 hr2 hb2 hc m (i + 1) (by omega) M (by omega)
    have hg : (decide (0 ≤ xs[i]) && decide (xs[i] < (l.len : Int))) = true := by simp; omega
    rw [parrylaw3_SortNeeds.B0_eq, Int.toNat_natCast, hx.el0 hlt]
    have b3 : parrylaw3_SortNeeds.B3 h (M + 1) l want now env sys a t (t.len : Int) (i : Int) op m0 k = Q := by
      rw [parrylaw3_SortNeeds.B3_eq, wrap_eq (a := (i : Int) + 1) (by omega) (by omega)]
      exact ih
    refine if_of (decide_eq_true (by omega)) (if_of (by simp; omega) (if_not (decide_eq_false (by omega)) (if_not (decide_eq_false (by omega)) (if_of hg ?_))))
    unfold nextBad at hv2
    rw [envAt_of hv.1 hv.2] at hv2
    cases c1 : (l.el xs[i].toNat 1).bool with
    | true =>
      rw [c1] at hv2
      cases env with
      | false => cases hv2
      | true => exact if_of rfl (if_not rfl (if_of hg (if_not rfl b3)))
    | false =>
      rw [c1] at hv2
      cases sys with
      | false => cases hv2
      | true => exact if_not rfl (if_of hg (if_of rfl (if_not rfl b3)))
theorem SortNeeds_sp (l : T) (a0 a1 : Int) (ak : T) (want : Int) (now env sys : Bool) (hw : WT Try.prog 36 l) (ha : WT Try.prog 28 ak) : Ev fun N => C_parrylaw3_SortNeeds (K N) l a0 a1 ak want now env sys = rb true := by
  have hl := WT_len hw
  have hk := WT_KW ha
  refine Ev.step (Ev.imp4 (Ev.and (heavyV_sp l hl) (heavyE_sp ak hk)) (Ev.and (Needs_sp l hl ak hk) (Reads_sp ak hk)) awake3_sp (Ev.ge 500) fun N h1 h2 h3 hN => ?_)
  obtain ⟨⟨y, hy⟩, hz⟩ := h1
  obtain ⟨z, hz⟩ := hz a0 a1
  obtain ⟨hn, hr⟩ := h2
  have aw : ((C_parrylaw3_awake (K N)).bind fun r => some (lookR [(0, T.b (r 0).bool)])) = rb true := by rw [h3]; rfl
  rw [C_parrylaw3_SortNeeds_K]
  refine bind_of hy (bind_of hz (if_both (fun _ => aw) fun _ => bind_of (hn ..) ?_))
  have last : ∀ M, 2 ≤ M → parrylaw3_SortNeeds.B1 (K N) M l want now env sys (needsE (varsOf l) (.mk a0 a1 (kidsOf ak)) want now env sys) a0 a1 ak = rb true := by
    intro M hM
    obtain ⟨M, rfl⟩ : ∃ M', M = M' + 1 + 1 := ⟨M - 2, by omega⟩
    obtain ⟨t, e1, e2⟩ := hr a0 a1 true
    have b2 : parrylaw3_SortNeeds.B2 (K N) (M + 1) = rb true := by rw [parrylaw3_SortNeeds.B2_eq]; exact aw
    rw [parrylaw3_SortNeeds.B1_eq]
    refine bind_of e1 (if_both (fun c => ?_) fun _ => b2)
    have c : ((t.len : Int) == 0) = true := c
    have h0 : readsE 4 (.mk a0 a1 (kidsOf ak)) = [] := List.eq_nil_of_length_eq_zero (by have := e2.1; simp at c; simp only [opR, if_true] at this; omega)
    refine bind_of (hn a0 a1 want now (!env) (!sys)) (if_not ?_ b2)
    rw [lookR_0, int_i, needsE_sides (env' := !env) (sys' := !sys) h0]
    simp
  by_cases c : needsE (varsOf l) (.mk a0 a1 (kidsOf ak)) want now env sys = 0
  · obtain ⟨z1, z2, z3, z4⟩ := needsE_zero c
    have b4 := sort_reads z1 (t := 4) (.inr rfl)
    have b3 := sort_reads z1 (t := 3) (.inl rfl)
    rw [varsOf_len] at b4 b3
    have c' : needsE (varsOf l) (.mk a0 a1 (kidsOf ak)) want true true true = 0 := needsE_of z1 z2 (fun x _ => nextBad_all _ x) (fun x _ => hidBad_all _ x)
    obtain ⟨t, e1, e2⟩ := hr a0 a1 true
    have l4 := readsE_len 4 (.mk a0 a1 (kidsOf ak))
    refine if_of (by simpa [lookR_0, int_i] using c) (bind_of (hn ..) (if_not (by simp [lookR_0, int_i, c']) (bind_of e1 ?_)))
    exact snB0 e2 (readsE_len ..) b4 z3 (hr a0 a1 false) (readsE_len ..) b3 z4 (c := 2) last (readsE 4 (.mk a0 a1 (kidsOf ak))).length 0 (by show 0 + _ = _; rw [Nat.zero_add]; rfl) N (by omega)
  · exact if_not (by simpa [lookR_0, int_i] using c) (last N (by omega))
end Go.Proofs.Ytfejbgnbganolaa
