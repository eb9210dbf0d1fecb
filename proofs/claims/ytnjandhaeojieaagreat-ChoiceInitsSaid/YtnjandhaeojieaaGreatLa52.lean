/- The document's own answers: State, Part, picks, where a play may begin. -/
import Derived.Test.YtnjandhaeojieaaGreatLa45
set_option linter.unusedVariables false
set_option linter.unusedSimpArgs false
namespace Go.Proofs.YtnjandhaeojieaaGreat
open Go.AM
theorem refStateB {h : H} {l t : T} {xs : List Int} (hx : Ints t xs) (hl : l.len ≤ 6) (hso : ∀ v ∈ varsOf l, sortedV v = 0) (hp : Pos (varsOf l)) (hr : InR (varsOf l) xs) (hz : ∀ a b x y z, C_parryref1_Size h a b x y z = ri (sizeV ⟨a, b, x, y, z⟩)) :
    ∀ m i, i + m = l.len → ∀ N (acc w : Int), m < N → 0 ≤ acc → acc < w → w * prodV ((varsOf l).drop i) ≤ 512 → parryref1_State.B0 h N t acc w l (l.len : Int) (i : Int) = some (lookR [(0, T.i (acc + w * stateFrom ((varsOf l).drop i) (xs.drop i))), (1, T.b true)])
  | 0, i, hi, N, acc, w, hN, h0, h1, h2 => by
    obtain ⟨N, rfl⟩ : ∃ M, N = M + 1 := ⟨N - 1, by omega⟩
    rw [parryref1_State.B0_eq, List.drop_of_length_le (by rw [varsOf_len]; omega)]
    refine if_not (decide_eq_false (by omega)) ?_
    simp [stateFrom]
  | m + 1, i, hi, N, acc, w, hN, h0, h1, h2 => by
    obtain ⟨N, rfl⟩ : ∃ M, N = M + 1 := ⟨N - 1, by omega⟩
    have hlt : i < l.len := by omega
    have hxl : xs.length = l.len := by rw [hr.len, varsOf_len]
    have hm1 : i < (varsOf l).length := by rw [varsOf_len]; exact hlt
    have ev : (varsOf l)[i] = vaAt l i := by
      have := varsOf_get l hlt
      rw [List.getElem?_eq_getElem hm1] at this
      exact Option.some.inj this
    have hmem : vaAt l i ∈ varsOf l := List.mem_of_getElem? (varsOf_get l hlt)
    obtain ⟨g1, g2⟩ := hr.get hm1 (by omega)
    rw [ev] at g1 g2
    have hsz := hp _ hmem
    have hsr := sizeV_range (vaAt l i)
    have hlr := low_range hsz
    have elow : (l.el i 3).int = lowV (vaAt l i) := (sortedV_low (hso _ hmem)).symm
    have ex : (t.el i 0).int = xs[i] := hx.el0 (by omega)
    have hP1 := prodV_pos (hp.drop (i + 1))
    have ed : (varsOf l).drop i = vaAt l i :: (varsOf l).drop (i + 1) := by rw [List.drop_eq_getElem_cons hm1, ev]
    rw [ed] at h2
    simp only [prodV] at h2
    rw [← Int.mul_assoc] at h2
    have w1 : w * sizeV (vaAt l i) * 1 ≤ w * sizeV (vaAt l i) * prodV ((varsOf l).drop (i + 1)) := Int.mul_le_mul_of_nonneg_left (by omega) (Int.mul_nonneg (by omega) (by omega))
    rw [Int.mul_one] at w1
    obtain ⟨D, hD⟩ : ∃ D, D = xs[i] - lowV (vaAt l i) := ⟨_, rfl⟩
    have d0 : 0 ≤ D * w := Int.mul_nonneg (by omega) (by omega)
    have d1 : (D + 1) * w ≤ sizeV (vaAt l i) * w := Int.mul_le_mul_of_nonneg_right (by omega) (by omega)
    rw [Int.add_mul, Int.one_mul, Int.mul_comm (sizeV (vaAt l i)) w] at d1
    have ih := refStateB hx hl hso hp hr hz m (i + 1) (by omega) N (acc + D * w) (w * sizeV (vaAt l i)) (by omega) (by omega) (by omega) h2
    rw [parryref1_State.B0_eq, Int.toNat_natCast, ex, ed, List.drop_eq_getElem_cons (show i < xs.length by omega)]
    refine if_of (decide_eq_true (by omega)) (if_of (by simp; omega) (if_of (by have := hx.1; simp; omega) (if_not (decide_eq_false (by omega)) (bind_of (hz ..) ?_))))
    simp only [lookR_0, int_i]
    show (bif decide (xs[i] ≥ IntKind.wrap .i64 ((l.el i 3).int + sizeV (vaAt l i))) then _ else _) = _
    rw [wrap_eq (a := (l.el i 3).int + sizeV (vaAt l i)) (by omega) (by omega)]
    refine if_not (decide_eq_false (by omega)) (bind_of (hz ..) ?_)
    simp only [lookR_0, int_i]
    show parryref1_State.B0 h N t (IntKind.wrap .i64 (acc + IntKind.wrap .i64 (IntKind.wrap .i64 (xs[i] - (l.el i 3).int) * w))) (IntKind.wrap .i64 (w * sizeV (vaAt l i))) l _ (IntKind.wrap .i64 ((i : Int) + 1)) = _
    rw [elow, ← hD, wrap_eq (a := D) (by omega) (by omega), wrap_eq (a := D * w) (by omega) (by omega), wrap_eq (a := acc + D * w) (by omega) (by omega), wrap_eq (a := w * sizeV (vaAt l i)) (by omega) (by omega), wrap_eq (a := (i : Int) + 1) (by omega) (by omega)]
    refine ih.trans ?_
    simp only [stateFrom]
    rw [← hD, Int.mul_add, Int.mul_comm D w, Int.mul_assoc, Int.add_assoc]
theorem refState_sp (l : T) (hl : l.len ≤ 9223372036854775807) (hm : mayV (varsOf l) = 0) : Ev fun N => ∀ t xs, Ints t xs → InR (varsOf l) xs → C_parryref1_State (K N) l t = some (lookR [(0, T.i (stateFrom (varsOf l) xs)), (1, T.b true)]) := by
  have h6 := totalE_len (mayV_total hm)
  rw [varsOf_len] at h6
  obtain ⟨ht, hp, hP⟩ := total_prod hm
  refine Ev.step (Ev.imp3 (refMay_sp l hl) refSize_sp (Ev.ge 10) fun N h1 h2 hN t xs hx hr => ?_)
  have hxl : xs.length = l.len := by rw [hr.len, varsOf_len]
  rw [C_parryref1_State_K]
  refine bind_of h1 (if_not (by simp [lookR_0, int_i, hm]) (if_not (by rw [hx.1, hxl]; simp) ?_))
  have := refStateB hx (by omega) (fun v hv => (totalE_pos (mayV_total hm) v hv).1) hp hr h2 l.len 0 (by omega) N 0 1 (by omega) (by omega) (by omega) (by rw [List.drop_zero, Int.one_mul]; exact hP)
  rw [List.drop_zero, List.drop_zero, Int.zero_add, Int.one_mul] at this
  exact this
theorem refPartB {h : H} {l : T} {env : Bool} {xs : List Int} (hl : l.len ≤ 6) (hso : ∀ v ∈ varsOf l, sortedV v = 0) (hp : Pos (varsOf l)) (hr : InR (varsOf l) xs)
    (hs : ∀ t xs, Ints t xs → InR (varsOf l) xs → C_parryref1_State h l t = some (lookR [(0, T.i (stateFrom (varsOf l) xs)), (1, T.b true)])) :
    ∀ m i, i + m = l.len → ∀ N, 2 * m < N → ∀ g : Nat → Nat → T, (∀ j (hj : j < xs.length), (g j 0).int = if j < i ∧ (vaAt l j).env ≠ env then lowV (vaAt l j) else xs[j]) →
      parryref1_Part.B0 h N l.len l env l (l.len : Int) (i : Int) g = ri (stateFrom (varsOf l) (maskE env (varsOf l) xs))
  | 0, i, hi, N, hN, g, hg => by
    obtain ⟨N, rfl⟩ : ∃ M, N = M + 1 := ⟨N - 1, by omega⟩
    have hxl : xs.length = l.len := by rw [hr.len, varsOf_len]
    rw [parryref1_Part.B0_eq]
    refine if_not (decide_eq_false (by omega)) (bind_of (hs _ (maskE env (varsOf l) xs) ⟨?_, fun j v hj => ?_⟩ (InR_mask hp hr)) (by simp [lookR_0, int_i]; rfl))
    · rw [maskE_len hr.len, varsOf_len]; rfl
    · have hj' : j < l.len := by
        have := (List.getElem?_eq_some_iff.1 hj).1
        rwa [maskE_len hr.len, varsOf_len] at this
      have hj1 : j < (varsOf l).length := by rw [varsOf_len]; exact hj'
      rw [maskE_get hj1 (by omega)] at hj
      have ev : (varsOf l)[j] = vaAt l j := by
        have := varsOf_get l hj'
        rw [List.getElem?_eq_getElem hj1] at this
        exact Option.some.inj this
      rw [ev] at hj
      rw [← Option.some.inj hj]
      show (g (0 + j) 0).int = _
      rw [Nat.zero_add, hg j (by omega)]
      by_cases c : (vaAt l j).env = env
      · rw [if_pos c, if_neg (fun q => q.2 c)]
      · rw [if_neg c, if_pos ⟨by omega, c⟩]
  | m + 1, i, hi, N, hN, g, hg => by
    obtain ⟨N, rfl⟩ : ∃ M, N = M + 1 + 1 := ⟨N - 2, by omega⟩
    have hlt : i < l.len := by omega
    have hxl : xs.length = l.len := by rw [hr.len, varsOf_len]
    have hmem : vaAt l i ∈ varsOf l := List.mem_of_getElem? (varsOf_get l hlt)
    have elow : (l.el i 3).int = lowV (vaAt l i) := (sortedV_low (hso _ hmem)).symm
    rw [parryref1_Part.B0_eq, Int.toNat_natCast]
    refine if_of (decide_eq_true (by omega)) (if_of (by simp; omega) ?_)
    by_cases c : (l.el i 1).bool = env
    · refine if_not (by rw [c]; simp) ?_
      rw [parryref1_Part.B1_eq, wrap_eq (a := (i : Int) + 1) (by omega) (by omega)]
      refine refPartB hl hso hp hr hs m (i + 1) (by omega) N (by omega) g fun j hj => ?_
      rw [hg j hj]
      by_cases d : j < i ∧ (vaAt l j).env ≠ env
      · rw [if_pos d, if_pos ⟨by omega, d.2⟩]
      · rw [if_neg d, if_neg]
        rintro ⟨q1, q2⟩
        by_cases e : j = i
        · subst e; exact q2 c
        · exact d ⟨by omega, q2⟩
    · refine if_of (by simpa using c) (if_of (by simp; omega) (if_of (decide_eq_true (by omega)) ?_))
      rw [parryref1_Part.B1_eq, wrap_eq (a := (i : Int) + 1) (by omega) (by omega)]
      refine refPartB hl hso hp hr hs m (i + 1) (by omega) N (by omega) _ fun j hj => ?_
      by_cases e : j = i
      · subst e
        rw [if_pos ⟨by omega, c⟩]
        show (bif j == 0 + j && Nat.ble 0 0 && Nat.blt 0 1 then _ else _ : T).int = _
        rw [show (j == 0 + j) = true by simp]
        exact elow
      · show (bif j == 0 + i && Nat.ble 0 0 && Nat.blt 0 1 then _ else _ : T).int = _
        rw [show (j == 0 + i) = false by simpa using e]
        show (g j 0).int = _
        rw [hg j hj]
        by_cases d : j < i ∧ (vaAt l j).env ≠ env
        · rw [if_pos d, if_pos ⟨by omega, d.2⟩]
        · rw [if_neg d, if_neg (fun q => d ⟨by omega, q.2⟩)]
theorem refPart_sp (l : T) (hl : l.len ≤ 9223372036854775807) (hm : mayV (varsOf l) = 0) : Ev fun N => ∀ s env, C_parryref1_Part (K N) l s env = ri (partE (varsOf l) s env) := by
  have h6 := totalE_len (mayV_total hm)
  rw [varsOf_len] at h6
  obtain ⟨ht, hp, hP⟩ := total_prod hm
  refine Ev.step (Ev.imp3 (refValues_sp l hl) (refState_sp l hl hm) (Ev.ge 20) fun N h1 h3 hN s env => ?_)
  obtain ⟨t, e, ev⟩ := h1 s
  rw [C_parryref1_Part_K]
  unfold partE
  cases c : valuesOk (varsOf l) s with
  | false =>
    rw [c] at e
    exact bind_of e (if_of rfl rfl)
  | true =>
    rw [c] at e
    have hx := ev c
    obtain ⟨_, s0, s1⟩ := valuesOk_iff.1 c
    have hr := InR_values hp s0
    refine bind_of e (if_not rfl ?_)
    have hlen : t.len = l.len := by rw [hx.1, hr.len, varsOf_len]
    show parryref1_Part.B0 (K N) N t.len l env l (l.len : Int) 0 (fun i j => t.el i j) = _
    rw [hlen, if_pos rfl]
    refine refPartB (by omega) (fun v hv => (totalE_pos (mayV_total hm) v hv).1) hp hr h3 l.len 0 (by omega) N (by omega) _ fun j hj => ?_
    rw [if_neg (fun q => absurd q.1 (Nat.not_lt_zero _))]
    exact hx.el0 hj
section
variable (l k1 k2 te ts ta tn tp : T) (hl : l.len ≤ 9223372036854775807) (h1 : KW k1) (h2 : KW k2) (he : KC te) (hs : KC ts) (ha : KW ta) (hn : KW tn) (hp : KW tp)
include hl h1 h2 he hs ha hn hp
end
end Go.Proofs.YtnjandhaeojieaaGreat
