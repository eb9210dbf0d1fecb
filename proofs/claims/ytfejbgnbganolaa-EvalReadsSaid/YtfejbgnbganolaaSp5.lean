/- The sort of an expression. -/
import Derived.Test.YtfejbgnbganolaaSp4
set_option linter.unusedVariables false
set_option linter.unusedSimpArgs false
namespace Go.Proofs.Ytfejbgnbganolaa
open Go.AM

structure SortFacts (h : H) (l : T) : Prop where
  needs : ∀ op, ∃ t, C_sort_needs h op = some (lookR [(0, t)]) ∧ Ints t (needsL op)
  fits : ∀ tw tg want got, Ints tw want → Ints tg got → want.length = got.length → want.length ≤ 3 → C_sort_fits h tw tg = rb (fitsFrom want got 0)
  told : ∀ op n k tg got, Ints tg got → (op = 3 ∨ op = 4 → 0 ≤ n ∧ n < (l.len : Int)) → (op = 15 → got.length = 3) → C_sort_told h l op n k tg = ri (toldE (varsOf l) op n got)
theorem ofEnd_sp {h : H} {l k : T} (F : SortFacts h l) {op m : Int} {cnt : Nat} {g : Nat → Nat → T} {ss : List Int} (hs : Ints (T.l cnt g) ss) (hk : (ss.length : Int) = kidsN op) (hn : numberE op m = true) (N : Nat) {len i : Int} (hi : ¬ i < len) {k2 : T} :
    sort_of.B0 h (N + 2) cnt l k2 len i op m k g = rii (nodeE (varsOf l) op m ss).1 (nodeE (varsOf l) op m ss).2 := by
  obtain ⟨t, h1, h2⟩ := F.needs op
  have h3 : Ints (T.l cnt fun i j => g (0 + i) j) ss := by
    have := hs.shift
    exact this
  have hkn : 0 ≤ kidsN op := by omega
  have h4 := kidsN_needs hkn
  have h5 := kidsN_le op
  have hf := F.fits _ _ _ _ h2.shift h3 (by omega) (by omega)
  rw [sort_of.B0_eq, sort_of.B1_eq, h1, some_bind, lookR_0, hf, rb_bind, lookR_0, bool_b]
  simp only [Bool.cond_eq_ite, decide_eq_true_eq, beq_iff_eq, hi, if_false]
  unfold nodeE
  rw [varsOf_len]
  have hnum : op = 3 ∨ op = 4 → 0 ≤ m ∧ m < 6 := by
    intro ho
    unfold numberE at hn
    rw [if_neg (by omega), if_neg (by omega), if_pos ho] at hn
    exact of_decide_eq_true hn
  have hl15 : op = 15 → ss.length = 3 := by
    rintro rfl
    have : kidsN 15 = 3 := rfl
    omega
  by_cases c1 : (op = 3 ∨ op = 4) ∧ (l.len : Int) ≤ m
  · rw [if_pos c1]
    obtain ⟨rfl | rfl, c2⟩ := c1
    · simp only [if_true, ge_iff_le, c2]; rfl
    · simp only [if_true, ge_iff_le, c2]; rfl
  · rw [if_neg c1]
    have ht : fitsFrom (needsL op) ss 0 = true → C_sort_told h l op m k (T.l cnt fun i j => g (0 + i) j) = ri (toldE (varsOf l) op m ss) := fun _ =>
      F.told op m k _ ss h3 (fun ho => ⟨(hnum ho).1, by omega⟩) hl15
    cases c3 : fitsFrom (needsL op) ss 0 with
    | false =>
      simp only [Bool.not_false, if_true]
      by_cases c4 : op = 3
      · have c5 : ¬ m ≥ (l.len : Int) := by omega
        rw [if_pos c4, if_neg c5]; rfl
      · rw [if_neg c4]
        by_cases c6 : op = 4
        · have c5 : ¬ m ≥ (l.len : Int) := by omega
          rw [if_pos c6, if_neg c5]; rfl
        · rw [if_neg c6]; rfl
    | true =>
      rw [ht c3, ri_bind, lookR_0, int_i]
      simp only [Bool.not_true, Bool.false_eq_true, if_false, Bool.true_eq_false]
      by_cases c4 : op = 3
      · have c5 : ¬ m ≥ (l.len : Int) := by omega
        rw [if_pos c4, if_neg c5]; rfl
      · rw [if_neg c4]
        by_cases c6 : op = 4
        · have c5 : ¬ m ≥ (l.len : Int) := by omega
          rw [if_pos c6, if_neg c5]; rfl
        · rw [if_neg c6]; rfl
theorem ofB_sp {h : H} {l k : T} (F : SortFacts h l) {op m : Int} (hk : (k.len : Int) = kidsN op) (hn : numberE op m = true)
    (hc : ∀ i, i < k.len → C_sort_of h l (k.el i 0).int (k.el i 1).int (k.el i 2) = rii (ofE (varsOf l) (exAt k i)).1 (ofE (varsOf l) (exAt k i)).2) :
    ∀ (q i : Nat), i + q = k.len → ∀ N g prev, q + 1 < N → Ints (T.l i g) prev → sort_of.B0 h N i l k (k.len : Int) (i : Int) op m k g =
      (if (ofL (varsOf l) ((kidsOf k).drop i)).1 ≠ 0 then rii 0 (ofL (varsOf l) ((kidsOf k).drop i)).1 else rii (nodeE (varsOf l) op m (prev ++ (ofL (varsOf l) ((kidsOf k).drop i)).2)).1 (nodeE (varsOf l) op m (prev ++ (ofL (varsOf l) ((kidsOf k).drop i)).2)).2)
  | 0, i, hi, N, g, prev, hN, hp => by
    obtain ⟨N, rfl⟩ : ∃ M, N = M + 2 := ⟨N - 2, by omega⟩
    have hpl := hp.1
    have hpl : i = prev.length := hpl
    rw [List.drop_of_length_le (by rw [kidsOf_len]; omega), ofEnd_sp F hp (by omega) hn N (by omega)]
    simp [ofL]
  | q + 1, i, hi, N, g, prev, hN, hp => by
    obtain ⟨N, rfl⟩ : ∃ M, N = M + 1 := ⟨N - 1, by omega⟩
    have hlt : i < k.len := by omega
    have h3 := kidsN_le op
    have hpl : i = prev.length := hp.1
    rw [kidsOf_from k i hlt, sort_of.B0_eq, Int.toNat_natCast, hc i hlt, rii_bind, lookR_0, lookR_1, int_i, int_i]
    have g1 : (i : Int) < (k.len : Int) := by omega
    have g2 : (0 : Int) ≤ (i : Int) := by omega
    have g3 : (i + 1) * 8 ≤ 140737488355328 := by omega
    rw [wrap_eq (by omega) (by omega)]
    simp only [ofL]
    by_cases c1 : (ofE (varsOf l) (exAt k i)).2 = 0
    · have hp' : Ints (T.l (i + 1) fun i565 j546 => (bif Nat.blt i565 i then (g i565 j546) else ((([[(T.i (ofE (varsOf l) (exAt k i)).1)]] : List (List T)).getD (0 + (i565 - i)) []).getD j546 (.b false)))) (prev ++ [(ofE (varsOf l) (exAt k i)).1]) := by
        refine ⟨by simp [T.len, hpl], fun j v hj => ?_⟩
        show ((bif Nat.blt j i then (g j 0) else ((([[(T.i (ofE (varsOf l) (exAt k i)).1)]] : List (List T)).getD (0 + (j - i)) []).getD 0 (.b false)))).int = v
        by_cases hji : j < i
        · have e : Nat.blt j i = true := by rw [Nat.blt_eq]; exact hji
          rw [e]
          rw [List.getElem?_append_left (by omega)] at hj
          exact hp.2 j v hj
        · have e : Nat.blt j i = false := by
            cases hb : Nat.blt j i with
            | false => rfl
            | true => rw [Nat.blt_eq] at hb; omega
          rw [e]
          rw [List.getElem?_append_right (by omega)] at hj
          have hjl : j - prev.length = 0 := by
            have := (List.getElem?_eq_some_iff.1 hj).1
            simp at this
            omega
          rw [hjl] at hj
          have e2 : j - i = 0 := by omega
          rw [e2]
          exact Option.some.inj hj
      have ih := ofB_sp F hk hn hc q (i + 1) (by omega) N _ _ (by omega) hp'
      simp only [c1, Bool.cond_eq_ite, decide_eq_true_eq, Bool.and_eq_true, bne_iff_ne, ne_eq, not_true_eq_false, if_false, g1, g2, g3, if_true, and_self] at ih ⊢
      have ih' := ih
      rw [show ((i : Int) + 1) = ((i + 1 : Nat) : Int) from rfl, ih']
      by_cases c2 : (ofL (varsOf l) ((kidsOf k).drop (i + 1))).1 = 0
      · simp [c2]
      · simp [c2]
    · simp only [c1, Bool.cond_eq_ite, decide_eq_true_eq, Bool.and_eq_true, bne_iff_ne, ne_eq, not_false_eq_true, g1, g2, g3, if_true, and_self]
      rfl
theorem soundE_kid {k : T} (h : soundL (kidsOf k) = true) {i : Nat} (hi : i < k.len) : soundE (exAt k i) = true := by
  have key : ∀ (l : List Ex) (i : Nat) (x : Ex), soundL l = true → l[i]? = some x → soundE x = true := by
    intro l
    induction l with
    | nil => intro i x _ h; simp at h
    | cons y l ih =>
      intro i x h hx
      simp only [soundL, Bool.and_eq_true] at h
      cases i with
      | zero =>
        obtain rfl : y = x := by simpa using hx
        exact h.1
      | succ i => exact ih i x h.2 (by simpa using hx)
  exact key _ i _ h (kidsOf_get k hi)
theorem soundE_inv {op m : Int} {k : T} (h : soundE (.mk op m (kidsOf k)) = true) : (k.len : Int) = kidsN op ∧ numberE op m = true ∧ soundL (kidsOf k) = true := by
  simp only [soundE, Bool.and_eq_true, decide_eq_true_eq, kidsOf_len] at h
  exact ⟨h.1.1.2, h.1.2, h.2⟩
theorem of_sp (l : T) (hl : l.len ≤ 9223372036854775807) : ∀ k, KW k → Ev fun N => ∀ op m, soundE (.mk op m (kidsOf k)) = true → C_sort_of (K N) l op m k = rii (ofE (varsOf l) (.mk op m (kidsOf k))).1 (ofE (varsOf l) (.mk op m (kidsOf k))).2 := by
  refine kids_ind fun k ih hk => ?_
  have hF : Ev fun N => SortFacts (K N) l := Ev.imp3 needs_sp fits_sp (told_sp l) fun N a b c => ⟨a, b, c⟩
  refine Ev.step (Ev.imp3 hF (Ev.all fun i hi => ih i hi (hk.el hi)) (Ev.ge (k.len + 3)) fun N F hc hN op m hs => ?_)
  obtain ⟨h1, h2, h3⟩ := soundE_inv hs
  rw [C_sort_of_K]
  have := ofB_sp F h1 h2 (fun i hi => hc i hi _ _ (soundE_kid h3 hi)) k.len 0 (by omega) N (fun _ _ => .b false) [] (by omega) ⟨rfl, fun i v h => by simp at h⟩
  have e : sort_of.B0 (K N) N 0 l k (k.len : Int) 0 op m k (fun _ _ => .b false) = _ := this
  rw [e]
  simp only [List.drop_zero, List.nil_append, ofE]
  split <;> rfl
theorem Of_sp (l : T) (hl : l.len ≤ 9223372036854775807) (k : T) (hk : KW k) : Ev fun N => ∀ op m, C_sort_Of (K N) l op m k = rii (sortE (varsOf l) (.mk op m (kidsOf k))).1 (sortE (varsOf l) (.mk op m (kidsOf k))).2 := by
  refine Ev.step (Ev.imp3 (MayV_sp l hl) (May_sp k hk) (of_sp l hl k hk) fun N h1 h2 h3 op m => ?_)
  rw [C_sort_Of_K, h1, ri_bind, lookR_0, int_i, h2, ri_bind, lookR_0, int_i]
  unfold sortE
  simp only [Bool.cond_eq_ite, bne_iff_ne, ne_eq]
  by_cases c1 : mayV (varsOf l) = 0
  · simp only [c1, not_true_eq_false, if_false]
    by_cases c2 : mayE (.mk op m (kidsOf k)) = 0
    · simp only [c2, not_true_eq_false, if_false]
      have hs : soundE (.mk op m (kidsOf k)) = true := by
        unfold mayE at c2
        split at c2
        · split at c2
          · assumption
          · cases c2
        · cases c2
      rw [h3 op m hs]
      rfl
    · simp only [c2, not_false_eq_true, if_true]; rfl
  · simp only [c1, not_false_eq_true, if_true]; rfl
end Go.Proofs.Ytfejbgnbganolaa
