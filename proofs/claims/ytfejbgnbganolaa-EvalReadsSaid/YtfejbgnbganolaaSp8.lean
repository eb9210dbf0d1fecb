/- What the document's own answers on variables come to. -/
import Derived.Test.YtfejbgnbganolaaLa1
set_option linter.unusedVariables false
set_option linter.unusedSimpArgs false
namespace Go.Proofs.Ytfejbgnbganolaa
open Go.AM

theorem strEq_comm (a b : ByteArray) : strEq a b = strEq b a := by unfold strEq; exact Bool.beq_comm
theorem refWord {h : H} {N : Nat} {s a0 a1 a2 a3 a4 a5 a6 a7 a8 a9 b0 b1 b2 b3 b4 b5 b6 b7 : ByteArray} : ∀ i : Nat, i < 18 →
    parryref1_Name.B2 h (N + 2) s a0 a1 a2 a3 a4 a5 a6 a7 a8 a9 b0 b1 b2 b3 b4 b5 b6 b7 (i : Int) = bif strEq s ([a0, a1, a2, a3, a4, a5, a6, a7, a8, a9, b0, b1, b2, b3, b4, b5, b6, b7].getD i ByteArray.empty) then some (lookR [(0, .b false)]) else parryref1_Name.B2 h N s a0 a1 a2 a3 a4 a5 a6 a7 a8 a9 b0 b1 b2 b3 b4 b5 b6 b7 ((i + 1 : Nat) : Int)
  | 0, _ => by rw [parryref1_Name.B2_eq, parryref1_Name.B3_eq]; rfl
  | 1, _ => by rw [parryref1_Name.B2_eq, parryref1_Name.B3_eq]; rfl
  | 2, _ => by rw [parryref1_Name.B2_eq, parryref1_Name.B3_eq]; rfl
  | 3, _ => by rw [parryref1_Name.B2_eq, parryref1_Name.B3_eq]; rfl
  | 4, _ => by rw [parryref1_Name.B2_eq, parryref1_Name.B3_eq]; rfl
  | 5, _ => by rw [parryref1_Name.B2_eq, parryref1_Name.B3_eq]; rfl
  | 6, _ => by rw [parryref1_Name.B2_eq, parryref1_Name.B3_eq]; rfl
  | 7, _ => by rw [parryref1_Name.B2_eq, parryref1_Name.B3_eq]; rfl
  | 8, _ => by rw [parryref1_Name.B2_eq, parryref1_Name.B3_eq]; rfl
  | 9, _ => by rw [parryref1_Name.B2_eq, parryref1_Name.B3_eq]; rfl
  | 10, _ => by rw [parryref1_Name.B2_eq, parryref1_Name.B3_eq]; rfl
  | 11, _ => by rw [parryref1_Name.B2_eq, parryref1_Name.B3_eq]; rfl
  | 12, _ => by rw [parryref1_Name.B2_eq, parryref1_Name.B3_eq]; rfl
  | 13, _ => by rw [parryref1_Name.B2_eq, parryref1_Name.B3_eq]; rfl
  | 14, _ => by rw [parryref1_Name.B2_eq, parryref1_Name.B3_eq]; rfl
  | 15, _ => by rw [parryref1_Name.B2_eq, parryref1_Name.B3_eq]; rfl
  | 16, _ => by rw [parryref1_Name.B2_eq, parryref1_Name.B3_eq]; rfl
  | 17, _ => by rw [parryref1_Name.B2_eq, parryref1_Name.B3_eq]; rfl
  | n + 18, h => absurd h (by omega)
theorem refWords {h : H} {s a0 a1 a2 a3 a4 a5 a6 a7 a8 a9 b0 b1 b2 b3 b4 b5 b6 b7 : ByteArray} : ∀ m i : Nat, i + m = 18 → ∀ N, 2 * m < N →
    parryref1_Name.B2 h N s a0 a1 a2 a3 a4 a5 a6 a7 a8 a9 b0 b1 b2 b3 b4 b5 b6 b7 (i : Int) = rb !(([a0, a1, a2, a3, a4, a5, a6, a7, a8, a9, b0, b1, b2, b3, b4, b5, b6, b7].drop i).any fun w => strEq s w)
  | 0, i, hi, N, hN => by
    obtain ⟨N, rfl⟩ : ∃ M, N = M + 1 := ⟨N - 1, by omega⟩
    obtain rfl : i = 18 := by omega
    rw [parryref1_Name.B2_eq]
    rfl
  | m + 1, i, hi, N, hN => by
    obtain ⟨N, rfl⟩ : ∃ M, N = M + 2 := ⟨N - 2, by omega⟩
    have hlt : i < ([a0, a1, a2, a3, a4, a5, a6, a7, a8, a9, b0, b1, b2, b3, b4, b5, b6, b7] : List ByteArray).length := by show i < 18; omega
    rw [refWord i (by omega), refWords m (i + 1) (by omega) N (by omega), List.drop_eq_getElem_cons hlt, List.any_cons, List.getD_eq_getElem?_getD, List.getElem?_eq_getElem hlt, Option.getD_some]
    generalize strEq s _ = b
    cases b <;> rfl
theorem refChars {h : H} {s : ByteArray} (hs : s.size ≤ 16) (h0 : charOk 0 (bt s 0) = true) : ∀ (m i : Nat), i + m = s.size → ∀ N, 2 * m + 40 < N → parryref1_Name.B0 h N s (s.size : Int) (i : Int) = rb (charsFrom s i m && !wordE s)
  | 0, i, hi, N, hN => by
    obtain ⟨N, rfl⟩ : ∃ M, N = M + 1 := ⟨N - 1, by omega⟩
    rw [parryref1_Name.B0_eq]
    refine if_not (decide_eq_false (by omega)) ((refWords (h := h) 18 0 (by omega) N (by omega)).trans ?_)
    simp only [charsFrom, Bool.true_and]
    rw [List.drop_zero]
    unfold wordE words
    rfl
  | m + 1, i, hi, N, hN => by
    obtain ⟨N, rfl⟩ : ∃ M, N = M + 2 := ⟨N - 2, by omega⟩
    have ih := refChars (h := h) hs h0 m (i + 1) (by omega) N (by omega)
    rw [parryref1_Name.B0_eq, parryref1_Name.B1_eq, wrap_eq (by omega) (by omega)]
    have ih' : parryref1_Name.B0 h N s (s.size : Int) ((i : Int) + 1) = rb (charsFrom s (i + 1) m && !wordE s) := ih
    rw [ih', Int.toNat_natCast]
    simp only [Bool.cond_eq_ite, decide_eq_true_eq, Bool.and_eq_true, beq_iff_eq, bne_iff_ne, ne_eq, charsFrom]
    rw [if_pos (by omega), if_pos (by omega)]
    have hi0 : i = 0 → 97 ≤ bt s i ∧ bt s i ≤ 122 := by
      intro hi; subst hi
      unfold charOk at h0
      simp at h0
      exact h0
    revert hi0
    generalize bt s i = c
    intro hi0
    have e : ∀ b : Bool, charOk i c = b → (charOk i c && charsFrom s (i + 1) m && !wordE s) = (b && (charsFrom s (i + 1) m && !wordE s)) := fun b hb => by rw [hb, Bool.and_assoc]
    have yes : charOk i c = true ↔ (97 ≤ c ∧ c ≤ 122 ∨ 0 < i ∧ (48 ≤ c ∧ c ≤ 57 ∨ c = 95)) := by unfold charOk; simp
    have no : charOk i c = false ↔ ¬ (97 ≤ c ∧ c ≤ 122 ∨ 0 < i ∧ (48 ≤ c ∧ c ≤ 57 ∨ c = 95)) := by rw [← yes]; simp
    repeat' split
    all_goals first
      | (rw [e true (yes.2 (by omega))]; rfl)
      | (rw [e false (no.2 (by omega))]; rfl)
theorem refName_sp : Ev fun N => ∀ s, C_parryref1_Name (K N) s = rb (nameE s) := by
  refine Ev.step ((Ev.ge 100).imp fun N hN s => ?_)
  rw [C_parryref1_Name_K]
  unfold nameE
  by_cases h1 : (s.size : Int) < 1
  · refine if_of (decide_eq_true h1) ?_
    have : decide (1 ≤ s.size ∧ s.size ≤ 16) = false := by simp; omega
    rw [this]; rfl
  · refine if_not (decide_eq_false h1) ?_
    by_cases h2 : (s.size : Int) > 16
    · refine if_of (decide_eq_true h2) ?_
      have : decide (1 ≤ s.size ∧ s.size ≤ 16) = false := by simp; omega
      rw [this]; rfl
    · refine if_not (decide_eq_false h2) (if_of (decide_eq_true (by omega)) ?_)
      have h3 : decide (1 ≤ s.size ∧ s.size ≤ 16) = true := by simp; omega
      rw [h3, Bool.true_and]
      obtain ⟨m, hm⟩ : ∃ m, s.size = m + 1 := ⟨s.size - 1, by omega⟩
      have first : charOk 0 (bt s 0) = false → charsFrom s 0 s.size = false := by intro h; rw [hm]; unfold charsFrom; rw [h]; rfl
      by_cases c1 : bt s 0 < 97
      · refine if_of (decide_eq_true c1) ?_
        rw [first (by unfold charOk; simp; omega), Bool.and_false]; rfl
      · refine if_not (decide_eq_false c1) (if_of (decide_eq_true (by omega)) ?_)
        by_cases c2 : bt s 0 > 122
        · refine if_of (decide_eq_true c2) ?_
          rw [first (by unfold charOk; simp; omega), Bool.and_false]; rfl
        · refine if_not (decide_eq_false c2) ?_
          have := refChars (h := K N) (s := s) (by omega) (by unfold charOk; simp; omega) s.size 0 (by omega) N (by omega)
          rw [Bool.and_comm]
          exact this
theorem refSize_sp : Ev fun N => ∀ a b x y z, C_parryref1_Size (K N) a b x y z = ri (sizeV ⟨a, b, x, y, z⟩) := by
  refine ⟨2, fun N hN a b x y z => ?_⟩
  obtain ⟨N, rfl⟩ : ∃ M, N = M + 2 := ⟨N - 2, by omega⟩
  rw [C_parryref1_Size_K, parryref1_Size.B0_eq]
  unfold sizeV
  simp only [Bool.cond_eq_ite, decide_eq_true_eq, beq_iff_eq]
  repeat' split
  all_goals first
    | rfl
    | (exfalso; omega)
    | (show ri _ = ri _; congr 1; rw [wrap_eq (a := z - y) (by omega) (by omega), wrap_eq (by omega) (by omega)])
theorem refFindB {h : H} {l : T} (hl : l.len ≤ 9223372036854775807) (s : ByteArray) : ∀ (m i : Nat), i + m = l.len → ∀ M, m < M → parryref1_Find.B0 h M s l (l.len : Int) (i : Int) = ri (findFrom s ((varsOf l).drop i) i)
  | 0, i, hi, M, hM => by
    obtain ⟨M, rfl⟩ : ∃ M', M = M' + 1 := ⟨M - 1, by omega⟩
    rw [parryref1_Find.B0_eq]
    unfold varsOf
    rw [range_end _ (by omega)]
    exact if_not (decide_eq_false (by omega)) rfl
  | m + 1, i, hi, M, hM => by
    obtain ⟨M, rfl⟩ : ∃ M', M = M' + 1 := ⟨M - 1, by omega⟩
    have hlt : i < l.len := by omega
    have ih := refFindB (h := h) hl s m (i + 1) (by omega) M (by omega)
    unfold varsOf at ih ⊢
    rw [parryref1_Find.B0_eq, range_from _ hlt]
    simp only [Bool.cond_eq_ite, decide_eq_true_eq, Bool.and_eq_true, findFrom]
    rw [if_pos (by omega), if_pos (by omega), Int.toNat_natCast, wrap_eq (by omega) (by omega)]
    show (if strEq (vaAt l i).name s = true then _ else _) = _
    split
    · rfl
    · exact ih
theorem refFind_sp (l : T) (hl : l.len ≤ 9223372036854775807) : Ev fun N => ∀ s, C_parryref1_Find (K N) l s = ri (findE (varsOf l) s) := by
  refine Ev.step ((Ev.ge (l.len + 1)).imp fun N hN s => ?_)
  rw [C_parryref1_Find_K]
  exact refFindB hl s l.len 0 (by omega) N (by omega)
end Go.Proofs.Ytfejbgnbganolaa
