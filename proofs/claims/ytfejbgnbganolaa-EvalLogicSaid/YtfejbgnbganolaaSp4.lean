/- What package sort's functions come to. -/
import Derived.Test.YtfejbgnbganolaaMo3
import Derived.Test.YtfejbgnbganolaaSp3
set_option linter.unusedVariables false
set_option linter.unusedSimpArgs false
namespace Go.Proofs.Ytfejbgnbganolaa
open Go.AM

theorem ints1 (a : Int) : Ints (T.l 1 fun i j => ([[T.i a]].getD i []).getD j (.b false)) [a] := ⟨rfl, fun i v h => by match i, h with | 0, h => exact Option.some.inj h⟩
theorem ints2 (a b : Int) : Ints (T.l 2 fun i j => ([[T.i a], [T.i b]].getD i []).getD j (.b false)) [a, b] := ⟨rfl, fun i v h => by match i, h with | 0, h => exact Option.some.inj h | 1, h => exact Option.some.inj h⟩
theorem ints3 (a b c : Int) : Ints (T.l 3 fun i j => ([[T.i a], [T.i b], [T.i c]].getD i []).getD j (.b false)) [a, b, c] := ⟨rfl, fun i v h => by match i, h with | 0, h => exact Option.some.inj h | 1, h => exact Option.some.inj h | 2, h => exact Option.some.inj h⟩
theorem ints0 (g : Nat → Nat → T) : Ints (T.l 0 g) [] := ⟨rfl, fun i v h => by simp at h⟩
theorem needs_sp : Ev fun N => ∀ op, ∃ t, C_sort_needs (K N) op = some (lookR [(0, t)]) ∧ Ints t (needsL op) := by
  refine ⟨9, fun N hN op => ?_⟩
  obtain ⟨N, rfl⟩ : ∃ M, N = M + 3 := ⟨N - 3, by omega⟩
  simp only [C_sort_needs_K, sort_needs.B0_eq, sort_needs.B1_eq]
  simp only [Bool.cond_eq_ite, decide_eq_true_eq, beq_iff_eq]
  have hop : op = 5 ∨ op = 6 ∨ op = 7 ∨ op = 8 ∨ op = 9 ∨ op = 10 ∨ op = 11 ∨ op = 12 ∨ op = 13 ∨ op = 14 ∨ op = 15 ∨ (op < 5 ∨ 15 < op) := by omega
  rcases hop with rfl | rfl | rfl | rfl | rfl | rfl | rfl | rfl | rfl | rfl | rfl | hop
  all_goals first
    | exact ⟨_, rfl, ints1 _⟩
    | exact ⟨_, rfl, ints2 _ _⟩
    | exact ⟨_, rfl, ints3 _ _ _⟩
    | skip
  have e : ∀ k : Int, 5 ≤ k → k ≤ 15 → ¬ op = k := fun k h1 h2 => by omega
  simp only [e 5 (by omega) (by omega), e 6 (by omega) (by omega), e 7 (by omega) (by omega), e 8 (by omega) (by omega), e 9 (by omega) (by omega), e 10 (by omega) (by omega), e 11 (by omega) (by omega), e 12 (by omega) (by omega), e 13 (by omega) (by omega), e 14 (by omega) (by omega), e 15 (by omega) (by omega), if_false]
  refine ⟨_, rfl, ?_⟩
  unfold needsL
  rw [if_neg (by omega), if_neg (by omega), if_neg (by omega), if_neg (by omega), if_neg (by omega)]
  exact ints0 _
theorem fitsB_sp {h : H} {tw tg : T} {want got : List Int} (hw : Ints tw want) (hg : Ints tg got) (hl : want.length = got.length) (h3 : want.length ≤ 3) :
    ∀ (m i : Nat), i + m = want.length → ∀ N same, 2 * m < N → sort_fits.B0 h N tg same tw (tw.len : Int) (i : Int) = rb (fitsFrom (want.drop i) (got.drop i) same)
  | 0, i, hi, N, same, hN => by
    obtain ⟨N, rfl⟩ : ∃ M, N = M + 1 := ⟨N - 1, by omega⟩
    have h1 := hw.1
    rw [sort_fits.B0_eq, List.drop_of_length_le (l := want) (by omega)]
    simp only [Bool.cond_eq_ite, decide_eq_true_eq]
    rw [if_neg (by omega)]
    rfl
  | m + 1, i, hi, N, same, hN => by
    obtain ⟨N, rfl⟩ : ∃ M, N = M + 2 := ⟨N - 2, by omega⟩
    have h1 := hw.1
    have h2 := hg.1
    have hlt : i < want.length := by omega
    have hlt2 : i < got.length := by omega
    have ih := fun s => fitsB_sp (h := h) hw hg hl h3 m (i + 1) (by omega) N s (by omega)
    rw [List.drop_eq_getElem_cons hlt, List.drop_eq_getElem_cons hlt2]
    have ew : (tw.el i 0).int = want[i] := hw.2 i _ (List.getElem?_eq_getElem hlt)
    have eg : (tg.el i 0).int = got[i] := hg.2 i _ (List.getElem?_eq_getElem hlt2)
    rw [sort_fits.B0_eq]
    simp only [sort_fits.B1_eq, Int.toNat_natCast, ew, eg]
    rw [wrap_eq (by omega) (by omega)]
    have ih' : ∀ s, sort_fits.B0 h N tg s tw (tw.len : Int) ((i : Int) + 1) = rb (fitsFrom (want.drop (i + 1)) (got.drop (i + 1)) s) := ih
    simp only [ih', Bool.cond_eq_ite, decide_eq_true_eq, Bool.and_eq_true, beq_iff_eq, bne_iff_ne, ne_eq, fitsFrom]
    generalize want[i] = x
    generalize got[i] = y
    have g1 : (i : Int) < (tw.len : Int) := by omega
    have g2 : (0 : Int) ≤ (i : Int) ∧ (i : Int) < (tw.len : Int) := by omega
    have g3 : (0 : Int) ≤ (i : Int) ∧ (i : Int) < (tg.len : Int) := by omega
    simp only [g1, g2, g3, if_true, and_self, true_and]
    by_cases c1 : x = 0
    · simp only [c1, not_true_eq_false, if_false, if_true, false_and, true_and, and_true]
      by_cases c2 : same = 0
      · simp [c2]
      · by_cases c3 : y = same
        · simp [c2, c3]
        · simp [c2, c3, rb]
    · simp only [c1, not_false_eq_true, if_true, if_false, false_and, true_and]
      by_cases c2 : y = x
      · simp [c2]
      · simp [c2, rb]
theorem fits_sp : Ev fun N => ∀ tw tg want got, Ints tw want → Ints tg got → want.length = got.length → want.length ≤ 3 → C_sort_fits (K N) tw tg = rb (fitsFrom want got 0) := by
  refine Ev.step ((Ev.ge 20).imp fun N hN tw tg want got hw hg hl h3 => ?_)
  rw [C_sort_fits_K]
  have := fitsB_sp (h := K N) hw hg hl h3 want.length 0 (by omega) N 0 (by omega)
  simpa using this
theorem told_sp (l : T) : Ev fun N => ∀ op n k tg got, Ints tg got → (op = 3 ∨ op = 4 → 0 ≤ n ∧ n < (l.len : Int)) → (op = 15 → got.length = 3) → C_sort_told (K N) l op n k tg = ri (toldE (varsOf l) op n got) := by
  refine ⟨9, fun N hN op n k tg got hg hv hi => ?_⟩
  obtain ⟨N, rfl⟩ : ∃ M, N = M + 3 := ⟨N - 3, by omega⟩
  have hlen := hg.1
  simp only [C_sort_told_K, sort_told.B0_eq, sort_told.B1_eq]
  simp only [Bool.cond_eq_ite, decide_eq_true_eq, beq_iff_eq, Bool.and_eq_true]
  unfold toldE
  by_cases c1 : op = 1 ∨ 12 ≤ op ∧ op ≤ 14
  · rw [if_pos c1]
    repeat' split
    all_goals first
      | rfl
      | (exfalso; omega)
  · rw [if_neg c1]
    by_cases c2 : op = 3 ∨ op = 4
    · rw [if_pos c2]
      have h1 := hv c2
      have h2 : n.toNat < l.len := by omega
      rw [varsOf_get l h2]
      have e : ((l.el n.toNat 2).int) = (vaAt l n.toNat).sort := rfl
      simp only [e, Option.map_some, Option.getD_some, h1, and_self, if_true]
      rcases c2 with rfl | rfl <;> rfl
    · rw [if_neg c2]
      by_cases c3 : op = 15
      · rw [if_pos c3]
        have h3 := hi c3
        have h4 : (1 : Int) < (tg.len : Int) := by omega
        have e : (tg.el 1 0).int = got.getD 1 0 := by
          rw [List.getD_eq_getElem?_getD, List.getElem?_eq_getElem (by omega)]
          exact hg.2 1 _ (List.getElem?_eq_getElem (by omega))
        simp only [c3, h4, if_true, e]
        rfl
      · rw [if_neg c3]
        repeat' split
        all_goals first
          | rfl
          | (exfalso; omega)
end Go.Proofs.Ytfejbgnbganolaa
