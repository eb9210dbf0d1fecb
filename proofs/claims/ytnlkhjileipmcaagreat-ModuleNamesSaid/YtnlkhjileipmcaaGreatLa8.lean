/- ExprShapes: of each operation just so many kids may be; numbers only where they belong. -/
import Derived.Test.YtnlkhjileipmcaaGreatLa7
set_option linter.unusedVariables false
set_option linter.unusedSimpArgs false
namespace Go.Proofs.YtnlkhjileipmcaaGreat
open Go.AM

/-- So many kids, each of them false. -/
def falses (m : Nat) : List Ex := List.replicate m (.mk 2 0 [])
theorem falses_sound : ∀ m, soundL (falses m) = true
  | 0 => rfl
  | m + 1 => by
    have := falses_sound m
    unfold falses at this ⊢
    rw [List.replicate_succ]
    simp [soundL, this, soundE, numberE, show kidsN 2 = 0 from rfl]
theorem falses_goes : ∀ (m : Nat) (n : Int), 0 ≤ n → n + m ≤ 60 → goesL (falses m) 1 n false = (n + m, false)
  | 0, n, _, _ => by simp [falses, goesL]
  | m + 1, n, h0, h1 => by
    have ih := falses_goes m (n + 1) (by omega) (by omega)
    unfold falses at ih ⊢
    rw [List.replicate_succ]
    simp only [goesL, goesE]
    rw [if_neg (by omega), if_neg (by omega), if_neg (by omega), ih]
    exact Prod.ext (by show n + 1 + (m : Int) = n + ((m + 1 : Nat) : Int); omega) rfl
/-- May a node with so many kids be? -/
def Shape (op n : Int) (m : Nat) : Prop := 0 ≤ kidsN op ∧ (m : Int) = kidsN op ∧ ((op = 1 ∧ -1000 ≤ n ∧ n ≤ 1000) ∨ (op = 2 ∧ (n = 0 ∨ n = 1)) ∨ ((op = 3 ∨ op = 4) ∧ 0 ≤ n ∧ n < 6) ∨ ((op < 1 ∨ 4 < op) ∧ n = 0))
theorem shape_may {op n : Int} {m : Nat} (hm : m ≤ 4) : (Shape op n m → mayE (.mk op n (falses m)) = 0) ∧ (¬ Shape op n m → mayE (.mk op n (falses m)) = 1) := by
  have hl : lightE (.mk op n (falses m)) = true := by
    have eg : goesE (.mk op n (falses m)) 1 0 false = ((0 + 1 + m : Int), false) := by
      simp only [goesE]
      rw [if_neg (by omega), if_neg (by omega), falses_goes m (0 + 1) (by omega) (by omega)]
    unfold lightE nodesE
    rw [eg]
    simp; omega
  have hs : soundE (.mk op n (falses m)) = (decide (0 ≤ kidsN op) && decide ((m : Int) = kidsN op) && numberE op n) := by
    simp only [soundE, falses_sound, Bool.and_true]
    unfold falses
    rw [List.length_replicate]
  have hn : numberE op n = true ↔ ((op = 1 ∧ -1000 ≤ n ∧ n ≤ 1000) ∨ (op = 2 ∧ (n = 0 ∨ n = 1)) ∨ ((op = 3 ∨ op = 4) ∧ 0 ≤ n ∧ n < 6) ∨ ((op < 1 ∨ 4 < op) ∧ n = 0)) := by
    unfold numberE
    repeat' split
    all_goals (rw [decide_eq_true_eq]; omega)
  unfold mayE
  rw [if_pos hl]
  constructor
  · intro h
    rw [if_pos]
    rw [hs, Bool.and_eq_true, Bool.and_eq_true, decide_eq_true_eq, decide_eq_true_eq]
    exact ⟨⟨h.1, h.2.1⟩, hn.2 h.2.2⟩
  · intro h
    rw [if_neg]
    rw [hs, Bool.and_eq_true, Bool.and_eq_true, decide_eq_true_eq, decide_eq_true_eq]
    exact fun h1 => h ⟨h1.1.1, h1.1.2, hn.1 h1.2⟩
/-- A row of kids, each of them false. -/
def rowF (g : Nat → Nat → T) (m : Nat) : Prop := ∀ i, i < m → g i 0 = .i 2 ∧ g i 1 = .i 0 ∧ g i 2 = noT
theorem kidsOf_rowF {g : Nat → Nat → T} {m : Nat} (h : rowF g m) : kidsOf (.l m fun i j => g (0 + i) j) = falses m := by
  simp only [kidsOf]
  unfold falses
  apply List.ext_getElem
  · simp
  · intro i h1 h2
    have hi : i < m := by simpa using h1
    obtain ⟨e0, e1, e2⟩ := h i hi
    simp only [List.getElem_map, List.getElem_range, List.getElem_replicate, Nat.zero_add, e0, e1, e2]
    rfl
theorem KW_rowF {g : Nat → Nat → T} {m : Nat} (hm : m ≤ 4) (h : rowF g m) : KW (.l m fun i j => g (0 + i) j) := by
  refine ⟨by omega, fun i hi => ?_⟩
  show KW (g (0 + i) 2)
  rw [Nat.zero_add, (h i hi).2.2]
  exact KW_noT
/-- The row as the law makes it. -/
def mkF : Nat → Nat → Nat → T
  | 0 => fun _ _ => .b false
  | m + 1 => fun i j => bif Nat.blt i m then mkF m i j else (([[T.i 2, T.i 0, noT]] : List (List T)).getD (0 + (i - m)) []).getD j (.b false)
theorem mkF_row : ∀ m, rowF (mkF m) m
  | 0 => fun i hi => absurd hi (Nat.not_lt_zero _)
  | m + 1 => fun i hi => by
    have ih := mkF_row m
    simp only [mkF]
    by_cases h : i < m
    · have hb : Nat.blt i m = true := by rw [Nat.blt_eq]; exact h
      rw [hb]
      exact ih i h
    · have hb : Nat.blt i m = false := by
        cases hc : Nat.blt i m with
        | false => rfl
        | true => rw [Nat.blt_eq] at hc; exact absurd hc h
      have e : i - m = 0 := by omega
      rw [hb, e]
      exact ⟨rfl, rfl, rfl⟩
theorem kids_range (op : Int) : (0 ≤ kidsN op ↔ 1 ≤ op ∧ op ≤ 15) := by
  unfold kidsN
  repeat' split
  all_goals omega
theorem ite_both {α : Type} {c : Prop} [Decidable c] {x y z : α} (h : c → x = z) (k : ¬ c → y = z) : (if c then x else y) = z := by
  by_cases hc : c
  · rw [if_pos hc]; exact h hc
  · rw [if_neg hc]; exact k hc
end Go.Proofs.YtnlkhjileipmcaaGreat
