/- ExprShapes: of each operation just so many kids may be; numbers only where they belong. -/
import Derived.Test.YtfejbgnbganolaaLa7
set_option linter.unusedVariables false
set_option linter.unusedSimpArgs false
namespace Go.Proofs.Ytfejbgnbganolaa
open Go.AM

/-- So many kids, each of them false. -/
def falses (m : Nat) : List Ex := List.replicate m (.mk 2 0 [])
theorem falses_sound : ∀ m, soundL (falses m) = true
  | 0 => rfl
  | m + 1 => by
    have := falses_sound m
    unfold falses at this ⊢
    rw [List.replicate_succ]
    simp [soundL, this, soundE, numberE, show kidsN 2 = 0 from rfl]
theorem falses_goes : ∀ (m : Nat) (n : Int), 0 ≤ n → n + m ≤ 60 → goesL (falses m) 1 n false = (n + m, false)
  | 0, n, _, _ => by simp [falses, goesL]
  | m + 1, n, h0, h1 => by
    have ih := falses_goes m (n + 1) (by omega) (by omega)
    unfold falses at ih ⊢
    rw [List.replicate_succ]
    simp only [goesL, goesE]
    rw [if_neg (by omega), if_neg (by omega), if_neg (by omega), ih]
    exact Prod.ext (by show n + 1 + (m : Int) = n + ((m + 1 : Nat) : Int); omega) rfl
/-- May a node with so many kids be? -/
def Shape (op n : Int) (m : Nat) : Prop := 0 ≤ kidsN op ∧ (m : Int) = kidsN op ∧ ((op = 1 ∧ -1000 ≤ n ∧ n ≤ 1000) ∨ (op = 2 ∧ (n = 0 ∨ n = 1)) ∨ ((op = 3 ∨ op = 4) ∧ 0 ≤ n ∧ n < 6) ∨ ((op < 1 ∨ 4 < op) ∧ n = 0))
theorem shape_may {op n : Int} {m : Nat} (hm : m ≤ 4) : (Shape op n m → mayE (.mk op n (falses m)) = 0) ∧ (¬ Shape op n m → mayE (.mk op n (falses m)) = 1) := by
  have hl : lightE (.mk op n (falses m)) = true := by
    have eg : goesE (.mk op n (falses m)) 1 0 false = ((0 + 1 + m : Int), false) := by
      simp only [goesE]
      rw [if_neg (by omega), if_neg (by omega), falses_goes m (0 + 1) (by omega) (by omega)]
    unfold lightE nodesE
    rw [eg]
    simp; omega
  have hs : soundE (.mk op n (falses m)) = (decide (0 ≤ kidsN op) && decide ((m : Int) = kidsN op) && numberE op n) := by
    simp only [soundE, falses_sound, Bool.and_true]
    unfold falses
    rw [List.length_replicate]
  have hn : numberE op n = true ↔ ((op = 1 ∧ -1000 ≤ n ∧ n ≤ 1000) ∨ (op = 2 ∧ (n = 0 ∨ n = 1)) ∨ ((op = 3 ∨ op = 4) ∧ 0 ≤ n ∧ n < 6) ∨ ((op < 1 ∨ 4 < op) ∧ n = 0)) := by
    unfold numberE
    repeat' split
    all_goals (rw [decide_eq_true_eq]; omega)
  unfold mayE
  rw [if_pos hl]
  constructor
  · intro h
    rw [if_pos]
    rw [hs, Bool.and_eq_true, Bool.and_eq_true, decide_eq_true_eq, decide_eq_true_eq]
    exact ⟨⟨h.1, h.2.1⟩, hn.2 h.2.2⟩
  · intro h
    rw [if_neg]
    rw [hs, Bool.and_eq_true, Bool.and_eq_true, decide_eq_true_eq, decide_eq_true_eq]
    exact fun h1 => h ⟨h1.1.1, h1.1.2, hn.1 h1.2⟩
/-- A row of kids, each of them false. -/
def rowF (g : Nat → Nat → T) (m : Nat) : Prop := ∀ i, i < m → g i 0 = .i 2 ∧ g i 1 = .i 0 ∧ g i 2 = noT
theorem kidsOf_rowF {g : Nat → Nat → T} {m : Nat} (h : rowF g m) : kidsOf (.l m fun i j => g (0 + i) j) = falses m := by
  simp only [kidsOf]
  unfold falses
  apply List.ext_getElem
  · simp
  · intro i h1 h2
    have hi : i < m := by simpa using h1
    obtain ⟨e0, e1, e2⟩ := h i hi
    simp only [List.getElem_map, List.getElem_range, List.getElem_replicate, Nat.zero_add, e0, e1, e2]
    rfl
theorem KW_rowF {g : Nat → Nat → T} {m : Nat} (hm : m ≤ 4) (h : rowF g m) : KW (.l m fun i j => g (0 + i) j) := by
  refine ⟨by omega, fun i hi => ?_⟩
  show KW (g (0 + i) 2)
  rw [Nat.zero_add, (h i hi).2.2]
  exact KW_noT
/-- The row as the law makes it. -/
def mkF : Nat → Nat → Nat → T
  | 0 => fun _ _ => .b false
  | m + 1 => fun i j => bif Nat.blt i m then mkF m i j else (([[T.i 2, T.i 0, noT]] : List (List T)).getD (0 + (i - m)) []).getD j (.b false)
theorem mkF_row : ∀ m, rowF (mkF m) m
  | 0 => fun i hi => absurd hi (Nat.not_lt_zero _)
  | m + 1 => fun i hi => by
    have ih := mkF_row m
    simp only [mkF]
    by_cases h : i < m
    · have hb : Nat.blt i m = true := by rw [Nat.blt_eq]; exact h
      rw [hb]
      exact ih i h
    · have hb : Nat.blt i m = false := by
        cases hc : Nat.blt i m with
        | false => rfl
        | true => rw [Nat.blt_eq] at hc; exact absurd hc h
      have e : i - m = 0 := by omega
      rw [hb, e]
      exact ⟨rfl, rfl, rfl⟩
theorem shapesB {h : H} {op n a : Int} {Q : Option R} : ∀ (m i : Nat), ∀ N, i + m ≤ 4 → (parrylaw2_ExprShapes.B0 h N (i + m) op n a ((i + m : Nat) : Int) ((i + m : Nat) : Int) op n (mkF (i + m)) = Q) → parrylaw2_ExprShapes.B0 h (N + m) i op n a ((i + m : Nat) : Int) (i : Int) op n (mkF i) = Q
  | 0, i, N, _, hq => hq
  | m + 1, i, N, hi, hq => by
    rw [show N + (m + 1) = (N + m) + 1 by omega, parrylaw2_ExprShapes.B0_eq]
    refine if_of (decide_eq_true (by omega)) (if_of (decide_eq_true (by omega)) ?_)
    rw [wrap_eq (a := (i : Int) + 1) (by omega) (by omega)]
    have e : i + (m + 1) = (i + 1) + m := by omega
    rw [e] at hq ⊢
    exact shapesB m (i + 1) N (by omega) hq
theorem kids_range (op : Int) : (0 ≤ kidsN op ↔ 1 ≤ op ∧ op ≤ 15) := by
  unfold kidsN
  repeat' split
  all_goals omega
theorem ite_both {α : Type} {c : Prop} [Decidable c] {x y z : α} (h : c → x = z) (k : ¬ c → y = z) : (if c then x else y) = z := by
  by_cases hc : c
  · rw [if_pos hc]; exact h hc
  · rw [if_neg hc]; exact k hc
theorem shapes_last {h : H} {op n : Int} {m : Nat} (hmay : C_expr_May h op n (.l m fun i j => mkF m (0 + i) j) = ri (mayE (.mk op n (falses m)))) (haw : C_parrylaw2_awake h = rb true) (M : Nat) (want : Int) (hw : mayE (.mk op n (falses m)) = want) :
    parrylaw2_ExprShapes.B1 h (M + 1) m op want (kidsN op) op n (mkF m) = rb true := by
  have aw : ((C_parrylaw2_awake h).bind fun r => some (lookR [(0, T.b (r 0).bool)])) = rb true := by rw [haw]; rfl
  have kr := kids_range op
  rw [parrylaw2_ExprShapes.B1_eq]
  refine bind_of hmay (if_of (by rw [lookR_0, int_i, hw]; exact beq_self_eq_true _) ?_)
  by_cases c : op ≥ 1
  · refine if_of (decide_eq_true c) (if_of ?_ aw)
    rw [beq_iff_eq, Bool.eq_iff_iff, decide_eq_true_eq, decide_eq_true_eq]
    omega
  · refine if_not (decide_eq_false c) (if_of ?_ aw)
    rw [beq_iff_eq, decide_eq_false_iff_not]
    omega
set_option maxRecDepth 20000 in
set_option maxHeartbeats 1000000 in
theorem shapes_end {h : H} {op n : Int} {m : Nat} (hm : m ≤ 4) (hk : C_expr_Kids h op = ri (kidsN op)) (hmay : C_expr_May h op n (.l m fun i j => mkF m (0 + i) j) = ri (mayE (.mk op n (falses m)))) (haw : C_parrylaw2_awake h = rb true) (N : Nat) :
    parrylaw2_ExprShapes.B0 h (N + 1 + 1 + 1) m op n (m : Int) (m : Int) (m : Int) op n (mkF m) = rb true := by
  have f1 := fun M want hw => shapes_last (h := h) (op := op) (n := n) (m := m) hmay haw M want hw
  have kr := kids_range op
  have s1 := (shape_may (op := op) (n := n) hm).1
  have s0 := (shape_may (op := op) (n := n) hm).2
  rw [parrylaw2_ExprShapes.B0_eq]
  refine if_not (decide_eq_false (by omega)) (bind_of hk ?_)
  unfold Shape at s0 s1
  refine if_both (fun c0 => f1 _ _ (s0 fun h => absurd h.1 (Int.not_le.2 (of_decide_eq_true c0)))) fun c0 => ?_
  simp only [Bool.cond_eq_ite, decide_eq_true_eq, beq_iff_eq, bne_iff_ne, ne_eq, lookR_0, int_i, parrylaw2_ExprShapes.B2_eq]
  have p1 := fun h => f1 (N + 1) 1 (s0 h)
  have p2 := fun h => f1 N 1 (s0 h)
  have p0 := fun h => f1 N 0 (s1 h)
  clear f1 s0 s1 hmay haw hk
  generalize kidsN op = k at *
  generalize parrylaw2_ExprShapes.B1 h (N + 2) m op 1 k op n (mkF m) = X1 at *
  generalize parrylaw2_ExprShapes.B1 h (N + 1 + 1) m op 1 k op n (mkF m) = X1 at *
  generalize parrylaw2_ExprShapes.B1 h (N + 1) m op 1 k op n (mkF m) = X2 at *
  generalize parrylaw2_ExprShapes.B1 h (N + 1) m op 0 k op n (mkF m) = X0 at *
  clear c0
  repeat' (refine ite_both ?_ ?_ <;> intro _)
  all_goals first
    | exact p2 (by omega)
    | exact p0 (by omega)
    | exact p1 (by omega)
    | (rename_i hf; exact absurd hf (by decide))
    | (rename_i hf; exact absurd trivial hf)
theorem Shapes_sp (op n a : Int) : Ev fun N => C_parrylaw2_ExprShapes (K N) op n a = rb true := by
  obtain ⟨m, hm, em⟩ : ∃ m : Nat, m ≤ 4 ∧ IntKind.wrap .i64 (Int.tmod (IntKind.wrap .u64 a) 5) = (m : Int) := by
    have h1 : 0 ≤ Int.tmod (IntKind.wrap .u64 a) 5 := Int.tmod_nonneg _ (wrapu_nonneg a)
    have h2 : Int.tmod (IntKind.wrap .u64 a) 5 < 5 := Int.tmod_lt_of_pos _ (by omega)
    rw [wrap_eq (by omega) (by omega)]
    exact ⟨(Int.tmod (IntKind.wrap .u64 a) 5).toNat, by omega, by omega⟩
  refine Ev.step (Ev.imp4 Kids_sp (May_sp (.l m fun i j => mkF m (0 + i) j) (KW_rowF hm (mkF_row m))) awake2_sp (Ev.ge 20) fun N h1 h2 h3 hN => ?_)
  rw [C_parrylaw2_ExprShapes_K, em]
  obtain ⟨M, rfl⟩ : ∃ M, N = M + 8 + m := ⟨N - 8 - m, by omega⟩
  have hmay := h2 op n
  rw [kidsOf_rowF (mkF_row m)] at hmay
  have := shapesB (h := K (M + 8 + m)) (op := op) (n := n) (a := (m : Int)) (Q := rb true) m 0 (M + 8) (by omega) (by
    rw [Nat.zero_add]
    exact shapes_end hm (h1 op) hmay h3 (M + 5))
  rw [Nat.zero_add] at this
  exact this
end Go.Proofs.Ytfejbgnbganolaa
