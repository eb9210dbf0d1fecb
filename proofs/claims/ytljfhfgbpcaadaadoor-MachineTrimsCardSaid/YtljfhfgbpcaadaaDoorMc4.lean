/- The document's answer whether a machine may be; inputs in a row (MachineSteps). -/
import Derived.Test.YtljfhfgbpcaadaaDoorMc3
set_option linter.unusedVariables false
set_option linter.unusedSimpArgs false
namespace Go.AM
open Go.Proofs.YtljfhfgbpcaadaaDoor
theorem num_tail {x : Int} {F Y : Option R} : (bif decide (x < (0 : Int)) then F else (bif decide (x > (100000 : Int)) then F else Y)) = bif numOk x then Y else F := by
  unfold numOk
  by_cases c : x < 0
  · rw [decide_eq_true c, decide_eq_false (by omega : ¬ 0 ≤ x)]
    rfl
  · rw [decide_eq_false c, decide_eq_true (by omega : 0 ≤ x)]
    by_cases d : x > 100000
    · rw [decide_eq_true d, decide_eq_false (by omega : ¬ x ≤ 100000)]
      rfl
    · rw [decide_eq_false d, decide_eq_true (by omega : x ≤ 100000)]
      rfl
theorem ord_neg (a b c d : Int) : decide (ordI a b c d < 0) = (decide (a < c) || ((a == c) && decide (b < d))) := by
  unfold ordI cmpI
  rcases Int.lt_trichotomy a c with h | h | h
  · have e : (a == c) = false := by simp; omega
    simp [h, e]
  · subst h
    rcases Int.lt_trichotomy b d with k | k | k
    · simp [k]
    · subst k; simp
    · have e1 : ¬ b < d := by omega
      simp [e1, k]
  · have e : (a == c) = false := by simp; omega
    have e1 : ¬ a < c := by omega
    simp [e, e1, h]
end Go.AM
namespace Go.Proofs.YtljfhfgbpcaadaaDoor
open Go.AM
theorem mayRows_sp (t : T) (ht : t.len ≤ 12000) : Ev fun N => ∀ first, C_parryref25_mayRows (K N) t first = rb (rowsOk t first) := by
  refine Ev.step ((Ev.ge 150000).imp fun N hN first => ?_)
  rw [C_parryref25_mayRows_K]
  have key : ∀ L i, i < t.len → parryref25_mayRows.B0 (K N) (L + 12) t first t (t.len : Int) (i : Int) = bif rowOk t first i then parryref25_mayRows.B0 (K N) L t first t (t.len : Int) ((i + 1 : Nat) : Int) else rb false := by
    intro L i hi
    generalize hv0 : (t.el i 0).int = v0
    generalize hv1 : (t.el i 1).int = v1
    generalize hv2 : (t.el i 2).int = v2
    generalize hv3 : (t.el i 3).int = v3
    have s0 : ∀ L, parryref25_mayRows.B1 (K N) (L + 2) t first (i : Int) t (t.len : Int) (i : Int) v0 v1 v2 v3 0 v0 v1 v2 v3 = bif numOk v0 then parryref25_mayRows.B1 (K N) L t first (i : Int) t (t.len : Int) (i : Int) v0 v1 v2 v3 1 v0 v1 v2 v3 else rb false := fun L => by
      rw [show L + 2 = L + 1 + 1 by rfl, parryref25_mayRows.B1_eq, parryref25_mayRows.B2_eq, num_tail]
      rfl
    have s1 : ∀ L, parryref25_mayRows.B1 (K N) (L + 2) t first (i : Int) t (t.len : Int) (i : Int) v0 v1 v2 v3 1 v0 v1 v2 v3 = bif numOk v1 then parryref25_mayRows.B1 (K N) L t first (i : Int) t (t.len : Int) (i : Int) v0 v1 v2 v3 2 v0 v1 v2 v3 else rb false := fun L => by
      rw [show L + 2 = L + 1 + 1 by rfl, parryref25_mayRows.B1_eq, parryref25_mayRows.B2_eq, num_tail, num_tail]
      rfl
    have s2 : ∀ L, parryref25_mayRows.B1 (K N) (L + 2) t first (i : Int) t (t.len : Int) (i : Int) v0 v1 v2 v3 2 v0 v1 v2 v3 = bif numOk v2 then parryref25_mayRows.B1 (K N) L t first (i : Int) t (t.len : Int) (i : Int) v0 v1 v2 v3 3 v0 v1 v2 v3 else rb false := fun L => by
      rw [show L + 2 = L + 1 + 1 by rfl, parryref25_mayRows.B1_eq, parryref25_mayRows.B2_eq, num_tail, num_tail, num_tail]
      rfl
    have s3 : ∀ L, parryref25_mayRows.B1 (K N) (L + 2) t first (i : Int) t (t.len : Int) (i : Int) v0 v1 v2 v3 3 v0 v1 v2 v3 = bif numOk v3 then parryref25_mayRows.B1 (K N) L t first (i : Int) t (t.len : Int) (i : Int) v0 v1 v2 v3 4 v0 v1 v2 v3 else rb false := fun L => by
      rw [show L + 2 = L + 1 + 1 by rfl, parryref25_mayRows.B1_eq, parryref25_mayRows.B2_eq, num_tail, num_tail, num_tail, num_tail]
      rfl
    have b4 : parryref25_mayRows.B4 (K N) (L + 1) t first t (t.len : Int) (i : Int) = parryref25_mayRows.B0 (K N) L t first t (t.len : Int) ((i + 1 : Nat) : Int) := by
      rw [parryref25_mayRows.B4_eq, wrap_eq (a := (i : Int) + 1) (by omega) (by omega)]
      rfl
    have b3 : parryref25_mayRows.B3 (K N) (L + 2) t first (i : Int) t (t.len : Int) (i : Int) v0 v1 v2 v3 = bif (i == 0 || decide (ordI (t.el (i - 1) 0).int (t.el (i - 1) 1).int v0 v1 < 0)) then parryref25_mayRows.B0 (K N) L t first t (t.len : Int) ((i + 1 : Nat) : Int) else rb false := by
      rw [show L + 2 = L + 1 + 1 by rfl, parryref25_mayRows.B3_eq, b4]
      by_cases c : i = 0
      · subst c
        exact if_not (by rfl) rfl
      · have e1 : IntKind.wrap .i64 ((i : Int) - 1) = ((i - 1 : Nat) : Int) := by rw [wrap_eq (by omega) (by omega)]; omega
        have e2 : (i == 0) = false := by simpa using c
        rw [e1, Int.toNat_natCast, e2, Bool.false_or, ord_neg]
        have bd : (decide ((0 : Int) ≤ ((i - 1 : Nat) : Int)) && decide (((i - 1 : Nat) : Int) < ((t.len : Nat) : Int))) = true := by simp; omega
        rw [bd]
        generalize (t.el (i - 1) 0).int = a
        generalize (t.el (i - 1) 1).int = b
        refine if_of (decide_eq_true (by omega)) (if_of rfl ?_)
        rcases Int.lt_trichotomy a v0 with h | h | h
        · have e : (a == v0) = false := by simp; omega
          rw [decide_eq_true h, e]
          exact if_not (decide_eq_false (by omega)) (if_of rfl (if_not rfl rfl))
        · subst h
          rw [decide_eq_false (by omega : ¬ a < a), beq_self_eq_true, Bool.false_or, Bool.true_and]
          refine if_not rfl (if_of rfl (if_of rfl (if_of rfl ?_)))
          by_cases k : b < v1
          · rw [decide_eq_true k]
            exact if_not (decide_eq_false (by omega)) rfl
          · rw [decide_eq_false k]
            exact if_of (decide_eq_true (by omega)) rfl
        · have e : (a == v0) = false := by simp; omega
          rw [decide_eq_false (by omega : ¬ a < v0), e]
          exact if_of (decide_eq_true (by omega)) rfl
    have b14 : parryref25_mayRows.B1 (K N) (L + 3) t first (i : Int) t (t.len : Int) (i : Int) v0 v1 v2 v3 4 v0 v1 v2 v3 = bif ((!first || v0 == 0) && (i == 0 || decide (ordI (t.el (i - 1) 0).int (t.el (i - 1) 1).int v0 v1 < 0))) then parryref25_mayRows.B0 (K N) L t first t (t.len : Int) ((i + 1 : Nat) : Int) else rb false := by
      rw [show L + 3 = L + 2 + 1 by rfl, parryref25_mayRows.B1_eq, b3]
      refine if_not rfl ?_
      cases first
      · rw [Bool.not_false, Bool.true_or, Bool.true_and]
        exact if_not rfl rfl
      · rw [Bool.not_true, Bool.false_or]
        cases c4 : (v0 == 0)
        · rw [Bool.false_and]
          exact if_of rfl (if_of (by show (!(v0 == 0)) = true; rw [c4]; rfl) rfl)
        · rw [Bool.true_and]
          exact if_of rfl (if_not (by show (!(v0 == 0)) = false; rw [c4]; rfl) rfl)
    rw [show L + 12 = (L + 3 + 2 + 2 + 2 + 2) + 1 by omega, parryref25_mayRows.B0_eq, Int.toNat_natCast, hv0, hv1, hv2, hv3, s0, s1, s2, s3, b14]
    unfold rowOk
    rw [hv0, hv1, hv2, hv3]
    refine if_of (decide_eq_true (by omega)) (if_of (by simp; omega) ?_)
    cases numOk v0 <;> cases numOk v1 <;> cases numOk v2 <;> cases numOk v3 <;> rfl
  refine allLoop (n := t.len) (c := 12) (q := rowOk t first) (B := fun L i => parryref25_mayRows.B0 (K N) L t first t (t.len : Int) i) (fun L => ?_) (fun L i hi h => ?_) (fun L i hi h => ?_) t.len 0 (by omega) N (by omega)
  · show parryref25_mayRows.B0 (K N) (L + 1) t first t (t.len : Int) (t.len : Int) = _
    rw [parryref25_mayRows.B0_eq]
    exact if_not (decide_eq_false (by omega)) rfl
  · show parryref25_mayRows.B0 (K N) (L + 12) t first t (t.len : Int) (i : Int) = _
    rw [key L i hi, h]
    rfl
  · show parryref25_mayRows.B0 (K N) (L + 12) t first t (t.len : Int) (i : Int) = _
    rw [key L i hi, h]
    rfl
theorem refMay_sp (b r : T) : Ev fun N => ∀ w, C_parryref25_May (K N) w b r = ri (mayMc w b r) := by
  by_cases hb : 512 < b.len ∨ 12000 < r.len
  · refine Ev.step ((Ev.ge 1).imp fun N hN w => ?_)
    rw [C_parryref25_May_K]
    unfold mayMc
    have big : ∀ {X : Option R} {Y : Option R}, ri 7 = X → (bif decide (((b.len : Nat) : Int) > (512 : Int)) then some (lookR [(0, (T.i 7))]) else (bif decide (((r.len : Nat) : Int) > (12000 : Int)) then some (lookR [(0, (T.i 7))]) else Y)) = X := by
      intro X Y h
      by_cases c : 512 < b.len
      · exact if_of (decide_eq_true (by omega)) h
      · exact if_not (decide_eq_false (by omega)) (if_of (decide_eq_true (by omega)) h)
    by_cases c : w = 0
    · rw [if_neg (by omega), if_pos hb]
      exact if_not (by simp [c]) (big rfl)
    · by_cases d : w = 1
      · rw [if_neg (by omega), if_pos hb]
        exact if_of (by simpa using c) (if_not (by simp [d]) (big rfl))
      · rw [if_pos ⟨c, d⟩]
        exact if_of (by simpa using c) (if_of (by simpa using d) rfl)
  · refine Ev.step (Ev.imp3 (mayRows_sp b (by omega)) (mayRows_sp r (by omega)) (Ev.ge 1) fun N h1 h2 hN w => ?_)
    obtain ⟨M, hM⟩ : ∃ M, N = M + 1 := ⟨N - 1, by omega⟩
    have fin : parryref25_May.B0 (K N) N = ri 0 := by
      generalize K N = h
      rw [hM, parryref25_May.B0_eq]
      rfl
    have rest : ∀ {X : Option R}, ri (if rowsOk b true = true ∧ rowsOk r false = true then 0 else 1) = X → (bif decide (((b.len : Nat) : Int) > (512 : Int)) then some (lookR [(0, (T.i 7))]) else (bif decide (((r.len : Nat) : Int) > (12000 : Int)) then some (lookR [(0, (T.i 7))]) else (C_parryref25_mayRows (K N) b true).bind fun r1 => (bif (!((r1 0).bool)) then some (lookR [(0, (T.i 1))]) else (C_parryref25_mayRows (K N) r false).bind fun r2 => (bif (!((r2 0).bool)) then some (lookR [(0, (T.i 1))]) else parryref25_May.B0 (K N) N)))) = X := by
      intro X hX
      refine if_not (decide_eq_false (by omega)) (if_not (decide_eq_false (by omega)) (bind_of (h1 true) ?_))
      cases c : rowsOk b true
      · rw [c, if_neg (by simp)] at hX
        exact if_of rfl hX
      · refine if_not rfl (bind_of (h2 false) ?_)
        cases d : rowsOk r false
        · rw [d, if_neg (by simp)] at hX
          exact if_of rfl hX
        · rw [c, d, if_pos ⟨rfl, rfl⟩] at hX
          exact if_not rfl (fin.trans hX)
    rw [C_parryref25_May_K]
    unfold mayMc
    by_cases c : w = 0
    · rw [if_neg (by omega), if_neg hb]
      exact if_not (by simp [c]) (rest rfl)
    · by_cases d : w = 1
      · rw [if_neg (by omega), if_neg hb]
        exact if_of (by simpa using c) (if_not (by simp [d]) (rest rfl))
      · rw [if_pos ⟨c, d⟩]
        exact if_of (by simpa using c) (if_of (by simpa using d) rfl)
def intsOf (t : T) : List Int := (List.range t.len).map fun i => (t.el i 0).int
theorem ints_intsOf (t : T) : Ints t (intsOf t) := ⟨by simp [intsOf], fun i v h => by
  unfold intsOf at h
  rw [List.getElem?_map] at h
  by_cases c : i < t.len
  · rw [List.getElem?_range c] at h
    exact Option.some.inj h
  · rw [List.getElem?_eq_none (by simp; omega)] at h
    cases h⟩
end Go.Proofs.YtljfhfgbpcaadaaDoor
