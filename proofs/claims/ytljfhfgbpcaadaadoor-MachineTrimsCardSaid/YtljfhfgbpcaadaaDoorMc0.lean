/- Machines: words, and the order of rows. -/
import Derived.Test.YtljfhfgbpcaadaaDoorFnA
import Derived.Test.YtljfhfgbpcaadaaDoorTop0
set_option linter.unusedVariables false
set_option linter.unusedSimpArgs false
namespace Go.AM
open Go.Proofs.YtljfhfgbpcaadaaDoor
def ri (x : Int) : Option R := some (lookR [(0, .i x)])
def rb (x : Bool) : Option R := some (lookR [(0, .b x)])
theorem int_i (x : Int) : (T.i x).int = x := rfl
theorem len_l (n : Nat) (g : Nat → Nat → T) : (T.l n g).len = n := rfl
theorem el_l (n : Nat) (g : Nat → Nat → T) (i j : Nat) : (T.l n g).el i j = g i j := rfl
theorem bind_of {α β : Type} {x : Option α} {r : α} {f : α → Option β} {y : Option β} (h : x = some r) (k : f r = y) : x.bind f = y := by rw [h]; exact k
theorem if_of {α : Type} {c : Bool} {x y z : α} (h : c = true) (k : x = z) : (bif c then x else y) = z := by rw [h]; exact k
theorem if_not {α : Type} {c : Bool} {x y z : α} (h : c = false) (k : y = z) : (bif c then x else y) = z := by rw [h]; exact k
theorem if_both {α : Type} {c : Bool} {x y z : α} (h : c = true → x = z) (k : c = false → y = z) : (bif c then x else y) = z := by
  cases c with
  | true => exact h rfl
  | false => exact k rfl
def Ints (t : T) (l : List Int) : Prop := t.len = l.length ∧ ∀ i v, l[i]? = some v → (t.el i 0).int = v
theorem Ints.shift {x : T} {l : List Int} (h : Ints x l) : Ints (T.l x.len fun i j => x.el (0 + i) j) l := ⟨h.1, fun i b hb => by show (x.el (0 + i) 0).int = b; rw [Nat.zero_add]; exact h.2 i b hb⟩
theorem allLoop {n c : Nat} {q : Nat → Bool} {B : Nat → Int → Option R} (hEnd : ∀ N, B (N + 1) (n : Int) = rb true) (hYes : ∀ N i, i < n → q i = true → B (N + c) (i : Int) = B N ((i + 1 : Nat) : Int)) (hNo : ∀ N i, i < n → q i = false → B (N + c) (i : Int) = rb false) :
    ∀ k i, i + k = n → ∀ N, c * k + 1 ≤ N → B N (i : Int) = rb ((List.range' i k).all q)
  | 0, i, hi, N, hN => by
    obtain ⟨N, rfl⟩ : ∃ M, N = M + 1 := ⟨N - 1, by omega⟩
    obtain rfl : i = n := by omega
    exact hEnd N
  | k + 1, i, hi, N, hN => by
    rw [Nat.mul_succ] at hN
    obtain ⟨N, rfl⟩ : ∃ M, N = M + c := ⟨N - c, by omega⟩
    rw [List.range'_succ, List.all_cons]
    cases hq : q i with
    | false => rw [Bool.false_and]; exact hNo N i (by omega) hq
    | true =>
      rw [Bool.true_and, hYes N i (by omega) hq]
      exact allLoop hEnd hYes hNo k (i + 1) (by omega) N (by omega)
def cmpI (x y : Int) : Int := if x < y then -1 else if x > y then 1 else 0
def ordI (s i s' i' : Int) : Int := if cmpI s s' ≠ 0 then cmpI s s' else cmpI i i'
def numOk (x : Int) : Bool := decide (0 ≤ x) && decide (x ≤ 100000)
def rowOk (t : T) (first : Bool) (i : Nat) : Bool := numOk (t.el i 0).int && (numOk (t.el i 1).int && (numOk (t.el i 2).int && (numOk (t.el i 3).int && ((!first || (t.el i 0).int == 0) && (i == 0 || decide (ordI (t.el (i - 1) 0).int (t.el (i - 1) 1).int (t.el i 0).int (t.el i 1).int < 0))))))
def rowsOk (t : T) (first : Bool) : Bool := (List.range' 0 t.len).all (rowOk t first)
def mayMc (w : Int) (b r : T) : Int := if w ≠ 0 ∧ w ≠ 1 then 1 else if 512 < b.len ∨ 12000 < r.len then 7 else if rowsOk b true = true ∧ rowsOk r false = true then 0 else 1
end Go.AM
namespace Go.Proofs.YtljfhfgbpcaadaaDoor
open Go.AM
theorem WT_len {t : TypeId} {x : T} (h : WT Tryd.prog t x) : x.len ≤ 9223372036854775807 := by
  cases h with
  | sl h hn hg => unfold maxLen at hn; show _ ≤ 9223372036854775807; simpa [T.len] using hn
  | int h hw => exact Nat.zero_le _
  | bool h => exact Nat.zero_le _
  | str h hs => exact Nat.zero_le _
theorem Cmp_sp (N : Nat) (x y : Int) : C_cmp_Compare_int (K (N + 2)) x y = ri (cmpI x y) := by
  rw [C_cmp_Compare_int_K]
  refine bind_of (C_cmp_isNaN_int_K N x) (bind_of (C_cmp_isNaN_int_K N y) (if_not (by show (x != x) = false; simp) (if_not (by show (y != y) = false; simp) ?_)))
  unfold cmpI
  by_cases c : x < y
  · rw [if_pos c]
    exact if_of (decide_eq_true c) rfl
  · rw [if_neg c]
    by_cases d : x > y
    · rw [if_pos d]
      exact if_not (decide_eq_false c) (if_of (decide_eq_true d) rfl)
    · rw [if_neg d]
      exact if_not (decide_eq_false c) (if_not (decide_eq_false d) rfl)
theorem Or_sp (N : Nat) (hN : 5 ≤ N) (a b : Int) : C_cmp_Or_int (K (N + 1)) (T.l 2 (fun i j => ((([[(T.i a)], [(T.i b)]] : List (List T)).getD (0 + i) []).getD j (.b false)))) = ri (if a ≠ 0 then a else b) := by
  obtain ⟨M, hM⟩ : ∃ M, N = M + 1 + 1 + 1 := ⟨N - 3, by omega⟩
  rw [C_cmp_Or_int_K]
  generalize hk : K N = h
  rw [hM]
  rw [cmp_Or_int.B0_eq]
  refine if_of (by rfl) (if_of (by rfl) ?_)
  by_cases c : a = 0
  · subst c
    rw [if_neg (by simp)]
    refine if_not (by rfl) ?_
    rw [show IntKind.wrap .i64 ((0 : Int) + (1 : Int)) = 1 by rfl, cmp_Or_int.B0_eq]
    refine if_of (by rfl) (if_of (by rfl) ?_)
    by_cases d : b = 0
    · subst d
      refine if_not (by rfl) ?_
      rw [show IntKind.wrap .i64 ((1 : Int) + (1 : Int)) = 2 by rfl, cmp_Or_int.B0_eq]
      exact if_not (by rfl) rfl
    · exact if_of (by show (b != 0) = true; simpa using d) rfl
  · rw [if_pos c]
    exact if_of (by show (a != 0) = true; simpa using c) rfl
theorem order_sp : Ev fun N => ∀ a b c d e f g h, C_machine_order (K N) a b c d e f g h = ri (ordI a b e f) := by
  refine Ev.step (Ev.step (Ev.step ((Ev.ge 5).imp fun N hN a b c d e f g h => ?_)))
  rw [C_machine_order_K]
  exact bind_of (Cmp_sp N a e) (bind_of (Cmp_sp N b f) (bind_of (Or_sp (N + 1) (by omega) (cmpI a e) (cmpI b f)) rfl))
theorem number_sp (N : Nat) (x : Int) : C_machine_number (K (N + 1)) x = rb (numOk x) := by
  rw [C_machine_number_K]
  unfold numOk
  by_cases c : 0 ≤ x
  · rw [decide_eq_true c, Bool.true_and]
    rfl
  · rw [decide_eq_false c, Bool.false_and]
    rfl
theorem may_all : Ev fun N => ∀ t : T, t.len ≤ 12000 → ∀ first, C_machine_may (K N) t first = rb (rowsOk t first) := by
  refine Ev.step (order_sp.imp2 (Ev.ge 30000) fun N ho hN t ht first => ?_)
  obtain ⟨M, hM⟩ : ∃ M, N = M + 1 := ⟨N - 1, by omega⟩
  have hnum : ∀ x, C_machine_number (K N) x = rb (numOk x) := fun x => by rw [hM]; exact number_sp M x
  rw [C_machine_may_K]
  have key : ∀ L i, i < t.len → (rowOk t first i = true → machine_may.B0 (K N) (L + 2) t first t (t.len : Int) (i : Int) = machine_may.B0 (K N) L t first t (t.len : Int) ((i + 1 : Nat) : Int)) ∧ (rowOk t first i = false → machine_may.B0 (K N) (L + 2) t first t (t.len : Int) (i : Int) = rb false) := by
    intro L i hi
    have b1 : machine_may.B1 (K N) (L + 1) t first t (t.len : Int) (i : Int) = machine_may.B0 (K N) L t first t (t.len : Int) ((i + 1 : Nat) : Int) := by
      rw [machine_may.B1_eq, wrap_eq (a := (i : Int) + 1) (by omega) (by omega)]
      rfl
    have tail : ∀ {X : Option R}, ((i == 0 || decide (ordI (t.el (i - 1) 0).int (t.el (i - 1) 1).int (t.el i 0).int (t.el i 1).int < 0)) = true → machine_may.B0 (K N) L t first t (t.len : Int) ((i + 1 : Nat) : Int) = X) → ((i == 0 || decide (ordI (t.el (i - 1) 0).int (t.el (i - 1) 1).int (t.el i 0).int (t.el i 1).int < 0)) = false → rb false = X) →
        (bif decide ((i : Int) > (0 : Int)) then (bif decide ((0 : Int) ≤ (IntKind.wrap .i64 ((i : Int) - (1 : Int)))) && decide ((IntKind.wrap .i64 ((i : Int) - (1 : Int))) < ((t.len : Nat) : Int)) then (C_machine_order (K N) ((t.el ((IntKind.wrap .i64 ((i : Int) - (1 : Int))).toNat) 0).int) ((t.el ((IntKind.wrap .i64 ((i : Int) - (1 : Int))).toNat) 1).int) ((t.el ((IntKind.wrap .i64 ((i : Int) - (1 : Int))).toNat) 2).int) ((t.el ((IntKind.wrap .i64 ((i : Int) - (1 : Int))).toNat) 3).int) ((t.el i 0).int) ((t.el i 1).int) ((t.el i 2).int) ((t.el i 3).int)).bind fun r => (bif decide ((r 0).int ≥ (0 : Int)) then some (lookR [(0, (T.b false))]) else machine_may.B0 (K N) L t first t (t.len : Int) ((i + 1 : Nat) : Int)) else none) else machine_may.B0 (K N) L t first t (t.len : Int) ((i + 1 : Nat) : Int)) = X := by
      intro X hY hN'
      by_cases c : i = 0
      · subst c
        exact if_not (by rfl) (hY rfl)
      · have e1 : IntKind.wrap .i64 ((i : Int) - 1) = ((i - 1 : Nat) : Int) := by rw [wrap_eq (by omega) (by omega)]; omega
        rw [e1, Int.toNat_natCast]
        refine if_of (decide_eq_true (by omega)) (if_of (by simp; omega) (bind_of (ho _ _ _ _ _ _ _ _) ?_))
        have e2 : (i == 0) = false := by simpa using c
        rw [e2, Bool.false_or] at hY hN'
        by_cases d : ordI (t.el (i - 1) 0).int (t.el (i - 1) 1).int (t.el i 0).int (t.el i 1).int < 0
        · exact if_not (decide_eq_false (by rw [lookR_0, int_i]; omega)) (hY (decide_eq_true d))
        · exact if_of (decide_eq_true (by rw [lookR_0, int_i]; omega)) (hN' (decide_eq_false d))
    have both : ∀ {X : Option R}, (rowOk t first i = true → machine_may.B0 (K N) L t first t (t.len : Int) ((i + 1 : Nat) : Int) = X) → (rowOk t first i = false → rb false = X) → machine_may.B0 (K N) (L + 1 + 1) t first t (t.len : Int) (i : Int) = X := fun {X} hY hN' => by
      rw [machine_may.B0_eq, Int.toNat_natCast, b1]
      refine if_of (decide_eq_true (by omega)) (if_of (by simp; omega) (bind_of (hnum _) ?_))
      unfold rowOk at hY hN'
      cases c0 : numOk (t.el i 0).int
      · rw [c0, Bool.false_and] at hN'
        exact if_of rfl (hN' rfl)
      rw [c0, Bool.true_and] at hY hN'
      refine if_not rfl (bind_of (hnum _) ?_)
      cases c1 : numOk (t.el i 1).int
      · rw [c1, Bool.false_and] at hN'
        exact if_of rfl (hN' rfl)
      rw [c1, Bool.true_and] at hY hN'
      refine if_not rfl (bind_of (hnum _) ?_)
      cases c2 : numOk (t.el i 2).int
      · rw [c2, Bool.false_and] at hN'
        exact if_of rfl (hN' rfl)
      rw [c2, Bool.true_and] at hY hN'
      refine if_not rfl (bind_of (hnum _) ?_)
      cases c3 : numOk (t.el i 3).int
      · rw [c3, Bool.false_and] at hN'
        exact if_of rfl (hN' rfl)
      rw [c3, Bool.true_and] at hY hN'
      refine if_not rfl ?_
      cases first
      · rw [Bool.not_false, Bool.true_or, Bool.true_and] at hY hN'
        exact tail hY hN'
      · rw [Bool.not_true, Bool.false_or] at hY hN'
        cases c4 : ((t.el i 0).int == 0)
        · rw [c4, Bool.false_and] at hN'
          exact if_of rfl (if_of (by show (!((t.el i 0).int == 0)) = true; rw [c4]; rfl) (hN' rfl))
        · rw [c4, Bool.true_and] at hY hN'
          exact if_of rfl (if_not (by show (!((t.el i 0).int == 0)) = false; rw [c4]; rfl) (tail hY hN'))
    exact ⟨fun h => both (fun _ => rfl) (fun h' => by rw [h] at h'; cases h'), fun h => both (fun h' => by rw [h] at h'; cases h') fun _ => rfl⟩
  refine allLoop (n := t.len) (c := 2) (q := rowOk t first) (B := fun L i => machine_may.B0 (K N) L t first t (t.len : Int) i) (fun L => ?_) (fun L i hi h => (key L i hi).1 h) (fun L i hi h => (key L i hi).2 h) t.len 0 (by omega) N (by omega)
  show machine_may.B0 (K N) (L + 1) t first t (t.len : Int) (t.len : Int) = _
  rw [machine_may.B0_eq]
  exact if_not (decide_eq_false (by omega)) rfl
theorem May_all : Ev fun N => ∀ b r w, C_machine_May (K N) w b r = ri (mayMc w b r) := by
  refine Ev.step (may_all.imp2 (Ev.ge 1) fun N h0 hN b r w => ?_)
  by_cases hb : 512 < b.len ∨ 12000 < r.len
  · rw [C_machine_May_K]
    unfold mayMc
    have big : ∀ {X : Option R} {Y : Option R}, ri 7 = X → (bif decide (((b.len : Nat) : Int) > (512 : Int)) then some (lookR [(0, (T.i 7))]) else (bif decide (((r.len : Nat) : Int) > (12000 : Int)) then some (lookR [(0, (T.i 7))]) else Y)) = X := by
      intro X Y h
      by_cases c : 512 < b.len
      · exact if_of (decide_eq_true (by omega)) h
      · exact if_not (decide_eq_false (by omega)) (if_of (decide_eq_true (by omega)) h)
    by_cases c : w = 0
    · rw [if_neg (by omega), if_pos hb]
      exact if_not (by simp [c]) (big rfl)
    · by_cases d : w = 1
      · rw [if_neg (by omega), if_pos hb]
        exact if_of (by simpa using c) (if_not (by simp [d]) (big rfl))
      · rw [if_pos ⟨c, d⟩]
        exact if_of (by simpa using c) (if_of (by simpa using d) rfl)
  · have h1 := h0 b (by omega)
    have h2 := h0 r (by omega)
    obtain ⟨M, hM⟩ : ∃ M, N = M + 1 := ⟨N - 1, by omega⟩
    have fin : machine_May.B0 (K N) N = ri 0 := by
      generalize K N = h
      rw [hM, machine_May.B0_eq]
      rfl
    have rest : ∀ {X : Option R}, ri (if rowsOk b true = true ∧ rowsOk r false = true then 0 else 1) = X → (bif decide (((b.len : Nat) : Int) > (512 : Int)) then some (lookR [(0, (T.i 7))]) else (bif decide (((r.len : Nat) : Int) > (12000 : Int)) then some (lookR [(0, (T.i 7))]) else (C_machine_may (K N) b true).bind fun r1 => (bif (!((r1 0).bool)) then some (lookR [(0, (T.i 1))]) else (C_machine_may (K N) r false).bind fun r2 => (bif (!((r2 0).bool)) then some (lookR [(0, (T.i 1))]) else machine_May.B0 (K N) N)))) = X := by
      intro X hX
      refine if_not (decide_eq_false (by omega)) (if_not (decide_eq_false (by omega)) (bind_of (h1 true) ?_))
      cases c : rowsOk b true
      · rw [c, if_neg (by simp)] at hX
        exact if_of rfl hX
      · refine if_not rfl (bind_of (h2 false) ?_)
        cases d : rowsOk r false
        · rw [d, if_neg (by simp)] at hX
          exact if_of rfl hX
        · rw [c, d, if_pos ⟨rfl, rfl⟩] at hX
          exact if_not rfl (fin.trans hX)
    rw [C_machine_May_K]
    unfold mayMc
    by_cases c : w = 0
    · rw [if_neg (by omega), if_neg hb]
      exact if_not (by simp [c]) (rest rfl)
    · by_cases d : w = 1
      · rw [if_neg (by omega), if_neg hb]
        exact if_of (by simpa using c) (if_not (by simp [d]) (rest rfl))
      · rw [if_pos ⟨c, d⟩]
        exact if_of (by simpa using c) (if_of (by simpa using d) rfl)
theorem May_sp (b r : T) : Ev fun N => ∀ w, C_machine_May (K N) w b r = ri (mayMc w b r) := May_all.imp fun N h => h b r
end Go.Proofs.YtljfhfgbpcaadaaDoor
