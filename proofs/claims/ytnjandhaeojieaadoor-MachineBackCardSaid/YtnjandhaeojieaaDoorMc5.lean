/- Machines that are alike are the same; with one number as another one they are not (MachineSame). -/
import Derived.Test.YtnjandhaeojieaaDoorMc4
set_option linter.unusedVariables false
set_option linter.unusedSimpArgs false
namespace Go.AM
open Go.Proofs.YtnjandhaeojieaaDoor
def rowEq (s t : T) (i : Nat) : Bool := ((s.el i 0).int == (t.el i 0).int) && (((s.el i 1).int == (t.el i 1).int) && (((s.el i 2).int == (t.el i 2).int) && (((s.el i 3).int == (t.el i 3).int) && true)))
def rowsEq (s t : T) : Bool := (s.len == t.len) && (List.range' 0 s.len).all (rowEq s t)
theorem rowsEq_self (s : T) : rowsEq s s = true := by
  unfold rowsEq
  rw [beq_self_eq_true, Bool.true_and, List.all_eq_true]
  intro i _
  simp [rowEq]
theorem wrap_next (w : Int) : ¬ w = IntKind.wrap .i64 (w + 1) := by
  simp only [IntKind.wrap, IntKind.signed, IntKind.bits]
  simp
  omega
theorem wrap_mod (a : Int) : (IntKind.wrap .i64 a) % 18446744073709551616 = a % 18446744073709551616 := by
  simp only [IntKind.wrap, IntKind.signed, IntKind.bits]
  simp
  split <;> omega
theorem ofInt_mod {a b : Int} (h : a % 18446744073709551616 = b % 18446744073709551616) : BitVec.ofInt 64 a = BitVec.ofInt 64 b := by
  apply BitVec.eq_of_toNat_eq
  rw [BitVec.toNat_ofInt, BitVec.toNat_ofInt]
  have : ((2 ^ 64 : Nat) : Int) = 18446744073709551616 := by decide
  rw [this, h]
theorem xor_zero {a b : Int} (ha : -9223372036854775808 ≤ a ∧ a ≤ 9223372036854775807) (hb : -9223372036854775808 ≤ b ∧ b ≤ 9223372036854775807) : (a == bitsOf .xor .i64 a b) = (b == 0) := by
  have e : bitsOf .xor .i64 a b = IntKind.wrap .i64 ((BitVec.ofInt 64 a ^^^ BitVec.ofInt 64 b).toNat : Int) := rfl
  rw [e]
  have back : ∀ X : BitVec 64, BitVec.ofInt 64 (IntKind.wrap .i64 (X.toNat : Int)) = X := fun X => by
    rw [ofInt_mod (b := (X.toNat : Int)) (wrap_mod _)]
    apply BitVec.eq_of_toNat_eq
    rw [BitVec.toNat_ofInt]
    have := X.isLt
    have h2 : ((2 ^ 64 : Nat) : Int) = 18446744073709551616 := by decide
    rw [h2]
    omega
  have zero : BitVec.ofInt 64 b = 0#64 ↔ b = 0 := by
    constructor
    · intro h
      have h1 := congrArg BitVec.toNat h
      rw [BitVec.toNat_ofInt] at h1
      have h2 : ((2 ^ 64 : Nat) : Int) = 18446744073709551616 := by decide
      rw [h2] at h1
      have h3 : (0#64 : BitVec 64).toNat = 0 := rfl
      rw [h3] at h1
      omega
    · rintro rfl
      rfl
  by_cases c : b = 0
  · rw [zero.2 c, c, BitVec.xor_zero]
    have h1 : IntKind.wrap .i64 ((BitVec.ofInt 64 a).toNat : Int) = a := by
      have h2 := wrap_mod ((BitVec.ofInt 64 a).toNat : Int)
      rw [BitVec.toNat_ofInt] at h2 ⊢
      have h3 : ((2 ^ 64 : Nat) : Int) = 18446744073709551616 := by decide
      rw [h3] at h2 ⊢
      simp only [IntKind.wrap, IntKind.signed, IntKind.bits]
      simp
      omega
    rw [h1]
    simp
  · have n1 : (b == 0) = false := by simpa using c
    rw [n1]
    rw [beq_eq_false_iff_ne]
    intro h
    have h1 := back (BitVec.ofInt 64 a ^^^ BitVec.ofInt 64 b)
    rw [← h] at h1
    have h2 : BitVec.ofInt 64 b = 0#64 := by
      have h3 := congrArg (BitVec.ofInt 64 a ^^^ ·) h1
      simp only [BitVec.xor_self] at h3
      rw [← BitVec.xor_assoc, BitVec.xor_self, BitVec.zero_xor] at h3
      exact h3.symm
    exact c (zero.1 h2)
end Go.AM
namespace Go.Proofs.YtnjandhaeojieaaDoor
open Go.AM
theorem Equal_at (s t : T) (hs : s.len ≤ 9223372036854775807) (ht : t.len ≤ 9223372036854775807) (N : Nat) (hN : s.len + 5 ≤ N) : C_slices_Equal_Row (K (N + 1)) s t = rb (rowsEq s t) := by
  rw [C_slices_Equal_Row_K]
  unfold rowsEq
  by_cases c : s.len = t.len
  · rw [show (s.len == t.len) = true by simpa using c, Bool.true_and]
    refine if_not (by simp [c]) ?_
    have key : ∀ L i, i < s.len → slices_Equal_Row.B0 (K N) (L + 1) s t (s.len : Int) (i : Int) = bif rowEq s t i then slices_Equal_Row.B0 (K N) L s t (s.len : Int) ((i + 1 : Nat) : Int) else rb false := by
      intro L i hi
      rw [slices_Equal_Row.B0_eq, Int.toNat_natCast, wrap_eq (a := (i : Int) + 1) (by omega) (by omega)]
      refine if_of (decide_eq_true (by omega)) (if_of (by simp; omega) (if_of (by simp; omega) ?_))
      show (bif (!rowEq s t i) then some (lookR [(0, (T.b false))]) else _) = _
      cases rowEq s t i <;> rfl
    refine allLoop (n := s.len) (c := 1) (q := rowEq s t) (B := fun L i => slices_Equal_Row.B0 (K N) L s t (s.len : Int) i) (fun L => ?_) (fun L i hi h => ?_) (fun L i hi h => ?_) s.len 0 (by omega) N (by omega)
    · show slices_Equal_Row.B0 (K N) (L + 1) s t (s.len : Int) (s.len : Int) = _
      rw [slices_Equal_Row.B0_eq]
      exact if_not (decide_eq_false (by omega)) rfl
    · show slices_Equal_Row.B0 (K N) (L + 1) s t (s.len : Int) (i : Int) = _
      rw [key L i hi, h]
      rfl
    · show slices_Equal_Row.B0 (K N) (L + 1) s t (s.len : Int) (i : Int) = _
      rw [key L i hi, h]
      rfl
  · rw [show (s.len == t.len) = false by simpa using c, Bool.false_and]
    exact if_of (by simp; omega) rfl
theorem Equal_sp (s t : T) (hs : s.len ≤ 9223372036854775807) (ht : t.len ≤ 9223372036854775807) : Ev fun N => C_slices_Equal_Row (K N) s t = rb (rowsEq s t) := Ev.step ((Ev.ge (s.len + 5)).imp fun N hN => Equal_at s t hs ht N hN)
theorem Same_sp (b r b' r' : T) (hb : b.len ≤ 9223372036854775807) (hr : r.len ≤ 9223372036854775807) (hb' : b'.len ≤ 9223372036854775807) (hr' : r'.len ≤ 9223372036854775807) : Ev fun N => ∀ w w', C_machine_Same (K N) w b r w' b' r' = rb ((w == w') && (rowsEq b b' && rowsEq r r')) := by
  refine Ev.step ((Equal_sp b b' hb hb').imp2 (Equal_sp r r' hr hr') fun N h1 h2 w w' => ?_)
  rw [C_machine_Same_K]
  cases (w == w')
  · exact if_not rfl rfl
  · refine if_of rfl (bind_of h1 ?_)
    cases rowsEq b b'
    · exact if_not rfl rfl
    · exact if_of rfl (bind_of h2 rfl)
theorem Same_all : Ev fun N => ∀ b r b' r' : T, b.len ≤ 20000 → r.len ≤ 20000 → b'.len ≤ 20000 → r'.len ≤ 20000 → ∀ w w', C_machine_Same (K N) w b r w' b' r' = rb ((w == w') && (rowsEq b b' && rowsEq r r')) := by
  refine Ev.step (Ev.step ((Ev.ge 30000).imp fun N hN b r b' r' hb hr hb' hr' w w' => ?_))
  have h1 := Equal_at b b' (by omega) (by omega) N (by omega)
  have h2 := Equal_at r r' (by omega) (by omega) N (by omega)
  rw [C_machine_Same_K]
  cases (w == w')
  · exact if_not rfl rfl
  · refine if_of rfl (bind_of h1 ?_)
    cases rowsEq b b'
    · exact if_not rfl rfl
    · exact if_of rfl (bind_of h2 rfl)
theorem WT_int {x : T} (h : WT Tryd.prog 3 x) : -9223372036854775808 ≤ x.int ∧ x.int ≤ 9223372036854775807 := by
  have hu : Tryd.prog.underlying 3 = some (.int .i64) := by kernel_rfl
  cases h with
  | int h hw =>
    rw [hu] at h
    cases h
    have : (Lit.int .i64 _).wf = true := hw
    simp only [Lit.wf, Bool.and_eq_true, decide_eq_true_eq] at hw
    exact hw
  | bool h => rw [hu] at h; cases h
  | str h hs => rw [hu] at h; cases h
  | sl h hn hg => rw [hu] at h; cases h
theorem WT_row {r : T} (h : WT Tryd.prog 22 r) {i : Nat} (hi : i < r.len) : -9223372036854775808 ≤ (r.el i 2).int ∧ (r.el i 2).int ≤ 9223372036854775807 := by
  have hu : Tryd.prog.underlying 22 = some (.slice 36) := by kernel_rfl
  have hl : lv Tryd.prog 36 = [3, 3, 3, 3] := by kernel_rfl
  cases h with
  | int h hw => rw [hu] at h; cases h
  | bool h => rw [hu] at h; cases h
  | str h hs => rw [hu] at h; cases h
  | sl h hn hg =>
    rw [hu] at h
    cases h
    exact WT_int (hg i 2 3 hi (by rw [hl]; rfl))
theorem MachineSame_sp (w : Int) (b r : T) (at_ by_ : Int) (wb : WT Tryd.prog 22 b) (wr : WT Tryd.prog 22 r) (hby : -9223372036854775808 ≤ by_ ∧ by_ ≤ 9223372036854775807) (h32 : r.len * 32 ≤ 140737488351232) : Ev fun N => C_parrylaw25_MachineSame (K N) w b r at_ by_ = rb true := by
  have lb := WT_len wb
  have lr := WT_len wr
  by_cases c0 : r.len = 0
  · refine Ev.step (Ev.imp3 awake25_sp (Same_sp b r b r lb lr lb lr) (Ev.ge 5) fun N haw hs hN => ?_)
    obtain ⟨N, rfl⟩ : ∃ M, N = M + 1 := ⟨N - 1, by omega⟩
    have aw : ((C_parrylaw25_awake (K (N + 1))).bind fun z => some (lookR [(0, T.b (z 0).bool)])) = rb true := by rw [haw]; rfl
    obtain ⟨x, hx, _⟩ := Heavy_sp N w b r lb lr
    rw [C_parrylaw25_MachineSame_K]
    refine bind_of hx (if_both (fun h => bind_of hx (if_of h aw)) fun _ => ?_)
    have s1 := hs w w
    rw [beq_self_eq_true, rowsEq_self, rowsEq_self] at s1
    refine bind_of s1 (if_not rfl (if_of (by simp [c0]) ?_))
    have s2 := hs w (IntKind.wrap .i64 (w + 1))
    rw [show (w == IntKind.wrap .i64 (w + 1)) = false by simpa using wrap_next w, Bool.false_and] at s2
    exact bind_of s2 (if_of rfl aw)
  have u0 : 0 ≤ IntKind.wrap .u64 at_ := by
    simp only [IntKind.wrap, IntKind.signed]
    simp
    exact Int.emod_nonneg _ (by simp [IntKind.bits])
  have e2 : IntKind.wrap .u64 (((0 + r.len) : Nat) : Int) = ((r.len : Nat) : Int) := by rw [Nat.zero_add]; exact wrapU_eq (by omega) (by omega)
  obtain ⟨k, hk, hkl⟩ : ∃ k : Nat, IntKind.wrap .i64 (Int.tmod (IntKind.wrap .u64 at_) ((r.len : Nat) : Int)) = (k : Int) ∧ k < r.len := by
    have h1 := Int.tmod_nonneg ((r.len : Nat) : Int) u0
    have h2 := Int.tmod_lt_of_pos (IntKind.wrap .u64 at_) (b := ((r.len : Nat) : Int)) (by omega)
    refine ⟨(Int.tmod (IntKind.wrap .u64 at_) ((r.len : Nat) : Int)).toNat, ?_, by omega⟩
    rw [wrap_eq (by omega) (by omega)]
    omega
  obtain ⟨r', hr'⟩ : ∃ r' : T, r' = T.l (0 + r.len) (fun i j => (bif (0 + i) == (0 + k) && Nat.ble 2 j && Nat.blt j (2 + ([(T.i (bitsOf .xor .i64 ((bif Nat.blt (0 + k) 0 then ((([] : List (List T)).getD (0 + k) []).getD 2 (.b false)) else (r.el (0 + k) 2)).int) by_))] : List T).length) then ([(T.i (bitsOf .xor .i64 ((bif Nat.blt (0 + k) 0 then ((([] : List (List T)).getD (0 + k) []).getD 2 (.b false)) else (r.el (0 + k) 2)).int) by_))] : List T).getD (j - 2) (.b false) else (bif Nat.blt (0 + i) 0 then ((([] : List (List T)).getD (0 + i) []).getD j (.b false)) else (r.el (0 + i) j)))) := ⟨_, rfl⟩
  have len' : r'.len = r.len := by rw [hr']; show 0 + r.len = _; omega
  have el_other : ∀ i j, i ≠ k ∨ j ≠ 2 → r'.el i j = r.el i j := by
    intro i j h
    rw [hr']
    show (bif (0 + i) == (0 + k) && Nat.ble 2 j && Nat.blt j (2 + 1) then _ else (bif Nat.blt (0 + i) 0 then _ else (r.el (0 + i) j))) = _
    have e1 : ((0 + i) == (0 + k) && Nat.ble 2 j && Nat.blt j (2 + 1)) = false := by
      rcases h with h | h
      · have : ((0 + i) == (0 + k)) = false := by simp; omega
        rw [this]; rfl
      · rcases Nat.lt_or_gt_of_ne h with h | h
        · have : Nat.ble 2 j = false := by cases hb : Nat.ble 2 j with | false => rfl | true => have := Nat.le_of_ble_eq_true hb; omega
          rw [this, Bool.and_false, Bool.false_and]
        · have : Nat.blt j (2 + 1) = false := by cases hb : Nat.blt j (2 + 1) with | false => rfl | true => rw [Nat.blt_eq] at hb; omega
          rw [this, Bool.and_false]
    have e2 : Nat.blt (0 + i) 0 = false := by cases hb : Nat.blt (0 + i) 0 with | false => rfl | true => rw [Nat.blt_eq] at hb; omega
    rw [e1, e2]
    simp only [cond_false, Nat.zero_add]
  have el_k : (r'.el k 2).int = bitsOf .xor .i64 (r.el k 2).int by_ := by
    rw [hr']
    show ((bif (0 + k) == (0 + k) && Nat.ble 2 2 && Nat.blt 2 (2 + 1) then (T.i (bitsOf .xor .i64 ((bif Nat.blt (0 + k) 0 then ((([] : List (List T)).getD (0 + k) []).getD 2 (.b false)) else (r.el (0 + k) 2)).int) by_)) else _)).int = _
    have e2 : Nat.blt (0 + k) 0 = false := by cases hb : Nat.blt (0 + k) 0 with | false => rfl | true => rw [Nat.blt_eq] at hb; omega
    rw [beq_self_eq_true, e2, Nat.zero_add]
    rfl
  have eq' : rowsEq r r' = (by_ == 0) := by
    have rk := xor_zero (WT_row wr hkl) hby
    unfold rowsEq
    rw [len', beq_self_eq_true, Bool.true_and]
    have row_k : rowEq r r' k = (by_ == 0) := by
      unfold rowEq
      rw [el_k, el_other k 0 (.inr (by decide)), el_other k 1 (.inr (by decide)), el_other k 3 (.inr (by decide)), rk]
      simp
    have row_o : ∀ i, i ≠ k → rowEq r r' i = true := by
      intro i hi
      unfold rowEq
      rw [el_other i 0 (.inl hi), el_other i 1 (.inl hi), el_other i 2 (.inl hi), el_other i 3 (.inl hi)]
      simp
    cases hz : (by_ == 0) with
    | true =>
      rw [List.all_eq_true]
      intro i _
      by_cases h : i = k
      · rw [h, row_k, hz]
      · exact row_o i h
    | false =>
      rw [List.all_eq_false]
      exact ⟨k, by rw [List.mem_range']; exact ⟨k, hkl, by omega⟩, by rw [row_k, hz]; simp⟩
  refine Ev.step (Ev.imp4 awake25_sp (Same_sp b r b r lb lr lb lr) (Same_sp b r b r' lb lr lb (by rw [len']; exact lr)) (Ev.ge 5) fun N haw hs hs' hN => ?_)
  obtain ⟨N, rfl⟩ : ∃ M, N = M + 1 := ⟨N - 1, by omega⟩
  have aw : ((C_parrylaw25_awake (K (N + 1))).bind fun z => some (lookR [(0, T.b (z 0).bool)])) = rb true := by rw [haw]; rfl
  obtain ⟨x, hx, _⟩ := Heavy_sp N w b r lb lr
  rw [C_parrylaw25_MachineSame_K]
  refine bind_of hx (if_both (fun h => bind_of hx (if_of h aw)) fun _ => ?_)
  have s1 := hs w w
  rw [beq_self_eq_true, rowsEq_self, rowsEq_self] at s1
  have s2 := hs' w w
  rw [beq_self_eq_true, rowsEq_self, eq', Bool.true_and, Bool.true_and, hr'] at s2
  rw [e2, hk, Int.toNat_natCast]
  have cl : decide ((0 + k) < (0 + r.len)) = true := decide_eq_true (by omega)
  have ck : (decide ((0 : Int) ≤ (k : Int)) && decide ((k : Int) < (((0 + r.len) : Nat) : Int))) = true := by simp; omega
  refine bind_of s1 (if_not rfl (if_not (by simpa using c0) (if_of (decide_eq_true (by omega)) (if_of (by simpa using c0) (if_of ck (if_of cl (if_of ck (if_of cl (bind_of s2 (if_of (by show ((by_ == 0) == (by_ == 0)) = true; simp) aw))))))))))
end Go.Proofs.YtnjandhaeojieaaDoor
