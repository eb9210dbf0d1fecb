/- Split and digits, as they are run. -/
import Derived.Test.YtnjandhaeojieaaDoorMc6
set_option linter.unusedVariables false
set_option linter.unusedSimpArgs false
namespace Go.AM
open Go.Proofs.YtnjandhaeojieaaDoor
theorem strEq_eq (a b : ByteArray) : strEq a b = (a.data.toList == b.data.toList) := by unfold strEq; rw [ByteArray.toList_eq, ByteArray.toList_eq]
def Strs (t : T) (L : List (List UInt8)) : Prop := t.len = L.length ∧ ∀ i l, L[i]? = some l → ((t.el i 0).str).data.toList = l
theorem ext_list (s : ByteArray) (a b : Nat) : (s.extract a b).data.toList = (s.data.toList.drop a).take (b - a) := by
  rw [ByteArray.data_extract, Array.toList_extract, List.extract_eq_take_drop]
theorem ext_size (s : ByteArray) {a b : Nat} : (s.extract a b).size = min b s.size - a := by
  rw [ByteArray.size_extract]
end Go.AM
namespace Go.Proofs.YtnjandhaeojieaaDoor
open Go.AM
theorem count_sp (N : Nat) (s : ByteArray) (c : UInt8) : C_strings_Count (K (N + 1)) s (ByteArray.mk #[c]) = some (lookR [(0, .i ((s.data.toList.count c : Nat) : Int))]) := by
  have e : C_strings_Count (K (N + 1)) s (ByteArray.mk #[c]) = countX [.s s, .s (ByteArray.mk #[c])] [] := by kernel_rfl
  rw [e]
  rfl
theorem index_sp (N : Nat) (s : ByteArray) (c : UInt8) : C_strings_Index (K (N + 1)) s (ByteArray.mk #[c]) = some (lookR [(0, .i (Lib.indexByte s.data.toList c))]) := by
  have e : C_strings_Index (K (N + 1)) s (ByteArray.mk #[c]) = indexX [.s s, .s (ByteArray.mk #[c])] [] := by kernel_rfl
  rw [e]
  rfl
def Upto (g : Nat → Nat → T) (acc : List (List UInt8)) : Prop := ∀ i l, acc[i]? = some l → ((g i 0).str).data.toList = l
theorem Upto.put {g : Nat → Nat → T} {acc : List (List UInt8)} (h : Upto g acc) (s : ByteArray) {n : Nat} (hn : n = acc.length) : Upto (fun i j => (bif i == (0 + n) && Nat.ble 0 j && Nat.blt j (0 + ([(T.s s)] : List T).length) then ([(T.s s)] : List T).getD (j - 0) (.b false) else (g i j))) (acc ++ [s.data.toList]) := by
  intro i l hi
  show (T.str (bif i == (0 + n) && Nat.ble 0 0 && Nat.blt 0 (0 + ([(T.s s)] : List T).length) then ([(T.s s)] : List T).getD (0 - 0) (.b false) else (g i 0))).data.toList = l
  by_cases c : i = n
  · subst c
    rw [List.getElem?_append_right (by omega), hn, Nat.sub_self] at hi
    rw [Nat.zero_add, beq_self_eq_true]
    exact Option.some.inj hi
  · have : (i == 0 + n) = false := by simpa using c
    rw [this]
    have hlt : i < acc.length := by
      have := (List.getElem?_eq_some_iff.1 hi).1
      simp at this
      omega
    rw [List.getElem?_append_left hlt] at hi
    exact h i l hi
theorem Split_sp : Ev fun N => ∀ (s : ByteArray) (c : UInt8), s.size ≤ 400000 → ∃ t, C_strings_Split (K N) s (ByteArray.mk #[c]) = some (lookR [(0, t)]) ∧ Strs t (splitL c s.data.toList) := by
  refine Ev.step (Ev.step ((Ev.ge 1000000).imp fun N hN s c hs => ?_))
  obtain ⟨M, hM⟩ : ∃ M, N = M + 2 := ⟨N - 2, by omega⟩
  have hcl : s.data.toList.count c ≤ s.size := by rw [size_list]; exact List.count_le_length
  generalize hm : s.data.toList.count c = m at hcl
  have key : ∀ (k : Nat) (p : ByteArray) (i L : Nat) (g : Nat → Nat → T) (acc : List (List UInt8)), p.data.toList.count c = k → i + k = m → acc.length = i → Upto g acc → p.size ≤ 400000 → k + 2 ≤ L → ∃ t, strings_genSplit.B1 (K N) L (m + 1) p (ByteArray.mk #[c]) (0 : Int) (m : Int) (i : Int) g = some (lookR [(0, t)]) ∧ Strs t (acc ++ splitL c p.data.toList) := by
    intro k
    induction k with
    | zero =>
      intro p i L g acc hk hi hacc hg hp hL
      obtain ⟨L, rfl⟩ : ∃ L', L = L' + 2 := ⟨L - 2, by omega⟩
      obtain rfl : i = m := by omega
      have b2 : strings_genSplit.B2 (K N) (L + 1) (i + 1) p (i : Int) g = some (lookR [(0, T.l (i + 1) (fun x j => (bif x == (0 + i) && Nat.ble 0 j && Nat.blt j (0 + ([(T.s p)] : List T).length) then ([(T.s p)] : List T).getD (j - 0) (.b false) else (g x j))))]) := by
        rw [strings_genSplit.B2_eq, Int.toNat_natCast, wrap_eq (a := (i : Int) + 1) (by omega) (by omega)]
        exact if_of (by simp; omega) (if_of (by simp) (if_of (by simp; omega) rfl))
      have b1 := (strings_genSplit.B1_eq (K N) (L + 1) (i + 1) p (ByteArray.mk #[c]) (0 : Int) (i : Int) (i : Int) g).trans (if_not (decide_eq_false (by omega)) b2)
      refine ⟨_, b1, ?_⟩
      · rw [(index_none hk).2]
        exact ⟨by simp [hacc]; rfl, hg.put p hacc.symm⟩
    | succ k ih =>
      intro p i L g acc hk hi hacc hg hp hL
      obtain ⟨L, rfl⟩ : ∃ L', L = L' + 1 := ⟨L - 1, by omega⟩
      obtain ⟨x, h1, h2, h3, h4⟩ := index_some (c := c) (l := p.data.toList) (by omega)
      have hx : x < p.size := by rw [size_list]; exact h2
      have e1 : IntKind.wrap .i64 ((x : Int) + 0) = (x : Int) := by rw [wrap_eq (by omega) (by omega)]; omega
      have e2 : IntKind.wrap .i64 ((x : Int) + (((ByteArray.mk #[c]).size : Nat) : Int)) = ((x + 1 : Nat) : Int) := by
        have : (ByteArray.mk #[c]).size = 1 := rfl
        rw [this, wrap_eq (by omega) (by omega)]
        omega
      have hd : (p.extract (x + 1) p.size).data.toList = p.data.toList.drop (x + 1) := by
        rw [ext_list, List.take_of_length_le]
        rw [List.length_drop, ← size_list]
        omega
      have ht : (p.extract 0 x).data.toList = p.data.toList.take x := by rw [ext_list]; simp
      obtain ⟨t, q1, q2⟩ := ih (p.extract (x + 1) p.size) (i + 1) L _ (acc ++ [(p.extract 0 x).data.toList]) (by rw [hd]; omega) (by omega) (by simp; omega) (hg.put (p.extract 0 x) hacc.symm) (by rw [ext_size]; omega) (by omega)
      refine ⟨t, ?_, ?_⟩
      · rw [strings_genSplit.B1_eq]
        refine if_of (decide_eq_true (by omega)) (bind_of (by rw [hM]; exact index_sp (M + 1) p c) ?_)
        rw [lookR_0, int_i, h1, e1, e2, Int.toNat_natCast, Int.toNat_natCast, Int.toNat_natCast, Int.toNat_natCast, wrap_eq (a := (i : Int) + 1) (by omega) (by omega)]
        refine if_not (decide_eq_false (by omega)) (if_of (by simp; omega) (if_of (by simp; omega) (if_of (by simp; omega) (if_of (by simp; omega) ?_))))
        exact q1
      · rw [h3, ← hd, ← ht, ← List.singleton_append, ← List.append_assoc]
        exact q2
  have e1 : IntKind.wrap .i64 ((m : Int) + 1) = ((m + 1 : Nat) : Int) := by rw [wrap_eq (by omega) (by omega)]; omega
  have e2 : IntKind.wrap .i64 (((s.size : Nat) : Int) + 1) = ((s.size + 1 : Nat) : Int) := by rw [wrap_eq (by omega) (by omega)]; omega
  have e3 : (if ((s.size + 1 : Nat) : Int) < ((m + 1 : Nat) : Int) then ((s.size + 1 : Nat) : Int) else ((m + 1 : Nat) : Int)) = ((m + 1 : Nat) : Int) := if_neg (by omega)
  have e4 : IntKind.wrap .i64 (((m + 1 : Nat) : Int) - 1) = (m : Int) := by rw [wrap_eq (by omega) (by omega)]; omega
  obtain ⟨L0, hL0⟩ : ∃ L, N = L + 1 := ⟨N - 1, by omega⟩
  obtain ⟨t, q1, q2⟩ := key m s 0 L0 (fun i j => (([(T.s (ByteArray.mk #[]))] : List T).getD j (.b false))) [] hm (by omega) rfl (fun i l h => by cases h) hs (by omega)
  refine ⟨T.l t.len fun i j => t.el i j, ?_, q2⟩
  rw [C_strings_Split_K]
  refine bind_of (r := lookR [(0, t)]) ?_ rfl
  rw [C_strings_genSplit_K]
  have e0 : strEq (ByteArray.mk #[c]) (ByteArray.mk #[]) = false := by rw [strEq_eq]; rfl
  refine if_not rfl (if_not e0 (if_of (by decide) (bind_of (by rw [hM]; exact count_sp (M + 1) s c) ?_)))
  rw [lookR_0, int_i, hm, e1]
  have h5 : strings_genSplit.B0 (K N) (L0 + 1) s (ByteArray.mk #[c]) 0 ((m + 1 : Nat) : Int) = some (lookR [(0, t)]) := by
    rw [strings_genSplit.B0_eq, e2, e3, e4, Int.toNat_natCast]
    exact if_of (by simp; omega) q1
  rw [← hL0] at h5
  exact h5
theorem digits_sp : Ev fun N => ∀ s : ByteArray, C_machine_digits (K N) s = some (lookR [(0, .i (match digM s.data.toList with | some v => (v : Int) | none => 0)), (1, .b (digM s.data.toList).isSome)]) := by
  refine Ev.step ((Ev.ge 100).imp fun N hN s => ?_)
  obtain ⟨l, hl⟩ : ∃ l, l = s.data.toList := ⟨_, rfl⟩
  have hsz : s.size = l.length := by rw [size_list, hl]
  rw [← hl]
  have bad : ¬ ((1 ≤ l.length ∧ l.length ≤ 6) ∧ (1 < l.length → l.head? ≠ some 48) ∧ l.all isD = true) → some (lookR [(0, (T.i 0)), (1, (T.b false))]) = some (lookR [(0, .i (match digM l with | some v => (v : Int) | none => 0)), (1, .b (digM l).isSome)]) := by
    intro h
    have : digM l = none := by unfold digM; rw [if_neg h]
    rw [this]
    rfl
  rw [C_machine_digits_K]
  by_cases c1 : l.length < 1
  · exact if_of (decide_eq_true (by omega)) (bad (by omega))
  refine if_not (decide_eq_false (by omega)) ?_
  by_cases c2 : 6 < l.length
  · exact if_of (decide_eq_true (by omega)) (bad (by omega))
  refine if_not (decide_eq_false (by omega)) ?_
  have hbt : ∀ i b, l[i]? = some b → bt s i = (b.toNat : Int) := fun i b h => bt_get (by rw [← hl]; exact h)
  have loop : (1 < l.length → l.head? ≠ some 48) → ∀ (k i : Nat), i + k = l.length → (l.take i).all isD = true → ∀ L, k + 1 ≤ L → machine_digits.B1 (K N) L s ((valD (l.take i) : Nat) : Int) ((l.length : Nat) : Int) (i : Int) = some (lookR [(0, .i (match digM l with | some v => (v : Int) | none => 0)), (1, .b (digM l).isSome)]) := by
    intro hh k
    induction k with
    | zero =>
      intro i hi ha L hL
      obtain ⟨L, rfl⟩ : ∃ L', L = L' + 1 := ⟨L - 1, by omega⟩
      obtain rfl : i = l.length := by omega
      rw [List.take_length] at ha ⊢
      rw [machine_digits.B1_eq]
      have : digM l = some (valD l) := by unfold digM; rw [if_pos ⟨⟨by omega, by omega⟩, hh, ha⟩]
      rw [this]
      exact if_not (decide_eq_false (by omega)) rfl
    | succ k ih =>
      intro i hi ha L hL
      obtain ⟨L, rfl⟩ : ∃ L', L = L' + 1 := ⟨L - 1, by omega⟩
      have hlt : i < l.length := by omega
      have hb := hbt i l[i] (List.getElem?_eq_getElem hlt)
      have htk : l.take (i + 1) = l.take i ++ [l[i]] := by rw [List.take_add_one, List.getElem?_eq_getElem hlt]; rfl
      have nall : isD l[i] = false → ¬ ((1 ≤ l.length ∧ l.length ≤ 6) ∧ (1 < l.length → l.head? ≠ some 48) ∧ l.all isD = true) := by
        rintro h ⟨_, _, h3⟩
        rw [List.all_eq_true.1 h3 l[i] (List.getElem_mem hlt)] at h
        cases h
      have hv := valD_lt i (l.take i) (by simp; omega) ha
      have hp : 10 ^ i ≤ 10 ^ 6 := Nat.pow_le_pow_right (by decide) (by omega)
      have hp6 : (10 : Nat) ^ 6 = 1000000 := by decide
      have hb8 := l[i].toNat_lt
      have inn : (decide ((0 : Int) ≤ (i : Int)) && decide ((i : Int) < ((s.size : Nat) : Int))) = true := by simp; omega
      rw [machine_digits.B1_eq, Int.toNat_natCast, hb]
      refine if_of (decide_eq_true (by omega)) (if_of inn ?_)
      by_cases c3 : l[i].toNat < 48
      · exact if_of (decide_eq_true (by omega)) (bad (nall (by unfold isD; rw [decide_eq_false (by omega)]; rfl)))
      refine if_not (decide_eq_false (by omega)) (if_of inn ?_)
      by_cases c4 : 57 < l[i].toNat
      · exact if_of (decide_eq_true (by omega)) (bad (nall (by unfold isD; rw [decide_eq_false (p := l[i].toNat ≤ 57) (by omega), Bool.and_false])))
      refine if_not (decide_eq_false (by omega)) (if_of inn ?_)
      have w1 : IntKind.wrap .u8 ((l[i].toNat : Int) - 48) = ((l[i].toNat - 48 : Nat) : Int) := by
        show ((l[i].toNat : Int) - 48) % 256 = _
        omega
      have w2 : IntKind.wrap .i64 ((l[i].toNat - 48 : Nat) : Int) = ((l[i].toNat - 48 : Nat) : Int) := wrap_eq (by omega) (by omega)
      have w3 : IntKind.wrap .i64 (((valD (l.take i) : Nat) : Int) * 10) = ((valD (l.take i) : Nat) : Int) * 10 := wrap_eq (by omega) (by omega)
      have w4 : IntKind.wrap .i64 (((valD (l.take i) : Nat) : Int) * 10 + ((l[i].toNat - 48 : Nat) : Int)) = ((valD (l.take (i + 1)) : Nat) : Int) := by
        rw [wrap_eq (by omega) (by omega), htk, valD_snoc]
        omega
      rw [w1, w2, w3, w4, wrap_eq (a := (i : Int) + 1) (by omega) (by omega)]
      refine ih (i + 1) (by omega) ?_ L (by omega)
      rw [htk, List.all_append, ha]
      simp [isD]
      omega
  have start : (1 < l.length → l.head? ≠ some 48) → machine_digits.B0 (K N) N s = some (lookR [(0, .i (match digM l with | some v => (v : Int) | none => 0)), (1, .b (digM l).isSome)]) := by
    intro hh
    obtain ⟨L, hL⟩ : ∃ L, N = L + 1 := ⟨N - 1, by omega⟩
    have : machine_digits.B0 (K N) (L + 1) s = _ := machine_digits.B0_eq (K N) L s
    rw [show machine_digits.B0 (K N) N s = machine_digits.B0 (K N) (L + 1) s by rw [hL], this, hsz]
    exact loop hh l.length 0 (by omega) rfl L (by omega)
  by_cases c3 : 1 < l.length
  · have h0 : bt s 0 = ((l[0]'(by omega)).toNat : Int) := hbt 0 _ (List.getElem?_eq_getElem (by omega))
    have hd : l.head? = some (l[0]'(by omega)) := by rw [List.head?_eq_getElem?, List.getElem?_eq_getElem (by omega)]
    refine if_of (decide_eq_true (by omega)) (if_of (decide_eq_true (by omega)) ?_)
    by_cases c4 : l[0]'(by omega) = 48
    · refine if_of (by rw [h0, c4]; rfl) (bad ?_)
      rintro ⟨_, h, _⟩
      exact h c3 (by rw [hd, c4])
    · refine if_not ?_ (start fun _ => by rw [hd]; exact fun e => c4 (Option.some.inj e))
      rw [h0]
      have : (l[0]'(by omega)).toNat ≠ 48 := fun e => c4 (UInt8.toNat_inj.1 (by rw [e]; rfl))
      simp
      omega
  · exact if_not (decide_eq_false (by omega)) (start fun h => absurd h c3)
end Go.Proofs.YtnjandhaeojieaaDoor
