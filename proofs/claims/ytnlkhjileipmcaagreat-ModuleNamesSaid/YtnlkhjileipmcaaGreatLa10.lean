/- ExprSame: alike is alike in both ways; with one number as another one it is not. -/
import Derived.Test.YtnlkhjileipmcaaGreatLa9
set_option linter.unusedVariables false
set_option linter.unusedSimpArgs false
namespace Go.AM
mutual
def sameE : Ex → Ex → Bool
  | .mk o n ks, .mk p m ls => decide (o = p) && (decide (n = m) && sameL ks ls)
def sameL : List Ex → List Ex → Bool
  | [], [] => true
  | k :: ks, l :: ls => sameE k l && sameL ks ls
  | _, _ => false
end
mutual
theorem sameE_iff : ∀ a b : Ex, sameE a b = true ↔ a = b
  | .mk o n ks, .mk p m ls => by
    have ih := sameL_iff ks ls
    simp only [sameE, Bool.and_eq_true, decide_eq_true_eq, ih, Ex.mk.injEq]
theorem sameL_iff : ∀ a b : List Ex, sameL a b = true ↔ a = b
  | [], [] => by simp [sameL]
  | [], _ :: _ => by simp [sameL]
  | _ :: _, [] => by simp [sameL]
  | k :: ks, l :: ls => by
    have h1 := sameE_iff k l
    have h2 := sameL_iff ks ls
    simp only [sameL, Bool.and_eq_true, h1, h2, List.cons.injEq]
end
theorem sameL_len : ∀ (a b : List Ex), a.length ≠ b.length → sameL a b = false := by
  intro a b h
  cases hs : sameL a b with
  | false => rfl
  | true => rw [sameL_iff] at hs; exact absurd (congrArg List.length hs) h
theorem sameE_comm (a b : Ex) : sameE a b = sameE b a := by
  rw [Bool.eq_iff_iff, sameE_iff, sameE_iff]
  exact eq_comm
theorem sameE_self (a : Ex) : sameE a a = true := (sameE_iff a a).2 rfl
theorem light_number (o n m : Int) (ks : List Ex) : lightE (.mk o n ks) = lightE (.mk o m ks) := by
  have e : goesE (.mk o n ks) 1 0 false = goesE (.mk o m ks) 1 0 false := by simp only [goesE]
  unfold lightE nodesE
  rw [e]
theorem number_range {o n : Int} (h : numberE o n = true) : -1000 ≤ n ∧ n ≤ 1000 := by
  unfold numberE at h
  split at h
  · exact of_decide_eq_true h
  · split at h
    · have := of_decide_eq_true h; omega
    · split at h
      · have := of_decide_eq_true h; omega
      · have := of_decide_eq_true h; omega
theorem xor_self_iff {a b : Int} (ha : -9223372036854775808 ≤ a ∧ a ≤ 9223372036854775807) (hb : -9223372036854775808 ≤ b ∧ b ≤ 9223372036854775807) : bitsOf .xor .i64 a b = a ↔ b = 0 := by
  have hA : (BitVec.ofInt 64 a).toNat = (a % 18446744073709551616).toNat := by simp [BitVec.toNat_ofInt]
  have hB : (BitVec.ofInt 64 b).toNat = (b % 18446744073709551616).toNat := by simp [BitVec.toNat_ofInt]
  have hw : ∀ z : Int, 0 ≤ z → z < 18446744073709551616 → (IntKind.wrap .i64 z = a ↔ z = a % 18446744073709551616) := by
    intro z h1 h2
    simp only [IntKind.wrap, IntKind.signed, IntKind.bits]
    simp
    omega
  have e : bitsOf .xor .i64 a b = IntKind.wrap .i64 ((BitVec.ofInt 64 a ^^^ BitVec.ofInt 64 b).toNat : Int) := rfl
  have hlt : (BitVec.ofInt 64 a ^^^ BitVec.ofInt 64 b).toNat < 18446744073709551616 := (BitVec.ofInt 64 a ^^^ BitVec.ofInt 64 b).isLt
  rw [e, hw _ (by omega) (by omega)]
  have e2 : (((BitVec.ofInt 64 a ^^^ BitVec.ofInt 64 b).toNat : Int) = a % 18446744073709551616) ↔ BitVec.ofInt 64 a ^^^ BitVec.ofInt 64 b = BitVec.ofInt 64 a := by
    constructor
    · intro h
      exact BitVec.eq_of_toNat_eq (by rw [hA]; omega)
    · intro h
      rw [h, hA]; omega
  rw [e2]
  constructor
  · intro h
    have h1 : BitVec.ofInt 64 b = 0#64 := by
      have h2 : BitVec.ofInt 64 a ^^^ (BitVec.ofInt 64 a ^^^ BitVec.ofInt 64 b) = BitVec.ofInt 64 a ^^^ BitVec.ofInt 64 a := by rw [h]
      rw [← BitVec.xor_assoc, BitVec.xor_self, BitVec.zero_xor] at h2
      exact h2
    have h3 := congrArg BitVec.toNat h1
    rw [hB] at h3
    simp at h3
    omega
  · rintro rfl
    have h1 : BitVec.ofInt 64 0 = 0#64 := by rfl
    rw [h1, BitVec.xor_zero]
end Go.AM
namespace Go.Proofs.YtnlkhjileipmcaaGreat
open Go.AM

theorem WT_int {x : T} (h : WT Tryz.prog 3 x) : -9223372036854775808 ≤ x.int ∧ x.int ≤ 9223372036854775807 := by
  have un3 : Tryz.prog.underlying 3 = some (.int .i64) := by kernel_rfl
  cases h with
  | int h hw =>
    rw [un3] at h
    cases h
    simp [Lit.wf, IntKind.min, IntKind.max, IntKind.signed, IntKind.bits] at hw
    exact hw
  | bool h => rw [un3] at h; cases h
  | str h hs => rw [un3] at h; cases h
  | sl h hn hg => rw [un3] at h; cases h
theorem alikeB {h : H} {k k2 : T} (hk : KW k) (hl : k.len = k2.len) (hc : ∀ i, i < k.len → ∀ o n p m, C_expr_alike h o n (k.el i 2) p m (k2.el i 2) = rb (sameE (.mk o n (kidsOf (k.el i 2))) (.mk p m (kidsOf (k2.el i 2))))) :
    ∀ (m i : Nat), i + m = k.len → ∀ N, m < N → slices_EqualFunc_Expr_by_expr_alike.B0 h N k2 k (k.len : Int) (i : Int) = rb (sameL ((kidsOf k).drop i) ((kidsOf k2).drop i))
  | 0, i, hi, N, hN => by
    obtain ⟨N, rfl⟩ : ∃ M, N = M + 1 := ⟨N - 1, by omega⟩
    rw [slices_EqualFunc_Expr_by_expr_alike.B0_eq, List.drop_of_length_le (by rw [kidsOf_len]; omega), List.drop_of_length_le (by rw [kidsOf_len]; omega)]
    exact if_not (decide_eq_false (by omega)) rfl
  | m + 1, i, hi, N, hN => by
    obtain ⟨N, rfl⟩ : ∃ M, N = M + 1 := ⟨N - 1, by omega⟩
    have hlen := hk.len
    have ih := alikeB (h := h) hk hl hc m (i + 1) (by omega) N (by omega)
    have e1 := hc i (by omega) (k.el i 0).int (k.el i 1).int (k2.el i 0).int (k2.el i 1).int
    have x1 : Ex.mk (k.el i 0).int (k.el i 1).int (kidsOf (k.el i 2)) = exAt k i := rfl
    have x2 : Ex.mk (k2.el i 0).int (k2.el i 1).int (kidsOf (k2.el i 2)) = exAt k2 i := rfl
    rw [x1, x2] at e1
    rw [slices_EqualFunc_Expr_by_expr_alike.B0_eq, kidsOf_from k i (by omega), kidsOf_from k2 i (by omega), wrap_eq (by omega) (by omega), Int.toNat_natCast]
    refine if_of (decide_eq_true (by omega)) (if_of (by simp; omega) (if_of (by simp; omega) (bind_of e1 ?_)))
    simp only [sameL]
    cases hs : sameE (exAt k i) (exAt k2 i) with
    | false => exact if_of rfl rfl
    | true => exact if_not rfl ih
theorem alike_sp : ∀ k, KW k → ∀ k2, KW k2 → Ev fun N => ∀ o n p m, C_expr_alike (K N) o n k p m k2 = rb (sameE (.mk o n (kidsOf k)) (.mk p m (kidsOf k2))) := by
  refine kids_ind fun k ih hk k2 hk2 => ?_
  by_cases hl : k.len = k2.len
  · refine Ev.step (Ev.step ((Ev.all (k := k.len) fun i hi => ih i hi (hk.el hi) (k2.el i 2) (hk2.el (by omega))).imp2 (Ev.ge (k.len + 1)) fun N hc hN o n p m => ?_))
    have hb := alikeB (h := K N) hk hl hc k.len 0 (by omega) N (by omega)
    rw [C_expr_alike_K, C_slices_EqualFunc_Expr_by_expr_alike_K]
    simp only [sameE]
    by_cases c1 : o = p
    · by_cases c2 : n = m
      · refine if_of (by simpa using c1) (if_of (by simpa using c2) (bind_of (r := lookR [(0, .b (sameL (kidsOf k) (kidsOf k2)))]) (if_not (by simp [hl]) hb) ?_))
        rw [decide_eq_true c1, decide_eq_true c2]
        rfl
      · refine if_of (by simpa using c1) (if_not (by simpa using c2) ?_)
        rw [decide_eq_true c1, decide_eq_false c2]
        rfl
    · refine if_not (by simpa using c1) ?_
      rw [decide_eq_false c1]
      rfl
  · refine Ev.step (Ev.step (Ev.of fun N o n p m => ?_))
    have hs := sameL_len (kidsOf k) (kidsOf k2) (by rw [kidsOf_len, kidsOf_len]; exact hl)
    rw [C_expr_alike_K, C_slices_EqualFunc_Expr_by_expr_alike_K]
    simp only [sameE, hs, Bool.and_false]
    have hl' : ¬ ((k.len : Int) = (k2.len : Int)) := by omega
    refine if_both (fun _ => if_both (fun _ => bind_of (r := lookR [(0, .b false)]) (if_of (by simpa using hl') rfl) rfl) fun _ => rfl) fun _ => rfl
theorem Same_sp (k k2 : T) (hk : KW k) (hk2 : KW k2) : Ev fun N => ∀ o n p m, C_expr_Same (K N) o n k p m k2 = rb (lightE (.mk o n (kidsOf k)) && lightE (.mk p m (kidsOf k2)) && sameE (.mk o n (kidsOf k)) (.mk p m (kidsOf k2))) := by
  refine Ev.step (Ev.imp3 (light_sp k hk) (light_sp k2 hk2) (alike_sp k hk k2 hk2) fun N h1 h2 h3 o n p m => ?_)
  rw [C_expr_Same_K]
  refine bind_of (h1 _ _) ?_
  cases c1 : lightE (.mk o n (kidsOf k)) with
  | false => exact if_not rfl rfl
  | true =>
    refine if_of rfl (bind_of (h2 _ _) ?_)
    cases c2 : lightE (.mk p m (kidsOf k2)) with
    | false => exact if_not rfl rfl
    | true => exact if_of rfl (bind_of (h3 _ _ _ _) rfl)
end Go.Proofs.YtnlkhjileipmcaaGreat
