/- ExprSame: alike is alike in both ways; with one number as another one it is not. -/
import Derived.Test.YtfejbgnbganolaaLa9
set_option linter.unusedVariables false
set_option linter.unusedSimpArgs false
namespace Go.AM
mutual
def sameE : Ex → Ex → Bool
  | .mk o n ks, .mk p m ls => decide (o = p) && (decide (n = m) && sameL ks ls)
def sameL : List Ex → List Ex → Bool
  | [], [] => true
  | k :: ks, l :: ls => sameE k l && sameL ks ls
  | _, _ => false
end
mutual
theorem sameE_iff : ∀ a b : Ex, sameE a b = true ↔ a = b
  | .mk o n ks, .mk p m ls => by
    have ih := sameL_iff ks ls
    simp only [sameE, Bool.and_eq_true, decide_eq_true_eq, ih, Ex.mk.injEq]
theorem sameL_iff : ∀ a b : List Ex, sameL a b = true ↔ a = b
  | [], [] => by simp [sameL]
  | [], _ :: _ => by simp [sameL]
  | _ :: _, [] => by simp [sameL]
  | k :: ks, l :: ls => by
    have h1 := sameE_iff k l
    have h2 := sameL_iff ks ls
    simp only [sameL, Bool.and_eq_true, h1, h2, List.cons.injEq]
end
theorem sameL_len : ∀ (a b : List Ex), a.length ≠ b.length → sameL a b = false := by
  intro a b h
  cases hs : sameL a b with
  | false => rfl
  | true => rw [sameL_iff] at hs; exact absurd (congrArg List.length hs) h
theorem sameE_comm (a b : Ex) : sameE a b = sameE b a := by
  rw [Bool.eq_iff_iff, sameE_iff, sameE_iff]
  exact eq_comm
theorem sameE_self (a : Ex) : sameE a a = true := (sameE_iff a a).2 rfl
theorem light_number (o n m : Int) (ks : List Ex) : lightE (.mk o n ks) = lightE (.mk o m ks) := by
  have e : goesE (.mk o n ks) 1 0 false = goesE (.mk o m ks) 1 0 false := by simp only [goesE]
  unfold lightE nodesE
  rw [e]
theorem number_range {o n : Int} (h : numberE o n = true) : -1000 ≤ n ∧ n ≤ 1000 := by
  unfold numberE at h
  split at h
  · exact of_decide_eq_true h
  · split at h
    · have := of_decide_eq_true h; omega
    · split at h
      · have := of_decide_eq_true h; omega
      · have := of_decide_eq_true h; omega
theorem xor_self_iff {a b : Int} (ha : -9223372036854775808 ≤ a ∧ a ≤ 9223372036854775807) (hb : -9223372036854775808 ≤ b ∧ b ≤ 9223372036854775807) : bitsOf .xor .i64 a b = a ↔ b = 0 := by
  have hA : (BitVec.ofInt 64 a).toNat = (a % 18446744073709551616).toNat := by simp [BitVec.toNat_ofInt]
  have hB : (BitVec.ofInt 64 b).toNat = (b % 18446744073709551616).toNat := by simp [BitVec.toNat_ofInt]
  have hw : ∀ z : Int, 0 ≤ z → z < 18446744073709551616 → (IntKind.wrap .i64 z = a ↔ z = a % 18446744073709551616) := by
    intro z h1 h2
    simp only [IntKind.wrap, IntKind.signed, IntKind.bits]
    simp
    omega
  have e : bitsOf .xor .i64 a b = IntKind.wrap .i64 ((BitVec.ofInt 64 a ^^^ BitVec.ofInt 64 b).toNat : Int) := rfl
  have hlt : (BitVec.ofInt 64 a ^^^ BitVec.ofInt 64 b).toNat < 18446744073709551616 := (BitVec.ofInt 64 a ^^^ BitVec.ofInt 64 b).isLt
  rw [e, hw _ (by omega) (by omega)]
  have e2 : (((BitVec.ofInt 64 a ^^^ BitVec.ofInt 64 b).toNat : Int) = a % 18446744073709551616) ↔ BitVec.ofInt 64 a ^^^ BitVec.ofInt 64 b = BitVec.ofInt 64 a := by
    constructor
    · intro h
      exact BitVec.eq_of_toNat_eq (by rw [hA]; omega)
    · intro h
      rw [h, hA]; omega
  rw [e2]
  constructor
  · intro h
    have h1 : BitVec.ofInt 64 b = 0#64 := by
      have h2 : BitVec.ofInt 64 a ^^^ (BitVec.ofInt 64 a ^^^ BitVec.ofInt 64 b) = BitVec.ofInt 64 a ^^^ BitVec.ofInt 64 a := by rw [h]
      rw [← BitVec.xor_assoc, BitVec.xor_self, BitVec.zero_xor] at h2
      exact h2
    have h3 := congrArg BitVec.toNat h1
    rw [hB] at h3
    simp at h3
    omega
  · rintro rfl
    have h1 : BitVec.ofInt 64 0 = 0#64 := by rfl
    rw [h1, BitVec.xor_zero]
end Go.AM
namespace Go.Proofs.Ytfejbgnbganolaa
open Go.AM

theorem WT_int {x : T} (h : WT Try.prog 3 x) : -9223372036854775808 ≤ x.int ∧ x.int ≤ 9223372036854775807 := by
  have un3 : Try.prog.underlying 3 = some (.int .i64) := by kernel_rfl
  cases h with
  | int h hw =>
    rw [un3] at h
    cases h
    simp [Lit.wf, IntKind.min, IntKind.max, IntKind.signed, IntKind.bits] at hw
    exact hw
  | bool h => rw [un3] at h; cases h
  | str h hs => rw [un3] at h; cases h
  | sl h hn hg => rw [un3] at h; cases h
theorem alikeB {h : H} {k k2 : T} (hk : KW k) (hl : k.len = k2.len) (hc : ∀ i, i < k.len → ∀ o n p m, C_expr_alike h o n (k.el i 2) p m (k2.el i 2) = rb (sameE (.mk o n (kidsOf (k.el i 2))) (.mk p m (kidsOf (k2.el i 2))))) :
    ∀ (m i : Nat), i + m = k.len → ∀ N, m < N → slices_EqualFunc_Expr_by_expr_alike.B0 h N k2 k (k.len : Int) (i : Int) = rb (sameL ((kidsOf k).drop i) ((kidsOf k2).drop i))
  | 0, i, hi, N, hN => by
    obtain ⟨N, rfl⟩ : ∃ M, N = M + 1 := ⟨N - 1, by omega⟩
    rw [slices_EqualFunc_Expr_by_expr_alike.B0_eq, List.drop_of_length_le (by rw [kidsOf_len]; omega), List.drop_of_length_le (by rw [kidsOf_len]; omega)]
    exact if_not (decide_eq_false (by omega)) rfl
  | m + 1, i, hi, N, hN => by
    obtain ⟨N, rfl⟩ : ∃ M, N = M + 1 := ⟨N - 1, by omega⟩
    have hlen := hk.len
    have ih := alikeB (h := h) hk hl hc m (i + 1) (by omega) N (by omega)
    have e1 := hc i (by omega) (k.el i 0).int (k.el i 1).int (k2.el i 0).int (k2.el i 1).int
    have x1 : Ex.mk (k.el i 0).int (k.el i 1).int (kidsOf (k.el i 2)) = exAt k i := rfl
    have x2 : Ex.mk (k2.el i 0).int (k2.el i 1).int (kidsOf (k2.el i 2)) = exAt k2 i := rfl
    rw [x1, x2] at e1
    rw [slices_EqualFunc_Expr_by_expr_alike.B0_eq, kidsOf_from k i (by omega), kidsOf_from k2 i (by omega), wrap_eq (by omega) (by omega), Int.toNat_natCast]
    refine if_of (decide_eq_true (by omega)) (if_of (by simp; omega) (if_of (by simp; omega) (bind_of e1 ?_)))
    simp only [sameL]
    cases hs : sameE (exAt k i) (exAt k2 i) with
    | false => exact if_of rfl rfl
    | true => exact if_not rfl ih
theorem alike_sp : ∀ k, KW k → ∀ k2, KW k2 → Ev fun N => ∀ o n p m, C_expr_alike (K N) o n k p m k2 = rb (sameE (.mk o n (kidsOf k)) (.mk p m (kidsOf k2))) := by
  refine kids_ind fun k ih hk k2 hk2 => ?_
  by_cases hl : k.len = k2.len
  · refine Ev.step (Ev.step ((Ev.all (k := k.len) fun i hi => ih i hi (hk.el hi) (k2.el i 2) (hk2.el (by omega))).imp2 (Ev.ge (k.len + 1)) fun N hc hN o n p m => ?_))
    have hb := alikeB (h := K N) hk hl hc k.len 0 (by omega) N (by omega)
    rw [C_expr_alike_K, C_slices_EqualFunc_Expr_by_expr_alike_K]
    simp only [sameE]
    by_cases c1 : o = p
    · by_cases c2 : n = m
      · refine if_of (by simpa using c1) (if_of (by simpa using c2) (bind_of (r := lookR [(0, .b (sameL (kidsOf k) (kidsOf k2)))]) (if_not (by simp [hl]) hb) ?_))
        rw [decide_eq_true c1, decide_eq_true c2]
        rfl
      · refine if_of (by simpa using c1) (if_not (by simpa using c2) ?_)
        rw [decide_eq_true c1, decide_eq_false c2]
        rfl
    · refine if_not (by simpa using c1) ?_
      rw [decide_eq_false c1]
      rfl
  · refine Ev.step (Ev.step (Ev.of fun N o n p m => ?_))
    have hs := sameL_len (kidsOf k) (kidsOf k2) (by rw [kidsOf_len, kidsOf_len]; exact hl)
    rw [C_expr_alike_K, C_slices_EqualFunc_Expr_by_expr_alike_K]
    simp only [sameE, hs, Bool.and_false]
    have hl' : ¬ ((k.len : Int) = (k2.len : Int)) := by omega
    refine if_both (fun _ => if_both (fun _ => bind_of (r := lookR [(0, .b false)]) (if_of (by simpa using hl') rfl) rfl) fun _ => rfl) fun _ => rfl
theorem Same_sp (k k2 : T) (hk : KW k) (hk2 : KW k2) : Ev fun N => ∀ o n p m, C_expr_Same (K N) o n k p m k2 = rb (lightE (.mk o n (kidsOf k)) && lightE (.mk p m (kidsOf k2)) && sameE (.mk o n (kidsOf k)) (.mk p m (kidsOf k2))) := by
  refine Ev.step (Ev.imp3 (light_sp k hk) (light_sp k2 hk2) (alike_sp k hk k2 hk2) fun N h1 h2 h3 o n p m => ?_)
  rw [C_expr_Same_K]
  refine bind_of (h1 _ _) ?_
  cases c1 : lightE (.mk o n (kidsOf k)) with
  | false => exact if_not rfl rfl
  | true =>
    refine if_of rfl (bind_of (h2 _ _) ?_)
    cases c2 : lightE (.mk p m (kidsOf k2)) with
    | false => exact if_not rfl rfl
    | true => exact if_of rfl (bind_of (h3 _ _ _ _) rfl)
theorem ExprSame_sp (a0 a1 : Int) (ak : T) (b0 b1 : Int) (bk : T) (by_ : Int) (ha : WT Try.prog 28 ak) (hb : WT Try.prog 28 bk) (hr : -9223372036854775808 ≤ by_ ∧ by_ ≤ 9223372036854775807) : Ev fun N => C_parrylaw2_ExprSame (K N) a0 a1 ak b0 b1 bk by_ = rb true := by
  have hka := WT_KW ha
  have hkb := WT_KW hb
  refine Ev.step (Ev.imp4 (Ev.and (heavyE_sp ak hka) (heavyE_sp bk hkb)) (Ev.and (Same_sp ak bk hka hkb) (Ev.and (Same_sp bk ak hkb hka) (Same_sp ak ak hka hka))) (Ev.and (Ev.and (May_sp ak hka) (May_sp bk hkb)) (Ev.and (Nodes_sp ak hka) (Nodes_sp bk hkb))) (Ev.and awake2_sp (Ev.ge 5)) fun N h1 h2 h3 h4 => ?_)
  obtain ⟨hy, hz⟩ := h1
  obtain ⟨hab, hba, haa⟩ := h2
  obtain ⟨⟨hma, hmb⟩, hna, hnb⟩ := h3
  obtain ⟨haw, hN⟩ := h4
  obtain ⟨y, hy⟩ := hy a0 a1
  obtain ⟨z, hz⟩ := hz b0 b1
  obtain ⟨N, rfl⟩ : ∃ M, N = M + 1 := ⟨N - 1, by omega⟩
  have aw : ((C_parrylaw2_awake (K (N + 1))).bind fun r => some (lookR [(0, T.b (r 0).bool)])) = rb true := by rw [haw]; rfl
  obtain ⟨A, eA⟩ : ∃ A, Ex.mk a0 a1 (kidsOf ak) = A := ⟨_, rfl⟩
  obtain ⟨B, eB⟩ : ∃ B, Ex.mk b0 b1 (kidsOf bk) = B := ⟨_, rfl⟩
  have sab := hab a0 a1 b0 b1
  have sba := hba b0 b1 a0 a1
  have saa := haa a0 a1 a0 a1
  have ma := hma a0 a1
  have mb := hmb b0 b1
  have na := hna a0 a1
  have nb := hnb b0 b1
  rw [eA, eB] at sab sba
  rw [eA] at saa ma na
  rw [eB] at mb nb
  have xc : (lightE B && lightE A && sameE B A) = (lightE A && lightE B && sameE A B) := by rw [sameE_comm B A, Bool.and_comm (lightE B)]
  rw [xc] at sba
  obtain ⟨x, ex⟩ : ∃ x, (lightE A && lightE B && sameE A B) = x := ⟨_, rfl⟩
  rw [ex] at sab sba
  have hx : x = true → A = B := by
    intro h
    rw [← ex, Bool.and_eq_true] at h
    exact (sameE_iff A B).1 h.2
  have tail : ((bif !x then (C_parrylaw2_awake (K (N + 1))).bind fun r => some (lookR [(0, T.b (r 0).bool)]) else
      (C_expr_May (K (N + 1)) a0 a1 ak).bind fun r1 => (C_expr_May (K (N + 1)) b0 b1 bk).bind fun r2 => bif ((r1 0).int == (r2 0).int) then (C_expr_Nodes (K (N + 1)) a0 a1 ak).bind fun r3 => (C_expr_Nodes (K (N + 1)) b0 b1 bk).bind fun r4 => (bif ((r3 0).int == (r4 0).int) then (C_parrylaw2_awake (K (N + 1))).bind fun r => some (lookR [(0, T.b (r 0).bool)]) else some (lookR [(0, T.b false)])) else some (lookR [(0, T.b false)]))) = rb true := by
    cases c : x with
    | false => exact if_of rfl aw
    | true =>
      have e := hx c
      rw [← e] at mb nb
      exact if_not rfl (bind_of ma (bind_of mb (if_of (by simp [lookR_0, int_i]) (bind_of na (bind_of nb (if_of (by simp [lookR_0, int_i]) aw))))))
  have block : parrylaw2_ExprSame.B0 (K (N + 1)) (N + 1) by_ x a0 a1 ak b0 b1 bk a0 (bitsOf .xor .i64 a1 by_) ak = rb true := by
    rw [parrylaw2_ExprSame.B0_eq]
    refine bind_of ma (if_both (fun _ => tail) fun c => ?_)
    have c : mayE A = 0 := by simpa [lookR_0, int_i] using c
    obtain ⟨c1, c2⟩ := mayE_inv c
    have sac := haa a0 a1 a0 (bitsOf .xor .i64 a1 by_)
    have hn : numberE a0 a1 = true := by
      rw [← eA] at c1
      simp only [soundE, Bool.and_eq_true] at c1
      exact c1.1.2
    have hr1 := number_range hn
    have hxor := xor_self_iff (a := a1) (b := by_) (by omega) hr
    refine bind_of sac (if_of ?_ tail)
    rw [lookR_0, bool_b, light_number a0 (bitsOf .xor .i64 a1 by_) a1, eA, c2, ← eA]
    have e3 : sameE (.mk a0 a1 (kidsOf ak)) (.mk a0 (bitsOf .xor .i64 a1 by_) (kidsOf ak)) = (by_ == 0) := by
      rw [Bool.eq_iff_iff, sameE_iff, beq_iff_eq, ← hxor]
      constructor
      · intro h; rw [Ex.mk.injEq] at h; exact h.2.1.symm
      · intro h; rw [h]
    rw [e3]
    simp
  rw [C_parrylaw2_ExprSame_K]
  refine bind_of hy (bind_of hz (if_both (fun _ => aw) fun _ => bind_of sab (bind_of sba (if_not (by simp [lookR_0, bool_b]) (bind_of ma (if_both (fun c => ?_) fun _ => block))))))
  have c : mayE A = 0 := by simpa [lookR_0, int_i] using c
  have hl := (mayE_inv c).2
  refine bind_of saa (if_not ?_ block)
  rw [lookR_0, bool_b, hl, sameE_self]
  rfl
end Go.Proofs.Ytfejbgnbganolaa
