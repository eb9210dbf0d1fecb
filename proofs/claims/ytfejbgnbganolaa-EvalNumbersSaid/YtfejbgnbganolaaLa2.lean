/- EvalNumbers: sums, differences, products and comparisons of numbers. -/
import Derived.Test.YtfejbgnbganolaaLa1
set_option linter.unusedVariables false
set_option linter.unusedSimpArgs false
namespace Go.Proofs.Ytfejbgnbganolaa
open Go.AM

theorem mayV_nil : mayV [] = 0 := by decide +kernel
theorem mayE_two {o a b : Int} (ho : 9 ≤ o ∧ o ≤ 14) (ha : -1000 ≤ a ∧ a ≤ 1000) (hb : -1000 ≤ b ∧ b ≤ 1000) : mayE (.mk o 0 [.mk 1 a [], .mk 1 b []]) = 0 := by
  have h1 : lightE (.mk o 0 [.mk 1 a [], .mk 1 b []]) = true := by
    simp [lightE, nodesE, goesE, goesL]
  have hk : kidsN o = 2 := by unfold kidsN; rw [if_neg (by omega), if_neg (by omega), if_pos (by omega)]
  have h2 : soundE (.mk o 0 [.mk 1 a [], .mk 1 b []]) = true := by
    have h3 : numberE o 0 = true := by unfold numberE; rw [if_neg (by omega), if_neg (by omega), if_neg (by omega)]; rfl
    simp [soundE, soundL, hk, h3, numberE, show kidsN 1 = 0 from rfl, ha, hb]
  unfold mayE
  rw [if_pos h1, if_pos h2]
theorem sort_two {o a b : Int} (ho : 9 ≤ o ∧ o ≤ 14) (ha : -1000 ≤ a ∧ a ≤ 1000) (hb : -1000 ≤ b ∧ b ≤ 1000) : sortE [] (.mk o 0 [.mk 1 a [], .mk 1 b []]) = (if o ≤ 11 then 1 else 2, 0) := by
  have hm := mayE_two ho ha hb
  have hs : soundE (.mk o 0 [.mk 1 a [], .mk 1 b []]) = true := by
    unfold mayE at hm
    split at hm
    · split at hm
      · assumption
      · cases hm
    · cases hm
  unfold sortE
  rw [if_neg (by simp [mayV_nil]), if_neg (by simp [hm])]
  have ta : Typed [] (.mk 1 a []) 2 := .num ha.1 ha.2
  have tb : Typed [] (.mk 1 b []) 2 := .num hb.1 hb.2
  refine (ofE_typed (fun v hv => by cases hv) _ hs).2 _ ?_
  by_cases h9 : o = 9
  · subst h9; exact .same ta tb
  · by_cases h11 : o ≤ 11
    · rw [if_pos h11]; exact .less (by omega) ta tb
    · rw [if_neg h11]; exact .sum (by omega) ta tb
theorem value_two {o a b : Int} (ho : 9 ≤ o ∧ o ≤ 14) (ha : -1000 ≤ a ∧ a ≤ 1000) (hb : -1000 ≤ b ∧ b ≤ 1000) : valueE [] (.mk o 0 [.mk 1 a [], .mk 1 b []]) 0 0 = if twoE o a b < -1000 ∨ 1000 < twoE o a b then (0, 6) else (twoE o a b, 0) := by
  unfold valueE
  rw [sort_two ho ha hb, if_neg (by simp), if_neg (by decide +kernel)]
  simp only [valE, valL]
  simp [nodeV, show ¬ o = 1 by omega, show ¬ o = 2 by omega, show ¬ o = 3 by omega, show ¬ o = 4 by omega, show ¬ (o < 9 ∨ o = 15) by omega]
theorem true_two {o a b : Int} (ho : 9 ≤ o ∧ o ≤ 11) (ha : -1000 ≤ a ∧ a ≤ 1000) (hb : -1000 ≤ b ∧ b ≤ 1000) : trueE [] (.mk o 0 [.mk 1 a [], .mk 1 b []]) 0 0 = decide (twoE o a b = 1) := by
  have h0 : -1000 ≤ twoE o a b ∧ twoE o a b ≤ 1000 := by
    unfold twoE bitE
    repeat' split
    all_goals omega
  unfold trueE
  rw [sort_two ⟨ho.1, by omega⟩ ha hb, value_two ⟨ho.1, by omega⟩ ha hb, if_pos ho.2, if_neg (show ¬ (twoE o a b < -1000 ∨ 1000 < twoE o a b) by omega)]
  simp
theorem bit_one (b : Bool) : decide (bitE b = 1) = b := by cases b <;> rfl
theorem num_range (x : Int) : -1000 ≤ IntKind.wrap .i64 (IntKind.wrap .i64 (Int.tmod (IntKind.wrap .u64 x) 2001) - 1000) ∧ IntKind.wrap .i64 (IntKind.wrap .i64 (Int.tmod (IntKind.wrap .u64 x) 2001) - 1000) ≤ 1000 := by
  have h0 : 0 ≤ IntKind.wrap .u64 x := by
    have : IntKind.wrap .u64 x = x % 18446744073709551616 := rfl
    rw [this]; omega
  have h1 : 0 ≤ Int.tmod (IntKind.wrap .u64 x) 2001 := Int.tmod_nonneg _ h0
  have h2 : Int.tmod (IntKind.wrap .u64 x) 2001 < 2001 := Int.tmod_lt_of_pos _ (by omega)
  rw [wrap_eq (a := Int.tmod (IntKind.wrap .u64 x) 2001) (by omega) (by omega), wrap_eq (by omega) (by omega)]
  omega
theorem mul_range {a b : Int} (ha : -1000 ≤ a ∧ a ≤ 1000) (hb : -1000 ≤ b ∧ b ≤ 1000) : -1000000 ≤ a * b ∧ a * b ≤ 1000000 := by
  have h : (a * b).natAbs ≤ 1000 * 1000 := by
    rw [Int.natAbs_mul]
    exact Nat.mul_le_mul (by omega) (by omega)
  omega
theorem Numbers_sp (x y : Int) : Ev fun N => C_parrylaw4_EvalNumbers (K N) x y = rb true := by
  obtain ⟨a, ea⟩ : ∃ a, IntKind.wrap .i64 (IntKind.wrap .i64 (Int.tmod (IntKind.wrap .u64 x) 2001) - 1000) = a := ⟨_, rfl⟩
  obtain ⟨b, eb⟩ : ∃ b, IntKind.wrap .i64 (IntKind.wrap .i64 (Int.tmod (IntKind.wrap .u64 y) 2001) - 1000) = b := ⟨_, rfl⟩
  have ha := num_range x
  have hb := num_range y
  rw [ea] at ha
  rw [eb] at hb
  have hm := mul_range ha hb
  have hl : noT.len ≤ 140737488355328 := by show 0 ≤ _; omega
  have hv : varsOf noT = [] := rfl
  refine Ev.step (Ev.imp4 num_sp op_sp awake_sp (Ev.and (Ev.ge 10) (Ev.and (Value_sp noT hl (num2 a b) (KW_num2 ..)) (True_sp noT hl (num2 a b) (KW_num2 ..)))) fun N h1 h2 h3 h4 => ?_)
  obtain ⟨hN, h4, h5⟩ := h4
  have hval : ∀ o, 12 ≤ o → o ≤ 14 → C_eval_Value (K N) noT o 0 (num2 a b) 0 0 = (if twoE o a b < -1000 ∨ 1000 < twoE o a b then rii 0 6 else rii (twoE o a b) 0) := by
    intro o h6 h7
    rw [h4, hv, kidsOf_num2, value_two ⟨by omega, h7⟩ ha hb]
    split <;> rfl
  have htrue : ∀ o, 9 ≤ o → o ≤ 11 → C_eval_True (K N) noT o 0 (num2 a b) 0 0 = rb (decide (twoE o a b = 1)) := by
    intro o h6 h7
    rw [h5, hv, kidsOf_num2, true_two ⟨h6, h7⟩ ha hb]
  obtain ⟨N, rfl⟩ : ∃ M, N = M + 10 := ⟨N - 10, by omega⟩
  rw [C_parrylaw4_EvalNumbers_K, ea, eb, wrap_eq (a := a + b) (by omega) (by omega), wrap_eq (a := a - b) (by omega) (by omega), wrap_eq (a := a * b) (by omega) (by omega)]
  have three : ∀ (c : Int) (z : Option R), (z = if c < -1000 ∨ 1000 < c then rii 0 6 else rii c 0) → ∀ (g : Option R), g = rb true →
      (z.bind fun r => (bif decide (c < -1000) then (bif ((r 0).int != 0) then some (lookR [(0, .b false)]) else bif ((r 1).int != 6) then some (lookR [(0, .b false)]) else g) else (bif decide (c > 1000) then (bif ((r 0).int != 0) then some (lookR [(0, .b false)]) else bif ((r 1).int != 6) then some (lookR [(0, .b false)]) else g) else (bif ((r 0).int != c) then some (lookR [(0, .b false)]) else (bif ((r 1).int != 0) then some (lookR [(0, .b false)]) else g))))) = rb true := by
    intro c z hz g hg
    by_cases c1 : c < -1000
    · rw [if_pos (.inl c1)] at hz
      rw [hz]
      refine if_of (by simpa using c1) (if_not rfl (if_not rfl hg))
    · by_cases c2 : 1000 < c
      · rw [if_pos (.inr c2)] at hz
        rw [hz]
        refine if_not (by simpa using c1) (if_of (by simpa using c2) (if_not rfl (if_not rfl hg)))
      · rw [if_neg (by omega)] at hz
        rw [hz]
        refine if_not (by simpa using c1) (if_not (by simpa using c2) (if_not (by simp [lookR_0, int_i]) (if_not rfl hg)))
  have v12 := hval 12 (by omega) (by omega)
  have v13 := hval 13 (by omega) (by omega)
  have v14 := hval 14 (by omega) (by omega)
  have t12 : twoE 12 a b = a + b := rfl
  have t13 : twoE 13 a b = a - b := rfl
  have t14 : twoE 14 a b = a * b := rfl
  rw [t12] at v12
  rw [t13] at v13
  rw [t14] at v14
  have u10 := htrue 10 (by omega) (by omega)
  have u11 := htrue 11 (by omega) (by omega)
  have u9 := htrue 9 (by omega) (by omega)
  rw [show twoE 10 a b = bitE (decide (a < b)) from rfl, bit_one] at u10
  rw [show twoE 11 a b = bitE (decide (a ≤ b)) from rfl, bit_one] at u11
  rw [show twoE 9 a b = bitE (a == b) from rfl, bit_one] at u9
  rw [parrylaw4_EvalNumbers.B0_eq]
  refine if_of rfl (if_of rfl (bind_of (h1 _) (bind_of (h1 _) (bind_of (h2 _ _) (three _ _ v12 _ ?_)))))
  rw [parrylaw4_EvalNumbers.B1_eq, parrylaw4_EvalNumbers.B0_eq]
  refine if_of rfl (if_not rfl (if_of rfl (bind_of (h1 _) (bind_of (h1 _) (bind_of (h2 _ _) (three _ _ v13 _ ?_))))))
  rw [parrylaw4_EvalNumbers.B1_eq, parrylaw4_EvalNumbers.B0_eq]
  refine if_of rfl (if_not rfl (if_not rfl (if_of rfl (bind_of (h1 _) (bind_of (h1 _) (bind_of (h2 _ _) (three _ _ v14 _ ?_)))))))
  rw [parrylaw4_EvalNumbers.B1_eq, parrylaw4_EvalNumbers.B0_eq]
  refine if_not rfl (bind_of (h1 _) (bind_of (h1 _) (bind_of (h2 _ _) (bind_of u10 (if_of (by simp [lookR_0, bool_b]) ?_)))))
  refine bind_of (h1 _) (bind_of (h1 _) (bind_of (h2 _ _) (bind_of u11 (if_of (by simp [lookR_0, bool_b]) ?_))))
  exact bind_of (h1 _) (bind_of (h1 _) (bind_of (h2 _ _) (bind_of u9 (if_of (by simp [lookR_0, bool_b]) (bind_of h3 rfl)))))
end Go.Proofs.Ytfejbgnbganolaa
