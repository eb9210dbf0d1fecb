/- EvalReads: a variable is its value in the state that is now, its next value that in the next one. -/
import Derived.Test.YtfejbgnbganolaaLa3
set_option linter.unusedVariables false
set_option linter.unusedSimpArgs false
namespace Go.Proofs.Ytfejbgnbganolaa
open Go.AM

theorem wrapu_eq {a : Int} (h1 : 0 ≤ a) (h2 : a < 18446744073709551616) : IntKind.wrap .u64 a = a := by
  have : IntKind.wrap .u64 a = a % 18446744073709551616 := rfl
  rw [this]; omega
theorem wrapu_nonneg (a : Int) : 0 ≤ IntKind.wrap .u64 a := by
  have : IntKind.wrap .u64 a = a % 18446744073709551616 := rfl
  rw [this]; omega
theorem mod_range (a : Int) {n : Int} (h1 : 0 < n) (h2 : n ≤ 9223372036854775807) : 0 ≤ IntKind.wrap .i64 (Int.tmod (IntKind.wrap .u64 a) (IntKind.wrap .u64 n)) ∧ IntKind.wrap .i64 (Int.tmod (IntKind.wrap .u64 a) (IntKind.wrap .u64 n)) < n := by
  rw [wrapu_eq (a := n) (by omega) (by omega)]
  have h3 : 0 ≤ Int.tmod (IntKind.wrap .u64 a) n := Int.tmod_nonneg _ (wrapu_nonneg a)
  have h4 : Int.tmod (IntKind.wrap .u64 a) n < n := Int.tmod_lt_of_pos _ h1
  rw [wrap_eq (by omega) (by omega)]
  exact ⟨h3, h4⟩
/-- A variable and its next value, side by side. -/
def varNext (v : Int) : T := T.l 2 fun i j => (([[.i 3, .i v, noT], [.i 4, .i v, noT]] : List (List T)).getD (0 + i) []).getD j (.b false)
theorem KW_varNext (v : Int) : KW (varNext v) := KW_two KW_noT KW_noT
theorem kidsOf_varNext (v : Int) : kidsOf (varNext v) = [.mk 3 v [], .mk 4 v []] := by simp only [varNext, kidsOf]; rfl
theorem light_one (op n : Int) : lightE (.mk op n []) = true := by simp [lightE, nodesE, goesE, goesL]
theorem light_two (op n a b c d : Int) : lightE (.mk op n [.mk a b [], .mk c d []]) = true := by simp [lightE, nodesE, goesE, goesL]
theorem Reads4_sp (l : T) (now next v : Int) (hw : WT Try.prog 36 l) : Ev fun N => C_parrylaw4_EvalReads (K N) l now next v = rb true := by
  have hl := WT_len hw
  obtain ⟨a, ea⟩ : ∃ a, IntKind.wrap .i64 (Int.tmod (IntKind.wrap .u64 now) (IntKind.wrap .u64 (totalE (varsOf l)))) = a := ⟨_, rfl⟩
  obtain ⟨b, eb⟩ : ∃ b, IntKind.wrap .i64 (Int.tmod (IntKind.wrap .u64 next) (IntKind.wrap .u64 (totalE (varsOf l)))) = b := ⟨_, rfl⟩
  obtain ⟨c, ec⟩ : ∃ c, IntKind.wrap .i64 (Int.tmod (IntKind.wrap .u64 v) (IntKind.wrap .u64 (l.len : Int))) = c := ⟨_, rfl⟩
  have hv := Ev.and (Value_sp l hl noT KW_noT) (True_sp l hl (varNext c) (KW_varNext c))
  refine Ev.step (Ev.imp4 (Ev.and (heavyV_sp l hl) (refMay_sp l hl)) (Ev.and awake_sp (Total_sp l hl)) (Values_sp l hl) hv fun N h1 h2 h3 h4 => ?_)
  obtain ⟨⟨x, hx⟩, hm⟩ := h1
  obtain ⟨haw, ht⟩ := h2
  obtain ⟨hval, htru⟩ := h4
  have aw : ∀ {z : Option R}, ((C_parrylaw4_awake (K N)).bind fun r => some (lookR [(0, T.b (r 0).bool)])) = z → z = rb true := fun h => by rw [← h, haw]; rfl
  have aw' : ((C_parrylaw4_awake (K N)).bind fun r => some (lookR [(0, T.b (r 0).bool)])) = rb true := by rw [haw]; rfl
  rw [C_parrylaw4_EvalReads_K]
  refine bind_of hx (if_both (fun _ => aw') fun _ => bind_of hm (if_both (fun _ => aw') fun hm0 => if_both (fun _ => aw') fun hn0 => bind_of ht ?_))
  have hm0 : mayV (varsOf l) = 0 := by simpa [lookR_0, int_i] using hm0
  have hn0 : l.len ≠ 0 := by simp at hn0; omega
  have htot := totalE_range (varsOf l)
  have htn := mayV_total hm0
  have hlen : l.len ≤ 6 := by have := totalE_len htn; rw [varsOf_len] at this; exact this
  have hna := mod_range now (n := totalE (varsOf l)) (by omega) (by omega)
  have hnb := mod_range next (n := totalE (varsOf l)) (by omega) (by omega)
  have hnc := mod_range v (n := (l.len : Int)) (by omega) (by omega)
  rw [ea] at hna
  rw [eb] at hnb
  rw [ec] at hnc
  have oka : valuesOk (varsOf l) a = true := by unfold valuesOk; exact decide_eq_true ⟨hm0, hna⟩
  have okb : valuesOk (varsOf l) b = true := by unfold valuesOk; exact decide_eq_true ⟨hm0, hnb⟩
  obtain ⟨ta, hta, ia⟩ := h3 a
  obtain ⟨tb, htb, ib⟩ := h3 b
  have ia := ia oka
  have ib := ib okb
  rw [oka] at hta
  rw [okb] at htb
  have lta : ta.len = l.len := by rw [ia.1, valuesFrom_len, varsOf_len]
  have ltb : tb.len = l.len := by rw [ib.1, valuesFrom_len, varsOf_len]
  have hcl : c.toNat < l.len := by omega
  have hva : (varsOf l)[c.toNat]? = some (vaAt l c.toNat) := varsOf_get l hcl
  have cc : ((c.toNat : Nat) : Int) = c := Int.toNat_of_nonneg hnc.1
  have xa : (valuesFrom (varsOf l) a)[c.toNat]? = some (ta.el c.toNat 0).int := by
    have h : c.toNat < (valuesFrom (varsOf l) a).length := by rw [valuesFrom_len, varsOf_len]; exact hcl
    rw [List.getElem?_eq_getElem h, ia.2 _ _ (List.getElem?_eq_getElem h)]
  have xb : (valuesFrom (varsOf l) b)[c.toNat]? = some (tb.el c.toNat 0).int := by
    have h : c.toNat < (valuesFrom (varsOf l) b).length := by rw [valuesFrom_len, varsOf_len]; exact hcl
    rw [List.getElem?_eq_getElem h, ib.2 _ _ (List.getElem?_eq_getElem h)]
  have t3 : Typed (varsOf l) (.mk 3 c []) (vaAt l c.toNat).sort := by have := Typed.var (l := varsOf l) (op := 3) (.inl rfl) hva (by omega); rw [cc] at this; exact this
  have t4 : Typed (varsOf l) (.mk 4 c []) (vaAt l c.toNat).sort := by have := Typed.var (l := varsOf l) (op := 4) (.inr rfl) hva (by omega); rw [cc] at this; exact this
  have t9 : Typed (varsOf l) (.mk 9 0 [.mk 3 c [], .mk 4 c []]) 1 := .same t3 t4
  have v3 : valE (valuesFrom (varsOf l) a) (valuesFrom (varsOf l) b) (.mk 3 c []) = ((ta.el c.toNat 0).int, 0) := by rw [valE_now, List.getD_eq_getElem?_getD, xa]; rfl
  have v4 : valE (valuesFrom (varsOf l) a) (valuesFrom (varsOf l) b) (.mk 4 c []) = ((tb.el c.toNat 0).int, 0) := by rw [valE_next, List.getD_eq_getElem?_getD, xb]; rfl
  have e3 := hval 3 c a b
  rw [kidsOf_noT, value_of hm0 (mayE_of t3 (light_one ..)) t3 hna hnb, v3] at e3
  have e4 := hval 4 c a b
  rw [kidsOf_noT, value_of hm0 (mayE_of t4 (light_one ..)) t4 hna hnb, v4] at e4
  have e5 := hval 3 c (totalE (varsOf l)) b
  have s3 := sort_of hm0 (mayE_of t3 (light_one ..)) t3
  have e5v : valueE (varsOf l) (.mk 3 c []) (totalE (varsOf l)) b = (0, 1) := by
    unfold valueE
    have h0 : valuesOk (varsOf l) (totalE (varsOf l)) = false := by
      unfold valuesOk
      exact decide_eq_false (by omega)
    rw [s3, if_neg (by simp), if_pos (.inl h0)]
  rw [kidsOf_noT, e5v] at e5
  have e9 := htru 9 0 a b
  have v9 : trueE (varsOf l) (.mk 9 0 [.mk 3 c [], .mk 4 c []]) a b = ((ta.el c.toNat 0).int == (tb.el c.toNat 0).int) := by
    unfold trueE
    rw [sort_of hm0 (mayE_of t9 (light_two ..)) t9, value_of hm0 (mayE_of t9 (light_two ..)) t9 hna hnb, valE_two _ _ ⟨by omega, by omega⟩, v3, v4]
    have e : twoE 9 (ta.el c.toNat 0).int (tb.el c.toNat 0).int = bitE ((ta.el c.toNat 0).int == (tb.el c.toNat 0).int) := rfl
    rw [if_neg (by simp), if_neg (by simp), e]
    cases ((ta.el c.toNat 0).int == (tb.el c.toNat 0).int) <;> simp [bitE]
  rw [kidsOf_varNext, v9] at e9
  simp only [lookR_0, int_i, ea, eb, ec]
  have hu1 : (!(IntKind.wrap .u64 (totalE (varsOf l)) == 0)) = true := by rw [wrapu_eq (by omega) (by omega)]; simp; omega
  have hu2 : (!(IntKind.wrap .u64 (l.len : Int) == 0)) = true := by rw [wrapu_eq (by omega) (by omega)]; simp; omega
  refine if_not (decide_eq_false (by omega)) (if_of hu1 (if_of hu1 (if_of hu2 (bind_of hta (bind_of htb ?_)))))
  have ra : (decide ((0 : Int) ≤ c) && decide (c < ((ta.len : Nat) : Int))) = true := by simp; omega
  have rbb : (decide ((0 : Int) ≤ c) && decide (c < ((tb.len : Nat) : Int))) = true := by simp; omega
  have ra' : decide (0 + c.toNat < ta.len) = true := decide_eq_true (by omega)
  have rb' : decide (0 + c.toNat < tb.len) = true := decide_eq_true (by omega)
  refine if_not rfl (if_not rfl (if_not (by simp [lookR_0, lta]) (if_not (by simp [lookR_0, ltb]) ?_)))
  refine bind_of e3 (bind_of e4 (bind_of e5 (if_of rfl (if_of rfl (if_of ra (if_of ra' (if_of (by simp [lookR_0, int_i]) (if_of rbb (if_of rb' (if_of (by simp [lookR_0, int_i]) (if_of rfl ?_)))))))))))
  exact bind_of e9 (if_of ra (if_of ra' (if_of rbb (if_of rb' (if_of (by simp [lookR_0, bool_b]) aw')))))
end Go.Proofs.Ytfejbgnbganolaa
