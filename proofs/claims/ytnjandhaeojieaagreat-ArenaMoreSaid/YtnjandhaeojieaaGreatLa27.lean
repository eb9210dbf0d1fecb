/- The document's own answers on values; the laws EvalSame and EvalForms. -/
import Derived.Test.YtnjandhaeojieaaGreatLa26
set_option linter.unusedVariables false
set_option linter.unusedSimpArgs false
namespace Go.AM
theorem sortedV_bool {v : Va} (h : sortedV v = 0) (h1 : v.sort = 1) : v.lo = 0 ∧ v.hi = 0 := by
  unfold sortedV at h
  rw [if_neg (by omega)] at h
  split at h
  · cases h
  · omega
end Go.AM
namespace Go.Proofs.YtnjandhaeojieaaGreat
open Go.AM
theorem totalB1 {h : H} {l : T} (hl : l.len ≤ 9223372036854775807) (hz : ∀ a b x y z, C_parryref1_Size h a b x y z = ri (sizeV ⟨a, b, x, y, z⟩)) (hp : ∀ v ∈ varsOf l, sortedV v = 0 ∧ 0 < sizeV v) {t : Int} (hq : C_parryref1_product h l = ri t) :
    ∀ (m i : Nat), i + m = l.len → ∀ N, 2 * m < N → parryref1_Total.B1 h N l l (l.len : Int) (i : Int) = ri t
  | 0, i, hi, N, hN => by
    obtain ⟨N, rfl⟩ : ∃ M, N = M + 1 := ⟨N - 1, by omega⟩
    rw [parryref1_Total.B1_eq]
    exact if_not (decide_eq_false (by omega)) (bind_of hq rfl)
  | m + 1, i, hi, N, hN => by
    obtain ⟨N, rfl⟩ : ∃ M, N = M + 1 + 1 := ⟨N - 2, by omega⟩
    have hlt : i < l.len := by omega
    have hmem : vaAt l i ∈ varsOf l := List.mem_of_getElem? (varsOf_get l hlt)
    obtain ⟨hso, hpos⟩ := hp _ hmem
    have ih := totalB1 hl hz hp hq m (i + 1) (by omega) N (by omega)
    have b2 : parryref1_Total.B2 h (N + 1) l l (l.len : Int) (i : Int) = ri t := by
      rw [parryref1_Total.B2_eq, wrap_eq (a := (i : Int) + 1) (by omega) (by omega)]; exact ih
    rw [parryref1_Total.B1_eq, Int.toNat_natCast]
    refine if_of (decide_eq_true (by omega)) (if_of (by simp; omega) (bind_of (hz _ _ _ _ _) (if_not ?_ (if_both (fun c => ?_) fun _ => b2))))
    · have : sizeV (vaAt l i) ≠ 0 := by omega
      show (sizeV (vaAt l i) == 0) = false
      simpa using this
    · have c : ((l.el i 2).int == 1) = true := c
      have hb := sortedV_bool hso (show (l.el i 2).int = 1 by simpa using c)
      have l0 : (l.el i 3).int = 0 := hb.1
      have h0 : (l.el i 4).int = 0 := hb.2
      exact if_not (by rw [l0]; rfl) (if_not (by rw [h0]; rfl) b2)
theorem refTotal_sp (l : T) (hl : l.len ≤ 9223372036854775807) (hm : mayV (varsOf l) = 0) : Ev fun N => C_parryref1_Total (K N) l = ri (totalE (varsOf l)) := by
  refine Ev.step (Ev.imp4 (refMay_sp l hl) refSize_sp (refProd_sp l hl) (Ev.ge (2 * l.len + 9)) fun N h1 h2 h3 hN => ?_)
  have htot := mayV_total hm
  have hp := totalE_pos htot
  have hlen := totalE_len htot
  rw [varsOf_len] at hlen
  have hpt : prodFrom (varsOf l) 1 ≤ 512 ∧ totalE (varsOf l) = prodFrom (varsOf l) 1 := by
    have e : totalE (varsOf l) = totalFrom (varsOf l) 1 := by unfold totalE; rw [if_neg (by rw [varsOf_len]; omega)]
    rcases prod_total (varsOf l) 1 (by omega) (by omega) (fun v hv => (hp v hv).1) with h | h
    · exact absurd (e.trans h.2) htot
    · exact ⟨h.1, e.trans h.2.2⟩
  obtain ⟨N, rfl⟩ : ∃ M, N = M + 1 := ⟨N - 1, by omega⟩
  rw [C_parryref1_Total_K]
  refine bind_of h1 (if_not (by simp [lookR_0, int_i, hm]) ?_)
  rw [parryref1_Total.B0_eq]
  refine if_not (decide_eq_false (by omega)) (bind_of h3 (if_not (decide_eq_false (by rw [lookR_0, int_i]; omega)) ?_))
  rw [hpt.2]
  exact totalB1 hl h2 hp h3 l.len 0 (by omega) N (by omega)
def VR (c : Option R) (v : Int × Int) : Prop := ∃ x, c = some (lookR [(0, .i x), (1, .b (decide (v.2 = 0)))]) ∧ (v.2 = 0 → x = v.1)
theorem VR.no {c : Option R} {v : Int × Int} (h : VR c v) (h0 : v.2 ≠ 0) : ∃ x, c = some (lookR [(0, .i x), (1, .b false)]) := by
  obtain ⟨x, h1, h2⟩ := h
  exact ⟨x, by rw [h1, decide_eq_false h0]⟩
theorem VR.mk {c : Option R} {x : Int} (h : c = some (lookR [(0, .i x), (1, .b true)])) : VR c (x, 0) := ⟨x, h, fun _ => rfl⟩
end Go.Proofs.YtnjandhaeojieaaGreat
