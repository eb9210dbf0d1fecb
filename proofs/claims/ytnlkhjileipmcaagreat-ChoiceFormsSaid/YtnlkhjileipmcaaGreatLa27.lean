/- The document's own answers on values; the laws EvalSame and EvalForms. -/
import Derived.Test.YtnlkhjileipmcaaGreatLa26
set_option linter.unusedVariables false
set_option linter.unusedSimpArgs false
namespace Go.AM
theorem sortedV_bool {v : Va} (h : sortedV v = 0) (h1 : v.sort = 1) : v.lo = 0 ∧ v.hi = 0 := by
  unfold sortedV at h
  rw [if_neg (by omega)] at h
  split at h
  · cases h
  · omega
theorem sortedV_low {v : Va} (h : sortedV v = 0) : lowV v = v.lo := by
  unfold lowV
  split
  · rename_i h1; exact (sortedV_bool h h1).1.symm
  · rfl
theorem nodeV_err {now next : List Int} {op n : Int} {vs : List (Int × Int)} (h : ∀ v ∈ vs, v.2 = 0 ∨ v.2 = 6) : (nodeV now next op n vs).2 = 0 ∨ (nodeV now next op n vs).2 = 6 := by
  have g : ∀ j, (vs.getD j (0, 0)).2 = 0 ∨ (vs.getD j (0, 0)).2 = 6 := by
    intro j
    rw [List.getD_eq_getElem?_getD]
    cases c : vs[j]? with
    | none => exact .inl rfl
    | some v => exact h v (List.mem_of_getElem? c)
  unfold nodeV
  repeat' split
  all_goals first | exact .inl rfl | exact .inr rfl | exact g _
mutual
theorem valE_err (now next : List Int) : ∀ e : Ex, (valE now next e).2 = 0 ∨ (valE now next e).2 = 6
  | .mk op n ks => by
    simp only [valE]
    exact nodeV_err (valL_err now next ks)
theorem valL_err (now next : List Int) : ∀ ks : List Ex, ∀ v ∈ valL now next ks, v.2 = 0 ∨ v.2 = 6
  | [], v, h => by simp [valL] at h
  | k :: ks, v, h => by
    simp only [valL, List.mem_cons] at h
    rcases h with rfl | h
    · exact valE_err now next k
    · exact valL_err now next ks v h
end
mutual
theorem valE_zero (now next : List Int) : ∀ e : Ex, (valE now next e).2 ≠ 0 → (valE now next e).1 = 0
  | .mk op n ks => by
    simp only [valE]
    have hz := valL_zero now next ks
    have g : ∀ j, ((valL now next ks).getD j (0, 0)).2 ≠ 0 → ((valL now next ks).getD j (0, 0)).1 = 0 := by
      intro j
      rw [List.getD_eq_getElem?_getD]
      cases c : (valL now next ks)[j]? with
      | none => intro _; rfl
      | some v => exact hz v (List.mem_of_getElem? c)
    unfold nodeV
    repeat' split
    all_goals first | (intro h; exact absurd rfl h) | (intro _; rfl) | exact g _
theorem valL_zero (now next : List Int) : ∀ ks : List Ex, ∀ v ∈ valL now next ks, v.2 ≠ 0 → v.1 = 0
  | [], v, h => by simp [valL] at h
  | k :: ks, v, h => by
    simp only [valL, List.mem_cons] at h
    rcases h with rfl | h
    · exact valE_zero now next k
    · exact valL_zero now next ks v h
end
end Go.AM
namespace Go.Proofs.YtnlkhjileipmcaaGreat
open Go.AM
theorem totalB1 {h : H} {l : T} (hl : l.len ≤ 9223372036854775807) (hz : ∀ a b x y z, C_parryref1_Size h a b x y z = ri (sizeV ⟨a, b, x, y, z⟩)) (hp : ∀ v ∈ varsOf l, sortedV v = 0 ∧ 0 < sizeV v) {t : Int} (hq : C_parryref1_product h l = ri t) :
    ∀ (m i : Nat), i + m = l.len → ∀ N, 2 * m < N → parryref1_Total.B1 h N l l (l.len : Int) (i : Int) = ri t
  | 0, i, hi, N, hN => by
    obtain ⟨N, rfl⟩ : ∃ M, N = M + 1 := ⟨N - 1, by omega⟩
    rw [parryref1_Total.B1_eq]
    exact if_not (decide_eq_false (by omega)) (bind_of hq rfl)
  | m + 1, i, hi, N, hN => by
    obtain ⟨N, rfl⟩ : ∃ M, N = M + 1 + 1 := ⟨N - 2, by omega⟩
    have hlt : i < l.len := by omega
    have hmem : vaAt l i ∈ varsOf l := List.mem_of_getElem? (varsOf_get l hlt)
    obtain ⟨hso, hpos⟩ := hp _ hmem
    have ih := totalB1 hl hz hp hq m (i + 1) (by omega) N (by omega)
    have b2 : parryref1_Total.B2 h (N + 1) l l (l.len : Int) (i : Int) = ri t := by
      rw [parryref1_Total.B2_eq, wrap_eq (a := (i : Int) + 1) (by omega) (by omega)]; exact ih
    rw [parryref1_Total.B1_eq, Int.toNat_natCast]
    refine if_of (decide_eq_true (by omega)) (if_of (by simp; omega) (bind_of (hz _ _ _ _ _) (if_not ?_ (if_both (fun c => ?_) fun _ => b2))))
    · have : sizeV (vaAt l i) ≠ 0 := by omega
      show (sizeV (vaAt l i) == 0) = false
      simpa using this
    · have c : ((l.el i 2).int == 1) = true := c
      have hb := sortedV_bool hso (show (l.el i 2).int = 1 by simpa using c)
      have l0 : (l.el i 3).int = 0 := hb.1
      have h0 : (l.el i 4).int = 0 := hb.2
      exact if_not (by rw [l0]; rfl) (if_not (by rw [h0]; rfl) b2)
theorem refTotal_sp (l : T) (hl : l.len ≤ 9223372036854775807) (hm : mayV (varsOf l) = 0) : Ev fun N => C_parryref1_Total (K N) l = ri (totalE (varsOf l)) := by
  refine Ev.step (Ev.imp4 (refMay_sp l hl) refSize_sp (refProd_sp l hl) (Ev.ge (2 * l.len + 9)) fun N h1 h2 h3 hN => ?_)
  have htot := mayV_total hm
  have hp := totalE_pos htot
  have hlen := totalE_len htot
  rw [varsOf_len] at hlen
  have hpt : prodFrom (varsOf l) 1 ≤ 512 ∧ totalE (varsOf l) = prodFrom (varsOf l) 1 := by
    have e : totalE (varsOf l) = totalFrom (varsOf l) 1 := by unfold totalE; rw [if_neg (by rw [varsOf_len]; omega)]
    rcases prod_total (varsOf l) 1 (by omega) (by omega) (fun v hv => (hp v hv).1) with h | h
    · exact absurd (e.trans h.2) htot
    · exact ⟨h.1, e.trans h.2.2⟩
  obtain ⟨N, rfl⟩ : ∃ M, N = M + 1 := ⟨N - 1, by omega⟩
  rw [C_parryref1_Total_K]
  refine bind_of h1 (if_not (by simp [lookR_0, int_i, hm]) ?_)
  rw [parryref1_Total.B0_eq]
  refine if_not (decide_eq_false (by omega)) (bind_of h3 (if_not (decide_eq_false (by rw [lookR_0, int_i]; omega)) ?_))
  rw [hpt.2]
  exact totalB1 hl h2 hp h3 l.len 0 (by omega) N (by omega)
theorem refValuesB {h : H} {l : T} (hl : l.len ≤ 6) (hz : ∀ a b x y z, C_parryref1_Size h a b x y z = ri (sizeV ⟨a, b, x, y, z⟩)) (hp : ∀ v ∈ varsOf l, sortedV v = 0 ∧ 0 < sizeV v) :
    ∀ (m i : Nat), i + m = l.len → ∀ N s g, m < N → 0 ≤ s → s ≤ 512 → ∃ g', parryref1_Values.B0 h N i s l (l.len : Int) (i : Int) g = some (lookR [(0, T.l l.len g'), (1, .b true)]) ∧ intsR l.len g' = intsR i g ++ valuesFrom ((varsOf l).drop i) s
  | 0, i, hi, N, s, g, hN, h0, h1 => by
    obtain ⟨N, rfl⟩ : ∃ M, N = M + 1 := ⟨N - 1, by omega⟩
    have e : (varsOf l).drop i = [] := by unfold varsOf; exact range_end _ (by omega)
    obtain rfl : i = l.len := by omega
    refine ⟨g, ?_, by rw [e]; simp [valuesFrom]⟩
    rw [parryref1_Values.B0_eq]
    exact if_not (decide_eq_false (by omega)) rfl
  | m + 1, i, hi, N, s, g, hN, h0, h1 => by
    obtain ⟨N, rfl⟩ : ∃ M, N = M + 1 := ⟨N - 1, by omega⟩
    have hlt : i < l.len := by omega
    have e : (varsOf l).drop i = vaAt l i :: (varsOf l).drop (i + 1) := by unfold varsOf; exact range_from _ hlt
    have hmem : vaAt l i ∈ varsOf l := List.mem_of_getElem? (varsOf_get l hlt)
    obtain ⟨hso, hpos⟩ := hp _ hmem
    have hsz := sizeV_range (vaAt l i)
    have elow := sortedV_low hso
    have hlow : -1000 ≤ lowV (vaAt l i) ∧ lowV (vaAt l i) ≤ 1000 := by
      unfold lowV
      split
      · omega
      · rename_i h2
        unfold sizeV at hpos
        rw [if_neg h2] at hpos
        split at hpos
        · omega
        · omega
    have hmod0 : 0 ≤ Int.tmod s (sizeV (vaAt l i)) := Int.tmod_nonneg _ h0
    have hmod1 : Int.tmod s (sizeV (vaAt l i)) < sizeV (vaAt l i) := Int.tmod_lt_of_pos _ hpos
    have hdiv0 : 0 ≤ Int.tdiv s (sizeV (vaAt l i)) := Int.tdiv_nonneg h0 (by omega)
    have hdiv1 : Int.tdiv s (sizeV (vaAt l i)) ≤ s := by
      rw [Int.tdiv_eq_ediv_of_nonneg h0]
      exact Int.ediv_le_self _ h0
    obtain ⟨g', h2, h3⟩ := refValuesB hl hz hp m (i + 1) (by omega) N (Int.tdiv s (sizeV (vaAt l i))) (pushG i g (lowV (vaAt l i) + Int.tmod s (sizeV (vaAt l i)))) (by omega) hdiv0 (by omega)
    have hne : (!(sizeV (vaAt l i) == 0)) = true := by
      have : sizeV (vaAt l i) ≠ 0 := by omega
      simpa using this
    have ew : IntKind.wrap .i64 (Int.tmod s (sizeV (vaAt l i)) + (l.el i 3).int) = lowV (vaAt l i) + Int.tmod s (sizeV (vaAt l i)) := by
      have : (l.el i 3).int = lowV (vaAt l i) := elow.symm
      rw [this, wrap_eq (by omega) (by omega)]
      omega
    refine ⟨g', ?_, ?_⟩
    · rw [parryref1_Values.B0_eq, Int.toNat_natCast]
      refine if_of (decide_eq_true (by omega)) (if_of (by simp; omega) (bind_of (hz _ _ _ _ _) (if_of hne (if_of (decide_eq_true (by omega)) (if_of hne ?_)))))
      have e1 : ((lookR [(0, T.i (sizeV ⟨(l.el i 0).str, (l.el i 1).bool, (l.el i 2).int, (l.el i 3).int, (l.el i 4).int⟩))]) 0).int = sizeV (vaAt l i) := rfl
      rw [e1, ew, wrap_eq (a := (i : Int) + 1) (by omega) (by omega), wrap_eq (a := Int.tdiv s (sizeV (vaAt l i))) (by omega) (by omega)]
      exact h2
    · rw [h3, intsR_pushG, e, List.append_assoc]
      simp only [valuesFrom]
      rfl
theorem refValues_sp (l : T) (hl : l.len ≤ 9223372036854775807) : Ev fun N => ∀ s, ∃ t, C_parryref1_Values (K N) l s = some (lookR [(0, t), (1, .b (valuesOk (varsOf l) s))]) ∧ (valuesOk (varsOf l) s = true → Ints t (valuesFrom (varsOf l) s)) := by
  by_cases c1 : mayV (varsOf l) = 0
  · refine Ev.step (Ev.imp4 (refMay_sp l hl) (refTotal_sp l hl c1) refSize_sp (Ev.ge (l.len + 9)) fun N h1 h2 h3 hN s => ?_)
    have htot := mayV_total c1
    have hlen := totalE_len htot
    rw [varsOf_len] at hlen
    have hr := totalE_range (varsOf l)
    rw [C_parryref1_Values_K]
    unfold valuesOk
    by_cases c2 : s < 0
    · have : decide (mayV (varsOf l) = 0 ∧ 0 ≤ s ∧ s < totalE (varsOf l)) = false := decide_eq_false (by omega)
      rw [this]
      exact ⟨_, bind_of h1 (if_not (by simp [lookR_0, int_i, c1]) (if_of (decide_eq_true c2) rfl)), fun h => by cases h⟩
    · by_cases c3 : s ≥ totalE (varsOf l)
      · have : decide (mayV (varsOf l) = 0 ∧ 0 ≤ s ∧ s < totalE (varsOf l)) = false := decide_eq_false (by omega)
        rw [this]
        exact ⟨_, bind_of h1 (if_not (by simp [lookR_0, int_i, c1]) (if_not (decide_eq_false c2) (bind_of h2 (if_of (decide_eq_true c3) rfl)))), fun h => by cases h⟩
      · have : decide (mayV (varsOf l) = 0 ∧ 0 ≤ s ∧ s < totalE (varsOf l)) = true := decide_eq_true ⟨c1, by omega, by omega⟩
        rw [this]
        obtain ⟨g', e1, e2⟩ := refValuesB (h := K N) hlen h3 (totalE_pos htot) l.len 0 (by omega) N s (fun _ _ => .b false) (by omega) (by omega) (by omega)
        refine ⟨_, bind_of h1 (if_not (by simp [lookR_0, int_i, c1]) (if_not (decide_eq_false c2) (bind_of h2 (if_not (decide_eq_false c3) e1)))), fun _ => Ints_intsR ?_⟩
        rw [e2, List.drop_zero]; rfl
  · refine Ev.step ((refMay_sp l hl).imp fun N h1 s => ?_)
    rw [C_parryref1_Values_K]
    have : valuesOk (varsOf l) s = false := decide_eq_false (by intro h; exact c1 h.1)
    rw [this]
    exact ⟨_, bind_of h1 (if_of (by simpa [lookR_0, int_i] using c1) rfl), fun h => by cases h⟩
/-- A value, or none. -/
def VR (c : Option R) (v : Int × Int) : Prop := ∃ x, c = some (lookR [(0, .i x), (1, .b (decide (v.2 = 0)))]) ∧ (v.2 = 0 → x = v.1)
theorem VR.ok {c : Option R} {v : Int × Int} (h : VR c v) (h0 : v.2 = 0) : c = some (lookR [(0, .i v.1), (1, .b true)]) := by
  obtain ⟨x, h1, h2⟩ := h
  rw [h1, h2 h0, decide_eq_true h0]
theorem VR.no {c : Option R} {v : Int × Int} (h : VR c v) (h0 : v.2 ≠ 0) : ∃ x, c = some (lookR [(0, .i x), (1, .b false)]) := by
  obtain ⟨x, h1, h2⟩ := h
  exact ⟨x, by rw [h1, decide_eq_false h0]⟩
theorem VR.mk {c : Option R} {x : Int} (h : c = some (lookR [(0, .i x), (1, .b true)])) : VR c (x, 0) := ⟨x, h, fun _ => rfl⟩
theorem VR.mkNo {c : Option R} {x y z : Int} (hz : z ≠ 0) (h : c = some (lookR [(0, .i x), (1, .b false)])) : VR c (y, z) := ⟨x, by rw [h]; show _ = some (lookR [(0, .i x), (1, .b (decide (z = 0)))]); rw [decide_eq_false hz], fun q => absurd q hz⟩
theorem refB3 (h : H) (N : Nat) (x : Int) : parryref1_value.B3 h (N + 1) x = some (lookR [(0, .i x), (1, .b (decide (-1000 ≤ x ∧ x ≤ 1000)))]) := by
  rw [parryref1_value.B3_eq]
  by_cases c : -1000 ≤ x
  · refine if_of (decide_eq_true c) ?_
    have e : decide (x ≤ 1000) = decide (-1000 ≤ x ∧ x ≤ 1000) := by rw [Bool.eq_iff_iff]; simp [c]
    rw [e]
  · refine if_not (decide_eq_false c) ?_
    rw [decide_eq_false (by omega)]
theorem refB3_in {h : H} {N : Nat} {x : Int} (h1 : -1000 ≤ x) (h2 : x ≤ 1000) : VR (parryref1_value.B3 h (N + 1) x) (x, 0) := .mk (by rw [refB3, decide_eq_true ⟨h1, h2⟩])
theorem refB3_any {h : H} {N : Nat} {x : Int} : VR (parryref1_value.B3 h (N + 1) x) (if x < -1000 ∨ 1000 < x then (0, 6) else (x, 0)) := by
  by_cases c : x < -1000 ∨ 1000 < x
  · rw [if_pos c]
    exact .mkNo (by omega) (by rw [refB3, decide_eq_false (by omega)])
  · rw [if_neg c]
    exact refB3_in (by omega) (by omega)
theorem refBit_sp (N : Nat) (b : Bool) : C_parryref1_bit (K (N + 1)) b = ri (bitE b) := by
  rw [C_parryref1_bit_K]
  cases b <;> rfl
/-- The second kid counts. -/
theorem refB2 {N M : Nat} {tn tx k : T} {a op n : Int} {vb : Int × Int} (hk : 1 < k.len) (hb : VR (C_parryref1_value (K (N + 1)) (k.el 1 0).int (k.el 1 1).int (k.el 1 2) tn tx) vb) :
    (((6 ≤ op ∧ op ≤ 8) ∨ op = 15) → (vb.2 = 0 → -1000 ≤ vb.1 ∧ vb.1 ≤ 1000) → VR (parryref1_value.B2 (K (N + 1)) (M + 2) tn tx a op n k) vb) ∧
    (9 ≤ op ∧ op ≤ 14 → -1000 ≤ a ∧ a ≤ 1000 → (vb.2 = 0 → -1000 ≤ vb.1 ∧ vb.1 ≤ 1000) → VR (parryref1_value.B2 (K (N + 1)) (M + 2) tn tx a op n k) (if vb.2 ≠ 0 then (0, vb.2) else if twoE op a vb.1 < -1000 ∨ 1000 < twoE op a vb.1 then (0, 6) else (twoE op a vb.1, 0))) := by
  have hg : (decide ((1 : Int) < (k.len : Int))) = true := decide_eq_true (by omega)
  by_cases c : vb.2 = 0
  · have hb := hb.ok c
    constructor
    · intro ho hr
      obtain ⟨r1, r2⟩ := hr c
      have e : vb = (vb.1, 0) := Prod.ext rfl c
      rw [e, parryref1_value.B2_eq]
      have go := refB3_in (h := K (N + 1)) (N := M) r1 r2
      have ho : op = 6 ∨ op = 7 ∨ op = 8 ∨ op = 15 := by omega
      obtain ⟨x, g1, g2⟩ := go
      refine ⟨x, if_of hg (bind_of hb (if_not rfl ?_)), g2⟩
      rcases ho with rfl | rfl | rfl | rfl <;> exact if_not rfl (if_not rfl (if_not rfl (if_not rfl (if_not rfl (if_not rfl g1)))))
    · intro ho ha hr
      obtain ⟨r1, r2⟩ := hr c
      rw [if_neg (show ¬ vb.2 ≠ 0 from fun h => h c)]
      have go := fun x => refB3_any (h := K (N + 1)) (N := M) (x := x)
      have hm := mul_range ha ⟨r1, r2⟩
      have ho : op = 9 ∨ op = 10 ∨ op = 11 ∨ op = 12 ∨ op = 13 ∨ op = 14 := by omega
      rw [parryref1_value.B2_eq]
      rcases ho with rfl | rfl | rfl | rfl | rfl | rfl
      · obtain ⟨x, g1, g2⟩ := go (twoE 9 a vb.1)
        exact ⟨x, if_of hg (bind_of hb (if_not rfl (if_of rfl (bind_of (refBit_sp N _) g1)))), g2⟩
      · obtain ⟨x, g1, g2⟩ := go (twoE 10 a vb.1)
        exact ⟨x, if_of hg (bind_of hb (if_not rfl (if_not rfl (if_of rfl (bind_of (refBit_sp N _) g1))))), g2⟩
      · obtain ⟨x, g1, g2⟩ := go (twoE 11 a vb.1)
        exact ⟨x, if_of hg (bind_of hb (if_not rfl (if_not rfl (if_not rfl (if_of rfl (bind_of (refBit_sp N _) g1)))))), g2⟩
      · obtain ⟨x, g1, g2⟩ := go (twoE 12 a vb.1)
        refine ⟨x, if_of hg (bind_of hb (if_not rfl (if_not rfl (if_not rfl (if_not rfl (if_of rfl ?_)))))), g2⟩
        rw [lookR_0 , int_i, wrap_eq (a := a + vb.1) (by omega) (by omega)]; exact g1
      · obtain ⟨x, g1, g2⟩ := go (twoE 13 a vb.1)
        refine ⟨x, if_of hg (bind_of hb (if_not rfl (if_not rfl (if_not rfl (if_not rfl (if_not rfl (if_of rfl ?_))))))), g2⟩
        rw [lookR_0 , int_i, wrap_eq (a := a - vb.1) (by omega) (by omega)]; exact g1
      · obtain ⟨x, g1, g2⟩ := go (twoE 14 a vb.1)
        refine ⟨x, if_of hg (bind_of hb (if_not rfl (if_not rfl (if_not rfl (if_not rfl (if_not rfl (if_not rfl (if_of rfl ?_)))))))), g2⟩
        rw [lookR_0 , int_i, wrap_eq (a := a * vb.1) (by omega) (by omega)]; exact g1
  · obtain ⟨x, hb⟩ := hb.no c
    have go : parryref1_value.B2 (K (N + 1)) (M + 2) tn tx a op n k = some (lookR [(0, .i 0), (1, .b false)]) := by
      rw [parryref1_value.B2_eq]
      exact if_of hg (bind_of hb (if_of rfl rfl))
    constructor
    · intro _ _
      exact VR.mkNo (y := vb.1) c go
    · intro _ _ _
      rw [if_pos c]
      exact .mkNo c go
theorem refValue1_sp {l : List Va} (hs : Sorts l) : ∀ k, KW k → Ev fun N => ∀ tn tx now next op n s, Ints tn now → Ints tx next → Typed l (.mk op n (kidsOf k)) s → rdOk l now next (.mk op n (kidsOf k)) →
    VR (C_parryref1_value (K N) op n k tn tx) (valE now next (.mk op n (kidsOf k))) := by
  refine kids_ind fun k ih hk => ?_
  refine Ev.step (Ev.imp2 (Ev.ge 9) (Ev.all (k := k.len) fun i hi => ih i hi (hk.el hi)) fun N hN hc tn tx now next op n s hn hx ht hr => ?_)
  obtain ⟨N, rfl⟩ : ∃ M, N = M + 8 := ⟨N - 8, by omega⟩
  have kid : ∀ i e s', i < k.len → exAt k i = e → Typed l e s' → rdOk l now next e → VR (C_parryref1_value (K (N + 8)) (k.el i 0).int (k.el i 1).int (k.el i 2) tn tx) (valE now next e) := by
    intro i e s' hi he ht hr
    subst he
    exact hc i hi tn tx now next _ _ s' hn hx ht hr
  rw [C_parryref1_value_K]
  generalize hks : kidsOf k = ks at ht hr
  -- what follows the first kid
  have first : ∀ (a : Ex) (r : List Ex), ks = a :: r → ∀ s', Typed l a s' → rdOk l now next a → ∀ (op : Int), 5 ≤ op → ∀ v : Int × Int,
      ((valE now next a).2 ≠ 0 → v.2 ≠ 0) → ((valE now next a).2 = 0 → ∀ c : Option R, c = (bif (op == (5 : Int)) then some (lookR [(0, (T.i (IntKind.wrap .i64 ((1 : Int) - (valE now next a).1)))), (1, (T.b true))]) else (bif (op == (6 : Int)) then (bif ((valE now next a).1 == (0 : Int)) then some (lookR [(0, (T.i 0)), (1, (T.b true))]) else parryref1_value.B1 (K (N + 8)) (N + 7) tn tx (valE now next a).1 false op n k) else (bif (op == (7 : Int)) then (bif ((valE now next a).1 == (1 : Int)) then parryref1_value.B1 (K (N + 8)) (N + 7) tn tx (valE now next a).1 true op n k else parryref1_value.B1 (K (N + 8)) (N + 7) tn tx (valE now next a).1 false op n k) else (bif (op == (8 : Int)) then parryref1_value.B1 (K (N + 8)) (N + 7) tn tx (valE now next a).1 ((valE now next a).1 == (0 : Int)) op n k else parryref1_value.B1 (K (N + 8)) (N + 7) tn tx (valE now next a).1 false op n k)))) → VR c v) →
      VR (bif (op == (1 : Int)) then parryref1_value.B0 (K (N + 8)) (N + 8) tn tx op (op == (1 : Int)) op n k else parryref1_value.B0 (K (N + 8)) (N + 8) tn tx op (op == (2 : Int)) op n k) v := by
    intro a r hks2 s' hta hra op ho v hno hyes
    obtain ⟨hl0, he0⟩ := kids_cons (hks.trans hks2)
    have h1 := kid 0 a s' hl0 he0 hta hra
    have n1 : (op == (1 : Int)) = false := by simp; omega
    have n2 : (op == (2 : Int)) = false := by simp; omega
    have n3 : (op == (3 : Int)) = false := by simp; omega
    have n4 : (op == (4 : Int)) = false := by simp; omega
    rw [n1, n2, cond_false, parryref1_value.B0_eq, n3, n4]
    have hg : (decide ((0 : Int) < (k.len : Int))) = true := decide_eq_true (by omega)
    by_cases c : (valE now next a).2 = 0
    · have h1 := h1.ok c
      refine hyes c _ ?_
      refine if_not rfl (if_not rfl (if_not rfl (if_of hg ?_)))
      rw [h1, some_bind, lookR_0, lookR_1, int_i, bool_b]
      refine if_not rfl ?_
      generalize (valE now next a).1 = x at *
      have ho2 : op = 5 ∨ op = 6 ∨ op = 7 ∨ op = 8 ∨ 8 < op := by omega
      rcases ho2 with rfl | rfl | rfl | rfl | h8
      · rw [if_of (c := ((5 : Int) == 5)) rfl rfl, if_of (c := ((5 : Int) == 5)) rfl rfl]
      · rw [if_not (c := ((6 : Int) == 5)) rfl rfl, if_not (c := ((6 : Int) == 5)) rfl rfl, if_of (c := ((6 : Int) == 6)) rfl rfl, if_of (c := ((6 : Int) == 6)) rfl rfl]
        cases (x == 0) with
        | true => exact if_of rfl (Eq.symm (if_of rfl rfl))
        | false => exact if_not rfl (if_not rfl (if_not rfl (Eq.symm (if_not rfl rfl))))
      · refine if_not rfl (if_not rfl (if_of rfl (Eq.symm (if_not rfl (if_not rfl (if_of rfl ?_))))))
        cases (x == 1) with
        | true => exact if_of rfl (Eq.symm (if_of rfl rfl))
        | false => exact if_not rfl (Eq.symm (if_not rfl (if_not rfl rfl)))
      · exact if_not rfl (if_not rfl (if_not rfl (if_of rfl (Eq.symm (if_not rfl (if_not rfl (if_not rfl (if_of rfl rfl))))))))
      · have n5 : (op == (5 : Int)) = false := by simp; omega
        have n6 : (op == (6 : Int)) = false := by simp; omega
        have n7 : (op == (7 : Int)) = false := by simp; omega
        have n8 : (op == (8 : Int)) = false := by simp; omega
        rw [n5, n6, n7, n8]
        exact if_not rfl (if_not rfl (if_not rfl (if_not rfl (Eq.symm (if_not rfl (if_not rfl (if_not rfl (if_not rfl rfl))))))))
    · obtain ⟨x, h1⟩ := h1.no c
      have : v = (v.1, v.2) := rfl
      rw [this]
      exact .mkNo (hno c) (if_not rfl (if_not rfl (if_not rfl (if_of hg (bind_of h1 (if_of rfl rfl))))))
  have rng : ∀ {e : Ex} {s' : Int}, Typed l e s' → rdOk l now next e → (valE now next e).2 = 0 → -1000 ≤ (valE now next e).1 ∧ (valE now next e).1 ≤ 1000 ∧ (s' = 1 → (valE now next e).1 = 0 ∨ (valE now next e).1 = 1) := fun ht hr h0 => valE_typed ht hr h0
  cases ht with
  | num h1 h2 =>
    rw [valE_num _ _ (.inl rfl)]
    refine .mk ?_
    refine if_of rfl ?_
    show parryref1_value.B0 (K (N + 8)) (N + 7 + 1) tn tx 1 _ 1 n k = _
    rw [parryref1_value.B0_eq]
    exact if_of rfl rfl
  | bool h =>
    rw [valE_num _ _ (.inr rfl)]
    refine .mk (if_not rfl ?_)
    show parryref1_value.B0 (K (N + 8)) (N + 7 + 1) tn tx 2 _ 2 n k = _
    rw [parryref1_value.B0_eq]
    exact if_of rfl rfl
  | @var op i v ho h hi =>
    simp only [rdOk] at hr
    rcases ho with rfl | rfl
    · obtain ⟨x, h1, h2, h3, h4⟩ := hr.1 rfl v (by simpa using h)
      have e : valE now next (.mk 3 i []) = (x, 0) := by rw [valE_now, List.getD_eq_getElem?_getD, h1]; rfl
      rw [e]
      obtain ⟨b1, b2⟩ := hn.at (n := (i : Int)) (by omega) h1
      refine .mk (if_not rfl ?_)
      show parryref1_value.B0 (K (N + 8)) (N + 7 + 1) tn tx 3 _ 3 i k = _
      rw [parryref1_value.B0_eq, b2]
      exact if_not rfl (if_of rfl (if_of (by simp; omega) rfl))
    · obtain ⟨x, h1, h2, h3, h4⟩ := hr.2.1 rfl v (by simpa using h)
      have e : valE now next (.mk 4 i []) = (x, 0) := by rw [valE_next, List.getD_eq_getElem?_getD, h1]; rfl
      rw [e]
      obtain ⟨b1, b2⟩ := hx.at (n := (i : Int)) (by omega) h1
      refine .mk (if_not rfl ?_)
      show parryref1_value.B0 (K (N + 8)) (N + 7 + 1) tn tx 4 _ 4 i k = _
      rw [parryref1_value.B0_eq, b2]
      exact if_not rfl (if_not rfl (if_of rfl (if_of (by simp; omega) rfl)))
  | @not a ha =>
    simp only [rdOk, rdOkL] at hr
    refine first a [] rfl 1 ha hr.2.2.1 5 (by omega) _ (fun c => by rw [valE_not, if_pos c]; exact c) (fun c q hq => ?_)
    rw [valE_not, if_neg (show ¬ (valE now next a).2 ≠ 0 from fun h => h c), hq]
    have := (rng ha hr.2.2.1 c).2.2 rfl
    refine .mk ?_
    show some (lookR [(0, T.i (IntKind.wrap .i64 (1 - (valE now next a).1))), _]) = _
    rw [wrap_eq (by omega) (by omega)]
  | @logic op a b ho ha hb =>
    simp only [rdOk, rdOkL] at hr
    obtain ⟨hl1, he1⟩ := kids_cons2 hks
    have h2 := kid 1 b 1 hl1 he1 hb hr.2.2.2.1
    have b2 := fun x => (refB2 (N := N + 7) (M := N + 4) (a := x) (op := op) (n := 0) hl1 h2).1 (by omega) (fun c => by have := rng hb hr.2.2.2.1 c; omega)
    refine first a [b] rfl 1 ha hr.2.2.1 op (by omega) _ (fun c => by rw [valE_logic _ _ ho, if_pos c]; exact c) (fun c q hq => ?_)
    rw [valE_logic _ _ ho, if_neg (show ¬ (valE now next a).2 ≠ 0 from fun h => h c)]
    have hv := (rng ha hr.2.2.1 c).2.2 rfl
    have B1f : ∀ x, parryref1_value.B1 (K (N + 8)) (N + 7) tn tx x false op 0 k = parryref1_value.B2 (K (N + 8)) (N + 6) tn tx x op 0 k := by
      intro x
      show parryref1_value.B1 (K (N + 8)) (N + 6 + 1) tn tx x false op 0 k = _
      rw [parryref1_value.B1_eq]
      exact if_not rfl (if_not (by simp; omega) rfl)
    have B1t : ∀ x, parryref1_value.B1 (K (N + 8)) (N + 7) tn tx x true op 0 k = some (lookR [(0, .i 1), (1, .b true)]) := by
      intro x
      show parryref1_value.B1 (K (N + 8)) (N + 6 + 1) tn tx x true op 0 k = _
      rw [parryref1_value.B1_eq]
      exact if_of rfl rfl
    generalize (valE now next a).1 = x at *
    have ho2 : op = 6 ∨ op = 7 ∨ op = 8 := by omega
    rcases ho2 with rfl | rfl | rfl
    · rcases hv with rfl | rfl
      · rw [hq.trans (if_not rfl (if_of rfl (if_of rfl rfl)))]; exact .mk rfl
      · rw [hq.trans (if_not rfl (if_of rfl (if_not rfl (B1f 1))))]; exact b2 1
    · rcases hv with rfl | rfl
      · rw [hq.trans (if_not rfl (if_not rfl (if_of rfl (if_not rfl (B1f 0)))))]; exact b2 0
      · rw [hq.trans (if_not rfl (if_not rfl (if_of rfl (if_of rfl (B1t 1)))))]; exact .mk rfl
    · rcases hv with rfl | rfl
      · rw [hq.trans (if_not rfl (if_not rfl (if_not rfl (if_of rfl (B1t 0)))))]; exact .mk rfl
      · rw [hq.trans (if_not rfl (if_not rfl (if_not rfl (if_of rfl (B1f 1)))))]; exact b2 1
  | @same s' a b ha hb =>
    simp only [rdOk, rdOkL] at hr
    obtain ⟨hl1, he1⟩ := kids_cons2 hks
    have h2 := kid 1 b s' hl1 he1 hb hr.2.2.2.1
    refine first a [b] rfl s' ha hr.2.2.1 9 (by omega) _ (fun c => by rw [valE_two _ _ (by omega), if_pos c]; exact c) (fun c q hq => ?_)
    rw [valE_two _ _ (by omega), if_neg (show ¬ (valE now next a).2 ≠ 0 from fun h => h c)]
    have ra := rng ha hr.2.2.1 c
    have b2 := (refB2 (N := N + 7) (M := N + 4) (a := (valE now next a).1) (op := 9) (n := 0) hl1 h2).2 (by omega) ⟨ra.1, ra.2.1⟩ (fun c => by have := rng hb hr.2.2.2.1 c; omega)
    have e1 : parryref1_value.B1 (K (N + 8)) (N + 6 + 1) tn tx (valE now next a).1 false 9 0 k = parryref1_value.B2 (K (N + 8)) (N + 6) tn tx (valE now next a).1 9 0 k := by
      rw [parryref1_value.B1_eq]
      exact if_not rfl (if_not rfl rfl)
    rw [hq.trans (if_not rfl (if_not rfl (if_not rfl (if_not rfl e1))))]
    exact b2
  | @less op a b ho ha hb =>
    simp only [rdOk, rdOkL] at hr
    obtain ⟨hl1, he1⟩ := kids_cons2 hks
    have h2 := kid 1 b 2 hl1 he1 hb hr.2.2.2.1
    refine first a [b] rfl 2 ha hr.2.2.1 op (by omega) _ (fun c => by rw [valE_two _ _ (by omega), if_pos c]; exact c) (fun c q hq => ?_)
    rw [valE_two _ _ (by omega), if_neg (show ¬ (valE now next a).2 ≠ 0 from fun h => h c)]
    have ra := rng ha hr.2.2.1 c
    have b2 := (refB2 (N := N + 7) (M := N + 4) (a := (valE now next a).1) (op := op) (n := 0) hl1 h2).2 (by omega) ⟨ra.1, ra.2.1⟩ (fun c => by have := rng hb hr.2.2.2.1 c; omega)
    have e1 : parryref1_value.B1 (K (N + 8)) (N + 6 + 1) tn tx (valE now next a).1 false op 0 k = parryref1_value.B2 (K (N + 8)) (N + 6) tn tx (valE now next a).1 op 0 k := by
      rw [parryref1_value.B1_eq]
      exact if_not rfl (if_not (by simp; omega) rfl)
    rw [hq.trans (if_not (by simp; omega) (if_not (by simp; omega) (if_not (by simp; omega) (if_not (by simp; omega) e1))))]
    exact b2
  | @sum op a b ho ha hb =>
    simp only [rdOk, rdOkL] at hr
    obtain ⟨hl1, he1⟩ := kids_cons2 hks
    have h2 := kid 1 b 2 hl1 he1 hb hr.2.2.2.1
    refine first a [b] rfl 2 ha hr.2.2.1 op (by omega) _ (fun c => by rw [valE_two _ _ (by omega), if_pos c]; exact c) (fun c q hq => ?_)
    rw [valE_two _ _ (by omega), if_neg (show ¬ (valE now next a).2 ≠ 0 from fun h => h c)]
    have ra := rng ha hr.2.2.1 c
    have b2 := (refB2 (N := N + 7) (M := N + 4) (a := (valE now next a).1) (op := op) (n := 0) hl1 h2).2 (by omega) ⟨ra.1, ra.2.1⟩ (fun c => by have := rng hb hr.2.2.2.1 c; omega)
    have e1 : parryref1_value.B1 (K (N + 8)) (N + 6 + 1) tn tx (valE now next a).1 false op 0 k = parryref1_value.B2 (K (N + 8)) (N + 6) tn tx (valE now next a).1 op 0 k := by
      rw [parryref1_value.B1_eq]
      exact if_not rfl (if_not (by simp; omega) rfl)
    rw [hq.trans (if_not (by simp; omega) (if_not (by simp; omega) (if_not (by simp; omega) (if_not (by simp; omega) e1))))]
    exact b2
  | @ite s' a b c ha hb hc' =>
    simp only [rdOk, rdOkL] at hr
    obtain ⟨hl1, he1⟩ := kids_cons2 hks
    obtain ⟨hl2, he2⟩ := kids_cons3 hks
    have h2 := kid 1 b s hl1 he1 hb hr.2.2.2.1
    have h3 := kid 2 c s hl2 he2 hc' hr.2.2.2.2.1
    refine first a [b, c] rfl 1 ha hr.2.2.1 15 (by omega) _ (fun c => by rw [valE_ite, if_pos c]; exact c) (fun q0 q hq => ?_)
    have hv := (rng ha hr.2.2.1 q0).2.2 rfl
    rw [valE_ite, if_neg (show ¬ (valE now next a).2 ≠ 0 from fun h => h q0), if_neg (by omega)]
    have hq := hq.trans (if_not rfl (if_not rfl (if_not rfl (if_not rfl rfl))))
    have b2 := (refB2 (N := N + 7) (M := N + 4) (a := (1 : Int)) (op := 15) (n := 0) hl1 h2).1 (by omega) (fun c => by have := rng hb hr.2.2.2.1 c; omega)
    rcases hv with hv | hv <;> rw [hv] at hq ⊢
    · show VR q (valE now next c)
      rw [hq, parryref1_value.B1_eq]
      obtain ⟨x, x1, x2⟩ := h3
      exact ⟨x, if_not rfl (if_of rfl (if_of rfl (if_of (decide_eq_true (by omega)) (bind_of x1 rfl)))), x2⟩
    · show VR q (valE now next b)
      have e1 : parryref1_value.B1 (K (N + 8)) (N + 6 + 1) tn tx 1 false 15 0 k = parryref1_value.B2 (K (N + 8)) (N + 6) tn tx 1 15 0 k := by
        rw [parryref1_value.B1_eq]
        exact if_not rfl (if_of rfl (if_not rfl rfl))
      rw [hq.trans e1]
      exact b2
theorem refValue_sp (l : T) (hl : l.len ≤ 9223372036854775807) (k : T) (hk : KW k) : Ev fun N => ∀ op n now next, C_parryref1_Value (K N) l op n k now next = rii (valueE (varsOf l) (.mk op n (kidsOf k)) now next).1 (valueE (varsOf l) (.mk op n (kidsOf k)) now next).2 := by
  by_cases c0 : mayV (varsOf l) = 0
  · refine Ev.step (Ev.imp3 (refSort_sp l hl k hk) (refValues_sp l hl) (refValue1_sp (l := varsOf l) (mayV_sorts c0) k hk) fun N h1 h2 h3 op n now next => ?_)
    rw [C_parryref1_Value_K]
    unfold valueE
    refine bind_of (h1 op n) ?_
    by_cases c1 : (sortE (varsOf l) (.mk op n (kidsOf k))).2 = 0
    · rw [if_neg (show ¬ _ ≠ _ from fun h => h c1)]
      refine if_not (by simp [lookR_1, int_i, c1]) ?_
      obtain ⟨ta, ha, ia⟩ := h2 now
      obtain ⟨tb, hb, ib⟩ := h2 next
      refine bind_of ha (bind_of hb ?_)
      cases ca : valuesOk (varsOf l) now with
      | false => rw [if_pos (.inl rfl)]; exact if_of rfl rfl
      | true =>
        cases cb : valuesOk (varsOf l) next with
        | false => rw [if_pos (.inr rfl)]; exact if_not rfl (if_of rfl rfl)
        | true =>
          rw [if_neg (by simp)]
          have ht := (sortE_ok c1).2.2.2.2.2
          have hv := h3 _ _ _ _ op n _ (ia ca).shift (ib cb).shift ht (Vals.rdOk (valuesOk_vals ca) (valuesOk_vals cb) _)
          refine if_not rfl (if_not rfl ?_)
          rcases valE_err (valuesFrom (varsOf l) now) (valuesFrom (varsOf l) next) (.mk op n (kidsOf k)) with e | e
          · refine bind_of (hv.ok e) (if_not rfl ?_)
            rw [e]; rfl
          · have h0 := (valE_typed ht (Vals.rdOk (valuesOk_vals ca) (valuesOk_vals cb) _))
            obtain ⟨x, hx⟩ := hv.no (by omega)
            refine bind_of hx (if_of rfl ?_)
            rw [e]
            have z : ∀ e : Ex, ∀ a b : List Int, (valE a b e).2 ≠ 0 → (valE a b e).1 = 0 := by
              intro e a b
              exact valE_zero a b e
            rw [z _ _ _ (by omega)]; rfl
    · rw [if_pos c1]
      exact if_of (by simpa [lookR_1, int_i] using c1) rfl
  · refine Ev.step ((refSort_sp l hl k hk).imp fun N h1 op n now next => ?_)
    rw [C_parryref1_Value_K]
    have c1 : (sortE (varsOf l) (.mk op n (kidsOf k))).2 ≠ 0 := by unfold sortE; rw [if_pos c0]; exact c0
    unfold valueE
    rw [if_pos c1]
    exact bind_of (h1 op n) (if_of (by simpa [lookR_1, int_i] using c1) rfl)
theorem refTrue_sp (l : T) (hl : l.len ≤ 9223372036854775807) (k : T) (hk : KW k) : Ev fun N => ∀ op n now next, C_parryref1_True (K N) l op n k now next = rb (trueE (varsOf l) (.mk op n (kidsOf k)) now next) := by
  refine Ev.step (Ev.imp2 (refSort_sp l hl k hk) (refValue_sp l hl k hk) fun N h1 h2 op n now next => ?_)
  rw [C_parryref1_True_K]
  refine bind_of (h1 op n) (bind_of (h2 op n now next) ?_)
  unfold trueE
  rw [lookR_1, lookR_0, int_i, int_i, lookR_0, int_i]
  by_cases c0 : (sortE (varsOf l) (.mk op n (kidsOf k))).2 = 0
  · generalize valueE (varsOf l) (.mk op n (kidsOf k)) now next = v
    generalize sortE (varsOf l) (.mk op n (kidsOf k)) = s at *
    by_cases c1 : v.2 = 0
    · refine if_of (by simpa using c1) ?_
      by_cases c2 : s.1 = 1
      · refine if_of (by simpa using c2) ?_
        have : (v.1 == 1) = decide (s.2 = 0 ∧ s.1 = 1 ∧ v.2 = 0 ∧ v.1 = 1) := by rw [Bool.eq_iff_iff]; simp [c0, c1, c2]
        rw [this]; rfl
      · refine if_not (by simpa using c2) ?_
        rw [decide_eq_false (by intro h; exact c2 h.2.1)]; rfl
    · refine if_not (by simpa using c1) ?_
      rw [decide_eq_false (by intro h; exact c1 h.2.2.1)]; rfl
  · have e : valueE (varsOf l) (.mk op n (kidsOf k)) now next = (0, (sortE (varsOf l) (.mk op n (kidsOf k))).2) := by unfold valueE; rw [if_pos c0]
    rw [e]
    refine if_not (by simpa using c0) ?_
    rw [decide_eq_false (by intro h; exact c0 h.1)]; rfl
end Go.Proofs.YtnlkhjileipmcaaGreat
