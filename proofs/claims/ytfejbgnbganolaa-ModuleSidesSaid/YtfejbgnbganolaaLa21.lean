/- The law ExprKids: what may be has kids that may be. -/
import Derived.Test.YtfejbgnbganolaaLa20
set_option linter.unusedVariables false
set_option linter.unusedSimpArgs false
namespace Go.AM
mutual
theorem fitD_mono : ∀ (e : Ex) (d : Int), fitD e (d + 1) = true → fitD e d = true
  | .mk _ _ ks, d, h => by
    simp only [fitD, Bool.and_eq_true, decide_eq_true_eq] at h ⊢
    exact ⟨by omega, fitL_mono ks (d + 1) h.2⟩
theorem fitL_mono : ∀ (l : List Ex) (d : Int), fitL l (d + 1) = true → fitL l d = true
  | [], _, _ => rfl
  | k :: ks, d, h => by
    simp only [fitL, Bool.and_eq_true] at h ⊢
    exact ⟨fitD_mono k d h.1, fitL_mono ks d h.2⟩
end
theorem fitL_mem {d : Int} : ∀ {l : List Ex} {k : Ex}, k ∈ l → fitL l d = true → fitD k d = true
  | q :: l, k, hk, h => by
    simp only [fitL, Bool.and_eq_true] at h
    rcases List.mem_cons.1 hk with rfl | hk
    · exact h.1
    · exact fitL_mem hk h.2
theorem cntL_mem : ∀ {l : List Ex} {k : Ex}, k ∈ l → cntE k ≤ cntL l
  | q :: l, k, hk => by
    have h1 := cntE_nonneg q
    have h2 := cntL_nonneg l
    simp only [cntL]
    rcases List.mem_cons.1 hk with rfl | hk
    · omega
    · have := cntL_mem hk; omega
theorem soundL_mem : ∀ {l : List Ex} {k : Ex}, k ∈ l → soundL l = true → soundE k = true
  | q :: l, k, hk, h => by
    simp only [soundL, Bool.and_eq_true] at h
    rcases List.mem_cons.1 hk with rfl | hk
    · exact h.1
    · exact soundL_mem hk h.2
theorem mayE_of2 {e : Ex} (hs : soundE e = true) (hl : lightE e = true) : mayE e = 0 := by
  unfold mayE
  rw [if_pos hl, if_pos hs]
/-- A kid of what may be may be. -/
theorem mayE_kid {o n : Int} {ks : List Ex} (h : mayE (.mk o n ks) = 0) {k : Ex} (hk : k ∈ ks) : mayE k = 0 := by
  obtain ⟨h1, h2⟩ := mayE_inv h
  obtain ⟨h3, h4⟩ := (light_iff _).1 h2
  simp only [soundE, Bool.and_eq_true] at h1
  simp only [fitD, Bool.and_eq_true] at h3
  simp only [cntE] at h4
  have h5 := cntL_mem hk
  exact mayE_of2 (soundL_mem hk h1.2) ((light_iff k).2 ⟨fitD_mono k 1 (fitL_mem hk h3.2), by omega⟩)
theorem rdL_mem {t : Int} {x : Int} : ∀ {l : List Ex}, x ∈ rdL t l ↔ ∃ k ∈ l, x ∈ rdE t k
  | [] => by simp [rdL]
  | q :: l => by
    simp only [rdL, List.mem_append, rdL_mem (l := l), List.mem_cons]
    constructor
    · rintro (h | ⟨k, h1, h2⟩)
      · exact ⟨q, .inl rfl, h⟩
      · exact ⟨k, .inr h1, h2⟩
    · rintro ⟨k, rfl | h1, h2⟩
      · exact .inl h2
      · exact .inr ⟨k, h1, h2⟩
theorem readsE_mem {t : Int} {e : Ex} (h : mayE e = 0) (x : Int) : x ∈ readsE t e ↔ x ∈ rdE t e := by
  unfold readsE
  rw [if_neg (by simpa using h)]
  exact (sortUp (rdE t e)).2 x
/-- What the kids read, one after the other. -/
def kidReads (t : Int) : List Ex → List Int
  | [] => []
  | k :: ks => readsE t k ++ kidReads t ks
theorem kidReads_mem {t : Int} {x : Int} : ∀ {l : List Ex}, (∀ k ∈ l, mayE k = 0) → (x ∈ kidReads t l ↔ x ∈ rdL t l)
  | [], _ => Iff.rfl
  | q :: l, h => by
    simp only [kidReads, rdL, List.mem_append, readsE_mem (h q (List.mem_cons_self ..)), kidReads_mem (l := l) fun k hk => h k (List.mem_cons_of_mem _ hk)]
end Go.AM
namespace Go.Proofs.Ytfejbgnbganolaa
open Go.AM
theorem orIn_one (f : Int → Bool) (v j : Int) : orIn f [v] j = (f j || decide (j = v)) := by simp [orIn]
theorem mark6 {Q : Option R} {v : Int} (h0 : 0 ≤ v) (h6 : v < 6) (f : Int → Bool) (F : Int → Int → Int → Int → Int → Int → Option R)
    (hq : F (bitE (orIn f [v] 0)) (bitE (orIn f [v] 1)) (bitE (orIn f [v] 2)) (bitE (orIn f [v] 3)) (bitE (orIn f [v] 4)) (bitE (orIn f [v] 5)) = Q) :
    (bif v == (0 : Int) then F 1 (bitE (f 1)) (bitE (f 2)) (bitE (f 3)) (bitE (f 4)) (bitE (f 5)) else (bif v == (1 : Int) then F (bitE (f 0)) 1 (bitE (f 2)) (bitE (f 3)) (bitE (f 4)) (bitE (f 5)) else (bif v == (2 : Int) then F (bitE (f 0)) (bitE (f 1)) 1 (bitE (f 3)) (bitE (f 4)) (bitE (f 5)) else (bif v == (3 : Int) then F (bitE (f 0)) (bitE (f 1)) (bitE (f 2)) 1 (bitE (f 4)) (bitE (f 5)) else (bif v == (4 : Int) then F (bitE (f 0)) (bitE (f 1)) (bitE (f 2)) (bitE (f 3)) 1 (bitE (f 5)) else (bif v == (5 : Int) then F (bitE (f 0)) (bitE (f 1)) (bitE (f 2)) (bitE (f 3)) (bitE (f 4)) 1 else none)))))) = Q := by
  rw [orIn_one, orIn_one, orIn_one, orIn_one, orIn_one, orIn_one] at hq
  have c : v = 0 ∨ v = 1 ∨ v = 2 ∨ v = 3 ∨ v = 4 ∨ v = 5 := by omega
  rcases c with rfl | rfl | rfl | rfl | rfl | rfl <;> simp at hq ⊢ <;> exact hq
theorem seen6 {Q X Y : Option R} {v : Int} (h0 : 0 ≤ v) (h6 : v < 6) {f : Int → Bool} (hf : f v = true) (hq : X = Q) :
    (bif v == (0 : Int) then (bif bitE (f 0) == (0 : Int) then Y else X) else (bif v == (1 : Int) then (bif bitE (f 1) == (0 : Int) then Y else X) else (bif v == (2 : Int) then (bif bitE (f 2) == (0 : Int) then Y else X) else (bif v == (3 : Int) then (bif bitE (f 3) == (0 : Int) then Y else X) else (bif v == (4 : Int) then (bif bitE (f 4) == (0 : Int) then Y else X) else (bif v == (5 : Int) then (bif bitE (f 5) == (0 : Int) then Y else X) else none)))))) = Q := by
  have c : v = 0 ∨ v = 1 ∨ v = 2 ∨ v = 3 ∨ v = 4 ∨ v = 5 := by omega
  rcases c with rfl | rfl | rfl | rfl | rfl | rfl <;> rw [hf] <;> exact hq
theorem Ints.el0 {t : T} {l : List Int} (h : Ints t l) {j : Nat} (hj : j < l.length) : (t.el j 0).int = l[j] := h.2 j _ (List.getElem?_eq_getElem hj)
theorem kB3 {h : H} {Q : Option R} {n p4 : Int} {nx a b : Bool} {q : T} {qn i p11 p12 : Int} {p13 t : T} {l : List Int} (ht : Ints t l) (hl : l.length ≤ 60) (hr : ∀ x ∈ l, 0 ≤ x ∧ x < 6) {c : Nat} :
    ∀ (m j : Nat), j + m = l.length → ∀ f : Int → Bool, (∀ M, c ≤ M → parrylaw2_ExprKids.B1 h M n nx a b p4 q qn (IntKind.wrap .i64 (i + 1)) p11 p12 p13 (bitE (orIn f (l.drop j) 0)) (bitE (orIn f (l.drop j) 1)) (bitE (orIn f (l.drop j) 2)) (bitE (orIn f (l.drop j) 3)) (bitE (orIn f (l.drop j) 4)) (bitE (orIn f (l.drop j) 5)) = Q) →
    ∀ N, c + 2 * m + 1 ≤ N → parrylaw2_ExprKids.B3 h N n nx a b p4 q qn i t (t.len : Int) (j : Int) p11 p12 p13 (bitE (f 0)) (bitE (f 1)) (bitE (f 2)) (bitE (f 3)) (bitE (f 4)) (bitE (f 5)) = Q
  | 0, j, hj, f, hc, N, hN => by
    obtain ⟨N, rfl⟩ : ∃ M, N = M + 1 := ⟨N - 1, by omega⟩
    rw [List.drop_of_length_le (by omega), orIn_nil] at hc
    rw [parrylaw2_ExprKids.B3_eq, ht.1]
    exact if_not (decide_eq_false (by omega)) (hc N (by omega))
  | m + 1, j, hj, f, hc, N, hN => by
    obtain ⟨N, rfl⟩ : ∃ M, N = M + 1 + 1 := ⟨N - 2, by omega⟩
    have hlt : j < l.length := by omega
    have hv := hr l[j] (List.getElem_mem hlt)
    have ih := kB3 (h := h) (Q := Q) (n := n) (p4 := p4) (nx := nx) (a := a) (b := b) (q := q) (qn := qn) (i := i) (p11 := p11) (p12 := p12) (p13 := p13) ht hl hr (c := c) m (j + 1) (by omega) (orIn f [l[j]]) (by
      intro M hM
      rw [orIn_app]
      have := hc M hM
      rw [List.drop_eq_getElem_cons hlt] at this
      exact this) N (by omega)
    rw [parrylaw2_ExprKids.B3_eq, Int.toNat_natCast, ht.el0 hlt]
    refine if_of (decide_eq_true (by rw [ht.1]; omega)) (if_of (by simp [ht.1]; omega) (if_not (decide_eq_false (by omega)) (if_not (decide_eq_false (by omega)) ?_)))
    refine mark6 hv.1 hv.2 f (fun x0 x1 x2 x3 x4 x5 => parrylaw2_ExprKids.B10 h (N + 1) n nx a b p4 q qn i t (t.len : Int) (j : Int) p11 p12 p13 x0 x1 x2 x3 x4 x5) ?_
    rw [parrylaw2_ExprKids.B10_eq, wrap_eq (a := (j : Int) + 1) (by omega) (by omega)]
    exact ih
/-- Six marks, as numbers. -/
theorem kB1 {h : H} {Q : Option R} {n p4 : Int} {nx a b : Bool} {k : T} {op m0 : Int} (hk : KW k) (hm : ∀ i, i < k.len → mayE (exAt k i) = 0)
    (hr : ∀ i, i < k.len → ∀ o m, ∃ t, C_expr_Reads h o m (k.el i 2) nx = some (lookR [(0, t)]) ∧ Ints t (readsE (opR nx) (.mk o m (kidsOf (k.el i 2))))) {c : Nat} :
    ∀ (m i : Nat), i + m = k.len → ∀ f : Int → Bool, (∀ M, c ≤ M → parrylaw2_ExprKids.B1 h M n nx a b p4 k (k.len : Int) (k.len : Int) op m0 k (bitE (orIn f (kidReads (opR nx) ((kidsOf k).drop i)) 0)) (bitE (orIn f (kidReads (opR nx) ((kidsOf k).drop i)) 1)) (bitE (orIn f (kidReads (opR nx) ((kidsOf k).drop i)) 2)) (bitE (orIn f (kidReads (opR nx) ((kidsOf k).drop i)) 3)) (bitE (orIn f (kidReads (opR nx) ((kidsOf k).drop i)) 4)) (bitE (orIn f (kidReads (opR nx) ((kidsOf k).drop i)) 5)) = Q) →
    ∀ N, c + 130 * m ≤ N → parrylaw2_ExprKids.B1 h N n nx a b p4 k (k.len : Int) (i : Int) op m0 k (bitE (f 0)) (bitE (f 1)) (bitE (f 2)) (bitE (f 3)) (bitE (f 4)) (bitE (f 5)) = Q
  | 0, i, hi, f, hc, N, hN => by
    rw [List.drop_of_length_le (by rw [kidsOf_len]; omega)] at hc
    simp only [kidReads, orIn_nil] at hc
    obtain rfl : i = k.len := by omega
    exact hc N (by omega)
  | m + 1, i, hi, f, hc, N, hN => by
    obtain ⟨N, rfl⟩ : ∃ M, N = M + 1 := ⟨N - 1, by omega⟩
    have hlen := hk.len
    obtain ⟨t, e1, e2⟩ := hr i (by omega) (k.el i 0).int (k.el i 1).int
    have x1 : Ex.mk (k.el i 0).int (k.el i 1).int (kidsOf (k.el i 2)) = exAt k i := rfl
    rw [x1] at e2
    have ih := kB1 (h := h) (Q := Q) (n := n) (p4 := p4) (nx := nx) (a := a) (b := b) (op := op) (m0 := m0) hk hm hr (c := c) m (i + 1) (by omega) (orIn f (readsE (opR nx) (exAt k i))) (by
      intro M hM
      rw [orIn_app]
      have := hc M hM
      rw [kidsOf_from k i (by omega)] at this
      simp only [kidReads] at this
      exact this)
    have hb : ∀ x ∈ readsE (opR nx) (exAt k i), 0 ≤ x ∧ x < 6 := fun x hx => rdE_bound (by cases nx <;> simp [opR]) _ (mayE_inv (hm i (by omega))).1 x ((readsE_mem (hm i (by omega)) x).1 hx)
    have hl := readsE_len (opR nx) (exAt k i)
    rw [parrylaw2_ExprKids.B1_eq, Int.toNat_natCast]
    refine if_of (decide_eq_true (by omega)) (if_of (by simp; omega) (bind_of e1 ?_))
    refine kB3 e2 hl hb (readsE (opR nx) (exAt k i)).length 0 (by omega) f (c := c + 130 * m) (fun M hM => ?_) N (by omega)
    rw [List.drop_zero, wrap_eq (by omega) (by omega)]
    exact ih M hM
/-- All that is read is marked: as many as are counted. -/
theorem kB6 {h : H} {Q : Option R} {n p4 : Int} {a b : Bool} {t : T} {op m0 : Int} {k : T} {l : List Int} (ht : Ints t l) (hl : l.length ≤ 60) {f : Int → Bool} (hr : ∀ x ∈ l, 0 ≤ x ∧ x < 6 ∧ f x = true) {c : Nat}
    (hc : ∀ M, c ≤ M → parrylaw2_ExprKids.B8 h M n (l.length : Int) a b p4 (bitE (f 0)) (bitE (f 1)) (bitE (f 2)) (bitE (f 3)) (bitE (f 4)) (bitE (f 5)) 0 op m0 k = Q) :
    ∀ (m j : Nat), j + m = l.length → ∀ N, c + 2 * m + 1 ≤ N → parrylaw2_ExprKids.B6 h N n (j : Int) a b p4 t (t.len : Int) (j : Int) op m0 k (bitE (f 0)) (bitE (f 1)) (bitE (f 2)) (bitE (f 3)) (bitE (f 4)) (bitE (f 5)) = Q
  | 0, j, hj, N, hN => by
    obtain ⟨N, rfl⟩ : ∃ M, N = M + 1 := ⟨N - 1, by omega⟩
    obtain rfl : j = l.length := by omega
    rw [parrylaw2_ExprKids.B6_eq, ht.1]
    exact if_not (decide_eq_false (by omega)) (hc N (by omega))
  | m + 1, j, hj, N, hN => by
    obtain ⟨N, rfl⟩ : ∃ M, N = M + 1 + 1 := ⟨N - 2, by omega⟩
    have hlt : j < l.length := by omega
    have hv := hr l[j] (List.getElem_mem hlt)
    have ih := kB6 (h := h) (Q := Q) (n := n) (p4 := p4) (a := a) (b := b) (op := op) (m0 := m0) (k := k) ht hl hr hc m (j + 1) (by omega) N (by omega)
    rw [parrylaw2_ExprKids.B6_eq, Int.toNat_natCast, ht.el0 hlt]
    refine if_of (decide_eq_true (by rw [ht.1]; omega)) (if_of (by simp [ht.1]; omega) (if_not (decide_eq_false (by omega)) (if_not (decide_eq_false (by omega)) ?_)))
    refine seen6 hv.1 hv.2.1 hv.2.2 ?_
    rw [parrylaw2_ExprKids.B7_eq, wrap_eq (a := (j : Int) + 1) (by omega) (by omega)]
    exact ih
theorem bitE_cases (b : Bool) : (b = true ∧ bitE b = 1) ∨ (b = false ∧ bitE b = 0) := by cases b <;> simp [bitE]
theorem marked_len (f : Int → Bool) : ((marked f).length : Int) = bitE (f 0) + bitE (f 1) + bitE (f 2) + bitE (f 3) + bitE (f 4) + bitE (f 5) := by
  unfold marked addIf
  cases f 0 <;> cases f 1 <;> cases f 2 <;> cases f 3 <;> cases f 4 <;> cases f 5 <;> decide
theorem kB8 {h : H} {Q : Option R} {n p4 : Int} {a b : Bool} {op m0 : Int} {k : T} {f : Int → Bool} {c : Nat} (hc : ∀ M, c ≤ M → parrylaw2_ExprKids.B0 h M n a b (IntKind.wrap .i64 (p4 + 1)) op m0 k = Q) :
    ∀ N, c + 13 ≤ N → parrylaw2_ExprKids.B8 h N n ((marked f).length : Int) a b p4 (bitE (f 0)) (bitE (f 1)) (bitE (f 2)) (bitE (f 3)) (bitE (f 4)) (bitE (f 5)) 0 op m0 k = Q := by
  intro N hN
  obtain ⟨N, rfl⟩ : ∃ M, N = M + 13 := ⟨N - 13, by omega⟩
  rw [marked_len]
  have v0 := bitE_range (f 0)
  have v1 := bitE_range (f 1)
  have v2 := bitE_range (f 2)
  have v3 := bitE_range (f 3)
  have v4 := bitE_range (f 4)
  have v5 := bitE_range (f 5)
  have w : ∀ i : Int, 0 ≤ i → i ≤ 10 → IntKind.wrap .i64 (i + 1) = i + 1 := fun i h1 h2 => wrap_eq (by omega) (by omega)
  generalize bitE (f 0) = x0 at *
  generalize bitE (f 1) = x1 at *
  generalize bitE (f 2) = x2 at *
  generalize bitE (f 3) = x3 at *
  generalize bitE (f 4) = x4 at *
  generalize bitE (f 5) = x5 at *
  rw [parrylaw2_ExprKids.B8_eq]
  refine if_of rfl (if_of rfl ?_)
  rw [parrylaw2_ExprKids.B9_eq, wrap_eq (a := x0 + x1 + x2 + x3 + x4 + x5 - x0) (by omega) (by omega), parrylaw2_ExprKids.B8_eq]
  refine if_of rfl (if_not rfl (if_of rfl ?_))
  rw [parrylaw2_ExprKids.B9_eq, wrap_eq (a := x0 + x1 + x2 + x3 + x4 + x5 - x0 - x1) (by omega) (by omega), parrylaw2_ExprKids.B8_eq]
  refine if_of rfl (if_not rfl (if_not rfl (if_of rfl ?_)))
  rw [parrylaw2_ExprKids.B9_eq, wrap_eq (a := x0 + x1 + x2 + x3 + x4 + x5 - x0 - x1 - x2) (by omega) (by omega), parrylaw2_ExprKids.B8_eq]
  refine if_of rfl (if_not rfl (if_not rfl (if_not rfl (if_of rfl ?_))))
  rw [parrylaw2_ExprKids.B9_eq, wrap_eq (a := x0 + x1 + x2 + x3 + x4 + x5 - x0 - x1 - x2 - x3) (by omega) (by omega), parrylaw2_ExprKids.B8_eq]
  refine if_of rfl (if_not rfl (if_not rfl (if_not rfl (if_not rfl (if_of rfl ?_)))))
  rw [parrylaw2_ExprKids.B9_eq, wrap_eq (a := x0 + x1 + x2 + x3 + x4 + x5 - x0 - x1 - x2 - x3 - x4) (by omega) (by omega), parrylaw2_ExprKids.B8_eq]
  refine if_of rfl (if_not rfl (if_not rfl (if_not rfl (if_not rfl (if_not rfl (if_of rfl ?_))))))
  rw [parrylaw2_ExprKids.B9_eq, wrap_eq (a := x0 + x1 + x2 + x3 + x4 + x5 - x0 - x1 - x2 - x3 - x4 - x5) (by omega) (by omega), parrylaw2_ExprKids.B8_eq]
  exact if_not rfl (if_not (by simp; omega) (hc N (by omega)))
/-- One of both readings. -/
theorem kOne {h : H} {Q : Option R} {n i : Int} {nx a b : Bool} {k : T} {op m0 : Int} (hk : KW k) (he : mayE (.mk op m0 (kidsOf k)) = 0)
    (hr : ∀ i, i < k.len → ∀ o m, ∃ t, C_expr_Reads h o m (k.el i 2) nx = some (lookR [(0, t)]) ∧ Ints t (readsE (opR nx) (.mk o m (kidsOf (k.el i 2)))))
    (hr0 : ∃ t, C_expr_Reads h op m0 k nx = some (lookR [(0, t)]) ∧ Ints t (readsE (opR nx) (.mk op m0 (kidsOf k)))) {c : Nat}
    (hc : ∀ M, c ≤ M → parrylaw2_ExprKids.B0 h M n a b (IntKind.wrap .i64 (i + 1)) op m0 k = Q) :
    ∀ N, c + 200 + 130 * k.len ≤ N → parrylaw2_ExprKids.B1 h N n nx a b i k (k.len : Int) 0 op m0 k 0 0 0 0 0 0 = Q := by
  intro N hN
  have ht : opR nx = 3 ∨ opR nx = 4 := by cases nx <;> simp [opR]
  have hm : ∀ i, i < k.len → mayE (exAt k i) = 0 := fun i hi => mayE_kid he (List.mem_of_getElem? (kidsOf_get k hi))
  have hkm : ∀ q ∈ kidsOf k, mayE q = 0 := fun q hq => mayE_kid he hq
  -- behind the kids
  have end5 : ∀ f : Int → Bool, f = orIn (fun _ => false) (rdE (opR nx) (.mk op m0 (kidsOf k))) → ∀ M, c + 140 ≤ M → parrylaw2_ExprKids.B5 h M n nx a b i op m0 k (bitE (f 0)) (bitE (f 1)) (bitE (f 2)) (bitE (f 3)) (bitE (f 4)) (bitE (f 5)) = Q := by
    intro f hf M hM
    obtain ⟨M, rfl⟩ : ∃ M', M = M' + 1 := ⟨M - 1, by omega⟩
    obtain ⟨t, e1, e2⟩ := hr0
    have e3 : readsE (opR nx) (.mk op m0 (kidsOf k)) = marked f := by rw [hf, marked_reads ht he]
    rw [e3] at e2
    have e4 : (marked f).length ≤ 60 := by rw [← e3]; exact readsE_len _ _
    rw [parrylaw2_ExprKids.B5_eq]
    refine bind_of e1 ?_
    exact kB6 e2 e4 (fun x hx => ((marked_rise f).2 x).1 hx) (c := c + 13) (kB8 (c := c) hc) (marked f).length 0 (by omega) M (by omega)
  have same : ∀ own : List Int, (∀ x, x ∈ own ↔ x ∈ (if op = opR nx then [m0] else [])) → orIn (orIn (fun _ => false) (kidReads (opR nx) (kidsOf k))) own = orIn (fun _ => false) (rdE (opR nx) (.mk op m0 (kidsOf k))) := by
    intro own ho
    rw [orIn_app]
    funext j
    simp only [orIn, Bool.false_or, rdE]
    rw [Bool.eq_iff_iff, List.contains_iff_mem, List.contains_iff_mem, List.mem_append, List.mem_append, ho, kidReads_mem hkm, or_comm]
  have e0 : (0 : Int) = bitE ((fun _ => false : Int → Bool) 0) := rfl
  have go : parrylaw2_ExprKids.B1 h N n nx a b i k (k.len : Int) ((0 : Nat) : Int) op m0 k (bitE ((fun _ => false : Int → Bool) 0)) (bitE ((fun _ => false : Int → Bool) 1)) (bitE ((fun _ => false : Int → Bool) 2)) (bitE ((fun _ => false : Int → Bool) 3)) (bitE ((fun _ => false : Int → Bool) 4)) (bitE ((fun _ => false : Int → Bool) 5)) = Q := by
    refine kB1 hk hm hr (c := c + 150) k.len 0 (by omega) (fun _ => false) (fun M hM => ?_) N (by omega)
    obtain ⟨M, rfl⟩ : ∃ M', M = M' + 1 + 1 := ⟨M - 2, by omega⟩
    rw [List.drop_zero, parrylaw2_ExprKids.B1_eq]
    refine if_not (decide_eq_false (by omega)) ?_
    have hn := (mayE_inv he).1
    simp only [soundE, Bool.and_eq_true] at hn
    have hn := hn.1.2
    have own : op = opR nx → (∀ M, c + 141 ≤ M → parrylaw2_ExprKids.B4 h M n nx a b i op m0 k (bitE (orIn (fun _ => false) (kidReads (opR nx) (kidsOf k)) 0)) (bitE (orIn (fun _ => false) (kidReads (opR nx) (kidsOf k)) 1)) (bitE (orIn (fun _ => false) (kidReads (opR nx) (kidsOf k)) 2)) (bitE (orIn (fun _ => false) (kidReads (opR nx) (kidsOf k)) 3)) (bitE (orIn (fun _ => false) (kidReads (opR nx) (kidsOf k)) 4)) (bitE (orIn (fun _ => false) (kidReads (opR nx) (kidsOf k)) 5)) = Q) ∧ 0 ≤ m0 ∧ m0 < 6 := by
      intro ho
      have hb : 0 ≤ m0 ∧ m0 < 6 := by
        unfold numberE at hn
        rw [if_neg (by omega), if_neg (by omega), if_pos (by omega)] at hn
        exact of_decide_eq_true hn
      refine ⟨fun M hM => ?_, hb⟩
      obtain ⟨M, rfl⟩ : ∃ M', M = M' + 1 := ⟨M - 1, by omega⟩
      rw [parrylaw2_ExprKids.B4_eq]
      refine mark6 hb.1 hb.2 (orIn (fun _ => false) (kidReads (opR nx) (kidsOf k))) (fun x0 x1 x2 x3 x4 x5 => parrylaw2_ExprKids.B5 h M n nx a b i op m0 k x0 x1 x2 x3 x4 x5) ?_
      exact end5 _ (same [m0] (fun x => by rw [if_pos ho])) M (by omega)
    have none_ : op ≠ opR nx → ∀ M, c + 140 ≤ M → parrylaw2_ExprKids.B5 h M n nx a b i op m0 k (bitE (orIn (fun _ => false) (kidReads (opR nx) (kidsOf k)) 0)) (bitE (orIn (fun _ => false) (kidReads (opR nx) (kidsOf k)) 1)) (bitE (orIn (fun _ => false) (kidReads (opR nx) (kidsOf k)) 2)) (bitE (orIn (fun _ => false) (kidReads (opR nx) (kidsOf k)) 3)) (bitE (orIn (fun _ => false) (kidReads (opR nx) (kidsOf k)) 4)) (bitE (orIn (fun _ => false) (kidReads (opR nx) (kidsOf k)) 5)) = Q := by
      intro ho M hM
      refine end5 _ ?_ M hM
      have := same [] (fun x => by rw [if_neg ho])
      rwa [orIn_nil] at this
    cases nx with
    | false =>
      by_cases c3 : op = 3
      · obtain ⟨w1, w2⟩ := own c3
        exact if_of (by simpa using c3) (if_of rfl (if_not (decide_eq_false (by omega)) (if_not (decide_eq_false (by omega)) (w1 _ (by omega)))))
      · have w := none_ c3 (M + 1) (by omega)
        refine if_not (by simpa using c3) (if_both (fun _ => ?_) fun _ => w)
        exact if_not rfl w
    | true =>
      by_cases c4 : op = 4
      · obtain ⟨w1, w2⟩ := own c4
        exact if_not (by simp [c4]) (if_of (by simpa using c4) (if_of rfl (if_not (decide_eq_false (by omega)) (if_not (decide_eq_false (by omega)) (w1 _ (by omega))))))
      · have w := none_ c4 (M + 1) (by omega)
        refine if_both (fun _ => if_not rfl (if_not (by simpa using c4) w)) fun _ => if_not (by simpa using c4) w
  exact go
/-- The kids are counted. -/
theorem kB2 {h : H} {k : T} {op m0 : Int} (hk : KW k) (he : mayE (.mk op m0 (kidsOf k)) = 0) (hm : ∀ i, i < k.len → ∀ o m, C_expr_May h o m (k.el i 2) = ri (mayE (.mk o m (kidsOf (k.el i 2))))) (hn : ∀ i, i < k.len → ∀ o m, C_expr_Nodes h o m (k.el i 2) = ri (nodesE (.mk o m (kidsOf (k.el i 2)))))
    (h0 : C_expr_Nodes h op m0 k = ri (nodesE (.mk op m0 (kidsOf k)))) (hq : C_expr_Kids h op = ri (kidsN op)) (ha : C_parrylaw2_awake h = rb true) :
    ∀ (m i : Nat), i + m = k.len → ∀ (N : Nat) (n : Int), m < N → 0 ≤ n → n + cntL ((kidsOf k).drop i) = nodesE (.mk op m0 (kidsOf k)) → parrylaw2_ExprKids.B2 h N n k (k.len : Int) (i : Int) op m0 k = rb true
  | 0, i, hi, N, n, hN, hp, hs => by
    obtain ⟨N, rfl⟩ : ∃ M, N = M + 1 := ⟨N - 1, by omega⟩
    rw [List.drop_of_length_le (by rw [kidsOf_len]; omega)] at hs
    simp only [cntL, Int.add_zero] at hs
    have hl := (mayE_inv he).1
    simp only [soundE, Bool.and_eq_true] at hl
    have hl := (soundE_inv (mayE_inv he).1).1
    rw [parrylaw2_ExprKids.B2_eq]
    refine if_not (decide_eq_false (by omega)) (bind_of h0 (if_of (by simp [lookR_0, int_i]; omega) (bind_of hq (if_of (by simp [lookR_0, int_i]; omega) (bind_of ha rfl)))))
  | m + 1, i, hi, N, n, hN, hp, hs => by
    obtain ⟨N, rfl⟩ : ∃ M, N = M + 1 := ⟨N - 1, by omega⟩
    have hlen := hk.len
    have x1 : Ex.mk (k.el i 0).int (k.el i 1).int (kidsOf (k.el i 2)) = exAt k i := rfl
    have hmi : mayE (exAt k i) = 0 := mayE_kid he (List.mem_of_getElem? (kidsOf_get k (by omega)))
    have e1 := hm i (by omega) (k.el i 0).int (k.el i 1).int
    have e2 := hn i (by omega) (k.el i 0).int (k.el i 1).int
    rw [x1] at e1 e2
    have hc := light_cnt (mayE_inv hmi).2
    have hc0 := light_cnt (mayE_inv he).2
    have g1 := cntE_nonneg (exAt k i)
    have g2 := cntL_nonneg ((kidsOf k).drop (i + 1))
    rw [kidsOf_from k i (by omega)] at hs
    simp only [cntL] at hs
    have ih := kB2 hk he hm hn h0 hq ha m (i + 1) (by omega) N (n + nodesE (exAt k i)) (by omega) (by omega) (by omega)
    rw [parrylaw2_ExprKids.B2_eq, Int.toNat_natCast, wrap_eq (a := (i : Int) + 1) (by omega) (by omega)]
    refine if_of (decide_eq_true (by omega)) (if_of (by simp; omega) (bind_of e1 (if_not (by simp [lookR_0, int_i, hmi]) (bind_of e2 ?_))))
    have : IntKind.wrap .i64 (n + ((lookR [(0, T.i (nodesE (exAt k i)))]) 0).int) = n + nodesE (exAt k i) := wrap_eq (by rw [lookR_0, int_i]; omega) (by rw [lookR_0, int_i]; omega)
    rw [this]
    exact ih
theorem ExprKids_sp (a0 a1 : Int) (ak : T) (ha : WT Try.prog 28 ak) : Ev fun N => C_parrylaw2_ExprKids (K N) a0 a1 ak = rb true := by
  have hk := WT_KW ha
  refine Ev.step (Ev.imp4 (Ev.and (heavyE_sp ak hk) (Ev.and (May_sp ak hk) (Reads_sp ak hk))) (Ev.and (Nodes_sp ak hk) (Ev.and Kids_sp awake2_sp)) (Ev.and (Ev.all (k := ak.len) fun i hi => May_sp _ (hk.el hi)) (Ev.and (Ev.all (k := ak.len) fun i hi => Nodes_sp _ (hk.el hi)) (Ev.all (k := ak.len) fun i hi => Reads_sp _ (hk.el hi)))) (Ev.ge (1000 + 300 * ak.len)) fun N h1 h2 h3 hN => ?_)
  obtain ⟨hh, hm, hr⟩ := h1
  obtain ⟨hn, hq, haw⟩ := h2
  obtain ⟨hmk, hnk, hrk⟩ := h3
  obtain ⟨y, hy⟩ := hh a0 a1
  have aw : ((C_parrylaw2_awake (K N)).bind fun r => some (lookR [(0, T.b (r 0).bool)])) = rb true := by rw [haw]; rfl
  rw [C_parrylaw2_ExprKids_K]
  refine bind_of hy (if_both (fun _ => aw) fun _ => bind_of (hm a0 a1) ?_)
  by_cases he : mayE (.mk a0 a1 (kidsOf ak)) = 0
  · refine if_not (by simp [lookR_0, int_i, he]) ?_
    have hc0 := light_cnt (mayE_inv he).2
    have e0 : (((0 : Nat) : Int)) = 0 := rfl
    have last : ∀ M, ak.len + 2 ≤ M → parrylaw2_ExprKids.B0 (K N) M 1 false true 2 a0 a1 ak = rb true := by
      intro M hM
      obtain ⟨M, rfl⟩ : ∃ M', M = M' + 1 := ⟨M - 1, by omega⟩
      rw [parrylaw2_ExprKids.B0_eq]
      refine if_not (by decide) ?_
      refine kB2 hk he hmk hnk (hn a0 a1) (hq a0) haw ak.len 0 (by omega) M 1 (by omega) (by omega) ?_
      rw [List.drop_zero, hc0.1]
      simp only [cntE]
    have second : ∀ M, ak.len + 2 + 201 + 130 * ak.len ≤ M → parrylaw2_ExprKids.B0 (K N) M 1 false true 1 a0 a1 ak = rb true := by
      intro M hM
      obtain ⟨M, rfl⟩ : ∃ M', M = M' + 1 := ⟨M - 1, by omega⟩
      rw [parrylaw2_ExprKids.B0_eq]
      refine if_of (by decide) (if_not (by decide) (if_of (by decide) ?_))
      exact kOne hk he (fun i hi o m => hrk i hi o m true) (hr a0 a1 true) (c := ak.len + 2) last M (by omega)
    obtain ⟨M, rfl⟩ : ∃ M, N = M + 1 := ⟨N - 1, by omega⟩
    rw [parrylaw2_ExprKids.B0_eq]
    refine if_of (by decide) (if_of (by decide) ?_)
    exact kOne hk he (fun i hi o m => hrk i hi o m false) (hr a0 a1 false) (c := ak.len + 2 + 201 + 130 * ak.len) second M (by omega)
  · refine if_of (by simpa [lookR_0, int_i] using he) ?_
    obtain ⟨t1, r1, i1⟩ := hr a0 a1 true
    obtain ⟨t2, r2, i2⟩ := hr a0 a1 false
    have z : ∀ t, readsE t (.mk a0 a1 (kidsOf ak)) = [] := fun t => by unfold readsE; rw [if_pos he]
    rw [z] at i1 i2
    refine bind_of r1 (bind_of r2 (if_of ?_ aw))
    rw [lookR_0, lookR_0, i1.1, i2.1]
    rfl
end Go.Proofs.Ytfejbgnbganolaa
