/- The law ExprKids: what may be has kids that may be. -/
import Derived.Test.YtnlkhjileipmcaaGreatLa20
set_option linter.unusedVariables false
set_option linter.unusedSimpArgs false
namespace Go.AM
mutual
theorem fitD_mono : ∀ (e : Ex) (d : Int), fitD e (d + 1) = true → fitD e d = true
  | .mk _ _ ks, d, h => by
    simp only [fitD, Bool.and_eq_true, decide_eq_true_eq] at h ⊢
    exact ⟨by omega, fitL_mono ks (d + 1) h.2⟩
theorem fitL_mono : ∀ (l : List Ex) (d : Int), fitL l (d + 1) = true → fitL l d = true
  | [], _, _ => rfl
  | k :: ks, d, h => by
    simp only [fitL, Bool.and_eq_true] at h ⊢
    exact ⟨fitD_mono k d h.1, fitL_mono ks d h.2⟩
end
theorem fitL_mem {d : Int} : ∀ {l : List Ex} {k : Ex}, k ∈ l → fitL l d = true → fitD k d = true
  | q :: l, k, hk, h => by
    simp only [fitL, Bool.and_eq_true] at h
    rcases List.mem_cons.1 hk with rfl | hk
    · exact h.1
    · exact fitL_mem hk h.2
theorem cntL_mem : ∀ {l : List Ex} {k : Ex}, k ∈ l → cntE k ≤ cntL l
  | q :: l, k, hk => by
    have h1 := cntE_nonneg q
    have h2 := cntL_nonneg l
    simp only [cntL]
    rcases List.mem_cons.1 hk with rfl | hk
    · omega
    · have := cntL_mem hk; omega
theorem soundL_mem : ∀ {l : List Ex} {k : Ex}, k ∈ l → soundL l = true → soundE k = true
  | q :: l, k, hk, h => by
    simp only [soundL, Bool.and_eq_true] at h
    rcases List.mem_cons.1 hk with rfl | hk
    · exact h.1
    · exact soundL_mem hk h.2
theorem mayE_of2 {e : Ex} (hs : soundE e = true) (hl : lightE e = true) : mayE e = 0 := by
  unfold mayE
  rw [if_pos hl, if_pos hs]
/-- A kid of what may be may be. -/
theorem mayE_kid {o n : Int} {ks : List Ex} (h : mayE (.mk o n ks) = 0) {k : Ex} (hk : k ∈ ks) : mayE k = 0 := by
  obtain ⟨h1, h2⟩ := mayE_inv h
  obtain ⟨h3, h4⟩ := (light_iff _).1 h2
  simp only [soundE, Bool.and_eq_true] at h1
  simp only [fitD, Bool.and_eq_true] at h3
  simp only [cntE] at h4
  have h5 := cntL_mem hk
  exact mayE_of2 (soundL_mem hk h1.2) ((light_iff k).2 ⟨fitD_mono k 1 (fitL_mem hk h3.2), by omega⟩)
theorem rdL_mem {t : Int} {x : Int} : ∀ {l : List Ex}, x ∈ rdL t l ↔ ∃ k ∈ l, x ∈ rdE t k
  | [] => by simp [rdL]
  | q :: l => by
    simp only [rdL, List.mem_append, rdL_mem (l := l), List.mem_cons]
    constructor
    · rintro (h | ⟨k, h1, h2⟩)
      · exact ⟨q, .inl rfl, h⟩
      · exact ⟨k, .inr h1, h2⟩
    · rintro ⟨k, rfl | h1, h2⟩
      · exact .inl h2
      · exact .inr ⟨k, h1, h2⟩
theorem readsE_mem {t : Int} {e : Ex} (h : mayE e = 0) (x : Int) : x ∈ readsE t e ↔ x ∈ rdE t e := by
  unfold readsE
  rw [if_neg (by simpa using h)]
  exact (sortUp (rdE t e)).2 x
/-- What the kids read, one after the other. -/
def kidReads (t : Int) : List Ex → List Int
  | [] => []
  | k :: ks => readsE t k ++ kidReads t ks
theorem kidReads_mem {t : Int} {x : Int} : ∀ {l : List Ex}, (∀ k ∈ l, mayE k = 0) → (x ∈ kidReads t l ↔ x ∈ rdL t l)
  | [], _ => Iff.rfl
  | q :: l, h => by
    simp only [kidReads, rdL, List.mem_append, readsE_mem (h q (List.mem_cons_self ..)), kidReads_mem (l := l) fun k hk => h k (List.mem_cons_of_mem _ hk)]
end Go.AM
namespace Go.Proofs.YtnlkhjileipmcaaGreat
open Go.AM
theorem orIn_one (f : Int → Bool) (v j : Int) : orIn f [v] j = (f j || decide (j = v)) := by simp [orIn]
theorem mark6 {Q : Option R} {v : Int} (h0 : 0 ≤ v) (h6 : v < 6) (f : Int → Bool) (F : Int → Int → Int → Int → Int → Int → Option R)
    (hq : F (bitE (orIn f [v] 0)) (bitE (orIn f [v] 1)) (bitE (orIn f [v] 2)) (bitE (orIn f [v] 3)) (bitE (orIn f [v] 4)) (bitE (orIn f [v] 5)) = Q) :
    (bif v == (0 : Int) then F 1 (bitE (f 1)) (bitE (f 2)) (bitE (f 3)) (bitE (f 4)) (bitE (f 5)) else (bif v == (1 : Int) then F (bitE (f 0)) 1 (bitE (f 2)) (bitE (f 3)) (bitE (f 4)) (bitE (f 5)) else (bif v == (2 : Int) then F (bitE (f 0)) (bitE (f 1)) 1 (bitE (f 3)) (bitE (f 4)) (bitE (f 5)) else (bif v == (3 : Int) then F (bitE (f 0)) (bitE (f 1)) (bitE (f 2)) 1 (bitE (f 4)) (bitE (f 5)) else (bif v == (4 : Int) then F (bitE (f 0)) (bitE (f 1)) (bitE (f 2)) (bitE (f 3)) 1 (bitE (f 5)) else (bif v == (5 : Int) then F (bitE (f 0)) (bitE (f 1)) (bitE (f 2)) (bitE (f 3)) (bitE (f 4)) 1 else none)))))) = Q := by
  rw [orIn_one, orIn_one, orIn_one, orIn_one, orIn_one, orIn_one] at hq
  have c : v = 0 ∨ v = 1 ∨ v = 2 ∨ v = 3 ∨ v = 4 ∨ v = 5 := by omega
  rcases c with rfl | rfl | rfl | rfl | rfl | rfl <;> simp at hq ⊢ <;> exact hq
theorem seen6 {Q X Y : Option R} {v : Int} (h0 : 0 ≤ v) (h6 : v < 6) {f : Int → Bool} (hf : f v = true) (hq : X = Q) :
    (bif v == (0 : Int) then (bif bitE (f 0) == (0 : Int) then Y else X) else (bif v == (1 : Int) then (bif bitE (f 1) == (0 : Int) then Y else X) else (bif v == (2 : Int) then (bif bitE (f 2) == (0 : Int) then Y else X) else (bif v == (3 : Int) then (bif bitE (f 3) == (0 : Int) then Y else X) else (bif v == (4 : Int) then (bif bitE (f 4) == (0 : Int) then Y else X) else (bif v == (5 : Int) then (bif bitE (f 5) == (0 : Int) then Y else X) else none)))))) = Q := by
  have c : v = 0 ∨ v = 1 ∨ v = 2 ∨ v = 3 ∨ v = 4 ∨ v = 5 := by omega
  rcases c with rfl | rfl | rfl | rfl | rfl | rfl <;> rw [hf] <;> exact hq
theorem Ints.el0 {t : T} {l : List Int} (h : Ints t l) {j : Nat} (hj : j < l.length) : (t.el j 0).int = l[j] := h.2 j _ (List.getElem?_eq_getElem hj)
theorem bitE_cases (b : Bool) : (b = true ∧ bitE b = 1) ∨ (b = false ∧ bitE b = 0) := by cases b <;> simp [bitE]
theorem marked_len (f : Int → Bool) : ((marked f).length : Int) = bitE (f 0) + bitE (f 1) + bitE (f 2) + bitE (f 3) + bitE (f 4) + bitE (f 5) := by
  unfold marked addIf
  cases f 0 <;> cases f 1 <;> cases f 2 <;> cases f 3 <;> cases f 4 <;> cases f 5 <;> decide
end Go.Proofs.YtnlkhjileipmcaaGreat
