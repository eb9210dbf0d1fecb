/- ExprJoins: two expressions side by side have their nodes, and one more. -/
import Derived.Test.YtnjandhaeojieaaLa5
set_option linter.unusedVariables false
set_option linter.unusedSimpArgs false
namespace Go.AM
mutual
def cntE : Ex → Int
  | .mk _ _ ks => 1 + cntL ks
def cntL : List Ex → Int
  | [] => 0
  | k :: ks => cntE k + cntL ks
end
mutual
theorem cntE_nonneg : ∀ e : Ex, 0 ≤ cntE e
  | .mk _ _ ks => by simp only [cntE]; have := cntL_nonneg ks; omega
theorem cntL_nonneg : ∀ l : List Ex, 0 ≤ cntL l
  | [] => Int.le_refl _
  | k :: ks => by simp only [cntL]; have := cntE_nonneg k; have := cntL_nonneg ks; omega
end
mutual
theorem goesE_cnt : ∀ (e : Ex) (d n m : Int) (b : Bool), goesE e d n b = (m, false) → m ≤ 60 → b = false ∧ m = n + cntE e
  | .mk _ _ ks, d, n, m, b, h, hm => by
    simp only [goesE] at h
    split at h
    · cases h
    · split at h
      · cases h; omega
      · obtain ⟨h1, h2⟩ := goesL_cnt ks d (n + 1) m b h hm
        exact ⟨h1, by simp only [cntE]; omega⟩
theorem goesL_cnt : ∀ (l : List Ex) (d n m : Int) (b : Bool), goesL l d n b = (m, false) → m ≤ 60 → b = false ∧ m = n + cntL l
  | [], d, n, m, b, h, hm => by
    simp only [goesL] at h
    cases h
    exact ⟨rfl, by simp [cntL]⟩
  | k :: ks, d, n, m, b, h, hm => by
    simp only [goesL] at h
    split at h
    · cases h; omega
    · obtain ⟨h1, h2⟩ := goesL_cnt ks d _ m _ h hm
      have h3 := cntL_nonneg ks
      obtain ⟨h4, h5⟩ := goesE_cnt k (d + 1) n (goesE k (d + 1) n b).1 b (by rw [← h1]) (by omega)
      exact ⟨h4, by simp only [cntL]; omega⟩
end
theorem light_cnt {e : Ex} (h : lightE e = true) : nodesE e = cntE e ∧ nodesE e ≤ 60 := by
  unfold lightE at h
  rw [Bool.and_eq_true] at h
  obtain ⟨h1, h2⟩ := h
  have h1 : nodesE e ≤ 60 := of_decide_eq_true h1
  have h2 : (goesE e 1 0 false).2 = false := by simpa using h2
  have := goesE_cnt e 1 0 (nodesE e) false (Prod.ext rfl h2) h1
  exact ⟨by omega, h1⟩
theorem mayE_inv {e : Ex} (h : mayE e = 0) : soundE e = true ∧ lightE e = true := by
  unfold mayE at h
  split at h
  · split at h
    · exact ⟨by assumption, by assumption⟩
    · cases h
  · cases h
end Go.AM
namespace Go.Proofs.Ytnjandhaeojieaa
open Go.AM
end Go.Proofs.Ytnjandhaeojieaa
