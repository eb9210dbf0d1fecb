/- The document's own answers on expressions: they may be just if the program lets them be. -/
import Derived.Test.YtnjandhaeojieaaLa10
set_option linter.unusedVariables false
set_option linter.unusedSimpArgs false
namespace Go.AM
mutual
def fitD : Ex → Int → Bool
  | .mk _ _ ks, d => decide (d ≤ 12) && fitL ks (d + 1)
def fitL : List Ex → Int → Bool
  | [], _ => true
  | k :: ks, d => fitD k d && fitL ks d
end
mutual
theorem goesE_fit : ∀ (e : Ex) (d n : Int) (b : Bool), fitD e d = true → n + cntE e ≤ 60 → goesE e d n b = (n + cntE e, b)
  | .mk o m ks, d, n, b, h, hn => by
    simp only [fitD, Bool.and_eq_true, decide_eq_true_eq] at h
    have hc := cntL_nonneg ks
    simp only [cntE] at hn ⊢
    simp only [goesE]
    rw [if_neg (by omega), if_neg (by omega), goesL_fit ks d (n + 1) b h.2 (by omega)]
    exact Prod.ext (by show n + 1 + cntL ks = n + (1 + cntL ks); omega) rfl
theorem goesL_fit : ∀ (l : List Ex) (d n : Int) (b : Bool), fitL l (d + 1) = true → n + cntL l ≤ 60 → goesL l d n b = (n + cntL l, b)
  | [], d, n, b, h, hn => by simp [goesL, cntL]
  | k :: ks, d, n, b, h, hn => by
    simp only [fitL, Bool.and_eq_true] at h
    have hc := cntL_nonneg ks
    have hk := cntE_nonneg k
    simp only [cntL] at hn ⊢
    simp only [goesL]
    rw [if_neg (by omega), goesE_fit k (d + 1) n b h.1 (by omega)]
    simp only
    rw [goesL_fit ks d (n + cntE k) b h.2 (by omega)]
    exact Prod.ext (by show n + cntE k + cntL ks = n + (cntE k + cntL ks); omega) rfl
end
mutual
theorem goesE_fits : ∀ (e : Ex) (d n m : Int) (b : Bool), goesE e d n b = (m, false) → m ≤ 60 → fitD e d = true
  | .mk _ _ ks, d, n, m, b, h, hm => by
    simp only [goesE] at h
    split at h
    · cases h
    · split at h
      · cases h; omega
      · simp only [fitD, Bool.and_eq_true, decide_eq_true_eq]
        exact ⟨by omega, goesL_fits ks d (n + 1) m b h hm⟩
theorem goesL_fits : ∀ (l : List Ex) (d n m : Int) (b : Bool), goesL l d n b = (m, false) → m ≤ 60 → fitL l (d + 1) = true
  | [], d, n, m, b, h, hm => rfl
  | k :: ks, d, n, m, b, h, hm => by
    simp only [goesL] at h
    split at h
    · cases h; omega
    · have h1 := goesL_cnt ks d _ m _ h hm
      have h2 := goesL_fits ks d _ m _ h hm
      have h3 := cntL_nonneg ks
      simp only [fitL, Bool.and_eq_true]
      exact ⟨goesE_fits k (d + 1) n (goesE k (d + 1) n b).1 b (Prod.ext rfl h1.1) (by omega), h2⟩
end
theorem light_iff (e : Ex) : lightE e = true ↔ fitD e 1 = true ∧ cntE e ≤ 60 := by
  constructor
  · intro h
    have h1 := light_cnt h
    refine ⟨?_, by omega⟩
    unfold lightE at h
    rw [Bool.and_eq_true] at h
    have h2 : (goesE e 1 0 false).2 = false := by simpa using h.2
    exact goesE_fits e 1 0 (nodesE e) false (Prod.ext rfl h2) h1.2
  · rintro ⟨h1, h2⟩
    have h3 := goesE_fit e 1 0 false h1 (by omega)
    unfold lightE nodesE
    rw [h3]
    simp
    omega
end Go.AM
namespace Go.Proofs.Ytnjandhaeojieaa
open Go.AM
end Go.Proofs.Ytnjandhaeojieaa
