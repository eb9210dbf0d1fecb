/- The law ChoiceAny: a command that sets all to any leads everywhere on its side. -/
import Derived.Test.YtnjandhaeojieaaLa50
set_option linter.unusedVariables false
set_option linter.unusedSimpArgs false
namespace Go.AM
open Go.Proofs.Ytnjandhaeojieaa
theorem mayM_seven {m : Md} (h : mayM m = 0) : ¬ (0 < m.prio.length ∧ 0 < m.assume.length + m.ensure.length) := by
  obtain ⟨c1, c2, c3, c5, c6, _⟩ := mayM_zero h
  have c4 := mayM_full h
  unfold mayM at h
  rw [if_neg (by simpa using c1), if_neg (by simpa using c2), if_neg (by simpa using c3), if_neg (by simp [c4]), if_neg (by simpa using c5), if_neg (by simpa using c6)] at h
  intro q
  rw [if_pos q] at h
  exact absurd h (by omega)
theorem mayM_change {l : List Va} {ie is ie' is' : Ex} {te ts te' ts' : List Cm} {A E P : List Ex} (h : mayM ⟨l, ie, is, te, ts, A, E, P⟩ = 0) (h2 : needsE l ie' 1 false false false = 0) (h3 : needsE l is' 1 true false false = 0) (n1 : te'.length ≤ 12) (n2 : ts'.length ≤ 12) (h5 : firstE (mayCmd l true) te' = 0) (h6 : firstE (mayCmd l false) ts' = 0) : mayM ⟨l, ie', is', te', ts', A, E, P⟩ = 0 := by
  obtain ⟨c1, _, _, _, _, c8⟩ := mayM_zero h
  have c4 := mayM_full h
  have c7 := mayM_seven h
  refine mayM_of c1 h2 h3 ?_ h5 h6 c7 c8
  unfold fullM at c4 ⊢
  simp only [Bool.or_eq_false_iff, decide_eq_false_iff_not] at c4 ⊢
  exact ⟨⟨by omega, c4.1.2⟩, c4.2⟩
end Go.AM
namespace Go.Proofs.Ytnjandhaeojieaa
open Go.AM
section
variable {h : H} {l k1 k2 te ts ta tn tp : T} {o1 n1 o2 n2 st v : Int}
end
end Go.Proofs.Ytnjandhaeojieaa
