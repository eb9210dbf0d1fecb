/- The document's own answers: MayCommand, MayModule. -/
import Derived.Test.YtnjandhaeojieaaLa33
set_option linter.unusedVariables false
set_option linter.unusedSimpArgs false
namespace Go.AM
theorem firstE_app {α : Type} {f : α → Int} : ∀ {l r : List α}, firstE f (l ++ r) = if firstE f l ≠ 0 then firstE f l else firstE f r
  | [], r => by simp [firstE]
  | x :: l, r => by
    by_cases c : f x = 0
    · have e : ∀ q, firstE f (x :: q) = firstE f q := fun q => if_neg (by simpa using c)
      rw [List.cons_append, e, e]; exact firstE_app
    · have e : ∀ q, firstE f (x :: q) = f x := fun q => if_pos c
      rw [List.cons_append, e, e, if_pos c]
end Go.AM
namespace Go.Proofs.Ytnjandhaeojieaa
open Go.AM
section
variable {h : H} {l t : T} {env : Bool}
end
section
variable {h : H} {l k1 k2 te ts ta tn tp : T} {o1 n1 o2 n2 : Int}
end
end Go.Proofs.Ytnjandhaeojieaa
set_option linter.unusedVariables false
set_option linter.unusedSimpArgs false
namespace Go.AM
open Go.Proofs.Ytnjandhaeojieaa
def stripV (v : Va) : Bool × Int × Int × Int := (v.env, v.sort, v.lo, v.hi)
section
variable {l l' : List Va} (h : l.map stripV = l'.map stripV) (m : mayV l = 0) (m' : mayV l' = 0)
include h m m'
end
theorem needs_light {l : List Va} {e : Ex} {want : Int} {now env sys : Bool} (h : needsE l e want now env sys = 0) : sameX e e = true := by
  have e1 : (sortE l e).2 = 0 := by
    unfold needsE at h
    by_cases c : (sortE l e).2 = 0
    · exact c
    · rw [if_pos c] at h; exact h
  have e2 : mayE e = 0 := by
    unfold sortE at e1
    by_cases c : mayV l = 0
    · rw [if_neg (by simpa using c)] at e1
      by_cases d : mayE e = 0
      · exact d
      · rw [if_pos d] at e1; exact e1
    · rw [if_pos c] at e1; exact absurd e1 c
  have e3 : lightE e = true := by
    unfold mayE at e2
    cases c : lightE e with
    | true => rfl
    | false => rw [c] at e2; simp at e2
  unfold sameX
  rw [e3, sameE_self]
  rfl
theorem eqL_self {α : Type} {p : α → α → Bool} : ∀ {l : List α}, (∀ x ∈ l, p x x = true) → eqL p l l = true
  | [], _ => rfl
  | x :: l, h => by
    simp only [eqL]
    rw [h x (List.mem_cons_self ..), eqL_self fun y hy => h y (List.mem_cons_of_mem _ hy)]
    rfl
theorem sets_same {l : List Va} {env : Bool} : ∀ {ss : List Se} {was : List Int}, setsGo l env ss was = 0 → ∀ s ∈ ss, sameS s s = true
  | [], _, _, s, hs => absurd hs (List.not_mem_nil)
  | s :: r, was, h, x, hx => by
    simp only [setsGo] at h
    by_cases c : setE l env was s = 0
    case neg => rw [if_pos c] at h; exact absurd h c
    rw [if_neg (by simpa using c)] at h
    rcases List.mem_cons.1 hx with rfl | hx
    · unfold sameS
      rw [decide_eq_true rfl, beq_self_eq_true]
      unfold setE at c
      split at c
      · exact absurd c (by omega)
      · split at c
        · exact absurd c (by omega)
        · rename_i d1 d2
          split at c
          · rename_i d3
            have : bareE x.e = true := by
              cases d : bareE x.e with
              | true => rfl
              | false => exact absurd ⟨d3, d⟩ d2
            rw [this]; rfl
          · rw [needs_light c]
            simp
    · exact sets_same h x hx
theorem cmd_same {l : List Va} {env : Bool} {c : Cm} (h : mayCmd l env c = 0) : sameC c c = true := by
  obtain ⟨h1, h2, h3, h4⟩ := mayCmd_zero h
  unfold sameC
  rw [needs_light h2, eqL_self (sets_same h4)]
  rfl
theorem sameV_self (v : Va) : sameV v v = true := by
  unfold sameV
  simp [strEq_self]
theorem mayM_zero {m : Md} (h : mayM m = 0) : mayV m.vars = 0 ∧ needsE m.vars m.ie 1 false false false = 0 ∧ needsE m.vars m.is 1 true false false = 0 ∧ firstE (mayCmd m.vars true) m.env = 0 ∧ firstE (mayCmd m.vars false) m.sys = 0 ∧ firstE (fun e => needsE m.vars e 1 true false false) (m.assume ++ m.ensure ++ m.prio) = 0 := by
  unfold mayM at h
  by_cases c1 : mayV m.vars = 0
  case neg => rw [if_pos c1] at h; exact absurd h c1
  rw [if_neg (by simpa using c1)] at h
  by_cases c2 : needsE m.vars m.ie 1 false false false = 0
  case neg => rw [if_pos c2] at h; exact absurd h c2
  rw [if_neg (by simpa using c2)] at h
  by_cases c3 : needsE m.vars m.is 1 true false false = 0
  case neg => rw [if_pos c3] at h; exact absurd h c3
  rw [if_neg (by simpa using c3)] at h
  by_cases c4 : fullM m = true
  · rw [if_pos c4] at h; exact absurd h (by omega)
  rw [if_neg c4] at h
  by_cases c5 : firstE (mayCmd m.vars true) m.env = 0
  case neg => rw [if_pos c5] at h; exact absurd h c5
  rw [if_neg (by simpa using c5)] at h
  by_cases c6 : firstE (mayCmd m.vars false) m.sys = 0
  case neg => rw [if_pos c6] at h; exact absurd h c6
  rw [if_neg (by simpa using c6)] at h
  by_cases c7 : 0 < m.prio.length ∧ 0 < m.assume.length + m.ensure.length
  · rw [if_pos c7] at h; exact absurd h (by omega)
  rw [if_neg c7] at h
  exact ⟨c1, c2, c3, c5, c6, h⟩
end Go.AM
set_option linter.unusedVariables false
set_option linter.unusedSimpArgs false
namespace Go.Proofs.Ytnjandhaeojieaa
open Go.AM
end Go.Proofs.Ytnjandhaeojieaa
