/- The document's own answer: does a command lead there? -/
import Derived.Test.YtnjandhaeojieaaGreatLa45
set_option linter.unusedVariables false
set_option linter.unusedSimpArgs false
namespace Go.AM
open Go.Proofs.YtnjandhaeojieaaGreat
def wantE (l : List Va) (i : Int) (now next : Int) : List Se → Int → Bool → Option (Int × Bool)
  | [], w, a => some (w, a)
  | s :: r, w, a => if s.var = i then (if s.any = true then wantE l i now next r w true else if (valueE l s.e now next).2 ≠ 0 then none else wantE l i now next r (valueE l s.e now next).1 false) else wantE l i now next r w a
def hasE (x : Int) : Option (Int × Bool) → Bool
  | none => false
  | some (w, a) => a || (x == w)
def okFrom (f : Nat → Bool) : Nat → Nat → Bool
  | _, 0 => true
  | i, m + 1 => f i && okFrom f (i + 1) m
theorem okFrom_iff {f : Nat → Bool} : ∀ {m i : Nat}, okFrom f i m = true ↔ ∀ j, i ≤ j → j < i + m → f j = true
  | 0, i => by simp only [okFrom, true_iff]; intro j h1 h2; omega
  | m + 1, i => by
    simp only [okFrom, Bool.and_eq_true, okFrom_iff (m := m)]
    constructor
    · rintro ⟨h1, h2⟩ j a b
      by_cases c : j = i
      · subst c; exact h1
      · exact h2 j (by omega) (by omega)
    · intro h
      exact ⟨h i (by omega) (by omega), fun j a b => h j (by omega) (by omega)⟩
def doesE (l : List Va) (c : Cm) (env : Bool) (s next to : Int) : Bool :=
  trueE l c.guard s next && okFrom (fun i => !(envAt l (i : Int) == env) || hasE ((valuesFrom l to).getD i 0) (wantE l i s next c.sets ((valuesFrom l s).getD i 0) false)) 0 l.length
end Go.AM
namespace Go.Proofs.YtnjandhaeojieaaGreat
open Go.AM
section
variable {h : H} {l t : T} {env : Bool} {now next : Int} {gW gI : Nat → Nat → T}
end
end Go.Proofs.YtnjandhaeojieaaGreat
set_option linter.unusedVariables false
set_option linter.unusedSimpArgs false
namespace Go.AM
open Go.Proofs.YtnjandhaeojieaaGreat
def refEnvE (m : Md) (s : Int) : List Int := if mayM m ≠ 0 then [] else if valuesOk m.vars s = false then [] else (upFrom 0 (totalE m.vars).toNat).filter fun p => m.env.any fun c => pickE m.vars p && doesE m.vars c true s s p
def refSysE (m : Md) (s p : Int) : List Int := if mayM m ≠ 0 then [] else if valuesOk m.vars s = false then [] else if pickE m.vars p = false then [] else (upFrom 0 (totalE m.vars).toNat).filter fun x => m.sys.any fun c => (partE m.vars x true == p) && doesE m.vars c false s p x
end Go.AM
namespace Go.Proofs.YtnjandhaeojieaaGreat
open Go.AM
section
variable (l k1 k2 te ts ta tn tp : T) (hl : l.len ≤ 9223372036854775807) (h1 : KW k1) (h2 : KW k2) (he : KC te) (hs : KC ts) (ha : KW ta) (hn : KW tn) (hp : KW tp)
include hl h1 h2 he hs ha hn hp
end
end Go.Proofs.YtnjandhaeojieaaGreat
