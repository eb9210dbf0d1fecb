/- What may be chosen: choice.Env, choice.Sys. -/
import Derived.Test.YtnjandhaeojieaaLa40
set_option linter.unusedVariables false
set_option linter.unusedSimpArgs false
namespace Go.AM
open Go.Proofs.Ytnjandhaeojieaa
theorem mayM_full {m : Md} (h : mayM m = 0) : fullM m = false := by
  unfold mayM at h
  by_cases c1 : mayV m.vars = 0
  case neg => rw [if_pos c1] at h; exact absurd h c1
  rw [if_neg (by simpa using c1)] at h
  by_cases c2 : needsE m.vars m.ie 1 false false false = 0
  case neg => rw [if_pos c2] at h; exact absurd h c2
  rw [if_neg (by simpa using c2)] at h
  by_cases c3 : needsE m.vars m.is 1 true false false = 0
  case neg => rw [if_pos c3] at h; exact absurd h c3
  rw [if_neg (by simpa using c3)] at h
  cases c4 : fullM m with
  | false => rfl
  | true => rw [if_pos c4] at h; exact absurd h (by omega)
end Go.AM
namespace Go.Proofs.Ytnjandhaeojieaa
open Go.AM
section
variable {h : H} {l t : T} {keeps now next : Int}
end
section
variable (l k1 k2 te ts ta tn tp : T) (hl : l.len ≤ 9223372036854775807) (h1 : KW k1) (h2 : KW k2) (he : KC te) (hs : KC ts) (ha : KW ta) (hn : KW tn) (hp : KW tp) (hT : mayV (varsOf l) = 0 → prodV (varsOf l) ≤ 24)
include hl h1 h2 he hs ha hn hp hT
end
end Go.Proofs.Ytnjandhaeojieaa
