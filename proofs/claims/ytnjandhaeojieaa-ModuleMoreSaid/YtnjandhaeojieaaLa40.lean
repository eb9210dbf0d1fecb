/- States and their valuations: what dom.State and dom.Part reckon. -/
import Derived.Test.YtnjandhaeojieaaLa35
set_option linter.unusedVariables false
set_option linter.unusedSimpArgs false
namespace Go.AM
open Go.Proofs.Ytnjandhaeojieaa
def prodV : List Va → Int
  | [] => 1
  | v :: r => sizeV v * prodV r
def InR : List Va → List Int → Prop
  | [], [] => True
  | v :: r, x :: xs => (lowV v ≤ x ∧ x < lowV v + sizeV v) ∧ InR r xs
  | _, _ => False
def Pos (l : List Va) : Prop := ∀ v ∈ l, 0 < sizeV v
theorem Pos.tail {v : Va} {r : List Va} (h : Pos (v :: r)) : Pos r := fun w hw => h w (List.mem_cons_of_mem _ hw)
theorem InR.len : ∀ {l : List Va} {xs : List Int}, InR l xs → xs.length = l.length
  | [], [], _ => rfl
  | [], _ :: _, h => h.elim
  | _ :: _, [], h => h.elim
  | v :: r, x :: xs, h => by simp only [List.length_cons]; rw [InR.len h.2]
theorem InR.drop : ∀ {l : List Va} {xs : List Int}, InR l xs → ∀ i, InR (l.drop i) (xs.drop i)
  | l, xs, h, 0 => by simpa using h
  | [], [], h, i + 1 => by simp [InR]
  | [], _ :: _, h, _ => h.elim
  | _ :: _, [], h, _ => h.elim
  | v :: r, x :: xs, h, i + 1 => by simpa using InR.drop h.2 i
theorem InR.get : ∀ {l : List Va} {xs : List Int}, InR l xs → ∀ {i : Nat} (h1 : i < l.length) (h2 : i < xs.length), lowV l[i] ≤ xs[i] ∧ xs[i] < lowV l[i] + sizeV l[i]
  | [], _, _, i, h1, _ => absurd h1 (Nat.not_lt_zero _)
  | _ :: _, [], _, i, _, h2 => absurd h2 (Nat.not_lt_zero _)
  | v :: r, x :: xs, h, 0, _, _ => h.1
  | v :: r, x :: xs, h, i + 1, h1, h2 => InR.get h.2 (by simpa using h1) (by simpa using h2)
theorem Pos.drop {l : List Va} (h : Pos l) (i : Nat) : Pos (l.drop i) := fun v hv => h v (List.mem_of_mem_drop hv)
end Go.AM
namespace Go.Proofs.Ytnjandhaeojieaa
open Go.AM
end Go.Proofs.Ytnjandhaeojieaa
set_option linter.unusedVariables false
set_option linter.unusedSimpArgs false
namespace Go.AM
open Go.Proofs.Ytnjandhaeojieaa
def upFrom : Int → Nat → List Int
  | _, 0 => []
  | i, m + 1 => i :: upFrom (i + 1) m
def Gives (xs : List Int) (r : Option R) : Prop := ∃ t, r = some (lookR [(0, t)]) ∧ Ints t xs
end Go.AM
namespace Go.Proofs.Ytnjandhaeojieaa
open Go.AM
theorem Gives.cut {xs : List Int} {x : Option R} (h : Gives xs x) : Gives xs (x.bind fun r => some (lookR [(0, (T.l ((r 0).len) (fun i j => ((r 0).el i j))))])) := by
  obtain ⟨t, rfl, h1, h2⟩ := h
  exact ⟨_, rfl, h1, h2⟩
theorem Gives.bind {xs : List Int} {x : Option R} {r : R} {f : R → Option R} (h : x = some r) (k : Gives xs (f r)) : Gives xs (x.bind f) := by rw [h]; exact k
theorem Gives.of {xs : List Int} {c : Bool} {x y : Option R} (h : c = true) (k : Gives xs x) : Gives xs (bif c then x else y) := by rw [h]; exact k
theorem Gives.not {xs : List Int} {c : Bool} {x y : Option R} (h : c = false) (k : Gives xs y) : Gives xs (bif c then x else y) := by rw [h]; exact k
section
variable (l k1 k2 te ts ta tn tp : T) (hl : l.len ≤ 9223372036854775807) (h1 : KW k1) (h2 : KW k2) (he : KC te) (hs : KC ts) (ha : KW ta) (hn : KW tn) (hp : KW tp)
include hl h1 h2 he hs ha hn hp
end
end Go.Proofs.Ytnjandhaeojieaa
