/- Machines that are alike are the same; with one number as another one they are not (MachineSame). -/
import Derived.Test.YtljfhfgbpcaadaaDoorMc4
set_option linter.unusedVariables false
set_option linter.unusedSimpArgs false
namespace Go.AM
open Go.Proofs.YtljfhfgbpcaadaaDoor
def rowEq (s t : T) (i : Nat) : Bool := ((s.el i 0).int == (t.el i 0).int) && (((s.el i 1).int == (t.el i 1).int) && (((s.el i 2).int == (t.el i 2).int) && (((s.el i 3).int == (t.el i 3).int) && true)))
def rowsEq (s t : T) : Bool := (s.len == t.len) && (List.range' 0 s.len).all (rowEq s t)
end Go.AM
namespace Go.Proofs.YtljfhfgbpcaadaaDoor
open Go.AM
theorem Equal_at (s t : T) (hs : s.len ≤ 9223372036854775807) (ht : t.len ≤ 9223372036854775807) (N : Nat) (hN : s.len + 5 ≤ N) : C_slices_Equal_Row (K (N + 1)) s t = rb (rowsEq s t) := by
  rw [C_slices_Equal_Row_K]
  unfold rowsEq
  by_cases c : s.len = t.len
  · rw [show (s.len == t.len) = true by simpa using c, Bool.true_and]
    refine if_not (by simp [c]) ?_
    have key : ∀ L i, i < s.len → slices_Equal_Row.B0 (K N) (L + 1) s t (s.len : Int) (i : Int) = bif rowEq s t i then slices_Equal_Row.B0 (K N) L s t (s.len : Int) ((i + 1 : Nat) : Int) else rb false := by
      intro L i hi
      rw [slices_Equal_Row.B0_eq, Int.toNat_natCast, wrap_eq (a := (i : Int) + 1) (by omega) (by omega)]
      refine if_of (decide_eq_true (by omega)) (if_of (by simp; omega) (if_of (by simp; omega) ?_))
      show (bif (!rowEq s t i) then some (lookR [(0, (T.b false))]) else _) = _
      cases rowEq s t i <;> rfl
    refine allLoop (n := s.len) (c := 1) (q := rowEq s t) (B := fun L i => slices_Equal_Row.B0 (K N) L s t (s.len : Int) i) (fun L => ?_) (fun L i hi h => ?_) (fun L i hi h => ?_) s.len 0 (by omega) N (by omega)
    · show slices_Equal_Row.B0 (K N) (L + 1) s t (s.len : Int) (s.len : Int) = _
      rw [slices_Equal_Row.B0_eq]
      exact if_not (decide_eq_false (by omega)) rfl
    · show slices_Equal_Row.B0 (K N) (L + 1) s t (s.len : Int) (i : Int) = _
      rw [key L i hi, h]
      rfl
    · show slices_Equal_Row.B0 (K N) (L + 1) s t (s.len : Int) (i : Int) = _
      rw [key L i hi, h]
      rfl
  · rw [show (s.len == t.len) = false by simpa using c, Bool.false_and]
    exact if_of (by simp; omega) rfl
theorem Same_all : Ev fun N => ∀ b r b' r' : T, b.len ≤ 20000 → r.len ≤ 20000 → b'.len ≤ 20000 → r'.len ≤ 20000 → ∀ w w', C_machine_Same (K N) w b r w' b' r' = rb ((w == w') && (rowsEq b b' && rowsEq r r')) := by
  refine Ev.step (Ev.step ((Ev.ge 30000).imp fun N hN b r b' r' hb hr hb' hr' w w' => ?_))
  have h1 := Equal_at b b' (by omega) (by omega) N (by omega)
  have h2 := Equal_at r r' (by omega) (by omega) N (by omega)
  rw [C_machine_Same_K]
  cases (w == w')
  · exact if_not rfl rfl
  · refine if_of rfl (bind_of h1 ?_)
    cases rowsEq b b'
    · exact if_not rfl rfl
    · exact if_of rfl (bind_of h2 rfl)
end Go.Proofs.YtljfhfgbpcaadaaDoor
