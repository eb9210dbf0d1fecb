/- The engine, part 17: words for what holds from some number of rounds on. -/
import Derived.Test.YtnlkhjileipmcaaGreatEng16
namespace Go.AM
theorem call_succ {P : Program} {pl : Plan} {fr : Fr} {ext : FuncId → Option (List AV → Store → Option R)} {n : Nat} {f : FuncId} {args : List AV} {M : Store} {fn : Func} (he : ext f = none) (hf : P.funcs[f]? = some fn) (ha : Nat.ble args.length fn.ntmps = true) :
    call P pl fr ext (n + 1) f args M = runF P fr (call P pl fr ext n) (pl f) n (fr.tpl f) fn args M := by
  have ha : args.length ≤ fn.ntmps := Nat.le_of_ble_eq_true ha
  simp only [call, he, hf, ha, decide_true, cond_true]
/-- From some number on. -/
def Ev (p : Nat → Prop) : Prop := ∃ N, ∀ n, N ≤ n → p n
namespace Ev
variable {p q r s t : Nat → Prop}
theorem of (h : ∀ n, p n) : Ev p := ⟨0, fun n _ => h n⟩
theorem ge (k : Nat) : Ev fun n => k ≤ n := ⟨k, fun _ h => h⟩
theorem imp (h : Ev p) (k : ∀ n, p n → q n) : Ev q := h.elim fun N hN => ⟨N, fun n hn => k n (hN n hn)⟩
theorem and (h : Ev p) (k : Ev q) : Ev fun n => p n ∧ q n := by
  obtain ⟨N, hN⟩ := h
  obtain ⟨K, hK⟩ := k
  exact ⟨max N K, fun n hn => ⟨hN n (by omega), hK n (by omega)⟩⟩
theorem imp2 (h1 : Ev p) (h2 : Ev q) (k : ∀ n, p n → q n → r n) : Ev r := (h1.and h2).imp fun n h => k n h.1 h.2
theorem imp3 (h1 : Ev p) (h2 : Ev q) (h3 : Ev r) (k : ∀ n, p n → q n → r n → s n) : Ev s := (h1.and (h2.and h3)).imp fun n h => k n h.1 h.2.1 h.2.2
theorem imp4 (h1 : Ev p) (h2 : Ev q) (h3 : Ev r) (h4 : Ev s) (k : ∀ n, p n → q n → r n → s n → t n) : Ev t := (h1.and (h2.and (h3.and h4))).imp fun n h => k n h.1 h.2.1 h.2.2.1 h.2.2.2
/-- One round more. -/
theorem step (h : Ev fun n => p (n + 1)) : Ev p := by
  obtain ⟨N, hN⟩ := h
  exact ⟨N + 1, fun n hn => by obtain ⟨m, rfl⟩ : ∃ m, n = m + 1 := ⟨n - 1, by omega⟩; exact hN m (by omega)⟩
theorem all {k : Nat} {p : Nat → Nat → Prop} (h : ∀ i, i < k → Ev (p i)) : Ev fun n => ∀ i, i < k → p i n := by
  induction k with
  | zero => exact of fun n i hi => absurd hi (Nat.not_lt_zero _)
  | succ k ih =>
    refine imp2 (ih fun i hi => h i (by omega)) (h k (by omega)) fun n h1 h2 i hi => ?_
    rcases Nat.lt_or_eq_of_le (Nat.le_of_lt_succ hi) with h3 | rfl
    · exact h1 i h3
    · exact h2
end Ev
/-- What a call comes to, from some number of rounds on. -/
def Gets (c : Nat → Option R) (post : R → Prop) : Prop := Ev fun n => ∃ r, c n = some r ∧ post r
theorem lookR_0 (x : T) (l : List (Nat × T)) : lookR ((0, x) :: l) 0 = x := rfl
theorem lookR_1 (x y : T) (l : List (Nat × T)) : lookR ((0, x) :: (1, y) :: l) 1 = y := rfl
theorem lookR_2 (x y z : T) (l : List (Nat × T)) : lookR ((0, x) :: (1, y) :: (2, z) :: l) 2 = z := rfl
theorem lookR_3 (x y z u : T) (l : List (Nat × T)) : lookR ((0, x) :: (1, y) :: (2, z) :: (3, u) :: l) 3 = u := rfl
theorem lookR_4 (x y z u v : T) (l : List (Nat × T)) : lookR ((0, x) :: (1, y) :: (2, z) :: (3, u) :: (4, v) :: l) 4 = v := rfl
/-- Whole numbers of 64 bits. -/
theorem wrap_eq {a : Int} (h1 : -9223372036854775808 ≤ a) (h2 : a ≤ 9223372036854775807) : IntKind.wrap .i64 a = a := by
  simp only [IntKind.wrap, IntKind.signed, IntKind.bits]
  simp
  omega
end Go.AM
