/- What the functions on expressions reckon, in plain words. -/
import Derived.Test.YtfejbgnbganolaaEng17
namespace Go.AM

/-- Expressions. -/
inductive Ex where
  | mk (op n : Int) (kids : List Ex)
namespace Ex
def op : Ex → Int | mk o _ _ => o
def n : Ex → Int | mk _ n _ => n
def kids : Ex → List Ex | mk _ _ k => k
end Ex
/-- The kids that data are. -/
def kidsOf : T → List Ex
  | .l n g => (List.range n).map fun i => Ex.mk (g i 0).int (g i 1).int (kidsOf (g i 2))
  | _ => []
def exAt (k : T) (i : Nat) : Ex := Ex.mk (k.el i 0).int (k.el i 1).int (kidsOf (k.el i 2))
theorem kidsOf_eq (k : T) : kidsOf k = (List.range k.len).map (exAt k) := by
  cases k <;> rfl
theorem kidsOf_len (k : T) : (kidsOf k).length = k.len := by rw [kidsOf_eq]; simp
theorem kidsOf_get (k : T) {i : Nat} (h : i < k.len) : (kidsOf k)[i]? = some (exAt k i) := by
  rw [kidsOf_eq, List.getElem?_map, List.getElem?_range h]; rfl
theorem kidsOf_from (k : T) (i : Nat) (h : i < k.len) : (kidsOf k).drop i = exAt k i :: (kidsOf k).drop (i + 1) := by
  have h1 : i < (kidsOf k).length := by rw [kidsOf_len]; exact h
  rw [List.drop_eq_getElem_cons h1]
  congr 1
  have := kidsOf_get k h
  rw [List.getElem?_eq_getElem h1] at this
  exact Option.some.inj this
/-- No slice is longer than a slice can be. -/
def KW : T → Prop
  | .l n g => n ≤ 9223372036854775807 ∧ ∀ i, i < n → KW (g i 2)
  | _ => True
theorem KW.len {k : T} (h : KW k) : k.len ≤ 9223372036854775807 := by
  cases k with
  | l n g => exact h.1
  | _ => exact Nat.zero_le _
theorem KW.el {k : T} (h : KW k) {i : Nat} (hi : i < k.len) : KW (k.el i 2) := by
  cases k with
  | l n g => exact h.2 i hi
  | _ => exact absurd hi (Nat.not_lt_zero _)
/-- Induction over data of kids. -/
theorem kids_ind {p : T → Prop} (h : ∀ k, (∀ i, i < k.len → p (k.el i 2)) → p k) : ∀ k, p k
  | .l n g => h _ fun i _ => kids_ind h (g i 2)
  | .b _ => h _ fun i hi => absurd hi (Nat.not_lt_zero _)
  | .i _ => h _ fun i hi => absurd hi (Nat.not_lt_zero _)
  | .s _ => h _ fun i hi => absurd hi (Nat.not_lt_zero _)

/-! ### Answers -/
def ri (x : Int) : Option R := some (lookR [(0, .i x)])
def rb (x : Bool) : Option R := some (lookR [(0, .b x)])
def rii (x y : Int) : Option R := some (lookR [(0, .i x), (1, .i y)])
def rib (x : Int) (y : Bool) : Option R := some (lookR [(0, .i x), (1, .b y)])
theorem ri_bind {α : Type} (x : Int) (f : R → Option α) : (ri x).bind f = f (lookR [(0, .i x)]) := rfl
theorem rb_bind {α : Type} (x : Bool) (f : R → Option α) : (rb x).bind f = f (lookR [(0, .b x)]) := rfl
theorem rii_bind {α : Type} (x y : Int) (f : R → Option α) : (rii x y).bind f = f (lookR [(0, .i x), (1, .i y)]) := rfl
theorem rib_bind {α : Type} (x : Int) (y : Bool) (f : R → Option α) : (rib x y).bind f = f (lookR [(0, .i x), (1, .b y)]) := rfl
theorem some_bind {α β : Type} (x : α) (f : α → Option β) : (some x).bind f = f x := rfl
theorem int_i (x : Int) : (T.i x).int = x := rfl
theorem bool_b (x : Bool) : (T.b x).bool = x := rfl

/-! ### Operations -/
def kidsN (op : Int) : Int := if 1 ≤ op ∧ op ≤ 4 then 0 else if op = 5 then 1 else if 6 ≤ op ∧ op ≤ 14 then 2 else if op = 15 then 3 else -1
def numberE (op n : Int) : Bool :=
  if op = 1 then decide (-1000 ≤ n ∧ n ≤ 1000) else if op = 2 then decide (n = 0 ∨ n = 1) else if op = 3 ∨ op = 4 then decide (0 ≤ n ∧ n < 6) else decide (n = 0)
mutual
def soundE : Ex → Bool
  | .mk op n ks => decide (0 ≤ kidsN op) && decide ((ks.length : Int) = kidsN op) && numberE op n && soundL ks
def soundL : List Ex → Bool
  | [] => true
  | k :: ks => soundE k && soundL ks
end
mutual
/-- Nodes, counted up to one more than may be; whether one of them is too deep. -/
def goesE : Ex → Int → Int → Bool → Int × Bool
  | .mk _ _ ks, d, n, b => if 12 < d then (n, true) else if 60 < n + 1 then (n + 1, b) else goesL ks d (n + 1) b
def goesL : List Ex → Int → Int → Bool → Int × Bool
  | [], _, n, b => (n, b)
  | k :: ks, d, n, b => if 60 < n then (n, b) else goesL ks d (goesE k (d + 1) n b).1 (goesE k (d + 1) n b).2
end
def nodesE (e : Ex) : Int := (goesE e 1 0 false).1
def lightE (e : Ex) : Bool := decide (nodesE e ≤ 60) && !(goesE e 1 0 false).2
def mayE (e : Ex) : Int := if lightE e then (if soundE e then 0 else 1) else 7
mutual
theorem goesE_range : ∀ (e : Ex) (d n : Int) (b : Bool), 0 ≤ n → n ≤ 60 → n ≤ (goesE e d n b).1 ∧ (goesE e d n b).1 ≤ 61
  | .mk op m ks, d, n, b, h0, h1 => by
    simp only [goesE]
    split
    · exact ⟨Int.le_refl _, by omega⟩
    · split
      · exact ⟨by omega, by omega⟩
      · have := goesL_range ks d (n + 1) b (by omega) (by omega)
        exact ⟨by omega, this.2⟩
theorem goesL_range : ∀ (l : List Ex) (d n : Int) (b : Bool), 0 ≤ n → n ≤ 61 → n ≤ (goesL l d n b).1 ∧ (goesL l d n b).1 ≤ 61
  | [], d, n, b, h0, h1 => ⟨Int.le_refl _, h1⟩
  | k :: ks, d, n, b, h0, h1 => by
    simp only [goesL]
    split
    · exact ⟨Int.le_refl _, h1⟩
    · have h2 := goesE_range k (d + 1) n b h0 (by omega)
      have h3 := goesL_range ks d (goesE k (d + 1) n b).1 (goesE k (d + 1) n b).2 (by omega) h2.2
      exact ⟨by omega, h3.2⟩
end
end Go.AM
