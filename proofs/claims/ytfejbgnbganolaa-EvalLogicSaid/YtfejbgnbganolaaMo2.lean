/- What the functions on variables reckon, in plain words. -/
import Derived.Test.YtfejbgnbganolaaMo1
set_option linter.unusedVariables false
namespace Go.AM

/-- Variables. -/
structure Va where
  name : ByteArray
  env : Bool
  sort : Int
  lo : Int
  hi : Int
def vaAt (l : T) (i : Nat) : Va := ⟨(l.el i 0).str, (l.el i 1).bool, (l.el i 2).int, (l.el i 3).int, (l.el i 4).int⟩
def varsOf (l : T) : List Va := (List.range l.len).map (vaAt l)
def strsOf (l : T) : List ByteArray := (List.range l.len).map fun i => (l.el i 0).str
def intsOf (l : T) : List Int := (List.range l.len).map fun i => (l.el i 0).int
theorem range_from {α : Type} (f : Nat → α) {n i : Nat} (h : i < n) : ((List.range n).map f).drop i = f i :: ((List.range n).map f).drop (i + 1) := by
  have h1 : i < ((List.range n).map f).length := by simpa using h
  rw [List.drop_eq_getElem_cons h1]
  simp
theorem range_end {α : Type} (f : Nat → α) {n i : Nat} (h : n ≤ i) : ((List.range n).map f).drop i = [] := List.drop_of_length_le (by simpa using h)
theorem varsOf_len (l : T) : (varsOf l).length = l.len := by simp [varsOf]
theorem varsOf_get (l : T) {i : Nat} (h : i < l.len) : (varsOf l)[i]? = some (vaAt l i) := by simp [varsOf, h]
theorem intsOf_len (l : T) : (intsOf l).length = l.len := by simp [intsOf]
theorem intsOf_get (l : T) {i : Nat} (h : i < l.len) : (intsOf l)[i]? = some (l.el i 0).int := by simp [intsOf, h]

def words : List ByteArray := [⟨#[98, 111, 111, 108]⟩, ⟨#[105, 110, 116]⟩, ⟨#[101, 110, 118]⟩, ⟨#[115, 121, 115]⟩, ⟨#[105, 110, 105, 116]⟩, ⟨#[119, 104, 101, 110]⟩, ⟨#[97, 115, 115, 117, 109, 101]⟩, ⟨#[101, 110, 115, 117, 114, 101]⟩,
  ⟨#[112, 114, 105, 111]⟩, ⟨#[97, 110, 121]⟩, ⟨#[116, 114, 117, 101]⟩, ⟨#[102, 97, 108, 115, 101]⟩, ⟨#[105, 102]⟩, ⟨#[116, 104, 101, 110]⟩, ⟨#[101, 108, 115, 101]⟩, ⟨#[110, 111, 116]⟩, ⟨#[97, 110, 100]⟩, ⟨#[111, 114]⟩]
def wordE (s : ByteArray) : Bool := words.any fun w => strEq s w
def charOk (i : Nat) (c : Int) : Bool := decide (97 ≤ c ∧ c ≤ 122 ∨ 0 < i ∧ (48 ≤ c ∧ c ≤ 57 ∨ c = 95))
def charsFrom (s : ByteArray) : Nat → Nat → Bool
  | _, 0 => true
  | i, m + 1 => charOk i (bt s i) && charsFrom s (i + 1) m
def nameE (s : ByteArray) : Bool := decide (1 ≤ s.size ∧ s.size ≤ 16) && !wordE s && charsFrom s 0 s.size
def findFrom (s : ByteArray) : List Va → Int → Int
  | [], _ => -1
  | v :: r, i => if strEq v.name s = true then i else findFrom s r (i + 1)
def findE (l : List Va) (s : ByteArray) : Int := findFrom s l 0
def sizeV (v : Va) : Int := if v.sort = 1 then 2 else if v.sort = 2 ∧ -1000 ≤ v.lo ∧ v.lo ≤ v.hi ∧ v.hi ≤ 1000 then v.hi - v.lo + 1 else 0
def sortedV (v : Va) : Int := if v.sort ≠ 1 ∧ v.sort ≠ 2 then 4 else if v.sort = 1 ∧ (v.lo ≠ 0 ∨ v.hi ≠ 0) ∨ v.sort = 2 ∧ sizeV v = 0 then 6 else 0
def lowV (v : Va) : Int := if v.sort = 1 then 0 else v.lo
def totalFrom : List Va → Int → Int
  | [], n => n
  | v :: r, n => if sortedV v ≠ 0 then 0 else if 512 < n * sizeV v then 0 else totalFrom r (n * sizeV v)
def totalE (l : List Va) : Int := if 6 < (l.length : Int) then 0 else totalFrom l 1
def mayFrom (all : List Va) : List Va → Int → Int
  | [], _ => if totalE all = 0 then 7 else 0
  | v :: r, i => if nameE v.name = false then 3 else if findE all v.name < i then 3 else if sortedV v ≠ 0 then sortedV v else mayFrom all r (i + 1)
def mayV (l : List Va) : Int := mayFrom l l 0
def valuesFrom : List Va → Int → List Int
  | [], _ => []
  | v :: r, s => (lowV v + Int.tmod s (sizeV v)) :: valuesFrom r (Int.tdiv s (sizeV v))
def valuesOk (l : List Va) (s : Int) : Bool := decide (mayV l = 0 ∧ 0 ≤ s ∧ s < totalE l)

theorem sizeV_range (v : Va) : 0 ≤ sizeV v ∧ sizeV v ≤ 2001 := by
  unfold sizeV
  split
  · omega
  · split
    · rename_i h; omega
    · omega
theorem totalFrom_pos : ∀ (l : List Va) (n : Int), totalFrom l n ≠ 0 → ∀ v ∈ l, sortedV v = 0 ∧ 0 < sizeV v
  | [], _, _, v, hv => by cases hv
  | w :: r, n, h, v, hv => by
    simp only [totalFrom] at h
    split at h
    · exact absurd rfl h
    · rename_i h1
      have h1 : sortedV w = 0 := by simpa using h1
      split at h
      · exact absurd rfl h
      · rcases List.mem_cons.1 hv with rfl | hv
        · refine ⟨h1, ?_⟩
          have hr := (sizeV_range v).1
          have h2 : sizeV v ≠ 0 := by
            intro h0
            unfold sortedV at h1
            split at h1
            · cases h1
            · rename_i h3
              split at h1
              · cases h1
              · rename_i h4
                have h5 : v.sort = 1 ∨ v.sort = 2 := by omega
                rcases h5 with h5 | h5
                · unfold sizeV at h0
                  rw [if_pos h5] at h0
                  cases h0
                · exact h4 (.inr ⟨h5, h0⟩)
          omega
        · exact totalFrom_pos r _ h v hv
theorem mayFrom_total : ∀ (r all : List Va) (i : Int), mayFrom all r i = 0 → totalE all ≠ 0
  | [], all, i, h => by
    simp only [mayFrom] at h
    split at h
    · cases h
    · assumption
  | v :: r, all, i, h => by
    simp only [mayFrom] at h
    split at h
    · cases h
    · split at h
      · cases h
      · split at h
        · rename_i h1; exact absurd h h1
        · exact mayFrom_total r all _ h
theorem mayV_total {l : List Va} (h : mayV l = 0) : totalE l ≠ 0 := mayFrom_total l l 0 h
theorem totalE_len {l : List Va} (h : totalE l ≠ 0) : l.length ≤ 6 := by
  unfold totalE at h
  split at h
  · exact absurd rfl h
  · omega
theorem totalE_pos {l : List Va} (h : totalE l ≠ 0) : ∀ v ∈ l, sortedV v = 0 ∧ 0 < sizeV v := by
  unfold totalE at h
  split at h
  · exact absurd rfl h
  · exact totalFrom_pos l 1 h
theorem totalFrom_range : ∀ (l : List Va) (n : Int), 0 ≤ n → n ≤ 512 → 0 ≤ totalFrom l n ∧ totalFrom l n ≤ 512
  | [], n, h0, h1 => ⟨h0, h1⟩
  | v :: r, n, h0, h1 => by
    simp only [totalFrom]
    have hs := sizeV_range v
    split
    · omega
    · split
      · omega
      · rename_i h2
        have h3 : 0 ≤ n * sizeV v := Int.mul_nonneg h0 hs.1
        exact totalFrom_range r _ h3 (by omega)
theorem totalE_range (l : List Va) : 0 ≤ totalE l ∧ totalE l ≤ 512 := by
  unfold totalE
  split
  · omega
  · exact totalFrom_range l 1 (by omega) (by omega)
theorem valuesFrom_len : ∀ (l : List Va) (s : Int), (valuesFrom l s).length = l.length
  | [], _ => rfl
  | v :: r, s => by simp [valuesFrom, valuesFrom_len r]
end Go.AM
