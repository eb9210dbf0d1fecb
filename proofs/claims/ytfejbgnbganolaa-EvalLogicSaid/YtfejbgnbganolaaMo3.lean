/- What the functions on sorts and values reckon, in plain words. -/
import Derived.Test.YtfejbgnbganolaaMo2
set_option linter.unusedVariables false
namespace Go.AM

def needsL (op : Int) : List Int := if op = 5 then [1] else if 6 ≤ op ∧ op ≤ 8 then [1, 1] else if 10 ≤ op ∧ op ≤ 14 then [2, 2] else if op = 9 then [0, 0] else if op = 15 then [1, 0, 0] else []
def fitsFrom : List Int → List Int → Int → Bool
  | [], _, _ => true
  | _ :: _, [], _ => false
  | w :: ws, g :: gs, same => if w ≠ 0 ∧ g ≠ w then false else if w = 0 ∧ same ≠ 0 ∧ g ≠ same then false else if w = 0 then fitsFrom ws gs g else fitsFrom ws gs same
def toldE (l : List Va) (op n : Int) (ss : List Int) : Int :=
  if op = 1 ∨ 12 ≤ op ∧ op ≤ 14 then 2 else if op = 3 ∨ op = 4 then ((l[n.toNat]?).map Va.sort).getD 0 else if op = 15 then ss.getD 1 0 else 1
/-- A node's sort, of whose kids the sorts are known. -/
def nodeE (l : List Va) (op n : Int) (ss : List Int) : Int × Int :=
  if (op = 3 ∨ op = 4) ∧ (l.length : Int) ≤ n then (0, 3) else if fitsFrom (needsL op) ss 0 = false then (0, 4) else (toldE l op n ss, 0)
mutual
def ofE (l : List Va) : Ex → Int × Int
  | .mk op n ks => if (ofL l ks).1 ≠ 0 then (0, (ofL l ks).1) else nodeE l op n (ofL l ks).2
def ofL (l : List Va) : List Ex → Int × List Int
  | [] => (0, [])
  | k :: ks => if (ofE l k).2 ≠ 0 then ((ofE l k).2, []) else if (ofL l ks).1 ≠ 0 then ((ofL l ks).1, []) else (0, (ofE l k).1 :: (ofL l ks).2)
end
/-- The sort of an expression. -/
def sortE (l : List Va) (e : Ex) : Int × Int := if mayV l ≠ 0 then (0, mayV l) else if mayE e ≠ 0 then (0, mayE e) else ofE l e
theorem ofL_len (l : List Va) : ∀ ks : List Ex, (ofL l ks).1 = 0 → (ofL l ks).2.length = ks.length
  | [], _ => rfl
  | k :: ks, h => by
    simp only [ofL] at h ⊢
    split at h
    · exact absurd h (by assumption)
    · rename_i h1
      rw [if_neg h1]
      split at h
      · exact absurd h (by assumption)
      · rename_i h2
        rw [if_neg h2]
        simp [ofL_len l ks (by simpa using h2)]
theorem kidsN_needs {op : Int} (h : 0 ≤ kidsN op) : ((needsL op).length : Int) = kidsN op := by
  unfold needsL
  unfold kidsN at h ⊢
  repeat' split
  all_goals first
    | rfl
    | (exfalso; omega)
    | (exfalso; simp_all; omega)
theorem kidsN_le (op : Int) : kidsN op ≤ 3 := by
  unfold kidsN
  repeat' split
  all_goals omega

/-! ### Values -/
def bitE (b : Bool) : Int := if b then 1 else 0
def twoE (op a b : Int) : Int :=
  if op = 9 then bitE (a == b) else if op = 10 then bitE (decide (a < b)) else if op = 11 then bitE (decide (a ≤ b)) else if op = 12 then a + b else if op = 13 then a - b else a * b
def lazyE (op a : Int) : Int × Int :=
  if op = 5 then (-1, 1 - a) else if op = 6 ∧ a = 0 then (-1, 0) else if op = 7 ∧ a = 1 ∨ op = 8 ∧ a = 0 then (-1, 1) else if op = 15 then (2 - a, 0) else (1, 0)
/-- A node's value, of whose kids the values are known. -/
def nodeV (now next : List Int) (op n : Int) (vs : List (Int × Int)) : Int × Int :=
  if op = 1 ∨ op = 2 then (n, 0) else if op = 3 then (now.getD n.toNat 0, 0) else if op = 4 then (next.getD n.toNat 0, 0) else
  if (vs.getD 0 (0, 0)).2 ≠ 0 then (0, (vs.getD 0 (0, 0)).2) else
  if op < 9 ∨ op = 15 then (if (lazyE op (vs.getD 0 (0, 0)).1).1 < 0 then ((lazyE op (vs.getD 0 (0, 0)).1).2, 0) else vs.getD (lazyE op (vs.getD 0 (0, 0)).1).1.toNat (0, 0)) else
  if (vs.getD 1 (0, 0)).2 ≠ 0 then (0, (vs.getD 1 (0, 0)).2) else
  if twoE op (vs.getD 0 (0, 0)).1 (vs.getD 1 (0, 0)).1 < -1000 ∨ 1000 < twoE op (vs.getD 0 (0, 0)).1 (vs.getD 1 (0, 0)).1 then (0, 6) else (twoE op (vs.getD 0 (0, 0)).1 (vs.getD 1 (0, 0)).1, 0)
mutual
/-- The value (and 0), or why there is none. -/
def valE (now next : List Int) : Ex → Int × Int
  | .mk op n ks => nodeV now next op n (valL now next ks)
def valL (now next : List Int) : List Ex → List (Int × Int)
  | [] => []
  | k :: ks => valE now next k :: valL now next ks
end
theorem valL_map (now next : List Int) : ∀ ks, valL now next ks = ks.map (valE now next)
  | [] => rfl
  | k :: ks => by simp [valL, valL_map now next ks]
def valueE (l : List Va) (e : Ex) (now next : Int) : Int × Int :=
  if (sortE l e).2 ≠ 0 then (0, (sortE l e).2) else if valuesOk l now = false ∨ valuesOk l next = false then (0, 1) else valE (valuesFrom l now) (valuesFrom l next) e
def trueE (l : List Va) (e : Ex) (now next : Int) : Bool :=
  decide ((sortE l e).2 = 0 ∧ (sortE l e).1 = 1 ∧ (valueE l e now next).2 = 0 ∧ (valueE l e now next).1 = 1)
end Go.AM
