/- The engine, part 18: functions told from outside: slices.Clip, slices.Compact and slices.Sort of whole numbers. -/
import Derived.Test.YtljfhfgbpcaadaaDoorEng16
import Derived.Lib.SlicesCompact
namespace Go.AM
def intsR (n : Nat) (g : Nat → Nat → T) : List Int := (List.range n).map fun i => (g i 0).int
def ofInts (l : List Int) : T := .l l.length fun i _ => .i (l.getD i 0)
def clipX : List AV → Store → Option R
  | [.sl e x], [] => bif Nat.beq e 3 then some (lookR [(0, x)]) else none
  | _, _ => none
def compactX : List AV → Store → Option R
  | [.row k off n], [(k', .row e m g)] => bif Nat.beq k k' && Nat.beq off 0 && Nat.beq n m && Nat.beq e 3 then some (lookR [(0, ofInts (Lib.compact (intsR n g)))]) else none
  | _, _ => none
def sortX : List AV → Store → Option R
  | [.row k off n], [(k', .row e m g)] => bif Nat.beq k 4000000 && Nat.beq k' 4000000 && Nat.beq off 0 && Nat.beq n m && Nat.beq e 3 && Nat.blt n 4611686018427387904 then some (lookR [(0, ofInts ((intsR n g).mergeSort fun x y => decide (x ≤ y)))]) else none
  | _, _ => none
theorem compact_len (zs : List Int) : (Lib.compact zs).length ≤ zs.length := by
  unfold Lib.compact Lib.compactUpTo
  rw [List.length_map]
  exact Nat.le_trans (List.length_filter_le _ _) (by simp)
end Go.AM
