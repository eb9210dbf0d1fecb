/- The engine, part 18: functions told from outside: slices.Clip and slices.Compact of whole numbers. -/
import Derived.Test.YtfejbgnbganolaaEng17
import Derived.Lib.SlicesCompact
namespace Go.AM
/-- A row's whole numbers. -/
def intsR (n : Nat) (g : Nat → Nat → T) : List Int := (List.range n).map fun i => (g i 0).int
def ofInts (l : List Int) : T := .l l.length fun i _ => .i (l.getD i 0)
def clipX : List AV → Store → Option R
  | [.sl e x], [] => bif Nat.beq e 3 then some (lookR [(0, x)]) else none
  | _, _ => none
def compactX : List AV → Store → Option R
  | [.row k off n], [(k', .row e m g)] => bif Nat.beq k k' && Nat.beq off 0 && Nat.beq n m && Nat.beq e 3 then some (lookR [(0, ofInts (Lib.compact (intsR n g)))]) else none
  | _, _ => none
end Go.AM
