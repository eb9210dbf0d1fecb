/- The engine: functions of strings told from outside: the Builder's copyCheck and String, strings.Join, strconv.Itoa. -/
import Derived.Test.YtljfhfgbpcaadaaDoorEng18
import Derived.Lib.Join
import Derived.Lib.ItoaNum
import Derived.Lib.Bytealg
namespace Go.AM
def addrOk : AV → Bool
  | .clo f [] => Nat.beq f NPF
  | .ptr k 0 => Nat.beq k HB
  | _ => false
def checkX : List AV → Store → Option R
  | [.ptr k 0], [(k1, .box t [c0, .row q 0 n]), (q1, .row e m g)] =>
    bif (Nat.beq k HB && Nat.beq k1 HB) && ((Nat.beq q (HB + 9) && Nat.beq q1 (HB + 9)) && ((Nat.beq n m && Nat.beq e 5) && (Nat.beq t 55 && addrOk c0))) then some (lookR [(0, .l m g)]) else none
  | _, _ => none
def bytesOf (n : Nat) (g : Nat → Nat → T) : List UInt8 := (List.range n).map fun i => UInt8.ofNat (g i 0).int.toNat
def allU8 (n : Nat) (g : Nat → Nat → T) : Bool := (List.range n).all fun i => decide (0 ≤ (g i 0).int) && decide ((g i 0).int < 256)
def stringX : List AV → Store → Option R
  | [.ptr k 0], [(k1, .box t [_, .row q 0 n]), (q1, .row e m g)] =>
    bif (Nat.beq k HB && Nat.beq k1 HB) && ((Nat.beq q (HB + 9) && Nat.beq q1 (HB + 9)) && ((Nat.beq n m && Nat.beq e 5) && (Nat.beq t 55 && (Nat.blt 0 n && allU8 n g)))) then some (lookR [(0, .s ⟨(bytesOf n g).toArray⟩)]) else none
  | _, _ => none
def jStrs (x : T) : List ByteArray := (List.range x.len).map fun i => (x.el i 0).str
def joinX : List AV → Store → Option R
  | [.sl e x, .s sep], [] =>
    bif (Nat.beq e 9 && Nat.blt 0 x.len) && (Nat.ble x.len 140737488355328 && Nat.ble (Lib.join ((jStrs x).map (·.data.toList)) sep.data.toList).length 140737488355328) then some (lookR [(0, .s ⟨(Lib.join ((jStrs x).map (·.data.toList)) sep.data.toList).toArray⟩)]) else none
  | _, _ => none
def itoaX : List AV → Store → Option R
  | [.i k n], [] => bif k == .i64 && (decide (-9223372036854775808 ≤ n) && decide (n ≤ 9223372036854775807)) then some (lookR [(0, .s ⟨(Lib.itoa n).toArray⟩)]) else none
  | _, _ => none
def noneX : List AV → Store → Option R := fun _ _ => none
def countX : List AV → Store → Option R
  | [.s s, .s t], [] => bif Nat.beq t.size 1 then some (lookR [(0, .i (Lib.countByte s.data.toList (t.data.getD 0 0)))]) else none
  | _, _ => none
def indexX : List AV → Store → Option R
  | [.s s, .s t], [] => bif Nat.beq t.size 1 then some (lookR [(0, .i (Lib.indexByte s.data.toList (t.data.getD 0 0)))]) else none
  | _, _ => none
end Go.AM
