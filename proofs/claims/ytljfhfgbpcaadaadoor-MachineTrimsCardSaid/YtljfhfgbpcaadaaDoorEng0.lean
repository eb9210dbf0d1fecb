/- The engine, part 0: an interpreter over the model's own code on abstract values (definitions only). -/
import GoSem.Dispatch
import Derived.Calls
set_option linter.unusedVariables false
namespace Go.AM
inductive T where
  | b (x : Bool) | i (n : Int) | s (x : ByteArray) | l (n : Nat) (g : Nat → Nat → T)
namespace T
def bool : T → Bool | .b x => x | _ => false
def int : T → Int | .i n => n | _ => 0
def str : T → ByteArray | .s x => x | _ => ByteArray.empty
def len : T → Nat | .l n _ => n | _ => 0
def el : T → Nat → Nat → T | .l _ g, p, q => g p q | _, _, _ => .b false
end T
def noT : T := .l 0 fun _ _ => .b false
inductive AV where
  | b (x : Bool) | i (k : IntKind) (n : Int) | s (x : ByteArray)
  | sl (e : TypeId) (x : T)
  | nl
  | ag (cs : List AV) | tup (vs : List AV)
  | rp (e : TypeId) (c : Nat → T) (off : Nat)
  | ptr (k off : Nat) | row (k off len : Nat) | ep (k i off : Nat)
  | clo (f : FuncId) (caps : List AV)
  | und
inductive Ob where
  | box (t : TypeId) (cs : List AV)
  | row (e : TypeId) (n : Nat) (g : Nat → Nat → T)
  | dead
abbrev Store := List (Nat × Ob)
namespace Store
def get : Store → Nat → Option Ob
  | [], _ => none
  | (k', o) :: r, k => bif k' == k then some o else get r k
def set : Store → Nat → Ob → Store
  | [], k, o => [(k, o)]
  | (k', o') :: r, k, o => bif k' == k then (k, o) :: r else bif Nat.blt k k' then (k, o) :: (k', o') :: r else (k', o') :: set r k o
def sets (M : Store) : List (Nat × Ob) → Store
  | [] => M
  | u :: us => sets (M.set u.1 u.2) us
end Store
structure St where
  slots : List AV
  M : Store
abbrev R := Nat → T
abbrev H := FuncId → List AV → Store → Option R
inductive X where
  | normal | exit (id : Nat) | ret
def leaves (P : Program) : Nat → TypeId → List TypeId
  | 0, _ => []
  | n + 1, t => match P.underlying t with
    | some (.struct fs) => fs.toList.flatMap fun f => leaves P n f.type
    | some (.array m e) => (List.replicate m (leaves P n e)).flatten
    | _ => [t]
def lv (P : Program) (t : TypeId) : List TypeId := leaves P 20 t
def isAg (P : Program) (t : TypeId) : Bool := match P.underlying t with
  | some (.struct _) | some (.array _ _) => true
  | _ => false
def MB : Nat := 1000000
def isMapT (t : TypeId) : Bool := Nat.ble MB t
def mapT (P : Program) (t : TypeId) : Option (TypeId × TypeId) := match P.underlying t with
  | some (.map k v) => some (k, v)
  | _ => none
def sizeT (P : Program) (t : TypeId) : Nat := match P.info? t with | some i => i.size | none => 0
def bytesT (P : Program) (t : TypeId) : Nat := match P.info? t with | some i => i.bytes | none => 0
def ofT (P : Program) (t : TypeId) (x : T) : AV := match P.underlying t with
  | some (.int k) => .i k x.int
  | some .bool => .b x.bool
  | some .string => .s x.str
  | some (.slice e) => .sl e x
  | _ => .und
def loadT (P : Program) (t : TypeId) (c : Nat → T) : AV :=
  bif isAg P t then .ag ((lv P t).mapIdx fun j τ => ofT P τ (c j)) else ofT P t (c 0)
def tyOk (P : Program) (t : TypeId) : Bool := match P.underlying t, P.info? t with
  | some _, some _ => true
  | _, _ => false
def fits (P : Program) (t e : TypeId) (off : Nat) : Bool := tyOk P t && ((lv P t).length == sizeT P t) && (lv P t == ((lv P e).drop off).take (lv P t).length)
def NPF : Nat := 1000000
def NIF : Nat := 1000001
def ofConst1 : Value → AV
  | .bool x => .b x
  | .int k n => .i k n
  | .string x => .s x
  | .slice none 0 0 => .nl
  | .pointer none => .clo NPF []
  | .nilIface => .clo NIF []
  | _ => .und
def one1 : Value → Bool
  | .agg _ | .tuple _ => false
  | _ => true
def ofConst : Value → AV
  | .agg cs => bif cs.toList.all one1 then .ag (cs.toList.map ofConst1) else .und
  | v => ofConst1 v
def cellsOf : AV → List AV
  | .ag cs => cs
  | v => [v]
def zeroCells (P : Program) (t : TypeId) : Option (List AV) := match P.info? t with
  | some i => (match i.zero with
    | some (.agg cs) => bif cs.toList.all one1 then some (cs.toList.map ofConst1) else none
    | some v => bif one1 v then some [ofConst1 v] else none
    | none => none)
  | none => none
def isCell : AV → Bool
  | .ag _ | .tup _ | .und => false
  | _ => true
def cellsOk : AV → Bool
  | .tup _ | .und => false
  | _ => true
def frz (os : List (Nat × Option Ob)) : AV → Option T
  | .b x => some (.b x)
  | .i _ n => some (.i n)
  | .s x => some (.s x)
  | .sl _ x => some x
  | .nl => some noT
  | .row k off len => match os.find? (fun o => o.1 == k) with
    | some (_, some (.row _ _ g)) => some (.l len fun i j => g (off + i) j)
    | _ => none
  | _ => none
def conf (P : Program) (os : List (Nat × Option Ob)) (t : TypeId) (v : AV) : Bool := match P.underlying t, v with
  | some (.int k), .i k' _ => k == k'
  | some .bool, .b _ => true
  | some .string, .s _ => true
  | some (.slice e), .sl e' _ => e == e'
  | some (.slice _), .nl => true
  | some (.slice e), .row k _ _ => match os.find? (fun o => o.1 == k) with
    | some (_, some (.row e' _ _)) => e == e'
    | _ => false
  | _, _ => false
def frzs (P : Program) (os : List (Nat × Option Ob)) : List TypeId → List AV → Option (List T)
  | [], [] => some []
  | t :: ts, v :: vs => bif conf P os t v then (match frz os v with
    | some x => (match frzs P os ts vs with
      | some xs => some (x :: xs)
      | none => none)
    | none => none) else none
  | _, _ => none
mutual
def refs : AV → List Nat
  | .ptr k _ => [k]
  | .row k _ _ => [k]
  | .ep k _ _ => [k]
  | .ag cs => refsL cs
  | .tup cs => refsL cs
  | .clo _ cs => refsL cs
  | _ => []
def refsL : List AV → List Nat
  | [] => []
  | v :: vs => refs v ++ refsL vs
end
def rowKeys : List AV → List Nat
  | [] => []
  | .row k _ _ :: r => k :: rowKeys r
  | _ :: r => rowKeys r
def evO (sl : List AV) : Operand → AV
  | .tmp t => sl.getD t .und
  | .const v => ofConst v
  | .func f => bif Nat.ble NPF f then .und else .clo f []
  | .global _ => .und
def opVals (sl : List AV) (o : Op) : List AV := o.operands.toList.map (evO sl)
def dk (o : Oper) : Nat := match o.dst with | some d => 64 * d | none => 0
def refKey : List AV → List Nat
  | .ptr k _ :: _ => [k]
  | .row k _ _ :: _ => [k]
  | .ep k _ _ :: _ => [k]
  | _ => []
def keysOf (o : Oper) (vs : List AV) : List Nat := match o.op with
  | .alloc _ => [dk o]
  | .box _ _ => [dk o]
  | .buildSlice .. => dk o :: rowKeys (vs.flatMap cellsOf)
  | .makeSlice .. => [dk o]
  | .store _ _ _ => refKey vs ++ rowKeys ((vs.drop 1).flatMap cellsOf)
  | .load _ _ => refKey vs
  | .nilCheck _ => refKey vs
  | .fieldAddr _ _ _ => refKey vs
  | .indexAddr _ _ _ => refKey vs
  | .slice _ _ _ _ _ => refKey vs
  | .makeMap _ _ => [dk o]
  | .lookup _ _ _ _ => refKey vs
  | .mapEntry _ _ _ => refKey vs
  | .mapUpdate _ _ _ _ => refKey vs ++ rowKeys ((vs.drop 1).flatMap cellsOf)
  | .entryStore _ _ _ _ => refKey vs ++ rowKeys ((vs.drop 1).flatMap cellsOf)
  | .call c => (match c.callee with
    | .builtin .append => dk o :: rowKeys vs
    | .builtin .len => refKey vs
    | .builtin _ => []
    | _ => [])
  | _ => []
def lk (os : List (Nat × Option Ob)) (k : Nat) : Option Ob := match os.find? (fun o => o.1 == k) with
  | some (_, o) => o
  | none => none
def isBox (os : List (Nat × Option Ob)) (k : Nat) : Bool := match lk os k with | some (.box t _) => !(isMapT t) | _ => false
def isRow (os : List (Nat × Option Ob)) (k : Nat) : Bool := match lk os k with | some (.row _ _ _) => true | _ => false
def free (os : List (Nat × Option Ob)) (k : Nat) : Bool := match lk os k with | none => true | some _ => false
abbrev Kk (ρ : Type) := AV → List (Nat × Ob) → Option ρ
def iff {ρ : Type} (c : Bool) (v : AV) (κ : Kk ρ) : Option ρ := bif c then κ v [] else none
def bitsOf (op : BinOp) (k : IntKind) (x y : Int) : Int :=
  let a := BitVec.ofInt k.bits x
  let b := BitVec.ofInt k.bits y
  match op with
  | .and => k.wrap (a &&& b).toNat
  | .or => k.wrap (a ||| b).toNat
  | .xor => k.wrap (a ^^^ b).toNat
  | _ => k.wrap (a &&& ~~~b).toNat
def shlOf (k : IntKind) (x y : Int) : Int := k.wrap (x * 2 ^ (min y.toNat k.bits))
def shrOf (k : IntKind) (x y : Int) : Int := x.fdiv (2 ^ (min y.toNat k.bits))
def strEq (a b : ByteArray) : Bool := a.toList == b.toList
def strLt (a b : ByteArray) : Bool := Op.bytesLess a.toList b.toList
def eqCell (P : Program) (t : TypeId) (x y : AV) : Option Bool := match P.underlying t with
  | some (.int _) => (match x, y with
    | .i k a, .i k' b => bif k == k' then some (a == b) else none
    | _, _ => none)
  | some .bool => (match x, y with
    | .b a, .b b => some (a == b)
    | _, _ => none)
  | some .string => (match x, y with
    | .s a, .s b => some (strEq a b)
    | _, _ => none)
  | _ => none
def eqF (P : Program) : List Field → Nat → List AV → List AV → Option Bool
  | [], _, [], [] => some true
  | f :: fs, j, x :: xs, y :: ys => bif f.offset == j && f.name != "_" then (match eqCell P f.type x y, eqF P fs (j + 1) xs ys with
    | some a, some b => some (a && b)
    | _, _ => none) else none
  | _, _, _, _ => none
def flat (P : Program) (t : TypeId) : Option (List Field) := match P.underlying t with
  | some (.struct fs) => bif !P.stoodInHeld t && !P.eqGuardType P.depth t then some fs.toList else none
  | _ => none
section bin
variable {ρ : Type} (P : Program)
def evInt (op : BinOp) (k k' : IntKind) (a b : Int) (κ : Kk ρ) : Option ρ := match op with
  | .shl => iff (decide (0 ≤ b)) (.i k (shlOf k a b)) κ
  | .shr => iff (decide (0 ≤ b)) (.i k (shrOf k a b)) κ
  | .add => bif k == k' then κ (.i k (k.wrap (a + b))) [] else none
  | .sub => bif k == k' then κ (.i k (k.wrap (a - b))) [] else none
  | .mul => bif k == k' then κ (.i k (k.wrap (a * b))) [] else none
  | .quo => bif k == k' then iff (!(b == 0)) (.i k (k.wrap (a.tdiv b))) κ else none
  | .rem => bif k == k' then iff (!(b == 0)) (.i k (a.tmod b)) κ else none
  | .eql => bif k == k' then κ (.b (a == b)) [] else none
  | .neq => bif k == k' then κ (.b (a != b)) [] else none
  | .lss => bif k == k' then κ (.b (decide (a < b))) [] else none
  | .leq => bif k == k' then κ (.b (decide (a ≤ b))) [] else none
  | .gtr => bif k == k' then κ (.b (decide (a > b))) [] else none
  | .geq => bif k == k' then κ (.b (decide (a ≥ b))) [] else none
  | .and => bif k == k' then κ (.i k (bitsOf .and k a b)) [] else none
  | .or => bif k == k' then κ (.i k (bitsOf .or k a b)) [] else none
  | .xor => bif k == k' then κ (.i k (bitsOf .xor k a b)) [] else none
  | .andNot => bif k == k' then κ (.i k (bitsOf .andNot k a b)) [] else none
def evBool (op : BinOp) (t : TypeId) (a b : Bool) (κ : Kk ρ) : Option ρ := match P.underlying t with
  | some .bool => (match op with
    | .eql => κ (.b (a == b)) []
    | .neq => κ (.b (!(a == b))) []
    | _ => none)
  | _ => none
def evStr (op : BinOp) (a b : ByteArray) (κ : Kk ρ) : Option ρ := match op with
  | .add => iff (Nat.ble (a.size + b.size) 9223372036854775807) (.s (a ++ b)) κ
  | .eql => κ (.b (strEq a b)) []
  | .neq => κ (.b (!strEq a b)) []
  | .lss => κ (.b (strLt a b)) []
  | .leq => κ (.b (strLt a b || strEq a b)) []
  | .gtr => κ (.b (!(strLt a b || strEq a b))) []
  | .geq => κ (.b (!strLt a b)) []
  | _ => none
def evAg (op : BinOp) (t : TypeId) (xs ys : List AV) (κ : Kk ρ) : Option ρ := match flat P t with
  | some fs => (match eqF P fs 0 xs ys with
    | some c => (match op with
      | .eql => κ (.b c) []
      | .neq => κ (.b (!c)) []
      | _ => none)
    | none => none)
  | none => none
def evBin (op : BinOp) (t : TypeId) (κ : Kk ρ) : AV → AV → Option ρ
  | .i k a, .i k' b => evInt op k k' a b κ
  | .b a, .b b => evBool P op t a b κ
  | .s a, .s b => evStr op a b κ
  | .ag xs, .ag ys => evAg P op t xs ys κ
  | _, _ => none
end bin
def bt (x : ByteArray) (i : Nat) : Int := ((x.data.getD i 0).toNat : Int)
def elemT (P : Program) (t : TypeId) : Option TypeId := match P.underlying t with
  | some (.slice e) => some e
  | _ => none
def seqOf (os : List (Nat × Option Ob)) (e : TypeId) : AV → Option (Nat × (Nat → Nat → T))
  | .nl => some (0, fun _ _ => .b false)
  | .sl e' x => bif e == e' then some (x.len, fun i j => x.el i j) else none
  | .row k off len => match lk os k with
    | some (.row e' _ g) => bif e == e' then some (len, fun i j => g (off + i) j) else none
    | _ => none
  | _ => none
def consumed : List Nat → List (Nat × Ob)
  | [] => []
  | k :: r => (k, .dead) :: consumed r
def setAt : List AV → Nat → List AV → List AV
  | l, _, [] => l
  | l, n, v :: vs => setAt (l.set n v) (n + 1) vs
def places (P : Program) (t : TypeId) (i : Nat) : Option (Nat × Nat) := match P.underlying t with
  | some (.struct fs) => match fs[i]? with
    | some f => some (f.offset, sizeT P f.type)
    | none => none
  | some (.array m e) => bif Nat.blt i m then some (i * sizeT P e, sizeT P e) else none
  | _ => none
def fillA (P : Program) (t : TypeId) : List AV → List (Nat × AV) → Option (List AV)
  | cs, [] => some cs
  | cs, (i, v) :: r => match places P t i with
    | some (off, size) => bif (cellsOf v).length == size && Nat.ble (off + size) cs.length then fillA P t (setAt cs off (cellsOf v)) r else none
    | none => none
def litElems (P : Program) (os : List (Nat × Option Ob)) (e : TypeId) : Nat → List (Nat × AV) → Option (List (List T))
  | _, [] => some []
  | n, (i, v) :: r => bif i == n then (match frzs P os (lv P e) (cellsOf v) with
    | some xs => (match litElems P os e (n + 1) r with
      | some ys => some (xs :: ys)
      | none => none)
    | none => none) else none
def ofParts : List (Nat × Operand) → List AV → List (Nat × AV)
  | (i, _) :: ps, v :: vs => (i, v) :: ofParts ps vs
  | _, _ => []
def sameOp : Operand → Operand → Bool
  | .tmp a, .tmp b => a == b
  | .const (.int .i64 a), .const (.int .i64 b) => a == b
  | _, _ => false
section ops
variable {ρ : Type} (P : Program)
def ePick (κ : Kk ρ) : List AV → Option ρ
  | [.b c, x, y] => (match c with | true => κ x [] | false => κ y [])
  | _ => none
def eAlloc (d : Nat) (t : TypeId) (os : List (Nat × Option Ob)) (κ : Kk ρ) : Option ρ :=
  bif free os d && !(isMapT t) then (match zeroCells P t with
    | some z => κ (.ptr d 0) [(d, .box t z)]
    | none => none) else none
def eBox (d : Nat) (t : TypeId) (os : List (Nat × Option Ob)) (κ : Kk ρ) : List AV → Option ρ
  | [x] => bif free os d && cellsOk x && !(isMapT t) then κ (.ptr d 0) [(d, .box t (cellsOf x))] else none
  | _ => none
def buildOk (P : Program) (t : TypeId) : Bool := match P.underlying t with
  | some (.struct fs) => fs.toList.all fun f => tyOk P f.type
  | some (.array _ e) => tyOk P e
  | _ => false
def eBuild (t : TypeId) (ps : List (Nat × Operand)) (vs : List AV) (κ : Kk ρ) : Option ρ := bif buildOk P t && vs.all cellsOk && (ps.length == vs.length) then (match zeroCells P t with
  | some z => (match fillA P t z (ofParts ps vs) with
    | some cs => κ (.ag cs) []
    | none => none)
  | none => none) else none
def zeroOk (P : Program) (e : TypeId) : Bool := match P.info? e with
  | some i => (match i.zero with
    | some z => z.cells.size == sizeT P e
    | none => false)
  | none => false
def eBuildSlice (d : Nat) (t : TypeId) (n : Nat) (ps : List (Nat × Operand)) (vs : List AV) (os : List (Nat × Option Ob)) (κ : Kk ρ) : Option ρ :=
  bif free os d && (ps.length == n) then (match elemT P t with
    | some e => bif (lv P e).length == sizeT P e && Nat.ble (n * sizeT P e) 16777216 && Nat.blt 0 (sizeT P e) && zeroOk P e then (match litElems P os e 0 (ofParts ps vs) with
      | some l => bif l.length == n && !((rowKeys (vs.flatMap cellsOf)).contains d) then κ (.row d 0 n) ((d, .row e n fun i j => (l.getD i []).getD j (.b false)) :: consumed (rowKeys (vs.flatMap cellsOf))) else none
      | none => none) else none
    | none => none) else none
def eMakeSlice (d : Nat) (t : TypeId) (lo co : Operand) (os : List (Nat × Option Ob)) (κ : Kk ρ) : List AV → Option ρ
  | [.i .i64 n, _] => bif free os d && sameOp lo co then (match elemT P t with
    | some e => (match zeroCells P e with
      | some z => bif (lv P e).length == sizeT P e && Nat.blt 0 (sizeT P e) && Nat.blt 0 (bytesT P e) then (match frzs P [] (lv P e) z with
        | some zs => bif decide (0 ≤ n) && decide ((bytesT P e : Int) * n ≤ 140737488355328) then κ (.row d 0 n.toNat) [(d, .row e n.toNat fun _ j => zs.getD j (.b false))] else none
        | none => none) else none
      | none => none)
    | none => none) else none
  | _ => none
def eLoad (t : TypeId) (os : List (Nat × Option Ob)) (κ : Kk ρ) : List AV → Option ρ
  | [.rp e c off] => bif fits P t e off then κ (loadT P t fun j => c (off + j)) [] else none
  | [.ptr k off] => (match lk os k with
    | some (.box bt cs) => bif !(isMapT bt) && (tyOk P t && Nat.ble (off + sizeT P t) cs.length) then (bif isAg P t then κ (.ag ((cs.drop off).take (sizeT P t))) [] else (match cs[off]? with
      | some v => κ v []
      | none => none)) else none
    | _ => none)
  | [.ep k i off] => (match lk os k with
    | some (.row e n g) => bif fits P t e off then iff (decide (i < n)) (loadT P t fun j => g i (off + j)) κ else none
    | _ => none)
  | _ => none
def eStore (t : TypeId) (os : List (Nat × Option Ob)) (κ : Kk ρ) : List AV → Option ρ
  | [.ptr k off, v] => (match lk os k with
    | some (.box bt cs) => bif !(isMapT bt) && (tyOk P t && cellsOk v && (cellsOf v).length == sizeT P t && Nat.ble (off + sizeT P t) cs.length) then κ .und [(k, .box bt (setAt cs off (cellsOf v)))] else none
    | _ => none)
  | [.ep k i off, v] => (match lk os k with
    | some (.row e n g) => bif cellsOk v && (cellsOf v).length == sizeT P t && fits P t e off && !((rowKeys (cellsOf v)).contains k) && Nat.blt 0 (sizeT P t) then (match frzs P os (lv P t) (cellsOf v) with
      | some xs => bif decide (i < n) then κ .und ((k, .row e n fun i' j' => bif i' == i && Nat.ble off j' && Nat.blt j' (off + xs.length) then xs.getD (j' - off) (.b false) else g i' j') :: consumed (rowKeys (cellsOf v))) else none
      | none => none) else none
    | _ => none)
  | _ => none
def eNilCheck (os : List (Nat × Option Ob)) (κ : Kk ρ) : List AV → Option ρ
  | [.rp e c o] => κ (.rp e c o) []
  | [.ptr k o] => bif isBox os k then κ (.ptr k o) [] else none
  | [.ep k i o] => bif isRow os k then κ (.ep k i o) [] else none
  | _ => none
def eUn (op : UnOp) (κ : Kk ρ) : List AV → Option ρ
  | [.i k n] => (match op with
    | .neg => κ (.i k (k.wrap (0 - n))) []
    | .xor => κ (.i k (bitsOf .xor k (if k.signed then -1 else k.max) n)) []
    | _ => none)
  | [.b c] => (match op with
    | .not => κ (.b (!c)) []
    | _ => none)
  | _ => none
def eConv (s d : TypeId) (κ : Kk ρ) : List AV → Option ρ
  | [.i _ n] => (match P.underlying s, P.underlying d with
    | some (.int _), some (.int k) => κ (.i k (k.wrap n)) []
    | _, _ => none)
  | [.s y] => (match P.underlying s, P.underlying d with
    | some .string, some .string => κ (.s y) []
    | _, _ => none)
  | _ => none
def eMakeFunc (fn : Fn) (first caps : Array Operand) (vs : List AV) (κ : Kk ρ) : Option ρ := match fn with
  | .func f => bif (first.size == 0 && !(Nat.ble NPF f)) && vs.all isCell then κ (.clo f vs) [] else none
  | _ => none
def eSliceAt (t : TypeId) (os : List (Nat × Option Ob)) (x : AV) (lo hi : Option Int) (κ : Kk ρ) : Option ρ := match x with
  | .s y => (match P.underlying t with
    | some .string => iff (decide (0 ≤ lo.getD 0) && decide (lo.getD 0 ≤ hi.getD (y.size : Int)) && decide (hi.getD (y.size : Int) ≤ (y.size : Int))) (.s (y.extract (lo.getD 0).toNat (hi.getD (y.size : Int)).toNat)) κ
    | _ => none)
  | .sl e' y => (match P.underlying t with
    | some (.slice e) => bif e == e' && (lv P e).length == sizeT P e && Nat.blt 0 (sizeT P e) then iff (decide (0 ≤ lo.getD 0) && decide (lo.getD 0 ≤ hi.getD (y.len : Int)) && decide (hi.getD (y.len : Int) ≤ (y.len : Int))) (.sl e (.l ((hi.getD (y.len : Int)).toNat - (lo.getD 0).toNat) fun i j => y.el ((lo.getD 0).toNat + i) j)) κ else none
    | _ => none)
  | .row k off len => (match P.underlying t with
    | some (.slice e) => (match lk os k with
      | some (.row e' _ _) => bif e == e' && (lv P e).length == sizeT P e && Nat.blt 0 (sizeT P e) then iff (decide (0 ≤ lo.getD 0) && decide (lo.getD 0 ≤ hi.getD (len : Int)) && decide (hi.getD (len : Int) ≤ (len : Int))) (.row k (off + (lo.getD 0).toNat) ((hi.getD (len : Int)).toNat - (lo.getD 0).toNat)) κ else none
      | _ => none)
    | _ => none)
  | .nl => (match P.underlying t with
    | some (.slice e) => bif Nat.blt 0 (sizeT P e) then iff (decide (0 ≤ lo.getD 0) && decide (lo.getD 0 ≤ hi.getD 0) && decide (hi.getD 0 ≤ 0)) .nl κ else none
    | _ => none)
  | _ => none
def bareOk (t : TypeId) (os : List (Nat × Option Ob)) (x : AV) : Bool := match P.underlying t with
  | some (.slice e) => Nat.blt 0 (sizeT P e) && (match x with | .row k _ _ => isRow os k | .nl => true | _ => false)
  | _ => false
def eSlice (t : TypeId) (os : List (Nat × Option Ob)) (lo hi mx : Option Operand) (κ : Kk ρ) : List AV → Option ρ
  | x :: bs => (match lo, hi, mx, bs with
    | none, none, none, [] => eSliceAt P t os x none none κ
    | some _, none, none, [.i _ l] => eSliceAt P t os x (some l) none κ
    | none, some _, none, [.i _ h] => eSliceAt P t os x none (some h) κ
    | some _, some _, none, [.i _ l, .i _ h] => eSliceAt P t os x (some l) (some h) κ
    | none, some _, some _, [.i _ h, .i _ m] => bif bareOk P t os x && (h == 0 && m == 0) then κ .nl [] else none
    | _, _, _, _ => none)
  | _ => none
def fieldOf (t : TypeId) (f : Nat) : Option Field := match P.underlying t with
  | some (.struct fs) => fs[f]?
  | _ => none
def eFieldAddr (t : TypeId) (f : Nat) (os : List (Nat × Option Ob)) (κ : Kk ρ) : List AV → Option ρ
  | [x] => (match fieldOf P t f with
    | some fd => bif Nat.blt 0 (sizeT P fd.type) then (match x with
      | .rp e c off => κ (.rp e c (off + fd.offset)) []
      | .ptr k off => bif isBox os k then κ (.ptr k (off + fd.offset)) [] else none
      | .ep k i off => bif isRow os k then κ (.ep k i (off + fd.offset)) [] else none
      | _ => none) else none
    | none => none)
  | _ => none
def ePart (t : TypeId) (cs : List AV) (off : Nat) (κ : Kk ρ) : Option ρ :=
  bif tyOk P t then (bif isAg P t then (bif Nat.ble (off + sizeT P t) cs.length then κ (.ag ((cs.drop off).take (sizeT P t))) [] else none) else (match cs[off]? with
    | some v => κ v []
    | none => none)) else none
def eField (t : TypeId) (f : Nat) (κ : Kk ρ) : List AV → Option ρ
  | [.ag cs] => (match fieldOf P t f with
    | some fd => ePart P fd.type cs fd.offset κ
    | none => none)
  | _ => none
def pickN (i : Int) (f : Nat → Option ρ) : Nat → Nat → Option ρ
  | 0, _ => none
  | m + 1, c => bif i == (c : Int) then f c else pickN i f m (c + 1)
def eIndexAddr (t : TypeId) (os : List (Nat × Option Ob)) (κ : Kk ρ) : List AV → Option ρ
  | [.sl e' y, .i _ i] => (match P.underlying t with
    | some (.slice e) => bif e == e' && sizeT P e == (lv P e).length && Nat.blt 0 (sizeT P e) then iff (decide (0 ≤ i) && decide (i < (y.len : Int))) (.rp e (fun j => y.el i.toNat j) 0) κ else none
    | _ => none)
  | [.row k off len, .i _ i] => (match P.underlying t with
    | some (.slice e) => (match lk os k with
      | some (.row e' _ _) => bif e == e' && sizeT P e == (lv P e).length && Nat.blt 0 (sizeT P e) then iff (decide (0 ≤ i) && decide (i < (len : Int))) (.ep k (off + i.toNat) 0) κ else none
      | _ => none)
    | _ => none)
  | [.ptr k off, .i _ i] => (match P.underlying t with
    | some (.array m e) => bif isBox os k && Nat.blt 1 m && Nat.blt 0 (sizeT P e) then pickN i (fun c => κ (.ptr k (off + c * sizeT P e)) []) m 0 else none
    | _ => none)
  | _ => none
def eIndex (t : TypeId) (κ : Kk ρ) : List AV → Option ρ
  | [.s y, .i _ i] => (match P.underlying t with
    | some .string => iff (decide (0 ≤ i) && decide (i < (y.size : Int))) (.i .u8 (bt y i.toNat)) κ
    | _ => none)
  | [.ag cs, .i _ i] => (match P.underlying t with
    | some (.array m e) => pickN i (fun c => ePart P e cs (c * sizeT P e) κ) m 0
    | _ => none)
  | _ => none
def eExtract (j : Nat) (κ : Kk ρ) : List AV → Option ρ
  | [.tup vs] => (match vs[j]? with
    | some v => κ v []
    | none => none)
  | _ => none
def eLen (t : TypeId) (os : List (Nat × Option Ob)) (κ : Kk ρ) : List AV → Option ρ
  | [.s y] => (match P.underlying t with | some .string => κ (.i .i64 (y.size : Int)) [] | _ => none)
  | [.sl _ y] => (match P.underlying t with | some (.slice _) => κ (.i .i64 (y.len : Int)) [] | _ => none)
  | [.nl] => (match P.underlying t with | some (.slice _) => κ (.i .i64 0) [] | _ => none)
  | [.row k _ n] => (match P.underlying t with | some (.slice _) => bif isRow os k then κ (.i .i64 (n : Int)) [] else none | _ => none)
  | [.ptr k _] => (match lk os k with
    | some (.box bt [.sl _ x]) => bif bt == MB + t && (mapT P t).isSome then κ (.i .i64 (x.len : Int)) [] else none
    | _ => none)
  | _ => none
def eqLeaf (y : T) : T → Bool
  | .b c => y.bool == c
  | .i n => y.int == n
  | .s z => strEq y.str z
  | .l _ _ => false
def eqLeaves (g : Nat → T) : Nat → List T → Bool
  | _, [] => true
  | j, x :: xs => eqLeaf (g j) x && eqLeaves g (j + 1) xs
def firstK (x : T) (key : List T) : Nat → Nat → Option Nat
  | 0, _ => none
  | n + 1, i => bif eqLeaves (x.el i) 0 key then some i else firstK x key n (i + 1)
def mfind (x : T) (key : List T) : Option Nat := firstK x key x.len 0
def mhas (x : T) (key : List T) : Bool := match mfind x key with
  | some _ => true
  | none => false
def mget (x : T) (kl : Nat) (key zero : List T) (j : Nat) : T := match mfind x key with
  | some i => x.el i (kl + j)
  | none => zero.getD j (.b false)
def mput (x : T) (kl i : Nat) (val : List T) : T := .l x.len fun i' j => bif i' == i && Nat.ble kl j then val.getD (j - kl) (.b false) else x.el i' j
def mpush (x : T) (key val : List T) : T := .l (x.len + 1) fun i' j => bif i' == x.len then (key ++ val).getD j (.b false) else x.el i' j
def mset (x : T) (kl : Nat) (key val : List T) : T := match mfind x key with
  | some i => mput x kl i val
  | none => mpush x key val
def mat (x : T) (key : List T) : Nat := match mfind x key with
  | some i => i
  | none => x.len
def mhold (x : T) (key zero : List T) : T := match mfind x key with
  | some _ => x
  | none => mpush x key zero
def basicT (P : Program) (t : TypeId) : Bool := match P.underlying t with
  | some (.int _) | some .string | some .bool => true
  | _ => false
def keyF (P : Program) : Nat → List Field → Bool
  | _, [] => true
  | j, f :: fs => (f.offset == j && f.name != "_") && (basicT P f.type && keyF P (j + 1) fs)
def keyOk (P : Program) (kt : TypeId) : Bool := basicT P kt || (match flat P kt with
  | some fs => keyF P 0 fs && (lv P kt == fs.map (·.type))
  | none => false)
def shapeOk (ag : Bool) : AV → Bool
  | .ag _ => ag
  | .tup _ => false
  | .und => false
  | _ => !ag
def keyT (P : Program) (kt : TypeId) (v : AV) : Option (List T) := bif keyOk P kt && shapeOk (isAg P kt) v then frzs P [] (lv P kt) (cellsOf v) else none
def zeroT (P : Program) (t : TypeId) : Option (List T) := match zeroCells P t with
  | some z => frzs P [] (lv P t) z
  | none => none
def valOk (P : Program) (t : TypeId) : Bool := match P.info? t with
  | some i => (match i.zero with
    | some (.agg _) => isAg P t
    | some v => !(isAg P t) && one1 v
    | none => false)
  | none => false
def eMakeMap (d : Nat) (t : TypeId) (res : Option Operand) (os : List (Nat × Option Ob)) (κ : Kk ρ) : List AV → Option ρ
  | [] => (match res, mapT P t with
    | none, some (kt, vt) => bif free os d && keyOk P kt && valOk P vt then κ (.ptr d 0) [(d, .box (MB + t) [.sl (MB + t) noT])] else none
    | _, _ => none)
  | _ => none
def eLookup (t : TypeId) (ok : Bool) (os : List (Nat × Option Ob)) (κ : Kk ρ) : List AV → Option ρ
  | [.ptr k _, key] => (match lk os k, mapT P t with
    | some (.box bt [.sl _ x]), some (kt, vt) => bif bt == MB + t && valOk P vt then (match keyT P kt key, zeroT P vt with
      | some ks, some zs => (match ok with
        | true => κ (.tup [loadT P vt (mget x (lv P kt).length ks zs), .b (mhas x ks)]) []
        | false => κ (loadT P vt (mget x (lv P kt).length ks zs)) [])
      | _, _ => none) else none
    | _, _ => none)
  | _ => none
def eMapUpdate (t : TypeId) (os : List (Nat × Option Ob)) (κ : Kk ρ) : List AV → Option ρ
  | [.ptr k _, key, v] => (match lk os k, mapT P t with
    | some (.box bt [.sl _ x]), some (kt, vt) => bif bt == MB + t && valOk P vt && cellsOk v && !((rowKeys (cellsOf v)).contains k) && shapeOk (isAg P vt) v then (match keyT P kt key, frzs P os (lv P vt) (cellsOf v) with
      | some ks, some xs => κ .und ((k, .box bt [.sl bt (mset x (lv P kt).length ks xs)]) :: consumed (rowKeys (cellsOf v)))
      | _, _ => none) else none
    | _, _ => none)
  | _ => none
def eMapEntry (t : TypeId) (os : List (Nat × Option Ob)) (κ : Kk ρ) : List AV → Option ρ
  | [.ptr k _, key] => (match lk os k, mapT P t with
    | some (.box bt [.sl _ x]), some (kt, vt) => bif bt == MB + t && valOk P vt then (match keyT P kt key, zeroT P vt with
      | some ks, some zs => κ (.tup [loadT P vt (mget x (lv P kt).length ks zs), .i .i64 (mat x ks : Int)]) [(k, .box bt [.sl bt (mhold x ks zs)])]
      | _, _ => none) else none
    | _, _ => none)
  | _ => none
def eEntryStore (t : TypeId) (os : List (Nat × Option Ob)) (κ : Kk ρ) : List AV → Option ρ
  | [.ptr k _, .i _ n, v] => (match lk os k, mapT P t with
    | some (.box bt [.sl _ x]), some (kt, vt) => bif bt == MB + t && valOk P vt && cellsOk v && !((rowKeys (cellsOf v)).contains k) && shapeOk (isAg P vt) v then (match frzs P os (lv P vt) (cellsOf v) with
      | some xs => bif decide (0 ≤ n) && decide (n < (x.len : Int)) then κ .und ((k, .box bt [.sl bt (mput x (lv P kt).length n.toNat xs)]) :: consumed (rowKeys (cellsOf v))) else none
      | _ => none) else none
    | _, _ => none)
  | _ => none
def eCap (t : TypeId) (κ : Kk ρ) : List AV → Option ρ
  | [.nl] => (match P.underlying t with | some (.slice _) => κ (.i .i64 0) [] | _ => none)
  | _ => none
def eMax2 (κ : Kk ρ) : List AV → Option ρ
  | [.i k x, .i _ y] => κ (.i k (if x < y then y else x)) []
  | _ => none
def eMax3 (κ : Kk ρ) : List AV → Option ρ
  | [.i k x, .i _ y, .i _ z] => κ (.i k (if (if x < y then y else x) < z then z else (if x < y then y else x))) []
  | _ => none
def eMax (κ : Kk ρ) (vs : List AV) : Option ρ := bif Nat.beq vs.length 3 then eMax3 κ vs else eMax2 κ vs
def eMin (κ : Kk ρ) : List AV → Option ρ
  | [.i k x, .i _ y] => κ (.i k (if y < x then y else x)) []
  | _ => none
def eAppend (d : Nat) (t : TypeId) (os : List (Nat × Option Ob)) (κ : Kk ρ) : List AV → Option ρ
  | [.nl, b] => bif free os d then (match elemT P t with
    | some e => bif (lv P e).length == sizeT P e && Nat.blt 0 (sizeT P e) && Nat.blt 0 (bytesT P e) && zeroOk P e then (match seqOf os e b with
        | some (m, g) => bif decide (m * bytesT P e ≤ 140737488355328) then κ (.row d 0 m) [(d, .row e m g)] else none
        | none => none) else none
    | none => none) else none
  | [.row k 0 n, b] => bif free os d then (match elemT P t with
    | some e => bif (lv P e).length == sizeT P e && Nat.blt 0 (sizeT P e) && Nat.blt 0 (bytesT P e) && zeroOk P e then (match lk os k, seqOf os e b with
        | some (.row e'' _ f), some (m, g) => bif e == e'' && !((rowKeys [b]).contains k) then (bif decide ((n + m) * bytesT P e ≤ 140737488355328) then κ (.row d 0 (n + m)) [(d, .row e (n + m) fun i j => bif Nat.blt i n then f i j else g (i - n) j), (k, .dead)] else none) else none
        | _, _ => none) else none
    | none => none) else none
  | _ => none
def u8Ok (P : Program) (e : TypeId) : Bool := match P.underlying e, P.info? e with
  | some (.int .u8), some i => (i.size == 1 && i.bytes == 1) && ((match i.zero with | some (.int .u8 0) => true | _ => false) && lv P e == [e])
  | _, _ => false
def eAppendS (d : Nat) (t : TypeId) (os : List (Nat × Option Ob)) (κ : Kk ρ) : List AV → Option ρ
  | [.nl, .s y] => bif free os d then (match elemT P t with
    | some e => bif u8Ok P e then (bif decide (y.size ≤ 140737488355328) then κ (.row d 0 y.size) [(d, .row e y.size fun i _ => .i (bt y i))] else none) else none
    | none => none) else none
  | [.row k 0 n, .s y] => bif free os d then (match elemT P t with
    | some e => bif u8Ok P e then (match lk os k with
        | some (.row e'' _ f) => bif e == e'' then (bif decide (n + y.size ≤ 140737488355328) then κ (.row d 0 (n + y.size)) [(d, .row e (n + y.size) fun i j => bif Nat.blt i n then f i j else .i (bt y (i - n))), (k, .dead)] else none) else none
        | _ => none) else none
    | none => none) else none
  | _ => none
def eAppendZ (d : Nat) (t : TypeId) (os : List (Nat × Option Ob)) (κ : Kk ρ) : List AV → Option ρ
  | [.nl, .i _ n] => bif free os d then (match elemT P t with
    | some e => (match zeroCells P e with
      | some z => bif (lv P e).length == sizeT P e && Nat.blt 0 (sizeT P e) && Nat.blt 0 (bytesT P e) then (match frzs P [] (lv P e) z with
        | some zs => bif decide (1 ≤ n) && decide ((bytesT P e : Int) * n ≤ 140737488355328) then κ (.row d 0 n.toNat) [(d, .row e n.toNat fun _ j => zs.getD j (.b false))] else none
        | none => none) else none
      | none => none)
    | none => none) else none
  | _ => none
def eBuiltin (d : Nat) (b : Builtin) (ts : Array TypeId) (vs : List AV) (os : List (Nat × Option Ob)) (κ : Kk ρ) : Option ρ := match b with
  | .len => (match ts.toList with
    | [t] => eLen P t os κ vs
    | _ => none)
  | .cap => (match ts.toList with
    | [t] => eCap P t κ vs
    | _ => none)
  | .max => eMax κ vs
  | .min => eMin κ vs
  | .append => (match ts.toList with
    | [t, u] => bif t == u then eAppend P d t os κ vs else (match P.underlying u with
      | some (.int _) => eAppendZ P d t os κ vs
      | some .string => eAppendS P d t os κ vs
      | _ => none)
    | _ => none)
  | _ => none
def eSame (κ : Kk ρ) : List AV → Option ρ
  | [x] => κ x []
  | _ => none
def eBin (op : BinOp) (t : TypeId) (κ : Kk ρ) : List AV → Option ρ
  | [x, y] => evBin P op t κ x y
  | _ => none
def evalOp (o : Oper) (vs : List AV) (os : List (Nat × Option Ob)) (κ : Kk ρ) : Option ρ := match o.op with
  | .move _ => eSame κ vs
  | .assign _ => eSame κ vs
  | .pick _ _ _ => ePick κ vs
  | .alloc t => eAlloc P (dk o) t os κ
  | .box t _ => eBox (dk o) t os κ vs
  | .build t ps => eBuild P t ps.toList vs κ
  | .buildSlice t n ps => eBuildSlice P (dk o) t n ps.toList vs os κ
  | .makeSlice t lo co => eMakeSlice P (dk o) t lo co os κ vs
  | .load t _ => eLoad P t os κ vs
  | .store t _ _ => eStore P t os κ vs
  | .nilCheck _ => eNilCheck os κ vs
  | .binOp op t _ _ _ => eBin P op t κ vs
  | .unOp op _ _ => eUn op κ vs
  | .convert s d _ => eConv P s d κ vs
  | .makeFunc fn first caps => eMakeFunc fn first caps vs κ
  | .slice t _ lo hi mx => eSlice P t os lo hi mx κ vs
  | .makeMap t res => eMakeMap P (dk o) t res os κ vs
  | .lookup t _ _ ok => eLookup P t ok os κ vs
  | .mapUpdate t _ _ _ => eMapUpdate P t os κ vs
  | .mapEntry t _ _ => eMapEntry P t os κ vs
  | .entryStore t _ _ _ => eEntryStore P t os κ vs
  | .fieldAddr t _ f => eFieldAddr P t f os κ vs
  | .field t _ f => eField P t f κ vs
  | .indexAddr t _ _ => eIndexAddr P t os κ vs
  | .index t _ _ => eIndex P t κ vs
  | .extract _ j => eExtract j κ vs
  | .call c => (match c.callee with
    | .builtin b => eBuiltin P (dk o) b c.argTypes vs os κ
    | _ => none)
  | _ => none
end ops
def argLeaf (P : Program) (os : List (Nat × Option Ob)) (t : TypeId) (v : AV) : Option AV := match P.underlying t with
  | some (.slice e) => bif conf P os t v then (match frz os v with
    | some x => some (.sl e x)
    | none => none) else none
  | some (.int _) | some .bool | some .string => bif conf P os t v then some v else none
  | _ => none
def argLeaves (P : Program) (os : List (Nat × Option Ob)) : List TypeId → List AV → Option (List AV)
  | [], [] => some []
  | t :: ts, v :: vs => match argLeaf P os t v, argLeaves P os ts vs with
    | some x, some xs => some (x :: xs)
    | _, _ => none
  | _, _ => none
def argPtr (P : Program) (os : List (Nat × Option Ob)) : AV → Option AV
  | .ptr k off => match lk os k with
    | some (.box t cs) => bif isMapT t then none else (match frzs P os (lv P t) cs with
      | some xs => some (.rp t (fun j => xs.getD j (.b false)) off)
      | none => none)
    | _ => none
  | .rp e c off => some (.rp e c off)
  | _ => none
def argPtrs (P : Program) (os : List (Nat × Option Ob)) : List AV → Option (List AV)
  | [] => some []
  | v :: vs => match argPtr P os v, argPtrs P os vs with
    | some x, some xs => some (x :: xs)
    | _, _ => none
def argOf (P : Program) (os : List (Nat × Option Ob)) (t : TypeId) (v : AV) : Option AV := match P.underlying t, v with
  | some (.struct _), .ag cs => match argLeaves P os (lv P t) cs with
    | some xs => some (.ag xs)
    | none => none
  | some (.func ..), .clo f caps => bif Nat.ble NPF f then none else (match argPtrs P os caps with
    | some xs => some (.clo f xs)
    | none => none)
  | some (.pointer _), v => argPtr P os v
  | _, v => argLeaf P os t v
def HB : Nat := 4000000
def hk (i : Nat) : Nat := HB + 64 * i
mutual
def ptrRefs : AV → List Nat
  | .ptr k _ => [k]
  | .ep k _ _ => [k]
  | .clo _ cs => ptrRefsL cs
  | .ag cs => ptrRefsL cs
  | .tup cs => ptrRefsL cs
  | _ => []
def ptrRefsL : List AV → List Nat
  | [] => []
  | v :: vs => ptrRefs v ++ ptrRefsL vs
end
def topsOf (os : List (Nat × Option Ob)) : Nat → List Nat → List Nat → List Nat
  | 0, done, _ => done
  | _, done, [] => done
  | n + 1, done, k :: todo => bif done.contains k then topsOf os n done todo else topsOf os n (done ++ [k]) (todo ++ (match lk os k with
    | some (.box _ cs) => ptrRefsL cs
    | _ => []))
def cellRows (tops : List Nat) (i : Nat) : Nat → List AV → List (Nat × Nat)
  | _, [] => []
  | c, .row q _ _ :: r => bif tops.contains q then cellRows tops i (c + 1) r else (q, hk i + 8 + c) :: cellRows tops i (c + 1) r
  | c, _ :: r => cellRows tops i (c + 1) r
def rowNames (os : List (Nat × Option Ob)) (tops : List Nat) : Nat → List Nat → List (Nat × Nat)
  | _, [] => []
  | i, k :: r => (match lk os k with
    | some (.box _ cs) => cellRows tops i 0 cs
    | _ => []) ++ rowNames os tops (i + 1) r
def topNames : Nat → List Nat → List (Nat × Nat)
  | _, [] => []
  | i, k :: r => (k, hk i) :: topNames (i + 1) r
def find : List (Nat × Nat) → Nat → Nat
  | [], _ => 0
  | (q, K) :: r, k => bif q == k then K else find r k
def inv? : List (Nat × Nat) → Nat → Option Nat
  | [], _ => none
  | (q, K') :: r, K => bif K' == K then some q else inv? r K
mutual
def ren (f : Nat → Nat) : AV → AV
  | .ptr k off => .ptr (f k) off
  | .row k off len => .row (f k) off len
  | .ep k i off => .ep (f k) i off
  | .ag cs => .ag (renL f cs)
  | .tup cs => .tup (renL f cs)
  | .clo g cs => .clo g (renL f cs)
  | .b x => .b x
  | .i k n => .i k n
  | .s x => .s x
  | .sl e x => .sl e x
  | .nl => .nl
  | .rp e c off => .rp e c off
  | .und => .und
def renL (f : Nat → Nat) : List AV → List AV
  | [] => []
  | v :: vs => ren f v :: renL f vs
end
def renOb (f : Nat → Nat) : Ob → Ob
  | .box t cs => .box t (renL f cs)
  | .row e n g => .row e n g
  | .dead => .dead
def nlT (P : Program) (t : TypeId) : AV → Option TypeId
  | .nl => match elemT P t with
    | some e => bif Nat.blt 0 (lv P e).length then some e else none
    | none => none
  | _ => none
def cellsIn (P : Program) (f : Nat → Nat) (K : Nat) : Nat → List TypeId → List AV → List AV
  | c, t :: ts, v :: vs => (match nlT P t v with
    | some _ => .row (K + 8 + c) 0 0
    | none => ren f v) :: cellsIn P f K (c + 1) ts vs
  | _, _, _ => []
def nlRows (P : Program) (K : Nat) : Nat → List TypeId → List AV → List (Nat × Ob)
  | c, t :: ts, v :: vs => match nlT P t v with
    | some e => (K + 8 + c, .row e 0 fun _ _ => .b false) :: nlRows P K (c + 1) ts vs
    | none => nlRows P K (c + 1) ts vs
  | _, _, _ => []
def headOb (P : Program) (os : List (Nat × Option Ob)) (f : Nat → Nat) (x : Nat × Nat) : Ob := match lk os x.1 with
  | some (.box t cs) => .box t (cellsIn P f x.2 0 (lv P t) cs)
  | some o => o
  | none => .dead
def nlOf (P : Program) (os : List (Nat × Option Ob)) (x : Nat × Nat) : List (Nat × Ob) := match lk os x.1 with
  | some (.box t cs) => nlRows P x.2 0 (lv P t) cs
  | _ => []
def entsIn (P : Program) (os : List (Nat × Option Ob)) (f : Nat → Nat) (names : List (Nat × Nat)) : List (Nat × Ob) :=
  names.map (fun x => (x.2, headOb P os f x)) ++ names.flatMap (nlOf P os)
def lendOk (P : Program) (os : List (Nat × Option Ob)) (names : List (Nat × Nat)) : Bool := names.all fun x => match lk os x.1 with
  | some (.box t cs) => (cs.length == (lv P t).length) && (refsL cs).all fun q => (names.map (·.1)).contains q
  | some (.row ..) => true
  | _ => false
def inArgs (P : Program) (os : List (Nat × Option Ob)) (f : Nat → Nat) (ld : Nat → Bool) : Nat → List TypeId → List AV → Option (List AV)
  | _, [], [] => some []
  | j, t :: ts, v :: vs => match bif ld j then some (ren f v) else argOf P os t v, inArgs P os f ld (j + 1) ts vs with
    | some x, some xs => some (x :: xs)
    | _, _ => none
  | _, _, _ => none
def inCaps (P : Program) (os : List (Nat × Option Ob)) (f : Nat → Nat) (ld : Nat → Bool) : Nat → List AV → Option (List AV)
  | _, [] => some []
  | j, v :: vs => match bif ld j then some (ren f v) else argPtr P os v, inCaps P os f ld (j + 1) vs with
    | some x, some xs => some (x :: xs)
    | _, _ => none
def lentOf (ld : Nat → Bool) : Nat → List AV → List AV
  | _, [] => []
  | j, v :: vs => bif ld j then v :: lentOf ld (j + 1) vs else lentOf ld (j + 1) vs
def outOf (names : List (Nat × Nat)) (os : List (Nat × Option Ob)) : List (Nat × Option Ob) := os.filter fun x => !((names.map (·.1)).contains x.1)
def slicyT (P : Program) (t : TypeId) : Bool := (lv P t).any fun τ => match P.underlying τ with
  | some (.slice _) => true
  | _ => false
inductive TA where
  | b (n : Nat) | i (k : IntKind) (n : Nat) | s (n : Nat) | sl (t e : TypeId) (n : Nat)
  | row (K : Nat) (e : TypeId) (n : Nat) | ptr (K off : Nat) | rp (e : TypeId) (off : Nat) (ns : List Nat) | nl | und
  | clo (f : FuncId) (cs : List TA) | ag (cs : List TA)
mutual
def TA.inst (r : R) : TA → AV
  | .b n => .b (r n).bool
  | .i k n => .i k (r n).int
  | .s n => .s (r n).str
  | .sl _ e n => .sl e (r n)
  | .row K _ n => .row K 0 (r n).len
  | .ptr K off => .ptr K off
  | .rp e off ns => .rp e (fun j => r (ns.getD j 0)) off
  | .nl => .nl
  | .und => .und
  | .clo f cs => .clo f (TA.instL r cs)
  | .ag cs => .ag (TA.instL r cs)
def TA.instL (r : R) : List TA → List AV
  | [] => []
  | a :: l => TA.inst r a :: TA.instL r l
end
mutual
def TA.rows : TA → List (Nat × TypeId × Nat)
  | .row K e n => [(K, e, n)]
  | .clo _ cs => TA.rowsL cs
  | .ag cs => TA.rowsL cs
  | _ => []
def TA.rowsL : List TA → List (Nat × TypeId × Nat)
  | [] => []
  | a :: l => TA.rows a ++ TA.rowsL l
end
mutual
def TA.slicy (P : Program) : TA → Bool
  | .sl .. => true
  | .rp .. => true
  | .row _ e _ => slicyT P e
  | .clo _ cs => TA.slicyL P cs
  | .ag cs => TA.slicyL P cs
  | _ => false
def TA.slicyL (P : Program) : List TA → Bool
  | [] => false
  | a :: l => TA.slicy P a || TA.slicyL P l
end
structure TB where
  K : Nat
  k : Nat
  t : TypeId
  cs : List TA
structure Tpl where
  vs : List TA
  bs : List TB
  rs : List (Nat × TypeId × Nat)
namespace Tpl
def rows (tp : Tpl) : List (Nat × TypeId × Nat) := TA.rowsL tp.vs ++ (TA.rowsL (tp.bs.flatMap TB.cs) ++ tp.rs)
def keys (tp : Tpl) : List Nat := tp.bs.map TB.K ++ tp.rows.map (·.1)
def ents (tp : Tpl) (r : R) : List (Nat × Ob) := tp.bs.map (fun b => (b.K, .box b.t (TA.instL r b.cs))) ++ tp.rows.map fun x => (x.1, .row x.2.1 (r x.2.2).len fun i j => (r x.2.2).el i j)
def M (tp : Tpl) (r : R) : Store := Store.sets [] (tp.ents r)
def slicy (P : Program) (tp : Tpl) : Bool := TA.slicyL P tp.vs || TA.slicyL P (tp.bs.flatMap TB.cs) || tp.rs.any fun x => slicyT P x.2.1
end Tpl
def one : List AV → AV
  | [v] => v
  | vs => .tup vs
structure Fr where
  lend : FuncId → Nat → Bool
  tpl : FuncId → Tpl
def callee (P : Program) (o : Oper) (vs : List AV) : Option (FuncId × Func × List AV × List AV) := match o.op, vs with
  | .call { callee := .value _, .. }, .clo f caps :: args => match P.funcs[f]? with
    | some fn => bif (fn.body.isSome && !(fn.name == "runtime.NumGoroutine")) && !(Nat.ble NPF f) then some (f, fn, args, caps) else none
    | none => none
  | _, _ => none
def isCall (o : Oper) : Bool := match o.op with
  | .call { callee := .value _, .. } => true
  | _ => false
def isNew (names : List (Nat × Nat)) (K : Nat) : Bool := match inv? names K with
  | some _ => false
  | none => true
def upK (names : List (Nat × Nat)) (d K : Nat) : Nat := match inv? names K with
  | some k => k
  | none => d + K
def nodup : List Nat → Bool
  | [] => true
  | k :: r => !(r.contains k) && nodup r
def present : List (Nat × Option Ob) → List Nat
  | [] => []
  | (k, some _) :: r => k :: present r
  | (_, none) :: r => present r
def given (P : Program) (tp : Tpl) (names : List (Nat × Nat)) (os : List (Nat × Option Ob)) : List Nat := bif names.isEmpty && !(tp.slicy P) then [] else present os
def backOk (os : List (Nat × Option Ob)) (tp : Tpl) (names : List (Nat × Nat)) (d : Nat) (gv : List Nat) : Bool :=
  nodup tp.keys && nodup (tp.keys.map (upK names d)) && tp.keys.all fun K => !(isNew names K) || (free os (d + K) && !(gv.contains (d + K)) && Nat.blt K HB)
def evCall {ρ : Type} (P : Program) (fr : Fr) (h : H) (o : Oper) (f : FuncId) (fn : Func) (args caps : List AV) (os : List (Nat × Option Ob)) (names : List (Nat × Nat)) (κ : Kk ρ) : Option ρ :=
  bif lendOk P os names && (names.all fun x => Nat.ble HB x.2) && nodup (names.map (·.1)) && nodup ((entsIn P os (find names) names).map (·.1)) && (refsL (lentOf (fr.lend f) 0 (args ++ caps))).all (fun q => (names.map (·.1)).contains q) && backOk os (fr.tpl f) names (dk o) (given P (fr.tpl f) names os) then
    (match inArgs P (outOf names os) (find names) (fr.lend f) 0 fn.params.toList args, inCaps P (outOf names os) (find names) (fr.lend f) args.length caps with
      | some xs, some ys => (match h f (xs ++ ys) (Store.sets [] (entsIn P os (find names) names)) with
        | some r => κ (one (renL (upK names (dk o)) (TA.instL r (fr.tpl f).vs))) (consumed (given P (fr.tpl f) names os) ++ ((fr.tpl f).ents r).map fun x => (upK names (dk o) x.1, renOb (upK names (dk o)) x.2))
        | none => none)
      | _, _ => none) else none
def namesOf (os : List (Nat × Option Ob)) (tops : List Nat) : List (Nat × Nat) := topNames 0 tops ++ rowNames os tops 0 tops
def evalAny {ρ : Type} (P : Program) (fr : Fr) (h : H) (o : Oper) (vs : List AV) (os : List (Nat × Option Ob)) (κ : Kk ρ) : Option ρ :=
  bif isCall o then (match callee P o vs with
    | some (f, fn, args, caps) => evCall P fr h o f fn args caps os (namesOf os (topsOf os 64 [] (refsL (lentOf (fr.lend f) 0 (args ++ caps))))) κ
    | none => none)
  else evalOp P o vs os κ
def reach (M : Store) : Nat → List Nat → List Nat
  | 0, ks => ks
  | n + 1, ks => ks ++ reach M n (ks.flatMap fun k => match M.get k with
    | some (.box _ cs) => refsL cs
    | _ => [])
def newKeys (fr : Fr) (d : Nat) : List AV → List Nat
  | .clo f _ :: _ => (fr.tpl f).keys.filterMap fun K => bif Nat.blt K HB then some (d + K) else none
  | _ => []
def keysAny (fr : Fr) (M : Store) (o : Oper) (vs : List AV) : List Nat := bif isCall o then newKeys fr (dk o) vs ++ reach M 4 (refsL vs) else keysOf o vs
def setS (sl : List AV) (d : Option Nat) (v : AV) : List AV := match d with
  | some d => sl.set d v
  | none => sl
def looks (M : Store) (ks : List Nat) : List (Nat × Option Ob) := ks.map fun k => (k, M.get k)
structure Lab where
  ks : List Nat
  wr : List Nat
def stepOp {ρ : Type} (P : Program) (fr : Fr) (h : H) (o : Oper) (s : St) (κ : St → Lab → Option ρ) : Option ρ :=
  evalAny P fr h o (opVals s.slots o.op) (looks s.M (keysAny fr s.M o (opVals s.slots o.op))) fun v us =>
    bif us.all (fun u => (keysAny fr s.M o (opVals s.slots o.op)).contains u.1) then κ ⟨setS s.slots o.dst v, s.M.sets us⟩ ⟨keysAny fr s.M o (opVals s.slots o.op), us.map (·.1)⟩ else none
end Go.AM
namespace Go.AM
structure LP where
  live : List Nat
  boxes : List Nat
  rows : List (Nat × TypeId)
  cells : List (Nat × Nat × TypeId)
  join : Bool
  frz : List (Nat × TypeId)
abbrev Plan := FuncId → Nat → Option LP
def firstR : Code → Option Nat
  | .region id _ _ => some id
  | .seq a b => match firstR a with
    | some r => some r
    | none => firstR b
  | .cond _ a b => match firstR a with
    | some r => some r
    | none => firstR b
  | .block _ c => firstR c
  | .loop c => firstR c
  | .scope c => firstR c
  | _ => none
def keep : Nat → List Nat → List AV → List AV
  | _, _, [] => []
  | n, l, v :: vs => (bif l.contains n then v else .und) :: keep (n + 1) l vs
def Store.only (ks : List Nat) : Store → Store
  | [] => []
  | (k, o) :: r => bif ks.contains k then (k, o) :: Store.only ks r else bif Nat.ble HB k then (k, .dead) :: Store.only ks r else Store.only ks r
def alive (M : Store) (k : Nat) : Bool := match M.get k with
  | some (.box ..) | some (.row ..) => true
  | _ => false
def absent (M : Store) (k : Nat) : Bool := match M.get k with
  | none => true
  | some _ => false
def obRefs : Ob → List Nat
  | .box _ cs => refsL cs
  | _ => []
def sw (k K q : Nat) : Nat := bif q == k then K else q
def canonS (P : Program) (s : St) (t : Nat) (e : TypeId) (K : Nat) : Option St := match s.slots.getD t .und with
  | .nl => bif absent s.M K && Nat.blt 0 (lv P e).length then some ⟨s.slots.set t (.row K 0 0), s.M.set K (.row e 0 fun _ _ => .b false)⟩ else none
  | .row k _ _ => bif k == K then some s else (match s.M.get K, s.M.get k with
    | none, some (.row e' n g) => some ⟨renL (sw k K) s.slots, (s.M.set k .dead).set K (.row e' n g)⟩
    | _, _ => none)
  | _ => none
def canonC (P : Program) (s : St) (b j : Nat) (e : TypeId) (K : Nat) : Option St := match s.M.get b with
  | some (.box bt cs) => (match cs.getD j .und with
    | .nl => bif absent s.M K && Nat.blt 0 (lv P e).length then some ⟨s.slots, (s.M.set b (.box bt (cs.set j (.row K 0 0)))).set K (.row e 0 fun _ _ => .b false)⟩ else none
    | .row k off len => bif k == K then some s else (match s.M.get K, s.M.get k with
      | none, some (.row e' n g) => some ⟨s.slots, ((s.M.set b (.box bt (cs.set j (.row K off len)))).set k .dead).set K (.row e' n g)⟩
      | _, _ => none)
    | _ => none)
  | _ => none
def keyS (t : Nat) : Nat := 64 * t + 63
def keyC (b j : Nat) : Nat := (bif Nat.ble HB b then b - 1000000 else b) + 8 + j
def canonSs (P : Program) : List (Nat × TypeId) → St → Option St
  | [], s => some s
  | (t, e) :: r, s => match canonS P s t e (keyS t) with
    | some s' => canonSs P r s'
    | none => none
def frzC (P : Program) (s : St) (b j t : Nat) : Option St := match s.M.get b with
  | some (.box bt cs) => (match cs.getD j .und, P.underlying t with
    | .row k off len, some (.slice e) => bif !(Nat.beq b k) && conf P [(k, s.M.get k)] t (.row k off len) then (match frz [(k, s.M.get k)] (.row k off len) with
      | some x => some ⟨s.slots, (s.M.set b (.box bt (cs.set j (.sl e x)))).set k .dead⟩
      | none => none) else none
    | .sl _ _, _ => some s
    | _, _ => none)
  | _ => none
def FZ : Nat := 1000000
def canonCs (P : Program) : List (Nat × Nat × TypeId) → St → Option St
  | [], s => some s
  | (b, j, e) :: r, s => match bif Nat.ble FZ e then frzC P s b j (e - FZ) else canonC P s b j e (keyC b j) with
    | some s' => canonCs P r s'
    | none => none
mutual
def thawV (k : Nat) (t : TypeId) (c : Nat → T) : AV → AV
  | .ptr k' off => bif Nat.beq k' k then .rp t c off else .ptr k' off
  | .clo f cs => .clo f (thawL k t c cs)
  | .ag cs => .ag (thawL k t c cs)
  | .tup cs => .tup (thawL k t c cs)
  | .b x => .b x
  | .i k n => .i k n
  | .s x => .s x
  | .sl e x => .sl e x
  | .nl => .nl
  | .rp e c off => .rp e c off
  | .row k off len => .row k off len
  | .ep k i off => .ep k i off
  | .und => .und
def thawL (k : Nat) (t : TypeId) (c : Nat → T) : List AV → List AV
  | [] => []
  | v :: vs => thawV k t c v :: thawL k t c vs
end
mutual
def thawRV (k : Nat) (e : TypeId) (g : Nat → Nat → T) : AV → AV
  | .row k' off len => bif Nat.beq k' k then .sl e (.l len fun i j => g (off + i) j) else .row k' off len
  | .clo f cs => .clo f (thawRL k e g cs)
  | .ag cs => .ag (thawRL k e g cs)
  | .tup cs => .tup (thawRL k e g cs)
  | .b x => .b x
  | .i k n => .i k n
  | .s x => .s x
  | .sl e x => .sl e x
  | .nl => .nl
  | .rp e c off => .rp e c off
  | .ptr k off => .ptr k off
  | .ep k i off => .ep k i off
  | .und => .und
def thawRL (k : Nat) (e : TypeId) (g : Nat → Nat → T) : List AV → List AV
  | [] => []
  | v :: vs => thawRV k e g v :: thawRL k e g vs
end
def frzB (P : Program) (s : St) (k : Nat) (t : TypeId) : Option St := match s.M.get k with
  | some (.box t cs) => bif isMapT t then none else (match frzs P [] (lv P t) cs with
    | some xs => some ⟨thawL k t (fun j => xs.getD j (.b false)) s.slots, s.M.sets (consumed [k])⟩
    | none => none)
  | some (.row e _ g) => (match P.underlying t with
    | some (.slice e') => bif e == e' then some ⟨thawRL k e g s.slots, s.M.sets (consumed [k])⟩ else none
    | _ => none)
  | _ => some s
def frzBs (P : Program) : List (Nat × TypeId) → St → Option St
  | [], s => some s
  | (k, t) :: r, s => match frzB P s k t with
    | some s' => frzBs P r s'
    | none => none
def exitKey (id : Nat) : Nat := 1000000 + id
def retKey : Nat := 2000000
def kept (lp : LP) : List Nat := lp.boxes ++ lp.rows.map (fun x => keyS x.1) ++ lp.cells.map (fun x => keyC x.1 x.2.1)
def okRefs (s : St) : Bool := (refsL s.slots).all (alive s.M) && s.M.all (fun x => (obRefs x.2).all (alive s.M))
def cutTo (live ks : List Nat) (s : St) : St := ⟨keep 0 live s.slots, Store.only ks s.M⟩
def forget (lp : LP) (s : St) : St := cutTo lp.live (kept lp) s
def rowsIn (lp : LP) : Store → List Nat
  | [] => []
  | (k, .row ..) :: r => k :: rowsIn lp r
  | (k, .box ..) :: r => bif lp.boxes.contains k then k :: rowsIn lp r else rowsIn lp r
  | _ :: r => rowsIn lp r
def usedIn (lp : LP) (s : St) : List Nat := refsL (keep 0 lp.live s.slots) ++ s.M.flatMap fun x => obRefs x.2
def prune (lp : LP) (s : St) : St := cutTo lp.live ((rowsIn lp s.M).filter fun k => Nat.ble HB k || lp.boxes.contains k || (usedIn lp s).contains k) s
def norm (P : Program) (lp : LP) (s : St) : Option St := bif okRefs (prune lp s) then (match frzBs P lp.frz (prune lp s) with
  | some s0 => (match canonSs P lp.rows s0 with
    | some s1 => (match canonCs P lp.cells s1 with
      | some s2 => bif okRefs (forget lp s2) then some (forget lp s2) else none
      | none => none)
    | none => none)
  | none => none) else none
def normAt (P : Program) (pl : Nat → Option LP) (r : Option Nat) (s : St) : Option St := match r with
  | some id => (match pl id with
    | some lp => norm P lp s
    | none => some s)
  | none => some s
def putL : List (Nat × AV) → List AV → List AV
  | [], l => l
  | (i, v) :: r, l => putL r (l.set i v)
def mkS (n : Nat) (l : List (Nat × AV)) (M : Store) : St := ⟨putL l (List.replicate n .und), M⟩
def sub : Code → List Nat → Code
  | c, [] => c
  | .seq a _, 0 :: p => sub a p
  | .seq _ b, _ :: p => sub b p
  | .cond _ a _, 0 :: p => sub a p
  | .cond _ _ b, _ :: p => sub b p
  | .block _ c, _ :: p => sub c p
  | .loop c, _ :: p => sub c p
  | .scope c, _ :: p => sub c p
  | _, _ => .skip
def dstTmp (ops : List Oper) (g : Nat) : Option Nat := match ops[g]? with
  | some o => o.dst
  | none => none
def setSlot (s : St) (d : Nat) (v : AV) : St := ⟨s.slots.set d v, s.M⟩
def setDst (s : St) (d : Option Nat) (v : AV) : St := ⟨setS s.slots d v, s.M⟩
def readsOf (ops : List Oper) (o : Oper) : List Nat :=
  (o.op.operands.toList.filterMap fun | .tmp t => some t | _ => none) ++ (match o.guard with
    | some (g, _) => (match dstTmp ops g with
      | some d => [d]
      | none => [])
    | none => [])
def apart (ops : List Oper) (a b : Oper) (la lb : Lab) : Bool :=
  (match a.dst with
    | some d => !((readsOf ops b).contains d) && !(b.dst == some d)
    | none => true) &&
  (match b.dst with
    | some d => !((readsOf ops a).contains d)
    | none => true) &&
  ((la.wr.all fun k => !(lb.ks.contains k)) && lb.wr.all fun k => !(la.ks.contains k))
def pairsOk (ops : List Oper) (B : Array Nat) (ls : List Lab) : Bool :=
  (List.range ops.length).all fun j => (List.range j).all fun i => (B.getD j 0).testBit i || (match ops[i]?, ops[j]?, ls[i]?, ls[j]? with
    | some a, some b, some la, some lb => apart ops a b la lb
    | _, _, _, _ => false)
section cps
variable {ρ : Type} (P : Program) (fr : Fr) (h : H)
def stepG (ops : List Oper) (o : Oper) (s : St) (κ : St → Lab → Option ρ) : Option ρ := match o.guard with
  | none => stepOp P fr h o s κ
  | some (g, want) => match dstTmp ops g with
    | some d => (match s.slots.getD d .und with
      | .b c => (match want with
        | true => bif c then stepOp P fr h o (setSlot s d (.b true)) κ else κ (setDst (setSlot s d (.b false)) o.dst (.tup [])) ⟨[], []⟩
        | false => bif c then κ (setDst (setSlot s d (.b true)) o.dst (.tup [])) ⟨[], []⟩ else stepOp P fr h o (setSlot s d (.b false)) κ)
      | .tup [] => κ (setDst s o.dst (.tup [])) ⟨[], []⟩
      | _ => none)
    | none => none
def runOps (ops : List Oper) : List Oper → St → List Lab → (St → List Lab → Option ρ) → Option ρ
  | [], s, ls, κ => κ s ls.reverse
  | o :: r, s, ls, κ => stepG P fr h ops o s fun s' l => runOps ops r s' (l :: ls) κ
def drawOk (ops : Array Oper) : Bool := (P.follows .mixedOrders || !(Region.departs ops)) && ops.toList.zipIdx.all fun x => x.1.after.all fun e => !(Region.binds .any e) || Nat.blt e.on x.2
def runReg (ops : Array Oper) (draw : Bool) (s : St) (κ : St → Option ρ) : Option ρ :=
  runOps P fr h ops.toList ops.toList s [] fun s' ls => match draw with
    | false => κ s'
    | true => bif drawOk P ops && pairsOk ops.toList (Region.before ops) ls then κ s' else none
inductive Frm where
  | seq (b : Code) | blk (id : Nat) | lp (c : Code)
variable (pl : Nat → Option LP)
def joinAt (r : Option Nat) : Bool := match r with
  | some id => (match pl id with
    | some lp => lp.join
    | none => false)
  | none => false
def go (base : X → St → Option ρ) (J : Code → List Frm → St → Option ρ) : Nat → Option Code → X → List Frm → St → Option ρ
  | 0, _, _, _, _ => none
  | d + 1, some c, _, stk, s => (match c with
    | .skip => go base J d none .normal stk s
    | .region _ ops draw => runReg P fr h ops draw s fun s' => go base J d none .normal stk s'
    | .seq a b => go base J d (some a) .normal (.seq b :: stk) s
    | .cond c x y => (match evO s.slots c with
      | .b t => bif t then go base J d (some x) .normal stk s else go base J d (some y) .normal stk s
      | _ => none)
    | .block id c => go base J d (some c) .normal (.blk id :: stk) s
    | .loop c => (match normAt P pl (firstR c) s with
      | some s' => J (.loop c) stk s'
      | none => none)
    | .exit id => (match normAt P pl (some (exitKey id)) s with
      | some s' => go base J d none (.exit id) stk s'
      | none => none)
    | .ret => (match normAt P pl (some retKey) s with
      | some s' => go base J d none .ret stk s'
      | none => none)
    | _ => none)
  | d + 1, none, e, stk, s => (match stk with
    | [] => base e s
    | .seq b :: stk => (match e with
      | .normal => (match normAt P pl (firstR b) s with
        | some s' => bif joinAt pl (firstR b) then J b stk s' else go base J d (some b) .normal stk s'
        | none => none)
      | .exit id => go base J d none (.exit id) stk s
      | .ret => go base J d none .ret stk s)
    | .blk id :: stk => (match e with
      | .normal => go base J d none .normal stk s
      | .exit id' => bif id' == id then go base J d none .normal stk s else go base J d none (.exit id') stk s
      | .ret => go base J d none .ret stk s)
    | .lp c :: stk => (match e with
      | .normal => (match normAt P pl (firstR c) s with
        | some s' => J (.loop c) stk s'
        | none => none)
      | .exit id => go base J d none (.exit id) stk s
      | .ret => go base J d none .ret stk s))
def deep : Nat := 100000
def blkR (base : X → St → Option ρ) : Nat → Code → List Frm → St → Option ρ
  | 0, _, _, _ => none
  | n + 1, c, stk, s => (match c with
    | .loop c => go P fr h pl base (blkR base n) deep (some c) .normal (.lp c :: stk) s
    | c => go P fr h pl base (blkR base n) deep (some c) .normal stk s)
structure Tk where
  ps : List (Nat × T)
  rw : List (Nat × Option (Nat × Nat))
  fz : List Nat
def Tk.no : Tk := ⟨[], [], []⟩
def Tk.app (a b : Tk) : Tk := ⟨a.ps ++ b.ps, a.rw ++ b.rw, a.fz ++ b.fz⟩
def allOf (M : Store) : List (Nat × Option Ob) := M.map fun x => (x.1, some x.2)
mutual
def TA.take (M : Store) (kk : List (Nat × Nat)) : TA → AV → Option Tk
  | .b n, .b x => some ⟨[(n, .b x)], [], []⟩
  | .i k n, .i k' x => bif k == k' then some ⟨[(n, .i x)], [], []⟩ else none
  | .s n, .s x => some ⟨[(n, .s x)], [], []⟩
  | .sl t e n, v => bif conf P (allOf M) t v && elemT P t == some e then (match frz (allOf M) v with
    | some x => some ⟨[(n, x)], [], rowKeys [v]⟩
    | none => none) else none
  | .row K e n, .row k 0 len => (match M.get k with
    | some (.row e' _ g) => bif e == e' then some ⟨[(n, .l len fun i j => g i j)], [(K, some (k, len))], []⟩ else none
    | _ => none)
  | .row K e n, .nl => bif Nat.blt 0 (lv P e).length then some ⟨[(n, noT)], [(K, none)], []⟩ else none
  | .ptr K off, .ptr k off' => bif off == off' && (match inv? kk K with
    | some k' => k' == k
    | none => false) then some Tk.no else none
  | .rp t off ns, .rp e c off' => bif t == e && off == off' && ns.length == (lv P t).length then some ⟨ns.mapIdx fun j n => (n, c j), [], []⟩ else none
  | .nl, .nl => some Tk.no
  | .und, v => bif isCell v then some Tk.no else none
  | .clo f as, .clo f' cs => bif f == f' && !(Nat.ble NPF f) then TA.takeL M kk as cs else none
  | .ag as, .ag cs => TA.takeL M kk as cs
  | _, _ => none
def TA.takeL (M : Store) (kk : List (Nat × Nat)) : List TA → List AV → Option Tk
  | [], [] => some Tk.no
  | a :: as, c :: cs => match TA.take M kk a c, TA.takeL M kk as cs with
    | some x, some y => some (x.app y)
    | _, _ => none
  | _, _ => none
end
def takeMap (t : TypeId) : List TA → List AV → Option Tk
  | [.sl t' e n], [.sl e' x] => bif t' == t && e == t && e' == t then some ⟨[(n, x)], [], []⟩ else none
  | _, _ => none
def takeBs (M : Store) (kk : List (Nat × Nat)) : List TB → Option Tk
  | [] => some Tk.no
  | b :: bs => match M.get b.k with
    | some (.box t cs) => bif t == b.t then (match bif isMapT t then takeMap t b.cs cs else TA.takeL P M kk b.cs cs, takeBs M kk bs with
      | some x, some y => some (x.app y)
      | _, _ => none) else none
    | _ => none
def takeRs (M : Store) : List (Nat × TypeId × Nat) → Option Tk
  | [] => some Tk.no
  | (K, e, n) :: rs => match M.get K, takeRs M rs with
    | some (.row e' m g), some y => bif e == e' then some (Tk.app ⟨[(n, .l m fun i j => g i j)], [], []⟩ y) else none
    | _, _ => none
def lookR : List (Nat × T) → R
  | [], _ => .b false
  | (q, x) :: r, n => bif q == n then x else lookR r n
def Tk.own (tk : Tk) : List Nat := tk.rw.filterMap fun x => x.2.map (·.1)
def tplOk (tp : Tpl) (tk : Tk) : Bool :=
  nodup (tk.ps.map (·.1)) && nodup tp.keys && nodup (tk.rw.map (·.1)) && nodup (tk.own ++ tp.rs.map (·.1)) && nodup (tp.bs.map TB.k) &&
  tk.fz.all (fun k => !((tk.own ++ tp.rs.map (·.1)).contains k)) && tk.rw.all (fun x => Nat.blt x.1 HB) && tp.bs.all (fun b => Nat.blt b.K HB || b.K == b.k) && tp.rs.all (fun x => Nat.ble HB x.1)
def resVal (s : St) : ResultVar → Option AV
  | .tmp t => some (s.slots.getD t .und)
  | .cell a t => match s.slots.getD a .und with
    | .ptr k off => (match s.M.get k with
      | some (.box bt cs) => bif !(isMapT bt) && (tyOk P t && Nat.ble (off + sizeT P t) cs.length) then (bif isAg P t then some (.ag ((cs.drop off).take (sizeT P t))) else cs[off]?) else none
      | _ => none)
    | _ => none
def resVals (s : St) : List ResultVar → Option (List AV)
  | [] => some []
  | r :: rs => match resVal P s r, resVals s rs with
    | some v, some vs => some (v :: vs)
    | _, _ => none
def finish (tp : Tpl) (fn : Func) (s : St) : Option R := match resVals P s fn.results.toList with
  | some vs => (match TA.takeL P s.M (tp.bs.map fun b => (b.k, b.K)) tp.vs vs, takeBs P s.M (tp.bs.map fun b => (b.k, b.K)) tp.bs, takeRs s.M tp.rs with
    | some x, some y, some z => bif tplOk tp (x.app (y.app z)) then some (lookR (x.app (y.app z)).ps) else none
    | _, _, _ => none)
  | none => none
def start (fn : Func) (args : List AV) (M : Store) : St := ⟨args ++ List.replicate (fn.ntmps - args.length) .und, M⟩
def kEnd (tp : Tpl) (fn : Func) : X → St → Option R := fun e s => match e with
  | .normal => finish P tp fn s
  | .ret => finish P tp fn s
  | .exit _ => none
def runF (n : Nat) (tp : Tpl) (fn : Func) (args : List AV) (M : Store) : Option R := match fn.body with
  | some c => go P fr h pl (kEnd P tp fn) (blkR P fr h pl (kEnd P tp fn) n) deep (some c) .normal [] (start fn args M)
  | none => none
end cps
def call (P : Program) (pl : Plan) (fr : Fr) (ext : FuncId → Option (List AV → Store → Option R)) : Nat → H
  | 0, _, _, _ => none
  | n + 1, f, args, M => match ext f with
    | some F => F args M
    | none => match P.funcs[f]? with
      | some fn => bif decide (args.length ≤ fn.ntmps) then runF P fr (call P pl fr ext n) (pl f) n (fr.tpl f) fn args M else none
      | none => none
end Go.AM
