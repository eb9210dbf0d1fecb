/- The engine, part 1: regions, code, functions (definitions only). -/
import Derived.Test.YtnlkhjileipmcaaGreatEng0
namespace Go.AM

/-- Where a slot's or a variable's row is renamed, and what is forgotten, where ways meet. -/
structure LP where
  live : List Nat
  boxes : List Nat
  rows : List (Nat × TypeId)
  cells : List (Nat × Nat × TypeId)
  join : Bool
  frz : List (Nat × TypeId)
abbrev Plan := FuncId → Nat → Option LP

def firstR : Code → Option Nat
  | .region id _ _ => some id
  | .seq a b => match firstR a with
    | some r => some r
    | none => firstR b
  | .cond _ a b => match firstR a with
    | some r => some r
    | none => firstR b
  | .block _ c => firstR c
  | .loop c => firstR c
  | .scope c => firstR c
  | _ => none

/-! ### Where ways meet -/
def keep : Nat → List Nat → List AV → List AV
  | _, _, [] => []
  | n, l, v :: vs => (bif l.contains n then v else .und) :: keep (n + 1) l vs
/-- What was lent stays named, dead if need be. -/
def Store.only (ks : List Nat) : Store → Store
  | [] => []
  | (k, o) :: r => bif ks.contains k then (k, o) :: Store.only ks r else bif Nat.ble HB k then (k, .dead) :: Store.only ks r else Store.only ks r
def alive (M : Store) (k : Nat) : Bool := match M.get k with
  | some (.box ..) | some (.row ..) => true
  | _ => false
def absent (M : Store) (k : Nat) : Bool := match M.get k with
  | none => true
  | some _ => false
def obRefs : Ob → List Nat
  | .box _ cs => refsL cs
  | _ => []
def sw (k K q : Nat) : Nat := bif q == k then K else q
/-- Slot t's row gets the key K, wherever it is named. -/
def canonS (P : Program) (s : St) (t : Nat) (e : TypeId) (K : Nat) : Option St := match s.slots.getD t .und with
  | .nl => bif absent s.M K && Nat.blt 0 (lv P e).length then some ⟨s.slots.set t (.row K 0 0), s.M.set K (.row e 0 fun _ _ => .b false)⟩ else none
  | .row k off len => bif k == K then some s else (match s.M.get K, s.M.get k with
    | none, some (.row e' n g) => some ⟨renL (sw k K) s.slots, (s.M.set k .dead).set K (.row e' n g)⟩
    | _, _ => none)
  | _ => none
def canonC (P : Program) (s : St) (b j : Nat) (e : TypeId) (K : Nat) : Option St := match s.M.get b with
  | some (.box bt cs) => (match cs.getD j .und with
    | .nl => bif absent s.M K && Nat.blt 0 (lv P e).length then some ⟨s.slots, (s.M.set b (.box bt (cs.set j (.row K 0 0)))).set K (.row e 0 fun _ _ => .b false)⟩ else none
    | .row k off len => bif k == K then some s else (match s.M.get K, s.M.get k with
      | none, some (.row e' n g) => some ⟨s.slots, ((s.M.set b (.box bt (cs.set j (.row K off len)))).set k .dead).set K (.row e' n g)⟩
      | _, _ => none)
    | _ => none)
  | _ => none
def keyS (t : Nat) : Nat := 64 * t + 63
def keyC (b j : Nat) : Nat := (bif Nat.ble HB b then b - 1000000 else b) + 8 + j
def canonSs (P : Program) : List (Nat × TypeId) → St → Option St
  | [], s => some s
  | (t, e) :: r, s => match canonS P s t e (keyS t) with
    | some s' => canonSs P r s'
    | none => none
/-- A row in a variable's cell becomes data. -/
def frzC (P : Program) (s : St) (b j t : Nat) : Option St := match s.M.get b with
  | some (.box bt cs) => (match cs.getD j .und, P.underlying t with
    | .row k off len, some (.slice e) => bif !(Nat.beq b k) && conf P [(k, s.M.get k)] t (.row k off len) then (match frz [(k, s.M.get k)] (.row k off len) with
      | some x => some ⟨s.slots, (s.M.set b (.box bt (cs.set j (.sl e x)))).set k .dead⟩
      | none => none) else none
    | .sl _ _, _ => some s
    | _, _ => none)
  | _ => none
def FZ : Nat := 1000000
def canonCs (P : Program) : List (Nat × Nat × TypeId) → St → Option St
  | [], s => some s
  | (b, j, e) :: r, s => match bif Nat.ble FZ e then frzC P s b j (e - FZ) else canonC P s b j e (keyC b j) with
    | some s' => canonCs P r s'
    | none => none
/-! A variable that nobody changes any more becomes data. -/
mutual
def thawV (k : Nat) (t : TypeId) (c : Nat → T) : AV → AV
  | .ptr k' off => bif Nat.beq k' k then .rp t c off else .ptr k' off
  | .clo f cs => .clo f (thawL k t c cs)
  | .ag cs => .ag (thawL k t c cs)
  | .tup cs => .tup (thawL k t c cs)
  | .b x => .b x
  | .i k n => .i k n
  | .s x => .s x
  | .sl e x => .sl e x
  | .nl => .nl
  | .rp e c off => .rp e c off
  | .row k off len => .row k off len
  | .ep k i off => .ep k i off
  | .und => .und
def thawL (k : Nat) (t : TypeId) (c : Nat → T) : List AV → List AV
  | [] => []
  | v :: vs => thawV k t c v :: thawL k t c vs
end
mutual
def thawRV (k : Nat) (e : TypeId) (g : Nat → Nat → T) : AV → AV
  | .row k' off len => bif Nat.beq k' k then .sl e (.l len fun i j => g (off + i) j) else .row k' off len
  | .clo f cs => .clo f (thawRL k e g cs)
  | .ag cs => .ag (thawRL k e g cs)
  | .tup cs => .tup (thawRL k e g cs)
  | .b x => .b x
  | .i k n => .i k n
  | .s x => .s x
  | .sl e x => .sl e x
  | .nl => .nl
  | .rp e c off => .rp e c off
  | .ptr k off => .ptr k off
  | .ep k i off => .ep k i off
  | .und => .und
def thawRL (k : Nat) (e : TypeId) (g : Nat → Nat → T) : List AV → List AV
  | [] => []
  | v :: vs => thawRV k e g v :: thawRL k e g vs
end
def frzB (P : Program) (s : St) (k : Nat) (t : TypeId) : Option St := match s.M.get k with
  | some (.box t cs) => (match frzs P [] (lv P t) cs with
    | some xs => some ⟨thawL k t (fun j => xs.getD j (.b false)) s.slots, s.M.sets (consumed [k])⟩
    | none => none)
  | some (.row e _ g) => (match P.underlying t with
    | some (.slice e') => bif e == e' then some ⟨thawRL k e g s.slots, s.M.sets (consumed [k])⟩ else none
    | _ => none)
  | _ => some s
def frzBs (P : Program) : List (Nat × TypeId) → St → Option St
  | [], s => some s
  | (k, t) :: r, s => match frzB P s k t with
    | some s' => frzBs P r s'
    | none => none
/-- Where an exit, or a return, tidies up. -/
def exitKey (id : Nat) : Nat := 1000000 + id
def retKey : Nat := 2000000
def kept (lp : LP) : List Nat := lp.boxes ++ lp.rows.map (fun x => keyS x.1) ++ lp.cells.map (fun x => keyC x.1 x.2.1)
def okRefs (s : St) : Bool := (refsL s.slots).all (alive s.M) && s.M.all (fun x => (obRefs x.2).all (alive s.M))
def cutTo (live ks : List Nat) (s : St) : St := ⟨keep 0 live s.slots, Store.only ks s.M⟩
def forget (lp : LP) (s : St) : St := cutTo lp.live (kept lp) s
/-- Whatever is a row still, and the variables that go on. -/
def rowsIn (lp : LP) : Store → List Nat
  | [] => []
  | (k, .row ..) :: r => k :: rowsIn lp r
  | (k, .box ..) :: r => bif lp.boxes.contains k then k :: rowsIn lp r else rowsIn lp r
  | _ :: r => rowsIn lp r
def prune (lp : LP) (s : St) : St := cutTo lp.live (rowsIn lp s.M) s
def norm (P : Program) (lp : LP) (s : St) : Option St := bif okRefs (prune lp s) then (match frzBs P lp.frz (prune lp s) with
  | some s0 => (match canonSs P lp.rows s0 with
    | some s1 => (match canonCs P lp.cells s1 with
      | some s2 => bif okRefs (forget lp s2) then some (forget lp s2) else none
      | none => none)
    | none => none)
  | none => none) else none
def normAt (P : Program) (pl : Nat → Option LP) (r : Option Nat) (s : St) : Option St := match r with
  | some id => (match pl id with
    | some lp => norm P lp s
    | none => some s)
  | none => some s

/-- A state, told by the slots that are filled. -/
def putL : List (Nat × AV) → List AV → List AV
  | [], l => l
  | (i, v) :: r, l => putL r (l.set i v)
def mkS (n : Nat) (l : List (Nat × AV)) (M : Store) : St := ⟨putL l (List.replicate n .und), M⟩
/-- A part of a code. -/
def sub : Code → List Nat → Code
  | c, [] => c
  | .seq a _, 0 :: p => sub a p
  | .seq _ b, _ :: p => sub b p
  | .cond _ a _, 0 :: p => sub a p
  | .cond _ _ b, _ :: p => sub b p
  | .block _ c, _ :: p => sub c p
  | .loop c, _ :: p => sub c p
  | .scope c, _ :: p => sub c p
  | _, _ => .skip

/-! ### Regions -/
def dstTmp (ops : List Oper) (g : Nat) : Option Nat := match ops[g]? with
  | some o => o.dst
  | none => none
def setSlot (s : St) (d : Nat) (v : AV) : St := ⟨s.slots.set d v, s.M⟩
def setDst (s : St) (d : Option Nat) (v : AV) : St := ⟨setS s.slots d v, s.M⟩

/-! What an operation reads of the slots; who must come before whom. -/
def readsOf (ops : List Oper) (o : Oper) : List Nat :=
  (o.op.operands.toList.filterMap fun | .tmp t => some t | _ => none) ++ (match o.guard with
    | some (g, _) => (match dstTmp ops g with
      | some d => [d]
      | none => [])
    | none => [])
/-- What may come up between two operations that are not ordered: nothing that one writes and the other one sees. -/
def apart (ops : List Oper) (a b : Oper) (la lb : Lab) : Bool :=
  (match a.dst with
    | some d => !((readsOf ops b).contains d) && !(b.dst == some d)
    | none => true) &&
  (match b.dst with
    | some d => !((readsOf ops a).contains d)
    | none => true) &&
  (!(la.wr || lb.wr) || la.ks.all fun k => !(lb.ks.contains k))
def pairsOk (ops : List Oper) (B : Array Nat) (ls : List Lab) : Bool :=
  (List.range ops.length).all fun j => (List.range j).all fun i => (B.getD j 0).testBit i || (match ops[i]?, ops[j]?, ls[i]?, ls[j]? with
    | some a, some b, some la, some lb => apart ops a b la lb
    | _, _, _, _ => false)

section cps
variable {ρ : Type} (P : Program) (fr : Fr) (h : H)
/-- One operation, its guard asked first; a slot that was asked is known from then on. -/
def stepG (ops : List Oper) (o : Oper) (s : St) (κ : St → Lab → Option ρ) : Option ρ := match o.guard with
  | none => stepOp P fr h o s κ
  | some (g, want) => match dstTmp ops g with
    | some d => (match s.slots.getD d .und with
      | .b c => (match want with
        | true => bif c then stepOp P fr h o (setSlot s d (.b true)) κ else κ (setDst (setSlot s d (.b false)) o.dst (.tup [])) ⟨[], false⟩
        | false => bif c then κ (setDst (setSlot s d (.b true)) o.dst (.tup [])) ⟨[], false⟩ else stepOp P fr h o (setSlot s d (.b false)) κ)
      | .tup [] => κ (setDst s o.dst (.tup [])) ⟨[], false⟩
      | _ => none)
    | none => none
def runOps (ops : List Oper) : List Oper → St → List Lab → (St → List Lab → Option ρ) → Option ρ
  | [], s, ls, κ => κ s ls.reverse
  | o :: r, s, ls, κ => stepG P fr h ops o s fun s' l => runOps ops r s' (l :: ls) κ
/-- The order is drawn: all orders come to the same. -/
def drawOk (ops : Array Oper) : Bool := (P.follows .mixedOrders || !(Region.departs ops)) && ops.toList.zipIdx.all fun x => x.1.after.all fun e => !(Region.binds .any e) || Nat.blt e.on x.2
def runReg (ops : Array Oper) (draw : Bool) (s : St) (κ : St → Option ρ) : Option ρ :=
  runOps P fr h ops.toList ops.toList s [] fun s' ls => match draw with
    | false => κ s'
    | true => bif drawOk P ops && pairsOk ops.toList (Region.before ops) ls then κ s' else none

/-- What is to be done after a part of a code. -/
inductive Frm where
  | seq (b : Code) | blk (id : Nat) | lp (c : Code)
variable (pl : Nat → Option LP)
def joinAt (r : Option Nat) : Bool := match r with
  | some id => (match pl id with
    | some lp => lp.join
    | none => false)
  | none => false
/-- A code's run up to where ways meet: there J goes on. -/
def go (base : X → St → Option ρ) (J : Code → List Frm → St → Option ρ) : Nat → Option Code → X → List Frm → St → Option ρ
  | 0, _, _, _, _ => none
  | d + 1, some c, _, stk, s => (match c with
    | .skip => go base J d none .normal stk s
    | .region _ ops draw => runReg P fr h ops draw s fun s' => go base J d none .normal stk s'
    | .seq a b => go base J d (some a) .normal (.seq b :: stk) s
    | .cond c x y => (match evO s.slots c with
      | .b t => bif t then go base J d (some x) .normal stk s else go base J d (some y) .normal stk s
      | _ => none)
    | .block id c => go base J d (some c) .normal (.blk id :: stk) s
    | .loop c => (match normAt P pl (firstR c) s with
      | some s' => J (.loop c) stk s'
      | none => none)
    | .exit id => (match normAt P pl (some (exitKey id)) s with
      | some s' => go base J d none (.exit id) stk s'
      | none => none)
    | .ret => (match normAt P pl (some retKey) s with
      | some s' => go base J d none .ret stk s'
      | none => none)
    | _ => none)
  | d + 1, none, e, stk, s => (match stk with
    | [] => base e s
    | .seq b :: stk => (match e with
      | .normal => (match normAt P pl (firstR b) s with
        | some s' => bif joinAt pl (firstR b) then J b stk s' else go base J d (some b) .normal stk s'
        | none => none)
      | .exit id => go base J d none (.exit id) stk s
      | .ret => go base J d none .ret stk s)
    | .blk id :: stk => (match e with
      | .normal => go base J d none .normal stk s
      | .exit id' => bif id' == id then go base J d none .normal stk s else go base J d none (.exit id') stk s
      | .ret => go base J d none .ret stk s)
    | .lp c :: stk => (match e with
      | .normal => (match normAt P pl (firstR c) s with
        | some s' => J (.loop c) stk s'
        | none => none)
      | .exit id => go base J d none (.exit id) stk s
      | .ret => go base J d none .ret stk s))
def deep : Nat := 100000
/-- From one such place on. -/
def blkR (base : X → St → Option ρ) : Nat → Code → List Frm → St → Option ρ
  | 0, _, _, _ => none
  | n + 1, c, stk, s => (match c with
    | .loop c => go P fr h pl base (blkR base n) deep (some c) .normal (.lp c :: stk) s
    | c => go P fr h pl base (blkR base n) deep (some c) .normal stk s)

/-! ### A function's end -/
structure Tk where
  ps : List (Nat × T)
  rw : List (Nat × Option (Nat × Nat))
  fz : List Nat
def Tk.no : Tk := ⟨[], [], []⟩
def Tk.app (a b : Tk) : Tk := ⟨a.ps ++ b.ps, a.rw ++ b.rw, a.fz ++ b.fz⟩
def allOf (M : Store) : List (Nat × Option Ob) := M.map fun x => (x.1, some x.2)
mutual
def TA.take (M : Store) (kk : List (Nat × Nat)) : TA → AV → Option Tk
  | .b n, .b x => some ⟨[(n, .b x)], [], []⟩
  | .i k n, .i k' x => bif k == k' then some ⟨[(n, .i x)], [], []⟩ else none
  | .s n, .s x => some ⟨[(n, .s x)], [], []⟩
  | .sl t e n, v => bif conf P (allOf M) t v && elemT P t == some e then (match frz (allOf M) v with
    | some x => some ⟨[(n, x)], [], rowKeys [v]⟩
    | none => none) else none
  | .row K e n, .row k 0 len => (match M.get k with
    | some (.row e' _ g) => bif e == e' then some ⟨[(n, .l len fun i j => g i j)], [(K, some (k, len))], []⟩ else none
    | _ => none)
  | .row K e n, .nl => bif Nat.blt 0 (lv P e).length then some ⟨[(n, noT)], [(K, none)], []⟩ else none
  | .ptr K off, .ptr k off' => bif off == off' && (match inv? kk K with
    | some k' => k' == k
    | none => false) then some Tk.no else none
  | .rp t off ns, .rp e c off' => bif t == e && off == off' && ns.length == (lv P t).length then some ⟨ns.mapIdx fun j n => (n, c j), [], []⟩ else none
  | .nl, .nl => some Tk.no
  | .und, v => bif isCell v then some Tk.no else none
  | .clo f as, .clo f' cs => bif f == f' then TA.takeL M kk as cs else none
  | .ag as, .ag cs => TA.takeL M kk as cs
  | _, _ => none
def TA.takeL (M : Store) (kk : List (Nat × Nat)) : List TA → List AV → Option Tk
  | [], [] => some Tk.no
  | a :: as, c :: cs => match TA.take M kk a c, TA.takeL M kk as cs with
    | some x, some y => some (x.app y)
    | _, _ => none
  | _, _ => none
end
def takeBs (M : Store) (kk : List (Nat × Nat)) : List TB → Option Tk
  | [] => some Tk.no
  | b :: bs => match M.get b.k with
    | some (.box t cs) => bif t == b.t then (match TA.takeL P M kk b.cs cs, takeBs M kk bs with
      | some x, some y => some (x.app y)
      | _, _ => none) else none
    | _ => none
def takeRs (M : Store) : List (Nat × TypeId × Nat) → Option Tk
  | [] => some Tk.no
  | (K, e, n) :: rs => match M.get K, takeRs M rs with
    | some (.row e' m g), some y => bif e == e' then some (Tk.app ⟨[(n, .l m fun i j => g i j)], [], []⟩ y) else none
    | _, _ => none
def lookR : List (Nat × T) → R
  | [], _ => .b false
  | (q, x) :: r, n => bif q == n then x else lookR r n
def Tk.own (tk : Tk) : List Nat := tk.rw.filterMap fun x => x.2.map (·.1)
/-- May the template be filled with what was taken? -/
def tplOk (tp : Tpl) (tk : Tk) : Bool :=
  nodup (tk.ps.map (·.1)) && nodup tp.keys && nodup (tk.rw.map (·.1)) && nodup (tk.own ++ tp.rs.map (·.1)) && nodup (tp.bs.map TB.k) &&
  tk.fz.all (fun k => !((tk.own ++ tp.rs.map (·.1)).contains k)) && tk.rw.all (fun x => Nat.blt x.1 HB) && tp.bs.all (fun b => Nat.blt b.K HB || b.K == b.k) && tp.rs.all (fun x => Nat.ble HB x.1)
def resVal (s : St) : ResultVar → Option AV
  | .tmp t => some (s.slots.getD t .und)
  | .cell a t => match s.slots.getD a .und with
    | .ptr k off => (match s.M.get k with
      | some (.box _ cs) => bif tyOk P t && Nat.ble (off + sizeT P t) cs.length then (bif isAg P t then some (.ag ((cs.drop off).take (sizeT P t))) else cs[off]?) else none
      | _ => none)
    | _ => none
def resVals (s : St) : List ResultVar → Option (List AV)
  | [] => some []
  | r :: rs => match resVal P s r, resVals s rs with
    | some v, some vs => some (v :: vs)
    | _, _ => none
def finish (tp : Tpl) (fn : Func) (s : St) : Option R := match resVals P s fn.results.toList with
  | some vs => (match TA.takeL P s.M (tp.bs.map fun b => (b.k, b.K)) tp.vs vs, takeBs P s.M (tp.bs.map fun b => (b.k, b.K)) tp.bs, takeRs s.M tp.rs with
    | some x, some y, some z => bif tplOk tp (x.app (y.app z)) then some (lookR (x.app (y.app z)).ps) else none
    | _, _, _ => none)
  | none => none
def start (fn : Func) (args : List AV) (M : Store) : St := ⟨args ++ List.replicate (fn.ntmps - args.length) .und, M⟩
def kEnd (tp : Tpl) (fn : Func) : X → St → Option R := fun e s => match e with
  | .normal => finish P tp fn s
  | .ret => finish P tp fn s
  | .exit _ => none
def runF (n : Nat) (tp : Tpl) (fn : Func) (args : List AV) (M : Store) : Option R := match fn.body with
  | some c => go P fr h pl (kEnd P tp fn) (blkR P fr h pl (kEnd P tp fn) n) deep (some c) .normal [] (start fn args M)
  | none => none
end cps

/-- The functions, by rounds; some may be told from outside. -/
def call (P : Program) (pl : Plan) (fr : Fr) (ext : FuncId → Option (List AV → Store → Option R)) : Nat → H
  | 0, _, _, _ => none
  | n + 1, f, args, M => match ext f with
    | some F => F args M
    | none => match P.funcs[f]? with
      | some fn => bif decide (args.length ≤ fn.ntmps) then runF P fr (call P pl fr ext n) (pl f) n (fr.tpl f) fn args M else none
      | none => none
end Go.AM
