/- The engine, part 2: what abstract values say of the machine's, and what keeps it true. -/
import Derived.Test.YtnlkhjileipmcaaGreatEng1
import Derived.Below
import Derived.Maps.AppendAt
namespace Go.AM
open Go.RowKit (Below)

/-- Data, read in a world; the blocks O are somebody's own. -/
inductive RT (P : Program) (w : World) (O : Nat → Prop) : TypeId → T → Value → Prop
  | int {t : TypeId} {k : IntKind} {x : T} (h : P.underlying t = some (.int k)) : RT P w O t x (.int k x.int)
  | bool {t : TypeId} {x : T} (h : P.underlying t = some .bool) : RT P w O t x (.bool x.bool)
  | str {t : TypeId} {x : T} (h : P.underlying t = some .string) : RT P w O t x (.string x.str)
  | sl {t e : TypeId} {x : T} {A : Option Addr} {c : Nat} (h : P.underlying t = some (.slice e)) (hc : x.len ≤ c) (b off : Nat) (vs : Nat → Nat → Value)
      (ha : 0 < x.len → A = some ⟨b, off, none⟩ ∧ b < w.heap.size ∧ ¬ O b)
      (hv : ∀ i j τ, i < x.len → (lv P e)[j]? = some τ → w.cell? ⟨b, off + i * (lv P e).length + j, none⟩ = some (vs i j))
      (hr : ∀ i j τ, i < x.len → (lv P e)[j]? = some τ → RT P w O τ (x.el i j) (vs i j)) : RT P w O t x (.slice A x.len c)

/-- What was nobody's own stays as it was, and nobody's own. -/
structure Keeps (w : World) (O : Nat → Prop) (w' : World) (O' : Nat → Prop) : Prop where
  size : w.heap.size ≤ w'.heap.size
  blk : ∀ b, b < w.heap.size → ¬ O b → w'.heap[b]? = w.heap[b]? ∧ ¬ O' b

theorem Keeps.refl (w : World) (O : Nat → Prop) : Keeps w O w O := ⟨Nat.le_refl _, fun _ _ h => ⟨rfl, h⟩⟩
theorem Keeps.trans {w w' w'' : World} {O O' O'' : Nat → Prop} (h : Keeps w O w' O') (k : Keeps w' O' w'' O'') : Keeps w O w'' O'' :=
  ⟨Nat.le_trans h.size k.size, fun b hb ho => by
    obtain ⟨h1, h2⟩ := h.blk b hb ho
    obtain ⟨k1, k2⟩ := k.blk b (Nat.lt_of_lt_of_le hb h.size) h2
    exact ⟨k1.trans h1, k2⟩⟩

theorem cell_same {w w' : World} {b off : Nat} (h : w'.heap[b]? = w.heap[b]?) : w'.cell? ⟨b, off, none⟩ = w.cell? ⟨b, off, none⟩ := World.cell?_of_block (w := w) (a := ⟨b, off, none⟩) h

section
variable {P : Program} {w w' : World} {O O' : Nat → Prop}
theorem RT.keep (h : Keeps w O w' O') {t : TypeId} {x : T} {v : Value} (r : RT P w O t x v) : RT P w' O' t x v := by
  induction r with
  | int h => exact .int h
  | bool h => exact .bool h
  | str h => exact .str h
  | @sl t e x A c hu hc b off vs ha hv hr ih =>
    refine .sl hu hc b off vs (fun h0 => ?_) (fun i j τ hi hj => ?_) (fun i j τ hi hj => ih i j τ hi hj)
    · obtain ⟨h1, h2, h3⟩ := ha h0
      exact ⟨h1, Nat.lt_of_lt_of_le h2 h.size, (h.blk b h2 h3).2⟩
    · obtain ⟨h1, h2, h3⟩ := ha (by omega)
      rw [cell_same (h.blk b h2 h3).1]
      exact hv i j τ hi hj
theorem RT.one {t : TypeId} {x : T} {v : Value} (r : RT P w O t x v) : v.oneCell' = true := by
  cases r <;> rfl
/-- Data are read through what is asked of them. -/
theorem RT.like {t : TypeId} {x y : T} {v : Value} (r : RT P w O t x v) (h1 : ∀ k, P.underlying t = some (.int k) → y.int = x.int) (h2 : P.underlying t = some .bool → y.bool = x.bool) (h3 : P.underlying t = some .string → y.str = x.str)
    (h4 : ∀ e, P.underlying t = some (.slice e) → y.len = x.len ∧ ∀ i j, i < x.len → y.el i j = x.el i j) : RT P w O t y v := by
  cases r with
  | int h => rw [← h1 _ h]; exact .int h
  | bool h => rw [← h2 h]; exact .bool h
  | str h => rw [← h3 h]; exact .str h
  | @sl t e x A c hu hc b off vs ha hv hr =>
    obtain ⟨hl, he⟩ := h4 _ hu
    rw [← hl]
    exact .sl hu (by omega) b off vs (fun h0 => ha (by omega)) (fun i j τ hi hj => hv i j τ (by omega) hj) (fun i j τ hi hj => by rw [he i j (by omega)]; exact hr i j τ (by omega) hj)
end

/-- Where the call's own variables lie; and the blocks that are somebody else's own. -/
structure Bn where
  f : Nat → Nat
  O : Nat → Prop
instance : CoeFun Bn fun _ => Nat → Nat := ⟨Bn.f⟩
/-- Which block an own thing lies in. -/
def Owns (M : Store) (β : Bn) (hd : Nat → Value) (k b : Nat) : Prop :=
  (∃ t cs, M.get k = some (.box t cs) ∧ β k = b) ∨ (∃ e n g, M.get k = some (.row e n g) ∧ (hd k).ownBlock = some b)
def Own (M : Store) (β : Bn) (hd : Nat → Value) (b : Nat) : Prop := (∃ k, Owns M β hd k b) ∨ β.O b

/-- A row's header, or a part of it. -/
def RowV (P : Program) (e : TypeId) (h : Value) (n off len : Nat) (v : Value) : Prop :=
  (h = .slice none 0 0 ∧ v = .slice none 0 0 ∧ off = 0 ∧ len = 0) ∨
  (∃ g cap a, h = .slice (some ⟨g, 0, none⟩) n cap ∧ n ≤ cap ∧ off + len ≤ n ∧ v = .slice (some a) len (cap - off) ∧ (off < cap ∨ off = 0 → a = ⟨g, off * (lv P e).length, none⟩))

section
variable (P : Program) (w : World) (M : Store) (β : Bn) (hd : Nat → Value)
/-- What may lie in one cell. -/
inductive RC : AV → Value → Prop
  | b (x : Bool) : RC (.b x) (.bool x)
  | i (k : IntKind) (n : Int) : RC (.i k n) (.int k n)
  | s (x : ByteArray) : RC (.s x) (.string x)
  | sl {t e : TypeId} {x : T} {v : Value} (h : P.underlying t = some (.slice e)) (r : RT P w (Own M β hd) t x v) : RC (.sl e x) v
  | nl : RC .nl (.slice none 0 0)
  | rp {e : TypeId} {c : Nat → T} (off b o : Nat) (vs : Nat → Value) (hb : b < w.heap.size) (ho : ¬ Own M β hd b)
      (hv : ∀ j τ, (lv P e)[j]? = some τ → w.cell? ⟨b, o + j, none⟩ = some (vs j)) (hr : ∀ j τ, (lv P e)[j]? = some τ → RT P w (Own M β hd) τ (c j) (vs j)) : RC (.rp e c off) (.pointer (some ⟨b, o + off, none⟩))
  | ptr {k off : Nat} {v : Value} (h0 : M.get k ≠ none) (h1 : v.oneCell' = true) (h : ∀ t cs, M.get k = some (.box t cs) → v = .pointer (some ⟨β k, off, none⟩)) : RC (.ptr k off) v
  | row {k off len : Nat} {v : Value} (h0 : M.get k ≠ none) (h1 : v.oneCell' = true) (h : ∀ e n g, M.get k = some (.row e n g) → RowV P e (hd k) n off len v) : RC (.row k off len) v
  | ep {k i off : Nat} {v : Value} (h0 : M.get k ≠ none) (h1 : v.oneCell' = true) (h : ∀ e n g, M.get k = some (.row e n g) → ∃ b, (hd k).ownBlock = some b ∧ v = .pointer (some ⟨b, i * (lv P e).length + off, none⟩)) : RC (.ep k i off) v
  | clo {f : FuncId} {caps : List AV} {vs : Array Value} (hl : caps.length = vs.size) (h : ∀ j x, caps[j]? = some x → RC x (vs.getD j undef)) : RC (.clo f caps) (.func (.func f) #[] vs)
  | und {v : Value} (h1 : v.oneCell' = true) : RC .und v
/-- What a slot may hold. -/
inductive RA : AV → Value → Prop
  | c {x : AV} {v : Value} (h : RC P w M β hd x v) : RA x v
  | ag {cs : List AV} {vs : Array Value} (hl : cs.length = vs.size) (h : ∀ j x, cs[j]? = some x → RC P w M β hd x (vs.getD j undef)) : RA (.ag cs) (.agg vs)
  | tup {cs : List AV} {vs : Array Value} (hl : cs.length = vs.size) (h : ∀ j x, cs[j]? = some x → RA x (vs.getD j undef)) : RA (.tup cs) (.tuple vs)
  | und (v : Value) : RA .und v
end

/-- The names go on meaning what they meant. -/
structure Ext (M : Store) (β : Bn) (hd : Nat → Value) (M' : Store) (β' : Bn) (hd' : Nat → Value) : Prop where
  pres : ∀ k, M.get k ≠ none → M'.get k ≠ none
  box : ∀ k t cs, M'.get k = some (.box t cs) → M.get k ≠ none → (∃ t cs, M.get k = some (.box t cs)) ∧ β' k = β k
  row : ∀ k e n g, M'.get k = some (.row e n g) → M.get k ≠ none → (∃ g0, M.get k = some (.row e n g0)) ∧ hd' k = hd k
  far : β'.O = β.O

theorem Ext.refl (M : Store) (β : Bn) (hd : Nat → Value) : Ext M β hd M β hd :=
  ⟨fun _ h => h, fun _ t cs h _ => ⟨⟨t, cs, h⟩, rfl⟩, fun _ _ _ g h _ => ⟨⟨g, h⟩, rfl⟩, rfl⟩
theorem Ext.trans {M M' M'' : Store} {β β' β'' : Bn} {hd hd' hd'' : Nat → Value} (h : Ext M β hd M' β' hd') (k : Ext M' β' hd' M'' β'' hd'') : Ext M β hd M'' β'' hd'' := by
  refine ⟨fun q hq => k.pres q (h.pres q hq), fun q t cs hq h0 => ?_, fun q e n g hq h0 => ?_, k.far.trans h.far⟩
  · obtain ⟨⟨t1, c1, h1⟩, h2⟩ := k.box q t cs hq (h.pres q h0)
    obtain ⟨h3, h4⟩ := h.box q t1 c1 h1 h0
    exact ⟨h3, h2.trans h4⟩
  · obtain ⟨⟨g1, h1⟩, h2⟩ := k.row q e n g hq (h.pres q h0)
    obtain ⟨h3, h4⟩ := h.row q e n g1 h1 h0
    exact ⟨h3, h2.trans h4⟩

section
variable {P : Program} {w w' : World} {M M' : Store} {β β' : Bn} {hd hd' : Nat → Value}
theorem RC.one {x : AV} {v : Value} (r : RC P w M β hd x v) : v.oneCell' = true := by
  cases r with
  | sl h r => exact r.one
  | ptr _ h1 _ => exact h1
  | row _ h1 _ => exact h1
  | ep _ h1 _ => exact h1
  | und h1 => exact h1
  | _ => rfl
theorem RC.keep (hk : Keeps w (Own M β hd) w' (Own M' β' hd')) (he : Ext M β hd M' β' hd') {x : AV} {v : Value} (r : RC P w M β hd x v) : RC P w' M' β' hd' x v := by
  induction r with
  | b x => exact .b x
  | i k n => exact .i k n
  | s x => exact .s x
  | sl h r => exact .sl h (r.keep hk)
  | nl => exact .nl
  | @rp e c off b o vs hb ho hv hr => exact .rp off b o vs (Nat.lt_of_lt_of_le hb hk.size) (hk.blk b hb ho).2 (fun j τ hj => by rw [cell_same (hk.blk b hb ho).1]; exact hv j τ hj) (fun j τ hj => (hr j τ hj).keep hk)
  | ptr h0 h1 h =>
      refine .ptr (he.pres _ h0) h1 fun t cs hq => ?_
      obtain ⟨⟨t1, c1, h2⟩, h3⟩ := he.box _ t cs hq h0
      rw [h3]
      exact h t1 c1 h2
  | row h0 h1 h =>
      refine .row (he.pres _ h0) h1 fun e n g hq => ?_
      obtain ⟨⟨g1, h2⟩, h3⟩ := he.row _ e n g hq h0
      rw [h3]
      exact h e n g1 h2
  | ep h0 h1 h =>
      refine .ep (he.pres _ h0) h1 fun e n g hq => ?_
      obtain ⟨⟨g1, h2⟩, h3⟩ := he.row _ e n g hq h0
      rw [h3]
      exact h e n g1 h2
  | clo hl h ih => exact .clo hl fun j x hj => ih j x hj
  | und h1 => exact .und h1
theorem RA.keep (hk : Keeps w (Own M β hd) w' (Own M' β' hd')) (he : Ext M β hd M' β' hd') {x : AV} {v : Value} (r : RA P w M β hd x v) : RA P w' M' β' hd' x v := by
  induction r with
  | c h => exact .c (h.keep hk he)
  | ag hl h => exact .ag hl fun j x hj => (h j x hj).keep hk he
  | tup hl h ih => exact .tup hl fun j x hj => ih j x hj
  | und v => exact .und v
end

/-- A call's frame: the world that it began in, and what was lent to it. -/
structure Fr0 where
  w : World
  M : Store
  β : Bn
  hd : Nat → Value
def Fr0.lent (F : Fr0) (b : Nat) : Prop := ∃ k, Owns F.M F.β F.hd k b
/-- May the call write there? -/
def Fr0.mine (F : Fr0) (b : Nat) : Prop := F.w.heap.size ≤ b ∨ F.lent b
/-- One step: what the call may not write is as it was. -/
structure UStep (F : Fr0) (w w' : World) : Prop where
  os : w'.os = w.os
  tape : w'.tape = w.tape
  output : w'.output = w.output
  size : w.heap.size ≤ w'.heap.size
  block : ∀ b, ¬ F.mine b → w'.heap[b]? = w.heap[b]?
def Under (F : Fr0) (w : World) : Prop := UStep F F.w w
theorem Under.size {F : Fr0} {w : World} (h : Under F w) : F.w.heap.size ≤ w.heap.size := UStep.size h
theorem Under.trans {F : Fr0} {w w' : World} (h : Under F w) (k : UStep F w w') : Under F w' :=
  ⟨k.os.trans h.os, k.tape.trans h.tape, k.output.trans h.output, Nat.le_trans (UStep.size h) k.size, fun b hb => (k.block b hb).trans (h.block b hb)⟩
theorem Under.refl {F : Fr0} : Under F F.w := ⟨rfl, rfl, rfl, Nat.le_refl _, fun _ _ => rfl⟩
theorem Under.alloc {F : Fr0} {w : World} (h : Under F w) (o : Obj) : Under F (w.alloc o) :=
  h.trans ⟨rfl, rfl, rfl, by simp, fun b hb => by
    have h1 : b < w.heap.size := by
      have := h.size
      have h2 : ¬ F.w.heap.size ≤ b := fun e => hb (.inl e)
      omega
    exact Go.RowKit.Below.heap_alloc w o b h1⟩

/-- The state of a call. -/
structure Sim (P : Program) (w0 : Fr0) (w : World) (M : Store) (β : Bn) (hd : Nat → Value) : Prop where
  below : Under w0 w
  ge : ∀ k b, Owns M β hd k b → w0.mine b ∧ b < w.heap.size
  inj : ∀ k k' b, Owns M β hd k b → Owns M β hd k' b → k = k'
  far : ∀ b, β.O b → ¬ w0.mine b
  box : ∀ k t cs, M.get k = some (.box t cs) → ∃ c el, w.heap[β k]? = some (.cells c el (0, 0)) ∧ c.size = cs.length ∧ ∀ j x, cs[j]? = some x → RC P w M β hd x (c.getD j undef)
  row : ∀ k e n g, M.get k = some (.row e n g) → 0 < (lv P e).length ∧ ∃ xs, w.ownsRow 0 e (lv P e).length (hd k) n xs ∧ ∀ i j τ, i < n → (lv P e)[j]? = some τ → ∃ v, xs[i * (lv P e).length + j]? = some v ∧ RT P w (Own M β hd) τ (g i j) v
theorem Sim.far_lt {P : Program} {w0 : Fr0} {w : World} {M : Store} {β : Bn} {hd : Nat → Value} (h : Sim P w0 w M β hd) {b : Nat} (hb : β.O b) : b < w.heap.size := by
  have h1 := h.far b hb
  have h2 := h.below.size
  have h3 : ¬ w0.w.heap.size ≤ b := fun e => h1 (.inl e)
  omega
/-- The slots. -/
structure Slots (P : Program) (w : World) (M : Store) (β : Bn) (hd : Nat → Value) (sl : List AV) (a : Act) : Prop where
  len : sl.length = a.tmps.size
  val : ∀ t x, sl[t]? = some x → RA P w M β hd x (a.tmps.getD t undef)
  defers : a.defers = []
end Go.AM
