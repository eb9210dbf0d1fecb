/- The engine, part 2: what abstract values say of the machine's, and what keeps it true. -/
import Derived.Test.YtljfhfgbpcaadaaDoorEng0
import Derived.Below
import Derived.Maps.AppendAt
import Derived.Lib.LaidTab
import Derived.Lib.ItoaNum
import Derived.Laws.CopyRow
import Derived.Laws.Cells
import Derived.Laws.Entries
import Derived.ChangeKeysEq
namespace Go.AM
open Go.RowKit (Below)
inductive RT (P : Program) (w : World) (O : Nat → Prop) : TypeId → T → Value → Prop
  | int {t : TypeId} {k : IntKind} {x : T} (h : P.underlying t = some (.int k)) : RT P w O t x (.int k x.int)
  | bool {t : TypeId} {x : T} (h : P.underlying t = some .bool) : RT P w O t x (.bool x.bool)
  | str {t : TypeId} {x : T} (h : P.underlying t = some .string) : RT P w O t x (.string x.str)
  | sl {t e : TypeId} {x : T} {A : Option Addr} {c : Nat} (h : P.underlying t = some (.slice e)) (hc : x.len ≤ c) (b off : Nat) (vs : Nat → Nat → Value)
      (ha : 0 < x.len → A = some ⟨b, off, none⟩ ∧ b < w.heap.size ∧ ¬ O b)
      (hv : ∀ i j τ, i < x.len → (lv P e)[j]? = some τ → w.cell? ⟨b, off + i * (lv P e).length + j, none⟩ = some (vs i j))
      (hr : ∀ i j τ, i < x.len → (lv P e)[j]? = some τ → RT P w O τ (x.el i j) (vs i j)) : RT P w O t x (.slice A x.len c)
structure Keeps (w : World) (O : Nat → Prop) (w' : World) (O' : Nat → Prop) : Prop where
  size : w.heap.size ≤ w'.heap.size
  blk : ∀ b, b < w.heap.size → ¬ O b → w'.heap[b]? = w.heap[b]? ∧ ¬ O' b
theorem Keeps.refl (w : World) (O : Nat → Prop) : Keeps w O w O := ⟨Nat.le_refl _, fun _ _ h => ⟨rfl, h⟩⟩
theorem Keeps.trans {w w' w'' : World} {O O' O'' : Nat → Prop} (h : Keeps w O w' O') (k : Keeps w' O' w'' O'') : Keeps w O w'' O'' :=
  ⟨Nat.le_trans h.size k.size, fun b hb ho => by
    obtain ⟨h1, h2⟩ := h.blk b hb ho
    obtain ⟨k1, k2⟩ := k.blk b (Nat.lt_of_lt_of_le hb h.size) h2
    exact ⟨k1.trans h1, k2⟩⟩
theorem cell_same {w w' : World} {b off : Nat} (h : w'.heap[b]? = w.heap[b]?) : w'.cell? ⟨b, off, none⟩ = w.cell? ⟨b, off, none⟩ := World.cell?_of_block (w := w) (a := ⟨b, off, none⟩) h
section
variable {P : Program} {w w' : World} {O O' : Nat → Prop}
theorem RT.keep (h : Keeps w O w' O') {t : TypeId} {x : T} {v : Value} (r : RT P w O t x v) : RT P w' O' t x v := by
  induction r with
  | int h => exact .int h
  | bool h => exact .bool h
  | str h => exact .str h
  | @sl t e x A c hu hc b off vs ha hv hr ih =>
    refine .sl hu hc b off vs (fun h0 => ?_) (fun i j τ hi hj => ?_) (fun i j τ hi hj => ih i j τ hi hj)
    · obtain ⟨h1, h2, h3⟩ := ha h0
      exact ⟨h1, Nat.lt_of_lt_of_le h2 h.size, (h.blk b h2 h3).2⟩
    · obtain ⟨h1, h2, h3⟩ := ha (by omega)
      rw [cell_same (h.blk b h2 h3).1]
      exact hv i j τ hi hj
theorem RT.one {t : TypeId} {x : T} {v : Value} (r : RT P w O t x v) : v.oneCell' = true := by
  cases r <;> rfl
theorem RT.like {t : TypeId} {x y : T} {v : Value} (r : RT P w O t x v) (h1 : ∀ k, P.underlying t = some (.int k) → y.int = x.int) (h2 : P.underlying t = some .bool → y.bool = x.bool) (h3 : P.underlying t = some .string → y.str = x.str)
    (h4 : ∀ e, P.underlying t = some (.slice e) → y.len = x.len ∧ ∀ i j, i < x.len → y.el i j = x.el i j) : RT P w O t y v := by
  cases r with
  | int h => rw [← h1 _ h]; exact .int h
  | bool h => rw [← h2 h]; exact .bool h
  | str h => rw [← h3 h]; exact .str h
  | @sl t e x A c hu hc b off vs ha hv hr =>
    obtain ⟨hl, he⟩ := h4 _ hu
    rw [← hl]
    exact .sl hu (by omega) b off vs (fun h0 => ha (by omega)) (fun i j τ hi hj => hv i j τ (by omega) hj) (fun i j τ hi hj => by rw [he i j (by omega)]; exact hr i j τ (by omega) hj)
end
structure Bn where
  f : Nat → Nat
  O : Nat → Prop
instance : CoeFun Bn fun _ => Nat → Nat := ⟨Bn.f⟩
def Owns (M : Store) (β : Bn) (hd : Nat → Value) (k b : Nat) : Prop :=
  (∃ t cs, M.get k = some (.box t cs) ∧ β k = b) ∨ (∃ e n g, M.get k = some (.row e n g) ∧ (hd k).ownBlock = some b)
def Own (M : Store) (β : Bn) (hd : Nat → Value) (b : Nat) : Prop := (∃ k, Owns M β hd k b) ∨ β.O b
def RowV (P : Program) (e : TypeId) (h : Value) (n off len : Nat) (v : Value) : Prop :=
  (h = .slice none 0 0 ∧ (∃ A, v = .slice A 0 0) ∧ off = 0 ∧ len = 0) ∨
  (∃ g cap a, h = .slice (some ⟨g, 0, none⟩) n cap ∧ n ≤ cap ∧ off + len ≤ n ∧ v = .slice (some a) len (cap - off) ∧ (off < cap ∨ off = 0 → a = ⟨g, off * (lv P e).length, none⟩))
def ptrV (t : TypeId) (b off : Nat) : Value := bif isMapT t then .map (some b) else .pointer (some ⟨b, off, none⟩)
theorem ptrV_box {t : TypeId} (h : isMapT t = false) (b off : Nat) : ptrV t b off = .pointer (some ⟨b, off, none⟩) := by simp [ptrV, h]
theorem ptrV_map {t : TypeId} (h : isMapT t = true) (b off : Nat) : ptrV t b off = .map (some b) := by simp [ptrV, h]
theorem ptrV_one (t : TypeId) (b off : Nat) : (ptrV t b off).oneCell' = true := by
  cases h : isMapT t
  · rw [ptrV_box h]; rfl
  · rw [ptrV_map h]; rfl
def RV (P : Program) (w : World) (O : Nat → Prop) (t : TypeId) (g : Nat → T) (v : Value) : Prop :=
  (isAg P t = true ∧ ∃ vs, v = .agg vs ∧ vs.size = (lv P t).length ∧ ∀ j τ, (lv P t)[j]? = some τ → RT P w O τ (g j) (vs.getD j undef)) ∨
  (isAg P t = false ∧ RT P w O t (g 0) v)
theorem RV.keep {P : Program} {w w' : World} {O O' : Nat → Prop} (h : Keeps w O w' O') {t : TypeId} {g : Nat → T} {v : Value} (r : RV P w O t g v) : RV P w' O' t g v := by
  rcases r with ⟨h0, vs, h1, h2, h3⟩ | ⟨h0, h1⟩
  · exact .inl ⟨h0, vs, h1, h2, fun j τ hj => (h3 j τ hj).keep h⟩
  · exact .inr ⟨h0, h1.keep h⟩
def MapIs (P : Program) (w : World) (O : Nat → Prop) (b : Nat) (t : TypeId) (cs : List AV) : Prop :=
  ∃ t0 kt vt x es, t = MB + t0 ∧ P.underlying t0 = some (.map kt vt) ∧ keyOk P kt = true ∧ valOk P vt = true ∧ cs = [.sl t x] ∧ w.heap[b]? = some (.map es x.len) ∧ es.size = x.len ∧
    ∀ i e, es[i]? = some e → e.born = i ∧ RV P w O kt (x.el i) e.key ∧ RV P w O vt (fun j => x.el i ((lv P kt).length + j)) e.val
theorem MapIs.keep {P : Program} {w w' : World} {O O' : Nat → Prop} (h : Keeps w O w' O') {b b' : Nat} {t : TypeId} {cs : List AV} (hb : w'.heap[b']? = w.heap[b]?) (r : MapIs P w O b t cs) : MapIs P w' O' b' t cs := by
  obtain ⟨t0, kt, vt, x, es, h0, h1, h2, h3, h4, h5, h6, h7⟩ := r
  exact ⟨t0, kt, vt, x, es, h0, h1, h2, h3, h4, by rw [hb]; exact h5, h6, fun i e he => ⟨(h7 i e he).1, (h7 i e he).2.1.keep h, (h7 i e he).2.2.keep h⟩⟩
section
variable (P : Program) (w : World) (M : Store) (β : Bn) (hd : Nat → Value)
inductive RC : AV → Value → Prop
  | b (x : Bool) : RC (.b x) (.bool x)
  | i (k : IntKind) (n : Int) : RC (.i k n) (.int k n)
  | s (x : ByteArray) : RC (.s x) (.string x)
  | sl {t e : TypeId} {x : T} {v : Value} (h : P.underlying t = some (.slice e)) (r : RT P w (Own M β hd) t x v) : RC (.sl e x) v
  | nl {A : Option Addr} : RC .nl (.slice A 0 0)
  | rp {e : TypeId} {c : Nat → T} (off b o : Nat) (vs : Nat → Value) (hb : b < w.heap.size) (ho : ¬ Own M β hd b)
      (hv : ∀ j τ, (lv P e)[j]? = some τ → w.cell? ⟨b, o + j, none⟩ = some (vs j)) (hr : ∀ j τ, (lv P e)[j]? = some τ → RT P w (Own M β hd) τ (c j) (vs j)) : RC (.rp e c off) (.pointer (some ⟨b, o + off, none⟩))
  | ptr {k off : Nat} {v : Value} (h0 : M.get k ≠ none) (h1 : v.oneCell' = true) (h : ∀ t cs, M.get k = some (.box t cs) → v = ptrV t (β k) off) : RC (.ptr k off) v
  | row {k off len : Nat} {v : Value} (h0 : M.get k ≠ none) (h1 : v.oneCell' = true) (h : ∀ e n g, M.get k = some (.row e n g) → RowV P e (hd k) n off len v) : RC (.row k off len) v
  | ep {k i off : Nat} {v : Value} (h0 : M.get k ≠ none) (h1 : v.oneCell' = true) (h : ∀ e n g, M.get k = some (.row e n g) → ∃ b, (hd k).ownBlock = some b ∧ v = .pointer (some ⟨b, i * (lv P e).length + off, none⟩)) : RC (.ep k i off) v
  | clo {f : FuncId} {caps : List AV} {vs : Array Value} (hf : Nat.ble NPF f = false) (hl : caps.length = vs.size) (h : ∀ j x, caps[j]? = some x → RC x (vs.getD j undef)) : RC (.clo f caps) (.func (.func f) #[] vs)
  | und {v : Value} (h1 : v.oneCell' = true) : RC .und v
  | np : RC (.clo NPF []) (.pointer none)
  | ni : RC (.clo NIF []) .nilIface
inductive RA : AV → Value → Prop
  | c {x : AV} {v : Value} (h : RC P w M β hd x v) : RA x v
  | ag {cs : List AV} {vs : Array Value} (hl : cs.length = vs.size) (h : ∀ j x, cs[j]? = some x → RC P w M β hd x (vs.getD j undef)) : RA (.ag cs) (.agg vs)
  | tup {cs : List AV} {vs : Array Value} (hl : cs.length = vs.size) (h : ∀ j x, cs[j]? = some x → RA x (vs.getD j undef)) : RA (.tup cs) (.tuple vs)
  | und (v : Value) : RA .und v
end
structure Ext (M : Store) (β : Bn) (hd : Nat → Value) (M' : Store) (β' : Bn) (hd' : Nat → Value) : Prop where
  pres : ∀ k, M.get k ≠ none → M'.get k ≠ none
  box : ∀ k t cs, M'.get k = some (.box t cs) → M.get k ≠ none → (∃ cs, M.get k = some (.box t cs)) ∧ β' k = β k
  row : ∀ k e n g, M'.get k = some (.row e n g) → M.get k ≠ none → (∃ g0, M.get k = some (.row e n g0)) ∧ hd' k = hd k
  far : β'.O = β.O
theorem Ext.refl (M : Store) (β : Bn) (hd : Nat → Value) : Ext M β hd M β hd :=
  ⟨fun _ h => h, fun _ _ cs h _ => ⟨⟨cs, h⟩, rfl⟩, fun _ _ _ g h _ => ⟨⟨g, h⟩, rfl⟩, rfl⟩
theorem Ext.trans {M M' M'' : Store} {β β' β'' : Bn} {hd hd' hd'' : Nat → Value} (h : Ext M β hd M' β' hd') (k : Ext M' β' hd' M'' β'' hd'') : Ext M β hd M'' β'' hd'' := by
  refine ⟨fun q hq => k.pres q (h.pres q hq), fun q t cs hq h0 => ?_, fun q e n g hq h0 => ?_, k.far.trans h.far⟩
  · obtain ⟨⟨c1, h1⟩, h2⟩ := k.box q t cs hq (h.pres q h0)
    obtain ⟨h3, h4⟩ := h.box q t c1 h1 h0
    exact ⟨h3, h2.trans h4⟩
  · obtain ⟨⟨g1, h1⟩, h2⟩ := k.row q e n g hq (h.pres q h0)
    obtain ⟨h3, h4⟩ := h.row q e n g1 h1 h0
    exact ⟨h3, h2.trans h4⟩
section
variable {P : Program} {w w' : World} {M M' : Store} {β β' : Bn} {hd hd' : Nat → Value}
theorem RC.one {x : AV} {v : Value} (r : RC P w M β hd x v) : v.oneCell' = true := by
  cases r with
  | sl h r => exact r.one
  | ptr _ h1 _ => exact h1
  | row _ h1 _ => exact h1
  | ep _ h1 _ => exact h1
  | und h1 => exact h1
  | _ => rfl
theorem RC.keep (hk : Keeps w (Own M β hd) w' (Own M' β' hd')) (he : Ext M β hd M' β' hd') {x : AV} {v : Value} (r : RC P w M β hd x v) : RC P w' M' β' hd' x v := by
  induction r with
  | b x => exact .b x
  | i k n => exact .i k n
  | s x => exact .s x
  | sl h r => exact .sl h (r.keep hk)
  | nl => exact .nl
  | @rp e c off b o vs hb ho hv hr => exact .rp off b o vs (Nat.lt_of_lt_of_le hb hk.size) (hk.blk b hb ho).2 (fun j τ hj => by rw [cell_same (hk.blk b hb ho).1]; exact hv j τ hj) (fun j τ hj => (hr j τ hj).keep hk)
  | ptr h0 h1 h =>
      refine .ptr (he.pres _ h0) h1 fun t cs hq => ?_
      obtain ⟨⟨c1, h2⟩, h3⟩ := he.box _ t cs hq h0
      rw [h3]
      exact h t c1 h2
  | row h0 h1 h =>
      refine .row (he.pres _ h0) h1 fun e n g hq => ?_
      obtain ⟨⟨g1, h2⟩, h3⟩ := he.row _ e n g hq h0
      rw [h3]
      exact h e n g1 h2
  | ep h0 h1 h =>
      refine .ep (he.pres _ h0) h1 fun e n g hq => ?_
      obtain ⟨⟨g1, h2⟩, h3⟩ := he.row _ e n g hq h0
      rw [h3]
      exact h e n g1 h2
  | clo hf hl h ih => exact .clo hf hl fun j x hj => ih j x hj
  | und h1 => exact .und h1
  | np => exact .np
  | ni => exact .ni
theorem RA.keep (hk : Keeps w (Own M β hd) w' (Own M' β' hd')) (he : Ext M β hd M' β' hd') {x : AV} {v : Value} (r : RA P w M β hd x v) : RA P w' M' β' hd' x v := by
  induction r with
  | c h => exact .c (h.keep hk he)
  | ag hl h => exact .ag hl fun j x hj => (h j x hj).keep hk he
  | tup hl h ih => exact .tup hl fun j x hj => ih j x hj
  | und v => exact .und v
end
structure Fr0 where
  w : World
  M : Store
  β : Bn
  hd : Nat → Value
def Fr0.lent (F : Fr0) (b : Nat) : Prop := ∃ k, Owns F.M F.β F.hd k b
def Fr0.mine (F : Fr0) (b : Nat) : Prop := F.w.heap.size ≤ b ∨ F.lent b
structure UStep (F : Fr0) (w w' : World) : Prop where
  os : w'.os = w.os
  tape : w'.tape = w.tape
  output : w'.output = w.output
  size : w.heap.size ≤ w'.heap.size
  block : ∀ b, ¬ F.mine b → w'.heap[b]? = w.heap[b]?
def Under (F : Fr0) (w : World) : Prop := UStep F F.w w
theorem Under.size {F : Fr0} {w : World} (h : Under F w) : F.w.heap.size ≤ w.heap.size := UStep.size h
theorem Under.trans {F : Fr0} {w w' : World} (h : Under F w) (k : UStep F w w') : Under F w' :=
  ⟨k.os.trans h.os, k.tape.trans h.tape, k.output.trans h.output, Nat.le_trans (UStep.size h) k.size, fun b hb => (k.block b hb).trans (h.block b hb)⟩
theorem Under.refl {F : Fr0} : Under F F.w := ⟨rfl, rfl, rfl, Nat.le_refl _, fun _ _ => rfl⟩
theorem Under.alloc {F : Fr0} {w : World} (h : Under F w) (o : Obj) : Under F (w.alloc o) :=
  h.trans ⟨rfl, rfl, rfl, by simp, fun b hb => by
    have h1 : b < w.heap.size := by
      have := h.size
      have h2 : ¬ F.w.heap.size ≤ b := fun e => hb (.inl e)
      omega
    exact Go.RowKit.Below.heap_alloc w o b h1⟩
def BoxIs (P : Program) (w : World) (M : Store) (β : Bn) (hd : Nat → Value) (b : Nat) (t : TypeId) (cs : List AV) : Prop :=
  (isMapT t = false ∧ ∃ c, w.heap[b]? = some (.cells c t (0, 0)) ∧ c.size = cs.length ∧ ∀ j x, cs[j]? = some x → RC P w M β hd x (c.getD j undef)) ∨
  (isMapT t = true ∧ MapIs P w (Own M β hd) b t cs)
theorem BoxIs.cells {P : Program} {w : World} {M : Store} {β : Bn} {hd : Nat → Value} {b : Nat} {t : TypeId} {cs : List AV} (h : BoxIs P w M β hd b t cs) (ht : isMapT t = false) :
    ∃ c el, w.heap[b]? = some (.cells c el (0, 0)) ∧ c.size = cs.length ∧ ∀ j x, cs[j]? = some x → RC P w M β hd x (c.getD j undef) := by
  rcases h with ⟨_, c, h⟩ | ⟨h, _⟩
  · exact ⟨c, t, h⟩
  · rw [ht] at h; cases h
theorem BoxIs.cellsT {P : Program} {w : World} {M : Store} {β : Bn} {hd : Nat → Value} {b : Nat} {t : TypeId} {cs : List AV} (h : BoxIs P w M β hd b t cs) (ht : isMapT t = false) :
    ∃ c, w.heap[b]? = some (.cells c t (0, 0)) ∧ c.size = cs.length ∧ ∀ j x, cs[j]? = some x → RC P w M β hd x (c.getD j undef) := by
  rcases h with ⟨_, h⟩ | ⟨h, _⟩
  · exact h
  · rw [ht] at h; cases h
theorem BoxIs.map {P : Program} {w : World} {M : Store} {β : Bn} {hd : Nat → Value} {b : Nat} {t : TypeId} {cs : List AV} (h : BoxIs P w M β hd b t cs) (ht : isMapT t = true) : MapIs P w (Own M β hd) b t cs := by
  rcases h with ⟨h, _⟩ | ⟨_, h⟩
  · rw [ht] at h; cases h
  · exact h
theorem BoxIs.keep {P : Program} {w w' : World} {M M' : Store} {β β' : Bn} {hd hd' : Nat → Value} (hk : Keeps w (Own M β hd) w' (Own M' β' hd')) (he : Ext M β hd M' β' hd') {b b' : Nat} {t : TypeId} {cs : List AV} (hb : w'.heap[b']? = w.heap[b]?) (h : BoxIs P w M β hd b t cs) : BoxIs P w' M' β' hd' b' t cs := by
  rcases h with ⟨h0, c, h1, h2, h3⟩ | ⟨h0, h1⟩
  · exact .inl ⟨h0, c, by rw [hb]; exact h1, h2, fun j x hj => (h3 j x hj).keep hk he⟩
  · exact .inr ⟨h0, h1.keep hk hb⟩
theorem BoxIs.notMap {P : Program} {w : World} {M : Store} {β : Bn} {hd : Nat → Value} {b : Nat} {t : TypeId} {cs : List AV} (h : BoxIs P w M β hd b t cs) {j : Nat} {v : AV} (hv : cs.getD j .und = v) (h1 : ∀ e x, v ≠ .sl e x) (h2 : v ≠ .und) : isMapT t = false := by
  rcases h with ⟨h, _⟩ | ⟨_, t0, kt, vt, x, es, _, _, _, _, h4, _⟩
  · exact h
  · rw [h4] at hv
    cases j with
    | zero => exact absurd hv.symm (h1 _ _)
    | succ j => exact absurd (by rw [← hv]; simp) h2
def TabOk (P : Program) (F : Fr0) : Prop := ∀ g, P.globalNamed "internal/strconv.uint64pow10" = some g → ¬ F.lent g ∧ g < F.w.heap.size ∧ Lib.TabIs P F.w "internal/strconv.uint64pow10" .u64 Lib.pow10Tab
theorem TabOk.not_mine {P : Program} {F : Fr0} (h : TabOk P F) {g : Nat} (hg : P.globalNamed "internal/strconv.uint64pow10" = some g) : ¬ F.mine g := by
  obtain ⟨h1, h2, _⟩ := h g hg
  rintro (h3 | h3)
  · omega
  · exact h1 h3
structure Sim (P : Program) (w0 : Fr0) (w : World) (M : Store) (β : Bn) (hd : Nat → Value) : Prop where
  below : Under w0 w
  ge : ∀ k b, Owns M β hd k b → w0.mine b ∧ b < w.heap.size
  inj : ∀ k k' b, Owns M β hd k b → Owns M β hd k' b → k = k'
  far : ∀ b, β.O b → ¬ w0.mine b
  box : ∀ k t cs, M.get k = some (.box t cs) → BoxIs P w M β hd (β k) t cs
  row : ∀ k e n g, M.get k = some (.row e n g) → 0 < (lv P e).length ∧ ∃ xs, w.ownsRow 0 e (lv P e).length (hd k) n xs ∧ ∀ i j τ, i < n → (lv P e)[j]? = some τ → ∃ v, xs[i * (lv P e).length + j]? = some v ∧ RT P w (Own M β hd) τ (g i j) v
  tab : TabOk P w0
theorem Sim.far_lt {P : Program} {w0 : Fr0} {w : World} {M : Store} {β : Bn} {hd : Nat → Value} (h : Sim P w0 w M β hd) {b : Nat} (hb : β.O b) : b < w.heap.size := by
  have h1 := h.far b hb
  have h2 := h.below.size
  have h3 : ¬ w0.w.heap.size ≤ b := fun e => h1 (.inl e)
  omega
structure Slots (P : Program) (w : World) (M : Store) (β : Bn) (hd : Nat → Value) (sl : List AV) (a : Act) : Prop where
  len : sl.length = a.tmps.size
  val : ∀ t x, sl[t]? = some x → RA P w M β hd x (a.tmps.getD t undef)
  defers : a.defers = []
end Go.AM
set_option linter.unusedSimpArgs false
set_option linter.unusedVariables false
namespace Go.AM
open Go.RowKit (Below)
def Done (P : Program) (w0 : Fr0) (w : World) (M : Store) (β : Bn) (hd : Nat → Value) (v : AV) (us : List (Nat × Ob)) (x : Value) (w' : World) : Prop :=
  ∃ β' hd', RA P w' (M.sets us) β' hd' v x ∧ Sim P w0 w' (M.sets us) β' hd' ∧ Ext M β hd (M.sets us) β' hd' ∧ Keeps w (Own M β hd) w' (Own (M.sets us) β' hd')
def OpOk (P : Program) (w0 : Fr0) (w : World) (M : Store) (β : Bn) (hd : Nat → Value) (v : AV) (us : List (Nat × Ob)) (r : Result Next) : Prop :=
  (∃ x w', r = .ok (.value x) w' ∧ Done P w0 w M β hd v us x w') ∨ (∃ w', r = .ok .skip w' ∧ Done P w0 w M β hd v us undef w')
section
variable {P : Program} {w0 : Fr0} {w : World} {M : Store} {β : Bn} {hd : Nat → Value}
theorem Done.pure (h : Sim P w0 w M β hd) {v : AV} {x : Value} (r : RA P w M β hd v x) : Done P w0 w M β hd v [] x w :=
  ⟨β, hd, r, h, Ext.refl _ _ _, Keeps.refl _ _⟩
theorem OpOk.pure (h : Sim P w0 w M β hd) {v : AV} {x : Value} {r : Result Next} (hr : r = .ok (.value x) w) (hx : RA P w M β hd v x) : OpOk P w0 w M β hd v [] r :=
  .inl ⟨x, w, hr, Done.pure h hx⟩
theorem ofConst1_rel (v : Value) (h : one1 v = true) : RC P w M β hd (ofConst1 v) v := by
  cases v with
  | bool b => exact .b b
  | int k n => exact .i k n
  | string s => exact .s s
  | slice a l c =>
    unfold ofConst1
    split
    · exact absurd ‹_› (by simp)
    · exact absurd ‹_› (by simp)
    · exact absurd ‹_› (by simp)
    · rename_i h'
      cases h'
      exact .nl
    · exact absurd ‹_› (by simp)
    · exact absurd ‹_› (by simp)
    · exact .und rfl
  | nilIface => exact .ni
  | pointer p =>
    cases p with
    | none => exact .np
    | some a => exact .und rfl
  | agg cs => simp [one1] at h
  | tuple vs => simp [one1] at h
  | _ => exact .und rfl
theorem ofConst_rel (v : Value) : RA P w M β hd (ofConst v) v := by
  unfold ofConst
  split
  · rename_i cs
    cases hb : cs.toList.all one1
    · exact .und _
    · refine .ag (by simp) fun j x hj => ?_
      simp only [List.getElem?_map, Option.map_eq_some_iff] at hj
      obtain ⟨y, hy, rfl⟩ := hj
      have h1 := List.all_eq_true.1 hb y (List.mem_of_getElem? hy)
      have h2 : cs.getD j undef = y := by
        rw [Array.getElem?_toList] at hy
        simp [Array.getD_eq_getD_getElem?, hy]
      rw [h2]
      exact ofConst1_rel y h1
  · rename_i h
    by_cases h1 : one1 v = true
    · exact .c (ofConst1_rel v h1)
    · cases v with
      | agg cs => exact absurd rfl (h cs)
      | tuple vs => exact .und _
      | _ => simp [one1] at h1
theorem evO_rel {sl : List AV} {a : Act} (hs : Slots P w M β hd sl a) (x : Operand) : RA P w M β hd (evO sl x) (a.eval x) := by
  cases x with
  | tmp t =>
    show RA P w M β hd (sl.getD t .und) (a.tmps.getD t undef)
    cases h : sl[t]? with
    | none => rw [List.getD_eq_getElem?_getD, h]; exact .und _
    | some y => rw [List.getD_eq_getElem?_getD, h]; exact hs.val t y h
  | const v => exact ofConst_rel v
  | global g => exact .und _
  | func f =>
    show RA P w M β hd (bif Nat.ble NPF f then .und else .clo f []) _
    cases hc : Nat.ble NPF f with
    | true => exact .und _
    | false => exact .c (.clo hc (by simp) (by simp))
theorem RA.b_inv {x : Bool} {v : Value} (h : RA P w M β hd (.b x) v) : v = .bool x := by
  cases h with
  | c h => cases h; rfl
theorem RA.i_inv {k : IntKind} {n : Int} {v : Value} (h : RA P w M β hd (.i k n) v) : v = .int k n := by
  cases h with
  | c h => cases h; rfl
theorem RA.s_inv {x : ByteArray} {v : Value} (h : RA P w M β hd (.s x) v) : v = .string x := by
  cases h with
  | c h => cases h; rfl
theorem RA.nl_inv {v : Value} (h : RA P w M β hd .nl v) : ∃ A, v = .slice A 0 0 := by
  cases h with
  | c h => cases h; exact ⟨_, rfl⟩
theorem RA.ag_inv {cs : List AV} {v : Value} (h : RA P w M β hd (.ag cs) v) : ∃ vs, v = .agg vs ∧ cs.length = vs.size ∧ ∀ j x, cs[j]? = some x → RC P w M β hd x (vs.getD j undef) := by
  cases h with
  | c h => cases h
  | ag hl h => exact ⟨_, rfl, hl, h⟩
theorem RA.tup_inv {cs : List AV} {v : Value} (h : RA P w M β hd (.tup cs) v) : ∃ vs, v = .tuple vs ∧ cs.length = vs.size ∧ ∀ j x, cs[j]? = some x → RA P w M β hd x (vs.getD j undef) := by
  cases h with
  | c h => cases h
  | tup hl h => exact ⟨_, rfl, hl, h⟩
theorem RA.sl_inv {e : TypeId} {x : T} {v : Value} (h : RA P w M β hd (.sl e x) v) : ∃ t A c, P.underlying t = some (.slice e) ∧ v = .slice A x.len c ∧ x.len ≤ c ∧ RT P w (Own M β hd) t x v := by
  cases h with
  | c h =>
    cases h with
    | sl ht r =>
      cases r with
      | int h => rw [h] at ht; cases ht
      | bool h => rw [h] at ht; cases ht
      | str h => rw [h] at ht; cases ht
      | sl h hc b off vs ha hv hr => exact ⟨_, _, _, ht, rfl, hc, .sl h hc b off vs ha hv hr⟩
theorem RA.row_inv {k off len : Nat} {v : Value} (h : RA P w M β hd (.row k off len) v) : RC P w M β hd (.row k off len) v := by
  cases h with
  | c h => exact h
theorem RA.clo_inv {f : FuncId} {caps : List AV} {v : Value} (hf : Nat.ble NPF f = false) (h : RA P w M β hd (.clo f caps) v) : ∃ vs, v = .func (.func f) #[] vs ∧ caps.length = vs.size ∧ ∀ j x, caps[j]? = some x → RC P w M β hd x (vs.getD j undef) := by
  cases h with
  | c h =>
    cases h with
    | clo _ hl h => exact ⟨_, rfl, hl, h⟩
    | np => exact absurd hf (by decide)
    | ni => exact absurd hf (by decide)
theorem opVals_one {sl : List AV} {o : Op} {x : AV} (h : opVals sl o = [x]) : ∃ p, o.operands.toList = [p] ∧ evO sl p = x := by
  unfold opVals at h
  match hl : o.operands.toList, h with
  | [p], h => exact ⟨p, rfl, by simpa [hl] using h⟩
  | [], h => simp [hl] at h
  | _ :: _ :: _, h => simp [hl] at h
theorem opVals_two {sl : List AV} {o : Op} {x y : AV} (h : opVals sl o = [x, y]) : ∃ p q, o.operands.toList = [p, q] ∧ evO sl p = x ∧ evO sl q = y := by
  unfold opVals at h
  match hl : o.operands.toList, h with
  | [p, q], h => exact ⟨p, q, rfl, by simpa [hl] using h⟩
  | [], h => simp [hl] at h
  | [_], h => simp [hl] at h
  | _ :: _ :: _ :: _, h => simp [hl] at h
end
section
variable {P : Program} {w : World} {a : Act}
theorem run_op_bin {o : Oper} {op : BinOp} {t yt : TypeId} {x y : Operand} (ho : o.op = .binOp op t x y yt) {v : Value} (hg : (eqGuard op t x y (a.eval x) (a.eval y)).run P w = .ok () w) (hb : (binOp op t (a.eval x) (a.eval y)).run P w = .ok v w) : (execOp a.eval o).run P w = .ok (.value v) w := by
  simp [execOp, ho, hg, hb]
theorem eqGuard_plain (op : BinOp) (t : TypeId) (x y : Operand) (u v : Value) (h1 : ∀ cs, u ≠ .agg cs) (h2 : u ≠ .nilIface) : (eqGuard op t x y u v).run P w = .ok () w := by
  cases u with
  | agg cs => exact absurd rfl (h1 cs)
  | nilIface => exact absurd rfl h2
  | _ => cases op <;> simp [eqGuard]
end
section
variable {ρ : Type} {κ : Kk ρ} {r : ρ}
theorem iff_inv {c : Bool} {v : AV} (h : iff c v κ = some r) : c = true ∧ κ v [] = some r := by
  unfold iff at h
  cases c
  · cases h
  · exact ⟨rfl, h⟩
theorem bif_inv {c : Bool} {x : Option ρ} (h : (bif c then x else none) = some r) : c = true ∧ x = some r := by
  cases c
  · cases h
  · exact ⟨rfl, h⟩
end
section
variable {P : Program} {w : World}
theorem run_equalIn_bool (d : Nat) {t : TypeId} (hu : P.underlying t = some .bool) (m n : Bool) : (Op.equalIn (d + 1) t (.bool m) (.bool n)).run P w = .ok (m == n) w := by
  simp only [Op.equalIn, Sem.run_bind, run_underlying hu, Result.andThen_ok]
  rfl
theorem run_equalIn_int (d : Nat) {t : TypeId} {k k' : IntKind} (hu : P.underlying t = some (.int k')) (m n : Int) : (Op.equalIn (d + 1) t (.int k m) (.int k n)).run P w = .ok (m == n) w := by
  simp only [Op.equalIn, Sem.run_bind, run_underlying hu, Result.andThen_ok, if_true]
  rfl
theorem run_equalIn_str (d : Nat) {t : TypeId} (hu : P.underlying t = some .string) (m n : ByteArray) : (Op.equalIn (d + 1) t (.string m) (.string n)).run P w = .ok (m == n) w := by
  simp only [Op.equalIn, Sem.run_bind, run_underlying hu, Result.andThen_ok]
  rfl
theorem run_equal_bool {t : TypeId} (hu : P.underlying t = some .bool) (m n : Bool) : (Op.equal t (.bool m) (.bool n)).run P w = .ok (m == n) w := run_equalIn_bool 9999 hu m n
theorem run_binOp_bool_eql {t : TypeId} (hu : P.underlying t = some .bool) (m n : Bool) : (binOp .eql t (.bool m) (.bool n)).run P w = .ok (.bool (m == n)) w := by
  have e : binOp .eql t (.bool m) (.bool n) = (do pure (.bool (← Op.equal t (.bool m) (.bool n)))) := rfl
  rw [e, Sem.run_bind, run_equal_bool hu]
  rfl
theorem run_binOp_bool_neq {t : TypeId} (hu : P.underlying t = some .bool) (m n : Bool) : (binOp .neq t (.bool m) (.bool n)).run P w = .ok (.bool (!(m == n))) w := by
  have e : binOp .neq t (.bool m) (.bool n) = (do pure (.bool (!(← Op.equal t (.bool m) (.bool n))))) := rfl
  rw [e, Sem.run_bind, run_equal_bool hu]
  rfl
end
structure Ctx (P : Program) (w0 : Fr0) (w : World) (M : Store) (β : Bn) (hd : Nat → Value) (sl : List AV) (a : Act) : Prop where
  sim : Sim P w0 w M β hd
  slots : Slots P w M β hd sl a
section
variable {ρ : Type} {P : Program} {w0 : Fr0} {w : World} {M : Store} {β : Bn} {hd : Nat → Value} {sl : List AV} {a : Act} {κ : Kk ρ} {r : ρ}
variable (C : Ctx P w0 w M β hd sl a)
include C
theorem rel1 (x : Operand) : RA P w M β hd (evO sl x) (a.eval x) := evO_rel C.slots x
abbrev Good (P : Program) (w0 : Fr0) (w : World) (M : Store) (β : Bn) (hd : Nat → Value) (a : Act) (o : Oper) (κ : Kk ρ) (r : ρ) : Prop :=
  ∃ v us, κ v us = some r ∧ OpOk P w0 w M β hd v us ((execOp a.eval o).run P w)
theorem good_pure {o : Oper} {v : AV} {x : Value} (hk : κ v [] = some r) (hr : (execOp a.eval o).run P w = .ok (.value x) w) (hx : RA P w M β hd v x) : Good P w0 w M β hd a o κ r :=
  ⟨v, [], hk, OpOk.pure C.sim hr hx⟩
theorem same_ok {o : Oper} {x : Operand} (ho : o.op = .move x ∨ o.op = .assign x) (h : eSame κ [evO sl x] = some r) : Good P w0 w M β hd a o κ r := by
  refine good_pure C (v := evO sl x) (x := a.eval x) h ?_ (rel1 C x)
  rcases ho with ho | ho <;> simp [execOp, ho]
theorem pick_ok {o : Oper} {c x y : Operand} (ho : o.op = .pick c x y) (h : ePick κ [evO sl c, evO sl x, evO sl y] = some r) : Good P w0 w M β hd a o κ r := by
  have hc := rel1 C c
  unfold ePick at h
  split at h
  · rename_i b u v heq
    injection heq with h1 h2
    injection h2 with h2 h3
    injection h3 with h3 _
    rw [h1] at hc
    have hc' := hc.b_inv
    cases b
    · refine good_pure C (v := v) (x := a.eval y) h ?_ (h3 ▸ rel1 C y)
      simp [execOp, ho, hc', asBool]
    · refine good_pure C (v := u) (x := a.eval x) h ?_ (h2 ▸ rel1 C x)
      simp [execOp, ho, hc', asBool]
  · cases h
theorem bin_int {o : Oper} {op : BinOp} {t yt : TypeId} {x y : Operand} {k k' : IntKind} {m n : Int} (ho : o.op = .binOp op t x y yt) (hx : evO sl x = .i k m) (hy : evO sl y = .i k' n) (h : evInt op k k' m n κ = some r) : Good P w0 w M β hd a o κ r := by
  have rx : a.eval x = .int k m := (hx ▸ rel1 C x).i_inv
  have ry : a.eval y = .int k' n := (hy ▸ rel1 C y).i_inv
  have hg : (eqGuard op t x y (a.eval x) (a.eval y)).run P w = .ok () w := eqGuard_plain op t x y _ _ (by simp [rx]) (by simp [rx])
  cases op <;> simp only [evInt] at h
  case shl =>
    obtain ⟨hc, h⟩ := iff_inv h
    have h0 : ¬ n < 0 := by have := of_decide_eq_true hc; omega
    exact good_pure C h (run_op_bin ho hg (by simp [rx, ry, binOp, Op.shift, h0]; try rfl)) (.c (.i ..))
  case shr =>
    obtain ⟨hc, h⟩ := iff_inv h
    have h0 : ¬ n < 0 := by have := of_decide_eq_true hc; omega
    exact good_pure C h (run_op_bin ho hg (by simp [rx, ry, binOp, Op.shift, h0]; try rfl)) (.c (.i ..))
  case quo =>
    obtain ⟨hk, h'⟩ := bif_inv h
    obtain rfl := eq_of_beq hk
    clear h
    obtain ⟨hc, h⟩ := iff_inv h'
    have h0 : n ≠ 0 := by simpa using hc
    exact good_pure C h (run_op_bin ho hg (by simp [rx, ry, binOp, Op.intDiv, h0]; try rfl)) (.c (.i ..))
  case rem =>
    obtain ⟨hk, h'⟩ := bif_inv h
    obtain rfl := eq_of_beq hk
    clear h
    obtain ⟨hc, h⟩ := iff_inv h'
    have h0 : n ≠ 0 := by simpa using hc
    exact good_pure C h (run_op_bin ho hg (by simp [rx, ry, binOp, Op.intDiv, h0]; try rfl)) (.c (.i ..))
  all_goals
    obtain ⟨hk, h'⟩ := bif_inv h
    obtain rfl := eq_of_beq hk
    clear h
    first
    | exact good_pure C h' (run_op_bin ho hg (by simp [rx, ry, binOp, Op.intArith, Op.intBits, Op.intCmp, bitsOf]; try rfl)) (.c (.i ..))
    | exact good_pure C h' (run_op_bin ho hg (by simp [rx, ry, binOp, Op.intArith, Op.intBits, Op.intCmp, bitsOf]; try rfl)) (.c (.b ..))
theorem bin_bool {o : Oper} {op : BinOp} {t yt : TypeId} {x y : Operand} {m n : Bool} (ho : o.op = .binOp op t x y yt) (hx : evO sl x = .b m) (hy : evO sl y = .b n) (h : evBool P op t m n κ = some r) : Good P w0 w M β hd a o κ r := by
  have rx : a.eval x = .bool m := (hx ▸ rel1 C x).b_inv
  have ry : a.eval y = .bool n := (hy ▸ rel1 C y).b_inv
  have hg : (eqGuard op t x y (a.eval x) (a.eval y)).run P w = .ok () w := eqGuard_plain op t x y _ _ (by simp [rx]) (by simp [rx])
  unfold evBool at h
  split at h
  · rename_i hu
    split at h
    · exact good_pure C h (run_op_bin ho hg (by rw [rx, ry]; exact run_binOp_bool_eql hu m n)) (.c (.b _))
    · exact good_pure C h (run_op_bin ho hg (by rw [rx, ry]; exact run_binOp_bool_neq hu m n)) (.c (.b _))
    · cases h
  · cases h
theorem bin_str {o : Oper} {op : BinOp} {t yt : TypeId} {x y : Operand} {m n : ByteArray} (ho : o.op = .binOp op t x y yt) (hx : evO sl x = .s m) (hy : evO sl y = .s n) (h : evStr op m n κ = some r) : Good P w0 w M β hd a o κ r := by
  have rx : a.eval x = .string m := (hx ▸ rel1 C x).s_inv
  have ry : a.eval y = .string n := (hy ▸ rel1 C y).s_inv
  have hg : (eqGuard op t x y (a.eval x) (a.eval y)).run P w = .ok () w := eqGuard_plain op t x y _ _ (by simp [rx]) (by simp [rx])
  cases op <;> simp only [evStr] at h
  case add =>
    obtain ⟨hc, h⟩ := iff_inv h
    have h0 : m.size + n.size ≤ 9223372036854775807 := Nat.le_of_ble_eq_true hc
    refine good_pure C h (run_op_bin ho hg ?_) (.c (.s _))
    have h1 : ¬ (((m.size + n.size : Nat) : Int) > IntKind.i64.max) := by
      have : IntKind.i64.max = 9223372036854775807 := by decide
      omega
    simp only [rx, ry, binOp, Op.stringOp]
    rw [if_neg h1]
    rfl
  all_goals first
    | (cases h; done)
    | exact good_pure C h (run_op_bin ho hg (by simp [rx, ry, binOp, Op.stringOp, strEq, strLt])) (.c (.b _))
end
end Go.AM
