/- The engine, part 7: each operation that makes or changes memory does what its abstract value says. -/
import Derived.Test.YtljfhfgbpcaadaaDoorEng6
import Derived.Great.BuildSlice
set_option linter.unusedSimpArgs false
set_option linter.unusedVariables false
namespace Go.AM
open Go.RowKit (Below)
def upd (cells : Array Value) (off : Nat) (vs : Array Value) : Array Value := vs.zipIdx.foldl (fun cs (c, j) => cs.setIfInBounds (off + j) c) cells
theorem upd_list (off : Nat) : ∀ (l : List Value) (k : Nat) (cells : Array Value),
    ((l.zipIdx k).foldl (fun cs x => cs.setIfInBounds (off + x.2) x.1) cells).size = cells.size ∧
    ∀ q, ((l.zipIdx k).foldl (fun cs x => cs.setIfInBounds (off + x.2) x.1) cells).getD q undef = if off + k ≤ q ∧ q < off + k + l.length ∧ q < cells.size then l.getD (q - (off + k)) undef else cells.getD q undef
  | [], k, cells => ⟨rfl, fun q => by simp; intro h1 h2; omega⟩
  | v :: l, k, cells => by
    obtain ⟨h1, h2⟩ := upd_list off l (k + 1) (cells.setIfInBounds (off + k) v)
    simp only [List.zipIdx_cons, List.foldl_cons]
    refine ⟨by rw [h1]; simp, fun q => ?_⟩
    rw [h2]
    simp only [Array.size_setIfInBounds, List.length_cons]
    by_cases hq : q = off + k
    · subst hq
      by_cases hs : off + k < cells.size
      · rw [if_neg (by omega), if_pos (by omega)]
        simp [Array.getD_eq_getD_getElem?, hs]
      · rw [if_neg (by omega), if_neg (by omega)]
        simp [Array.getD_eq_getD_getElem?, hs]
    · have h3 : (cells.setIfInBounds (off + k) v).getD q undef = cells.getD q undef := by
        simp only [Array.getD_eq_getD_getElem?, Array.getElem?_setIfInBounds]
        rw [if_neg (fun e => hq e.symm)]
      rw [h3]
      by_cases hc : off + k ≤ q ∧ q < off + k + (l.length + 1) ∧ q < cells.size
      · rw [if_pos (by omega), if_pos hc]
        have : q - (off + k) = (q - (off + (k + 1))) + 1 := by omega
        rw [this, List.getD_cons_succ]
      · rw [if_neg (by omega), if_neg hc]
theorem upd_eq (cells : Array Value) (off : Nat) (vs : Array Value) : upd cells off vs = (vs.toList.zipIdx 0).foldl (fun cs x => cs.setIfInBounds (off + x.2) x.1) cells := by
  unfold upd
  rw [← Array.foldl_toList]
  simp
theorem upd_size (cells : Array Value) (off : Nat) (vs : Array Value) : (upd cells off vs).size = cells.size := by
  rw [upd_eq]; exact (upd_list off vs.toList 0 cells).1
theorem upd_get (cells : Array Value) (off : Nat) (vs : Array Value) (q : Nat) : (upd cells off vs).getD q undef = if off ≤ q ∧ q < off + vs.size ∧ q < cells.size then vs.getD (q - off) undef else cells.getD q undef := by
  rw [upd_eq, (upd_list off vs.toList 0 cells).2]
  simp [Array.getD_eq_getD_getElem?, List.getD_eq_getElem?_getD]
theorem setAt_get : ∀ (us l : List AV) (n q : Nat), (setAt l n us).length = l.length ∧ (setAt l n us)[q]? = if n ≤ q ∧ q < n + us.length ∧ q < l.length then us[q - n]? else l[q]?
  | [], l, n, q => by
    refine ⟨rfl, ?_⟩
    show l[q]? = _
    rw [if_neg (by simp; intro h1 h2; omega)]
  | v :: us, l, n, q => by
    obtain ⟨h1, h2⟩ := setAt_get us (l.set n v) (n + 1) q
    refine ⟨by show (setAt (l.set n v) (n + 1) us).length = _; rw [h1]; simp, ?_⟩
    show (setAt (l.set n v) (n + 1) us)[q]? = _
    rw [h2]
    simp only [List.length_set, List.length_cons]
    by_cases hq : q = n
    · subst hq
      by_cases hs : q < l.length
      · rw [if_neg (by omega), if_pos (by omega)]
        simp [hs]
      · rw [if_neg (by omega), if_neg (by omega)]
        simp [hs]
    · have h3 : (l.set n v)[q]? = l[q]? := List.getElem?_set_ne (fun e => hq e.symm)
      rw [h3]
      by_cases hc : n ≤ q ∧ q < n + (us.length + 1) ∧ q < l.length
      · rw [if_pos (by omega), if_pos hc]
        have : q - n = (q - (n + 1)) + 1 := by omega
        rw [this, List.getElem?_cons_succ]
      · rw [if_neg (by omega), if_neg hc]
section
variable {P : Program} {w0 : Fr0} {w w' : World} {M M' : Store} {β β' : Bn} {hd hd' : Nat → Value}
def Cells (P : Program) (w : World) (M : Store) (β : Bn) (hd : Nat → Value) (cs : List AV) (vs : Array Value) : Prop :=
  cs.length = vs.size ∧ ∀ j x, cs[j]? = some x → RC P w M β hd x (vs.getD j undef)
theorem Cells.upd {cs us : List AV} {arr vs : Array Value} (h : Cells P w M β hd cs arr) (k : Cells P w M β hd us vs) (off : Nat) : Cells P w M β hd (setAt cs off us) (upd arr off vs) := by
  refine ⟨by rw [(setAt_get us cs off 0).1, upd_size]; exact h.1, fun j x hj => ?_⟩
  rw [(setAt_get us cs off j).2] at hj
  rw [upd_get]
  have h1 := h.1
  have k1 := k.1
  by_cases hc : off ≤ j ∧ j < off + us.length ∧ j < cs.length
  · rw [if_pos hc] at hj
    rw [if_pos (by omega)]
    exact k.2 _ _ hj
  · rw [if_neg hc] at hj
    rw [if_neg (by omega)]
    exact h.2 _ _ hj
theorem Cells.one {cs : List AV} {vs : Array Value} (h : Cells P w M β hd cs vs) : ∀ v ∈ vs.toList, v.oneCell' = true := by
  intro v hv
  obtain ⟨j, hj, rfl⟩ := List.getElem_of_mem hv
  have hj' : j < cs.length := by rw [h.1]; simpa using hj
  have := (h.2 j _ (List.getElem?_eq_getElem hj')).one
  have hj2 : j < vs.size := by simpa using hj
  simpa [Array.getD_eq_getD_getElem?, hj2] using this
theorem RA.cellsR {x : AV} {v : Value} (h : RA P w M β hd x v) (hx : cellsOk x = true) : Cells P w M β hd (cellsOf x) v.cells := h.cells hx
theorem zeroCells_rel {t : TypeId} {z : List AV} (h : zeroCells P t = some z) : ∃ i v, P.info? t = some i ∧ i.zero = some v ∧ Cells P w M β hd z v.cells := by
  unfold zeroCells at h
  split at h
  · rename_i i hi
    split at h
    · rename_i cs hz
      cases hb : cs.toList.all one1 with
      | false => rw [hb] at h; cases h
      | true =>
        rw [hb] at h
        obtain rfl : cs.toList.map ofConst1 = z := by simpa using h
        refine ⟨i, _, hi, hz, by simp [Value.cells], fun j x hj => ?_⟩
        simp only [List.getElem?_map, Option.map_eq_some_iff] at hj
        obtain ⟨y, hy, rfl⟩ := hj
        have h1 := List.all_eq_true.1 hb y (List.mem_of_getElem? hy)
        have h2 : cs.getD j undef = y := by
          rw [Array.getElem?_toList] at hy
          simp [Array.getD_eq_getD_getElem?, hy]
        show RC P w M β hd (ofConst1 y) (cs.getD j undef)
        rw [h2]
        exact ofConst1_rel y h1
    · rename_i v hne hz
      cases hb : one1 v with
      | false => rw [hb] at h; cases h
      | true =>
        rw [hb] at h
        obtain rfl : [ofConst1 v] = z := by simpa using h
        have hc : v.cells = #[v] := by cases v <;> first | rfl | (simp [one1] at hb)
        refine ⟨i, v, hi, hz, by rw [hc]; rfl, fun j x hj => ?_⟩
        rw [hc]
        cases j with
        | zero =>
          obtain rfl : ofConst1 v = x := by simpa using hj
          exact ofConst1_rel v hb
        | succ j => simp at hj
    · cases h
  · cases h
end
section
variable {ρ : Type} {P : Program} {w0 : Fr0} {w : World} {M : Store} {β : Bn} {hd : Nat → Value} {sl : List AV} {a : Act} {κ : Kk ρ} {r : ρ}
variable (C : Ctx P w0 w M β hd sl a)
include C
variable {os : List (Nat × Option Ob)} (hos : ∀ k ob, lk os k = some ob → M.get k = some ob)
omit C in
theorem good_done {o : Oper} {v : AV} {us : List (Nat × Ob)} {x : Value} {w' : World} (hk : κ v us = some r) (hr : (execOp a.eval o).run P w = .ok (.value x) w') (h : Done P w0 w M β hd v us x w') : Good P w0 w M β hd a o κ r :=
  ⟨v, us, hk, .inl ⟨x, w', hr, h⟩⟩
omit C in
theorem good_skip {o : Oper} {v : AV} {us : List (Nat × Ob)} {w' : World} (hk : κ v us = some r) (hr : (execOp a.eval o).run P w = .ok .skip w') (h : Done P w0 w M β hd v us undef w') : Good P w0 w M β hd a o κ r :=
  ⟨v, us, hk, .inr ⟨w', hr, h⟩⟩
theorem alloc_ok {o : Oper} {t : TypeId} {d : Nat} (hfree : free os d = true → M.get d = none) (ho : o.op = .alloc t) (h : eAlloc P d t os κ = some r) : Good P w0 w M β hd a o κ r := by
  unfold eAlloc at h
  obtain ⟨hf, h⟩ := bif_inv h
  rw [Bool.and_eq_true] at hf
  have hnm : isMapT t = false := by simpa using hf.2
  have hf := hf.1
  split at h
  · rename_i z hz
    obtain ⟨i, v, hi, hzv, hcs⟩ := zeroCells_rel (w := w) (M := M) (β := β) (hd := hd) hz
    refine good_done h ?_ (new_box C.sim hnm (hfree hf) hcs.1.symm hcs.2)
    simp [execOp, ho, Instr.alloc, zeroValue, typeInfo, hi, hzv, newVar, newRow]
  · cases h
theorem box_ok {o : Oper} {t : TypeId} {d : Nat} {x : Operand} (hfree : free os d = true → M.get d = none) (ho : o.op = .box t x) (h : eBox d t os κ [evO sl x] = some r) : Good P w0 w M β hd a o κ r := by
  unfold eBox at h
  obtain ⟨hf, h⟩ := bif_inv h
  rw [Bool.and_eq_true, Bool.and_eq_true] at hf
  have hnm : isMapT t = false := by simpa using hf.2
  have hf := hf.1
  have hcs := (rel1 C x).cells hf.2
  refine good_done h ?_ (new_box C.sim hnm (hfree hf.1) hcs.1.symm hcs.2)
  simp [execOp, ho, Instr.box, newVar, newRow]
omit C in
theorem upd_box (h : Sim P w0 w M β hd) {k : Nat} {t : TypeId} {cs us : List AV} {vs : Array Value} {off : Nat} (hnm : isMapT t = false) (hm : M.get k = some (.box t cs)) (hv : Cells P w M β hd us vs) (hle : off + us.length ≤ cs.length) :
    ∃ w', (storeCells ⟨β k, off, none⟩ vs.toList).run P w = .ok () w' ∧ ∀ v x, RA P w M β hd v x → Done P w0 w M β hd v [(k, .box t (setAt cs off us))] x w' := by
  obtain ⟨c, hheap, hsz, hcs⟩ := (h.box k t cs hm).cellsT hnm
  have hvl := hv.1
  have hrun := run_storeCells_at P (β k) off t vs.toList 0 c w hheap (by simp; omega) hv.one
  simp only [Nat.add_zero, Array.length_toList] at hrun
  have harr : (c.toList.take off ++ vs.toList ++ c.toList.drop (off + vs.size)).toArray = upd c off vs := by
    apply Array.ext'
    apply List.ext_getElem?
    intro q
    have hs1 : (upd c off vs).size = c.size := upd_size ..
    have hlen : (c.toList.take off ++ vs.toList ++ c.toList.drop (off + vs.size)).length = c.size := by simp; omega
    by_cases hq : q < c.size
    · have e1 : (upd c off vs).toList[q]? = some ((upd c off vs).getD q undef) := by
        rw [Array.getElem?_toList]
        simp [Array.getD_eq_getD_getElem?, hs1, hq]
      rw [e1, upd_get]
      simp only [List.getElem?_append, List.length_append, List.length_take, Array.length_toList, List.getElem?_take, List.getElem?_drop]
      by_cases h1 : q < off
      · rw [if_pos (by omega), if_pos (by omega), if_pos h1, if_neg (by omega)]
        simp [Array.getD_eq_getD_getElem?, hq]
      · by_cases h2 : q < off + vs.size
        · rw [if_pos (by omega), if_neg (by omega), if_pos (by omega)]
          have : q - min off c.size = q - off := by omega
          rw [this]
          have h3 : q - off < vs.size := by omega
          simp [Array.getD_eq_getD_getElem?, h3]
        · rw [if_neg (by omega), if_neg (by omega)]
          have : off + vs.size + (q - (min off c.size + vs.size)) = q := by omega
          rw [this]
          simp [Array.getD_eq_getD_getElem?, hq]
    · rw [List.getElem?_eq_none (by rw [hlen]; omega), List.getElem?_eq_none (by simp [hs1]; omega)]
  rw [harr] at hrun
  refine ⟨_, hrun, fun v x hvx => ?_⟩
  have hM : ∀ q, (M.set k (.box t (setAt cs off us))).get q = if k = q then some (.box t (setAt cs off us)) else M.get q := Store.get_set M k _
  have howns : ∀ q b, Owns (M.set k (.box t (setAt cs off us))) β hd q b → Owns M β hd q b := by
    intro q b ho
    unfold Owns at ho ⊢
    rw [hM] at ho
    by_cases hq : k = q
    · subst hq
      rw [if_pos rfl] at ho
      rcases ho with ⟨_, _, _, h2⟩ | ⟨_, _, _, h1, _⟩
      · exact .inl ⟨t, cs, hm, h2⟩
      · cases h1
    · rw [if_neg hq] at ho
      exact ho
  have hown : Owns M β hd k (β k) := .inl ⟨t, cs, hm, rfl⟩
  have hk : Keeps w (Own M β hd) (w.setRow (β k) (upd c off vs)) (Own (M.set k (.box t (setAt cs off us))) β hd) := by
    refine ⟨by simp [World.setRow], fun b hb hob => ⟨setRow_other w (β k) b _ (fun e => hob (.inl ⟨k, e ▸ hown⟩)), fun ho => hob (ho.imp (fun ⟨q, ho⟩ => ⟨q, howns q b ho⟩) id)⟩⟩
  have he : Ext M β hd (M.set k (.box t (setAt cs off us))) β hd := by
    refine ⟨fun q hq => ?_, fun q t' cs' hq h0 => ?_, fun q e n g hq h0 => ?_, rfl⟩
    · rw [hM]; split <;> simp_all
    · rw [hM] at hq
      by_cases hkq : k = q
      · subst hkq; rw [if_pos rfl] at hq; cases hq; exact ⟨⟨cs, hm⟩, rfl⟩
      · rw [if_neg hkq] at hq; exact ⟨⟨cs', hq⟩, rfl⟩
    · rw [hM] at hq
      by_cases hkq : k = q
      · rw [if_pos hkq] at hq; cases hq
      · rw [if_neg hkq] at hq; exact ⟨⟨g, hq⟩, rfl⟩
  have hblk : ∀ q b, q ≠ k → Owns M β hd q b → (w.setRow (β k) (upd c off vs)).heap[b]? = w.heap[b]? := fun q b hq ho =>
    setRow_other w (β k) b _ (fun e => hq (h.inj q k b ho (e ▸ hown)))
  refine ⟨β, hd, hvx.keep hk he, ?_, he, hk⟩
  refine h.evolve ?_ hk he (fun q b ho => ?_) (fun q q' b h1 h2 => h.inj q q' b (howns q b h1) (howns q' b h2)) (fun q t' cs' hq => ?_) (fun q e n g hq => ?_)
  · exact h.below.trans ⟨rfl, rfl, rfl, by simp [World.setRow], fun b hb => setRow_other w (β k) b _ (fun e => hb (e ▸ (h.ge k (β k) hown).1))⟩
  · have := h.ge q b (howns q b ho)
    simpa [World.setRow] using this
  · rw [Store.sets_one, hM] at hq
    by_cases hkq : k = q
    · subst hkq
      rw [if_pos rfl] at hq
      cases hq
      have hcc : Cells P w M β hd (setAt cs off us) (upd c off vs) := Cells.upd (P := P) (w := w) ⟨hsz.symm, hcs⟩ hv off
      exact .inr (.inl ⟨hnm, upd c off vs, setRow_heap w (β k) c _ t _ hheap, hcc.1.symm, fun j y hj => (hcc.2 j y hj).keep hk he⟩)
    · rw [if_neg hkq] at hq
      exact .inl ⟨hq, rfl, hblk q _ (fun e => hkq e.symm) (.inl ⟨t', cs', hq, rfl⟩)⟩
  · rw [Store.sets_one, hM] at hq
    by_cases hkq : k = q
    · rw [if_pos hkq] at hq; cases hq
    · rw [if_neg hkq] at hq
      exact .inl ⟨hq, rfl, fun b hb => hblk q b (fun e => hkq e.symm) (.inr ⟨e, n, g, hq, hb⟩)⟩
omit C in
theorem run_storeVar {t : TypeId} {ad : Addr} {v : Value} {w' : World} (ht : tyOk P t = true) (hs : v.cells.size = sizeT P t) (h : (storeCells ad v.cells.toList).run P w = .ok () w') : (Instr.storeAt t (.pointer (some ad)) v).run P w = .ok () w' := by
  simp [Instr.storeAt, Instr.sureAddr, storeVar, run_sizeT ht, hs, h]
omit C in
theorem sets_append (us us' : List (Nat × Ob)) (M : Store) : M.sets (us ++ us') = (M.sets us).sets us' := by
  induction us generalizing M with
  | nil => rfl
  | cons u us ih => exact ih _
omit C in
theorem get_late {ks : List Nat} {k : Nat} {o : Ob} (hk : k ∉ ks) (q : Nat) : (M.sets ((k, o) :: consumed ks)).get q = (M.sets (consumed ks ++ [(k, o)])).get q := by
  rw [sets_append]
  show ((M.set k o).sets (consumed ks)).get q = ((M.sets (consumed ks)).set k o).get q
  rw [get_kills, Store.get_set, Store.get_set, get_kills]
  by_cases h1 : k = q
  · subst h1; simp [hk]
  · simp [h1]
omit C in
theorem upd_row (h : Sim P w0 w M β hd) {k i off b : Nat} {e : TypeId} {n : Nat} {g : Nat → Nat → T} {vs : Array Value} {xs : List T} (hm : M.get k = some (.row e n g)) (hb : (hd k).ownBlock = some b) (hi : i < n)
    (hle : off + vs.size ≤ (lv P e).length) (hxl : xs.length = vs.size) (hone : ∀ v ∈ vs.toList, v.oneCell' = true) (hrt : ∀ j τ, j < vs.size → (lv P e)[off + j]? = some τ → RT P w (Own M β hd) τ (xs.getD j (.b false)) (vs.getD j undef)) :
    ∃ w', (storeCells ⟨b, i * (lv P e).length + off, none⟩ vs.toList).run P w = .ok () w' ∧ Done P w0 w M β hd .und [(k, .row e n fun i' j' => bif i' == i && Nat.ble off j' && Nat.blt j' (off + xs.length) then xs.getD (j' - off) (.b false) else g i' j')] undef w' := by
  obtain ⟨hpos, ys, hown, hys⟩ := h.row k e n g hm
  have how : Owns M β hd k b := .inr ⟨e, n, g, hm, hb⟩
  rcases hown.2 with ⟨h1, _⟩ | ⟨gb, cap, cur, hhd, hge, hheap, hnc, hcm, hcs, htake⟩
  · rw [h1] at hb; simp [Value.ownBlock] at hb
  obtain rfl : gb = b := by rw [hhd] at hb; simpa [Value.ownBlock] using hb
  generalize hL : (lv P e).length = L at *
  have hmul : i * L + L ≤ n * L := by rw [← Nat.succ_mul]; exact Nat.mul_le_mul_right _ hi
  have hmul2 : n * L ≤ cap * L := Nat.mul_le_mul_right _ hnc
  have hrun := run_storeCells_at P gb (i * L + off) e vs.toList 0 cur w hheap (by simp; omega) hone
  simp only [Nat.add_zero, Array.length_toList] at hrun
  have harr : (cur.toList.take (i * L + off) ++ vs.toList ++ cur.toList.drop (i * L + off + vs.size)).toArray = upd cur (i * L + off) vs := by
    apply Array.ext'
    apply List.ext_getElem?
    intro q
    have hs1 : (upd cur (i * L + off) vs).size = cur.size := upd_size ..
    have hlen : (cur.toList.take (i * L + off) ++ vs.toList ++ cur.toList.drop (i * L + off + vs.size)).length = cur.size := by simp; omega
    by_cases hq : q < cur.size
    · have e1 : (upd cur (i * L + off) vs).toList[q]? = some ((upd cur (i * L + off) vs).getD q undef) := by
        rw [Array.getElem?_toList]
        simp [Array.getD_eq_getD_getElem?, hs1, hq]
      rw [e1, upd_get]
      simp only [List.getElem?_append, List.length_append, List.length_take, Array.length_toList, List.getElem?_take, List.getElem?_drop]
      by_cases h1 : q < i * L + off
      · rw [if_pos (by omega), if_pos (by omega), if_pos h1, if_neg (by omega)]
        simp [Array.getD_eq_getD_getElem?, hq]
      · by_cases h2 : q < i * L + off + vs.size
        · rw [if_pos (by omega), if_neg (by omega), if_pos (by omega)]
          have : q - min (i * L + off) cur.size = q - (i * L + off) := by omega
          rw [this]
          have h3 : q - (i * L + off) < vs.size := by omega
          simp [Array.getD_eq_getD_getElem?, h3]
        · rw [if_neg (by omega), if_neg (by omega)]
          have : i * L + off + vs.size + (q - (min (i * L + off) cur.size + vs.size)) = q := by omega
          rw [this]
          simp [Array.getD_eq_getD_getElem?, hq]
    · rw [List.getElem?_eq_none (by rw [hlen]; omega), List.getElem?_eq_none (by simp [hs1]; omega)]
  rw [harr] at hrun
  refine ⟨_, hrun, ?_⟩
  generalize hG : (fun i' j' => bif i' == i && Nat.ble off j' && Nat.blt j' (off + xs.length) then xs.getD (j' - off) (.b false) else g i' j') = G
  have hM : ∀ q, (M.set k (.row e n G)).get q = if k = q then some (.row e n G) else M.get q := Store.get_set M k _
  have howns : ∀ q b, Owns (M.set k (.row e n G)) β hd q b → Owns M β hd q b := by
    intro q b ho
    unfold Owns at ho ⊢
    rw [hM] at ho
    by_cases hq : k = q
    · subst hq
      rw [if_pos rfl] at ho
      rcases ho with ⟨_, _, h1, _⟩ | ⟨_, _, _, h1, h2⟩
      · cases h1
      · exact .inr ⟨e, n, g, hm, h2⟩
    · rw [if_neg hq] at ho
      exact ho
  have hk : Keeps w (Own M β hd) (w.setRow gb (upd cur (i * L + off) vs)) (Own (M.set k (.row e n G)) β hd) :=
    ⟨by simp [World.setRow], fun b hb hob => ⟨setRow_other w gb b _ (fun e => hob (.inl ⟨k, e ▸ how⟩)), fun ho => hob (ho.imp (fun ⟨q, ho⟩ => ⟨q, howns q b ho⟩) id)⟩⟩
  have he : Ext M β hd (M.set k (.row e n G)) β hd := by
    refine ⟨fun q hq => ?_, fun q t' cs' hq h0 => ?_, fun q e' n' g' hq h0 => ?_, rfl⟩
    · rw [hM]; split <;> simp_all
    · rw [hM] at hq
      by_cases hkq : k = q
      · rw [if_pos hkq] at hq; cases hq
      · rw [if_neg hkq] at hq; exact ⟨⟨cs', hq⟩, rfl⟩
    · rw [hM] at hq
      by_cases hkq : k = q
      · subst hkq
        rw [if_pos rfl] at hq
        cases hq
        exact ⟨⟨g, hm⟩, rfl⟩
      · rw [if_neg hkq] at hq; exact ⟨⟨g', hq⟩, rfl⟩
  have hblk : ∀ q b, q ≠ k → Owns M β hd q b → (w.setRow gb (upd cur (i * L + off) vs)).heap[b]? = w.heap[b]? := fun q b hq ho =>
    setRow_other w gb b _ (fun e => hq (h.inj q k b ho (e ▸ how)))
  refine ⟨β, hd, .und _, ?_, he, hk⟩
  refine h.evolve ?_ hk he (fun q b ho => ?_) (fun q q' b h1 h2 => h.inj q q' b (howns q b h1) (howns q' b h2)) (fun q t' cs' hq => ?_) (fun q e' n' g' hq => ?_)
  · exact h.below.trans ⟨rfl, rfl, rfl, by simp [World.setRow], fun b hb => setRow_other w gb b _ (fun e => hb (e ▸ (h.ge k gb how).1))⟩
  · have := h.ge q b (howns q b ho)
    simpa [World.setRow] using this
  · rw [Store.sets_one, hM] at hq
    by_cases hkq : k = q
    · rw [if_pos hkq] at hq; cases hq
    · rw [if_neg hkq] at hq
      exact .inl ⟨hq, rfl, hblk q _ (fun e => hkq e.symm) (.inl ⟨t', cs', hq, rfl⟩)⟩
  · rw [Store.sets_one, hM] at hq
    by_cases hkq : k = q
    · subst hkq
      rw [if_pos rfl] at hq
      cases hq
      have hs1 : (upd cur (i * L + off) vs).size = cur.size := upd_size ..
      rw [hL]
      refine .inr ⟨by omega, (upd cur (i * L + off) vs).toList.take (n * L), ⟨by simp [hs1]; omega, .inr ⟨gb, cap, _, hhd, hge, setRow_heap w gb cur _ e _ hheap, hnc, hcm, by rw [hs1]; exact hcs, rfl⟩⟩, fun i' j' τ hi' hj' => ?_⟩
      have hj'' : j' < L := by rw [← hL]; exact (List.getElem?_eq_some_iff.1 hj').1
      have hmul3 : i' * L + L ≤ n * L := by rw [← Nat.succ_mul]; exact Nat.mul_le_mul_right _ hi'
      refine ⟨(upd cur (i * L + off) vs).getD (i' * L + j') undef, ?_, ?_⟩
      · rw [List.getElem?_take, if_pos (by omega), Array.getElem?_toList]
        have : i' * L + j' < (upd cur (i * L + off) vs).size := by rw [hs1]; omega
        simp [Array.getD_eq_getD_getElem?, this]
      · have e0 : G i' j' = (bif i' == i && Nat.ble off j' && Nat.blt j' (off + xs.length) then xs.getD (j' - off) (.b false) else g i' j') := by rw [← hG]
        rw [upd_get, e0]
        by_cases hin : i' = i ∧ off ≤ j' ∧ j' < off + vs.size
        · obtain ⟨rfl, h1, h2⟩ := hin
          rw [if_pos (by omega)]
          have hb1 : (i' == i' && Nat.ble off j' && Nat.blt j' (off + xs.length)) = true := by
            have e1 : Nat.ble off j' = true := by rw [Nat.ble_eq]; exact h1
            have e2 : Nat.blt j' (off + xs.length) = true := by rw [hxl, Nat.blt_eq]; exact h2
            simp [e1, e2]
          simp only [hb1, cond_true]
          have h3 := hrt (j' - off) τ (by omega) (by rw [show off + (j' - off) = j' by omega]; exact hj')
          have e3 : i' * L + j' - (i' * L + off) = j' - off := by omega
          rw [e3]
          exact h3.keep hk
        · have hnb : (i' == i && Nat.ble off j' && Nat.blt j' (off + xs.length)) = false := by
            cases hbb : (i' == i && Nat.ble off j' && Nat.blt j' (off + xs.length)) with
            | false => rfl
            | true =>
              rw [Bool.and_eq_true, Bool.and_eq_true] at hbb
              exact absurd ⟨eq_of_beq hbb.1.1, Nat.le_of_ble_eq_true hbb.1.2, by have h9 := hbb.2; rw [Nat.blt_eq] at h9; omega⟩ hin
          simp only [hnb, cond_false]
          have hcond : ¬ (i * L + off ≤ i' * L + j' ∧ i' * L + j' < i * L + off + vs.size ∧ i' * L + j' < cur.size) := by
            rintro ⟨h1, h2, _⟩
            have : i' = i := by
              rcases Nat.lt_trichotomy i' i with hlt | heq | hgt
              · have : i' * L + L ≤ i * L := by rw [← Nat.succ_mul]; exact Nat.mul_le_mul_right _ hlt
                omega
              · exact heq
              · have : i * L + L ≤ i' * L := by rw [← Nat.succ_mul]; exact Nat.mul_le_mul_right _ hgt
                omega
            subst this
            exact hin ⟨rfl, by omega, by omega⟩
          rw [if_neg hcond]
          obtain ⟨v, h1, h2⟩ := hys i' j' τ hi' (by rw [hL] at *; exact hj')
          have h3 : cur.getD (i' * L + j') undef = v := by
            rw [← htake, List.getElem?_take, if_pos (by omega), Array.getElem?_toList] at h1
            simp [Array.getD_eq_getD_getElem?, h1]
          rw [h3]
          exact h2.keep hk
    · rw [if_neg hkq] at hq
      exact .inl ⟨hq, rfl, fun b hb => hblk q b (fun e => hkq e.symm) (.inr ⟨e', n', g', hq, hb⟩)⟩
end
end Go.AM
