/- The engine, part 4: the other operations that only reckon or read. -/
import Derived.Test.YtljfhfgbpcaadaaDoorEng2
set_option linter.unusedSimpArgs false
set_option linter.unusedVariables false
namespace Go.AM
open Go.RowKit (Below)
section
variable {P : Program} {w : World} {t : TypeId}
theorem tyOk_inv (h : tyOk P t = true) : ∃ d i, P.underlying t = some d ∧ P.info? t = some i ∧ i.size = sizeT P t := by
  unfold tyOk at h
  split at h
  · rename_i d i h1 h2
    exact ⟨d, i, h1, h2, by simp [sizeT, h2]⟩
  · cases h
theorem run_sizeT (h : tyOk P t = true) : (sizeOf t).run P w = .ok (sizeT P t) w := by
  obtain ⟨d, i, h1, h2, h3⟩ := tyOk_inv h
  simp [sizeOf, typeInfo, h2, h3]
theorem run_sizeT' (h : 0 < sizeT P t) : (sizeOf t).run P w = .ok (sizeT P t) w := by
  unfold sizeT at h ⊢
  cases h2 : P.info? t with
  | none => rw [h2] at h; exact absurd h (by simp)
  | some i => simp [sizeOf, typeInfo, h2]
theorem run_isAg (h : tyOk P t = true) : (isAgg t).run P w = .ok (isAg P t) w := by
  obtain ⟨d, i, h1, h2, h3⟩ := tyOk_inv h
  unfold isAgg isAg
  rw [h1]
  simp only [Sem.run_bind, run_underlying h1, Result.andThen_ok]
  cases d <;> rfl
theorem not_ag_lv (h : isAg P t = false) : lv P t = [t] := by
  unfold isAg at h
  unfold lv leaves
  split <;> first | rfl | (rename_i h'; rw [h'] at h; cases h)
theorem add_eq (b o n : Nat) : (⟨b, o, none⟩ : Addr).add n = ⟨b, o + n, none⟩ := by unfold Addr.add; split <;> simp_all
end
section
variable {P : Program} {w : World} {M : Store} {β : Bn} {hd : Nat → Value}
theorem ofT_rel {τ : TypeId} {x : T} {v : Value} (h : RT P w (Own M β hd) τ x v) : RC P w M β hd (ofT P τ x) v := by
  unfold ofT
  cases h with
  | int h => rw [h]; exact .i _ _
  | bool h => rw [h]; exact .b _
  | str h => rw [h]; exact .s _
  | sl h hc b off vs ha hv hr => rw [h]; exact .sl h (.sl h hc b off vs ha hv hr)
theorem run_loadT {t e : TypeId} {c : Nat → T} {b o off : Nat} {vs : Nat → Value} (hf : fits P t e off = true)
    (hv : ∀ j τ, (lv P e)[j]? = some τ → w.cell? ⟨b, o + j, none⟩ = some (vs j)) (hr : ∀ j τ, (lv P e)[j]? = some τ → RT P w (Own M β hd) τ (c j) (vs j)) :
    ∃ v, (Instr.loadAt t (.pointer (some ⟨b, o + off, none⟩))).run P w = .ok v w ∧ RA P w M β hd (loadT P t fun j => c (off + j)) v := by
  unfold fits at hf
  rw [Bool.and_eq_true, Bool.and_eq_true] at hf
  obtain ⟨⟨hty, hlen⟩, heq⟩ := hf
  have hlen' : (lv P t).length = sizeT P t := eq_of_beq hlen
  have heq' : lv P t = ((lv P e).drop off).take (lv P t).length := eq_of_beq heq
  have hidx : ∀ j τ, (lv P t)[j]? = some τ → (lv P e)[off + j]? = some τ := by
    intro j τ hj
    rw [heq', List.getElem?_take] at hj
    split at hj
    · rw [List.getElem?_drop] at hj; exact hj
    · cases hj
  unfold Instr.loadAt Instr.sureAddr loadVar loadT
  simp only [Sem.run_bind, Sem.run_pure, Result.andThen_ok, run_isAg hty]
  cases hag : isAg P t with
  | false =>
    have h1 := not_ag_lv hag
    have h2 := hidx 0 t (by rw [h1]; rfl)
    simp only [Nat.add_zero] at h2
    refine ⟨vs off, ?_, .c (ofT_rel (by simpa using hr off t h2))⟩
    simp [run_load, hv off t h2]
  | true =>
    have hc : ∀ j, j < (lv P t).length → w.cell? ((⟨b, o + off, none⟩ : Addr).add j) = some (vs (off + j)) := by
      intro j hj
      rw [add_eq, Nat.add_assoc]
      exact hv (off + j) _ (hidx j _ (List.getElem?_eq_getElem hj))
    refine ⟨.agg ((List.range (lv P t).length).map fun j => vs (off + j)).toArray, ?_, ?_⟩
    · simp only [if_true, Sem.run_bind, run_sizeT hty, Result.andThen_ok, ← hlen', run_loadCells w _ _ _ hc]
      rfl
    · refine .ag (by simp) fun j x hj => ?_
      simp only [List.getElem?_mapIdx, Option.map_eq_some_iff] at hj
      obtain ⟨τ, hτ, rfl⟩ := hj
      have hjl : j < (lv P t).length := (List.getElem?_eq_some_iff.1 hτ).1
      have h3 : (((List.range (lv P t).length).map fun j => vs (off + j)).toArray).getD j undef = vs (off + j) := by
        simp [Array.getD_eq_getD_getElem?, hjl]
      rw [h3]
      exact ofT_rel (hr _ _ (hidx j τ hτ))
end
section
variable {ρ : Type} {P : Program} {w0 : Fr0} {w : World} {M : Store} {β : Bn} {hd : Nat → Value} {sl : List AV} {a : Act} {κ : Kk ρ} {r : ρ}
variable (C : Ctx P w0 w M β hd sl a)
include C
theorem un_ok {o : Oper} {op : UnOp} {t : TypeId} {x : Operand} (ho : o.op = .unOp op t x) (h : eUn op κ [evO sl x] = some r) : Good P w0 w M β hd a o κ r := by
  have hx := rel1 C x
  unfold eUn at h
  split at h
  · rename_i k n heq
    injection heq with heq
    rw [heq] at hx
    have rx := hx.i_inv
    split at h
    · exact good_pure C h (by simp [execOp, ho, rx, Op.unary, Op.intArith]; try rfl) (.c (.i ..))
    · exact good_pure C h (by simp [execOp, ho, rx, Op.unary, Op.intBits, bitsOf]; try rfl) (.c (.i ..))
    · cases h
  · rename_i c heq
    injection heq with heq
    rw [heq] at hx
    have rx := hx.b_inv
    split at h
    · exact good_pure C h (by simp [execOp, ho, rx, Op.unary]; try rfl) (.c (.b ..))
    · cases h
  · cases h
theorem conv_ok {o : Oper} {s d : TypeId} {x : Operand} (ho : o.op = .convert s d x) (h : eConv P s d κ [evO sl x] = some r) : Good P w0 w M β hd a o κ r := by
  have hx := rel1 C x
  unfold eConv at h
  split at h
  · rename_i k n heq
    injection heq with heq
    rw [heq] at hx
    have rx := hx.i_inv
    split at h
    · rename_i hs hdd
      exact good_pure C h (by simp [execOp, ho, rx, convert, run_underlying hs, run_underlying hdd, Conv.intToInt]; try rfl) (.c (.i ..))
    · cases h
  · rename_i y heq
    injection heq with heq
    rw [heq] at hx
    have rx := hx.s_inv
    split at h
    · rename_i hs hdd
      exact good_pure C h (by simp [execOp, ho, rx, convert, run_underlying hs, run_underlying hdd]; try rfl) (.c (.s ..))
    · cases h
  · cases h
omit C in
theorem lk_looks {ks : List Nat} {k : Nat} {ob : Ob} (h : lk (looks M ks) k = some ob) : M.get k = some ob := by
  unfold lk looks at h
  induction ks with
  | nil => simp at h
  | cons q ks ih =>
    simp only [List.map_cons, List.find?_cons] at h
    by_cases hq : q = k
    · subst hq
      simpa using h
    · have : (q == k) = false := by simpa using hq
      simp only [this] at h
      exact ih h
omit C in
theorem isBox_inv {os : List (Nat × Option Ob)} (hos : ∀ k ob, lk os k = some ob → M.get k = some ob) {k : Nat} (h : isBox os k = true) : ∃ t cs, M.get k = some (.box t cs) ∧ isMapT t = false := by
  unfold isBox at h
  split at h
  · exact ⟨_, _, hos _ _ ‹_›, by simpa using h⟩
  · cases h
omit C in
theorem isRow_inv {os : List (Nat × Option Ob)} (hos : ∀ k ob, lk os k = some ob → M.get k = some ob) {k : Nat} (h : isRow os k = true) : ∃ e n g, M.get k = some (.row e n g) := by
  unfold isRow at h
  split at h
  · exact ⟨_, _, _, hos _ _ ‹_›⟩
  · cases h
omit C in
theorem RA.ptr_inv {k off : Nat} {v : Value} (h : RA P w M β hd (.ptr k off) v) {t : TypeId} {cs : List AV} (hm : M.get k = some (.box t cs)) (ht : isMapT t = false) : v = .pointer (some ⟨β k, off, none⟩) := by
  cases h with
  | c h =>
    cases h with
    | ptr h0 h1 h => rw [h t cs hm, ptrV_box ht]
omit C in
theorem RA.map_inv {k off : Nat} {v : Value} (h : RA P w M β hd (.ptr k off) v) {t : TypeId} {cs : List AV} (hm : M.get k = some (.box t cs)) (ht : isMapT t = true) : v = .map (some (β k)) := by
  cases h with
  | c h =>
    cases h with
    | ptr h0 h1 h => rw [h t cs hm, ptrV_map ht]
omit C in
theorem RA.ep_inv {k i off : Nat} {v : Value} (h : RA P w M β hd (.ep k i off) v) {e : TypeId} {n : Nat} {g : Nat → Nat → T} (hm : M.get k = some (.row e n g)) : ∃ b, (hd k).ownBlock = some b ∧ v = .pointer (some ⟨b, i * (lv P e).length + off, none⟩) := by
  cases h with
  | c h =>
    cases h with
    | ep h0 h1 h => exact h e n g hm
omit C in
theorem RA.rowv_inv {k off len : Nat} {v : Value} (h : RA P w M β hd (.row k off len) v) {e : TypeId} {n : Nat} {g : Nat → Nat → T} (hm : M.get k = some (.row e n g)) : RowV P e (hd k) n off len v := by
  cases h with
  | c h =>
    cases h with
    | row h0 h1 h => exact h e n g hm
omit C in
theorem RA.rp_inv {e : TypeId} {c : Nat → T} {off : Nat} {v : Value} (h : RA P w M β hd (.rp e c off) v) : ∃ (b o : Nat) (vs : Nat → Value), v = .pointer (some ⟨b, o + off, none⟩) ∧ b < w.heap.size ∧ ¬ Own M β hd b ∧ (∀ j τ, (lv P e)[j]? = some τ → w.cell? ⟨b, o + j, none⟩ = some (vs j)) ∧ (∀ j τ, (lv P e)[j]? = some τ → RT P w (Own M β hd) τ (c j) (vs j)) := by
  cases h with
  | c h =>
    cases h with
    | rp off b o vs hb ho hv hr => exact ⟨b, o, vs, rfl, hb, ho, hv, hr⟩
omit C in
theorem RA.cell {x : AV} {v : Value} (h : RA P w M β hd x v) (hx : isCell x = true) : RC P w M β hd x v := by
  cases h with
  | c h => exact h
  | ag => cases hx
  | tup => cases hx
  | und => cases hx
omit C in
theorem RA.cells {x : AV} {v : Value} (h : RA P w M β hd x v) (hx : cellsOk x = true) : (cellsOf x).length = v.cells.size ∧ ∀ j c, (cellsOf x)[j]? = some c → RC P w M β hd c (v.cells.getD j undef) := by
  cases h with
  | c h =>
    have h1 := h.one
    have h2 : cellsOf x = [x] := by cases h <;> rfl
    have h3 : v.cells = #[v] := by cases v <;> first | rfl | (simp [Value.oneCell'] at h1)
    rw [h2, h3]
    refine ⟨rfl, fun j c hj => ?_⟩
    cases j with
    | zero => simp at hj; subst hj; exact h
    | succ j => simp at hj
  | ag hl h => exact ⟨hl, h⟩
  | tup => cases hx
  | und => cases hx
omit C in
theorem RowV.slice {P : Program} {e : TypeId} {h v : Value} {n off len : Nat} (r : RowV P e h n off len v) : ∃ A c, v = .slice A len c := by
  rcases r with ⟨_, ⟨A, rfl⟩, _, rfl⟩ | ⟨g, cap, a, _, _, _, rfl, _⟩
  · exact ⟨A, 0, rfl⟩
  · exact ⟨some a, _, rfl⟩
variable {os : List (Nat × Option Ob)} (hos : ∀ k ob, lk os k = some ob → M.get k = some ob)
include hos
theorem nilCheck_ok {o : Oper} {x : Operand} (ho : o.op = .nilCheck x) (h : eNilCheck os κ [evO sl x] = some r) : Good P w0 w M β hd a o κ r := by
  have hx := rel1 C x
  unfold eNilCheck at h
  split at h
  · rename_i e c off heq
    injection heq with heq
    rw [heq] at hx
    obtain ⟨b, o', vs, hv, _⟩ := hx.rp_inv
    exact good_pure C h (by simp [execOp, ho, hv]) (hv ▸ hx)
  · rename_i k off heq
    injection heq with heq
    rw [heq] at hx
    obtain ⟨hb, h⟩ := bif_inv h
    obtain ⟨t, cs, hm, hnm⟩ := isBox_inv hos hb
    have hv := hx.ptr_inv hm hnm
    exact good_pure C h (by simp [execOp, ho, hv]) (hv ▸ hx)
  · rename_i k i off heq
    injection heq with heq
    rw [heq] at hx
    obtain ⟨hb, h⟩ := bif_inv h
    obtain ⟨e, n, g, hm⟩ := isRow_inv hos hb
    obtain ⟨b, _, hv⟩ := hx.ep_inv hm
    exact good_pure C h (by simp [execOp, ho, hv]) (hv ▸ hx)
  · cases h
omit hos C in
theorem run_call_builtin {o : Oper} {c : Call} {b : Builtin} (ho : o.op = .call c) (hc : c.callee = .builtin b) {v : Value} {w' : World} (hb : ∀ cs, (builtin b c.argTypes o.type cs (c.args.map a.eval)).run P w = .ok (.value v) w') : (execOp a.eval o).run P w = .ok (.value v) w' := by
  simp [execOp, ho, resolve, hc, invoke, hb]
theorem len_ok {o : Oper} {c : Call} {t : TypeId} {x : Operand} (ho : o.op = .call c) (hc : c.callee = .builtin .len) (ha : c.args = #[x]) (hts : c.argTypes = #[t]) (h : eLen P t os κ [evO sl x] = some r) : Good P w0 w M β hd a o κ r := by
  have hx := rel1 C x
  have key : ∀ {v : Value} {m : Int}, a.eval x = v → (Builtin.len_ #[t] o.type #[v]).run P w = .ok (.int .i64 m) w → κ (.i .i64 m) [] = some r → Good P w0 w M β hd a o κ r := by
    intro v m hv hr hk
    refine good_pure C hk (run_call_builtin ho hc (fun cs => ?_)) (.c (.i ..))
    simp [ha, hts, builtin, hv, hr]
  unfold eLen at h
  split at h
  · rename_i y heq
    injection heq with heq
    rw [heq] at hx
    split at h
    · rename_i hu
      exact key hx.s_inv (by simp [Builtin.len_, run_underlying hu, goInt]) h
    · cases h
  · rename_i e y heq
    injection heq with heq
    rw [heq] at hx
    obtain ⟨t', A, cc, _, hv, _⟩ := hx.sl_inv
    split at h
    · rename_i hu
      exact key hv (by simp [Builtin.len_, run_underlying hu, goInt]) h
    · cases h
  · rename_i heq
    injection heq with heq
    rw [heq] at hx
    split at h
    · rename_i hu
      obtain ⟨A, hA⟩ := hx.nl_inv
      exact key hA (by simp [Builtin.len_, run_underlying hu, goInt]) h
    · cases h
  · rename_i k off n heq
    injection heq with heq
    rw [heq] at hx
    split at h
    · rename_i hu
      obtain ⟨hb, h⟩ := bif_inv h
      obtain ⟨e, n', g, hm⟩ := isRow_inv hos hb
      obtain ⟨A, cc, hv⟩ := (hx.rowv_inv hm).slice
      exact key hv (by simp [Builtin.len_, run_underlying hu, goInt]) h
    · cases h
  · rename_i k off heq
    injection heq with heq
    rw [heq] at hx
    split at h
    · rename_i bt e y hlk
      obtain ⟨hb, h⟩ := bif_inv h
      rw [Bool.and_eq_true] at hb
      have hbt : bt = MB + t := eq_of_beq hb.1
      have hm := hos _ _ hlk
      have h1 : isMapT bt = true := by rw [hbt]; unfold isMapT; exact Nat.ble_eq_true_of_le (Nat.le_add_right _ _)
      obtain ⟨t0, kt, vt, x', es, q1, q2, q3, q4, q5, q6, q7, q8⟩ := (C.sim.box k bt _ hm).map h1
      obtain rfl : t = t0 := Nat.add_left_cancel (n := MB) (hbt.symm.trans q1)
      cases q5
      refine key (hx.map_inv hm h1) ?_ h
      simp [Builtin.len_, run_underlying q2, goInt, getObj, Sem.run, q6, q7, Result.andThen]
    · cases h
  · cases h
omit hos
theorem cap_ok {o : Oper} {c : Call} {t : TypeId} {x : Operand} (ho : o.op = .call c) (hc : c.callee = .builtin .cap) (ha : c.args = #[x]) (hts : c.argTypes = #[t]) (h : eCap P t κ [evO sl x] = some r) : Good P w0 w M β hd a o κ r := by
  have hx := rel1 C x
  unfold eCap at h
  split at h
  · rename_i heq
    injection heq with heq
    rw [heq] at hx
    split at h
    · rename_i hu
      refine good_pure C h (run_call_builtin ho hc (fun cs => ?_)) (.c (.i ..))
      obtain ⟨A, hA⟩ := hx.nl_inv
      simp [ha, hts, builtin, hA, Builtin.cap_, run_underlying hu, goInt]
    · cases h
  · cases h
theorem max_ok {o : Oper} {c : Call} {x y : Operand} (ho : o.op = .call c) (hc : c.callee = .builtin .max) (ha : c.args = #[x, y]) (h : eMax2 κ [evO sl x, evO sl y] = some r) : Good P w0 w M β hd a o κ r := by
  have hx := rel1 C x
  have hy := rel1 C y
  unfold eMax2 at h
  split at h
  · rename_i k m k' n heq
    injection heq with h1 h2
    injection h2 with h2 _
    rw [h1] at hx
    rw [h2] at hy
    refine good_pure C h (run_call_builtin ho hc (fun cs => ?_)) (.c (.i ..))
    simp [ha, builtin, hx.i_inv, hy.i_inv, Builtin.max_, Builtin.max2]
  · cases h
theorem max3_ok {o : Oper} {c : Call} {x y z : Operand} (ho : o.op = .call c) (hc : c.callee = .builtin .max) (ha : c.args = #[x, y, z]) (h : eMax3 κ [evO sl x, evO sl y, evO sl z] = some r) : Good P w0 w M β hd a o κ r := by
  have hx := rel1 C x
  have hy := rel1 C y
  have hz := rel1 C z
  unfold eMax3 at h
  split at h
  · rename_i k m k' n k'' q heq
    injection heq with h1 h2
    injection h2 with h2 h3
    injection h3 with h3 _
    rw [h1] at hx
    rw [h2] at hy
    rw [h3] at hz
    refine good_pure C h (run_call_builtin ho hc (fun cs => ?_)) (.c (.i ..))
    simp [ha, builtin, hx.i_inv, hy.i_inv, hz.i_inv, Builtin.max_, Builtin.max2]
  · cases h
theorem min_ok {o : Oper} {c : Call} {x y : Operand} (ho : o.op = .call c) (hc : c.callee = .builtin .min) (ha : c.args = #[x, y]) (h : eMin κ [evO sl x, evO sl y] = some r) : Good P w0 w M β hd a o κ r := by
  have hx := rel1 C x
  have hy := rel1 C y
  unfold eMin at h
  split at h
  · rename_i k m k' n heq
    injection heq with h1 h2
    injection h2 with h2 _
    rw [h1] at hx
    rw [h2] at hy
    refine good_pure C h (run_call_builtin ho hc (fun cs => ?_)) (.c (.i ..))
    simp [ha, builtin, hx.i_inv, hy.i_inv, Builtin.min_, Builtin.min2]
  · cases h
theorem extract_ok {o : Oper} {j : Nat} {x : Operand} (ho : o.op = .extract x j) (h : eExtract j κ [evO sl x] = some r) : Good P w0 w M β hd a o κ r := by
  have hx := rel1 C x
  unfold eExtract at h
  split at h
  · rename_i vs heq
    injection heq with heq
    rw [heq] at hx
    obtain ⟨us, hv, hl, hr⟩ := hx.tup_inv
    split at h
    · rename_i y hj
      have hlt : j < us.size := by rw [← hl]; exact (List.getElem?_eq_some_iff.1 hj).1
      refine good_pure C h ?_ (hr j y hj)
      simp [execOp, ho, hv, Instr.extract, Array.getD_eq_getD_getElem?, hlt]
    · cases h
  · cases h
theorem makeFunc_ok {o : Oper} {fn : Fn} {first caps : Array Operand} {vs : List AV} (ho : o.op = .makeFunc fn first caps) (hvs : vs = (first ++ caps).toList.map (evO sl)) (h : eMakeFunc fn first caps vs κ = some r) : Good P w0 w M β hd a o κ r := by
  unfold eMakeFunc at h
  split at h
  · rename_i f
    obtain ⟨hb, h'⟩ := bif_inv h
    rw [Bool.and_eq_true, Bool.and_eq_true] at hb
    have hf : first = #[] := Array.eq_empty_of_size_eq_zero (eq_of_beq hb.1.1)
    subst hf
    refine good_pure C (x := .func (.func f) #[] (caps.map a.eval)) h' (by simp [execOp, ho, Instr.makeFunc]) (.c (.clo (by simpa using hb.1.2) (by simp [hvs]) fun j x hj => ?_))
    have hc := List.all_eq_true.1 hb.2 x (List.mem_of_getElem? hj)
    rw [hvs] at hj
    simp only [Array.empty_append, List.getElem?_map, Option.map_eq_some_iff] at hj
    obtain ⟨p, hp, rfl⟩ := hj
    have h2 : (caps.map a.eval).getD j undef = a.eval p := by
      rw [Array.getElem?_toList] at hp
      simp [Array.getD_eq_getD_getElem?, hp]
    rw [h2]
    exact (rel1 C p).cell hc
  · cases h
omit C in
theorem part_run {t : TypeId} {cs : List AV} {us : Array Value} {off : Nat} (hl : cs.length = us.size) (hr : ∀ j x, cs[j]? = some x → RC P w M β hd x (us.getD j undef)) (h : ePart P t cs off κ = some r) :
    ∃ v x, κ v [] = some r ∧ (part t us off).run P w = .ok x w ∧ RA P w M β hd v x := by
  unfold ePart at h
  obtain ⟨ht, h⟩ := bif_inv h
  unfold part
  simp only [Sem.run_bind, run_isAg ht, Result.andThen_ok]
  cases hag : isAg P t with
  | true =>
    rw [hag] at h
    simp only [cond_true] at h
    obtain ⟨hle, h⟩ := bif_inv h
    have hle : off + sizeT P t ≤ cs.length := Nat.le_of_ble_eq_true hle
    refine ⟨_, .agg (us.extract off (off + sizeT P t)), h, by simp [run_sizeT ht], .ag (by simp; omega) fun j x hj => ?_⟩
    rw [List.getElem?_take] at hj
    split at hj
    · rw [List.getElem?_drop] at hj
      have h3 : (us.extract off (off + sizeT P t)).getD j undef = us.getD (off + j) undef := by
        have h4 : off + j < us.size := by rw [← hl]; exact (List.getElem?_eq_some_iff.1 hj).1
        simp only [Array.getD_eq_getD_getElem?, Array.getElem?_extract]
        rw [if_pos (by omega)]
      rw [h3]
      exact hr _ _ hj
    · cases hj
  | false =>
    rw [hag] at h
    simp only [cond_false] at h
    split at h
    · rename_i v hv
      have hlt : off < us.size := by rw [← hl]; exact (List.getElem?_eq_some_iff.1 hv).1
      refine ⟨v, us.getD off undef, h, ?_, .c (hr off v hv)⟩
      simp [Array.getD_eq_getD_getElem?, hlt]
    · cases h
omit C in
theorem fieldOf_inv {t : TypeId} {f : Nat} {fd : Field} (h : fieldOf P t f = some fd) : ∃ fs, P.underlying t = some (.struct fs) ∧ fs[f]? = some fd := by
  unfold fieldOf at h
  split at h
  · exact ⟨_, ‹_›, h⟩
  · cases h
theorem field_ok {o : Oper} {t : TypeId} {f : Nat} {x : Operand} (ho : o.op = .field t x f) (h : eField P t f κ [evO sl x] = some r) : Good P w0 w M β hd a o κ r := by
  have hx := rel1 C x
  unfold eField at h
  split at h
  · rename_i cs heq
    injection heq with heq
    rw [heq] at hx
    obtain ⟨us, hv, hl, hr⟩ := hx.ag_inv
    split at h
    · rename_i fd hf
      obtain ⟨fs, hu, hfs⟩ := fieldOf_inv hf
      obtain ⟨v, y, hk, hrun, hrel⟩ := part_run hl hr h
      refine good_pure C hk ?_ hrel
      simp [execOp, ho, hv, Instr.field, run_underlying hu, hfs, asAgg, hrun]
    · cases h
  · cases h
omit C in
theorem pickN_inv0 {i : Int} {f : Nat → Option ρ} : ∀ {m c0 : Nat}, pickN i f m c0 = some r → ∃ c, c0 ≤ c ∧ c < c0 + m ∧ i = (c : Int) ∧ f c = some r
  | 0, _, h => by cases h
  | m + 1, c0, h => by
    simp only [pickN] at h
    cases hb : i == (c0 : Int) with
    | true =>
      rw [hb] at h
      exact ⟨c0, Nat.le_refl _, by omega, eq_of_beq hb, h⟩
    | false =>
      rw [hb] at h
      obtain ⟨c, h1, h2, h3, h4⟩ := pickN_inv0 (m := m) (c0 := c0 + 1) h
      exact ⟨c, by omega, by omega, h3, h4⟩
omit C in
theorem pickN_inv {i : Int} {f : Nat → Option ρ} {m : Nat} (h : pickN i f m 0 = some r) : ∃ c, c < m ∧ i = (c : Int) ∧ f c = some r := by
  obtain ⟨c, _, h2, h3, h4⟩ := pickN_inv0 h
  exact ⟨c, by omega, h3, h4⟩
theorem index_ok {o : Oper} {t : TypeId} {x y : Operand} (ho : o.op = .index t x y) (h : eIndex P t κ [evO sl x, evO sl y] = some r) : Good P w0 w M β hd a o κ r := by
  have hx := rel1 C x
  have hy := rel1 C y
  unfold eIndex at h
  split at h
  · rename_i z k i heq
    injection heq with h1 h2
    injection h2 with h2 _
    rw [h1] at hx
    rw [h2] at hy
    split at h
    · rename_i hu
      obtain ⟨hc, h⟩ := iff_inv h
      rw [Bool.and_eq_true] at hc
      have hi0 : 0 ≤ i := of_decide_eq_true hc.1
      have hi1 : i < (z.size : Int) := of_decide_eq_true hc.2
      have hlt : i.toNat < z.size := by omega
      refine good_pure C h ?_ (.c (.i ..))
      have hz : z[i.toNat]? = some (z[i.toNat]) := by simp [hlt]
      simp [execOp, ho, hx.s_inv, hy.i_inv, Instr.index, asIntOf, run_underlying hu, hi0, hz, bt]
      have hd : i.toNat < z.data.size := hlt
      rw [Array.getElem?_eq_getElem hd]
      rfl
    · cases h
  · rename_i cs k i heq
    injection heq with h1 h2
    injection h2 with h2 _
    rw [h1] at hx
    rw [h2] at hy
    split at h
    · rename_i m e hu
      obtain ⟨c, hcm, hic, h'⟩ := pickN_inv h
      clear h
      have h := h'
      have hi0 : 0 ≤ i := by omega
      have hi1 : i < (m : Int) := by omega
      obtain rfl : i.toNat = c := by omega
      obtain ⟨us, hv, hl, hr⟩ := hx.ag_inv
      have hty : tyOk P e = true := by
        unfold ePart at h
        exact (bif_inv h).1
      obtain ⟨v, z, hk, hrun, hrel⟩ := part_run hl hr h
      refine good_pure C hk ?_ hrel
      simp [execOp, ho, hv, hy.i_inv, Instr.index, asIntOf, run_underlying hu, hi0, hi1, run_sizeT hty, hrun]
    · cases h
  · cases h
include hos
theorem load_ok {o : Oper} {t : TypeId} {x : Operand} (ho : o.op = .load t x) (h : eLoad P t os κ [evO sl x] = some r) : Good P w0 w M β hd a o κ r := by
  have hx := rel1 C x
  unfold eLoad at h
  split at h
  · rename_i e c off heq
    injection heq with heq
    rw [heq] at hx
    obtain ⟨hf, h⟩ := bif_inv h
    obtain ⟨b, o', vs, hv, hb, hob, hvs, hr⟩ := hx.rp_inv
    obtain ⟨v, hrun, hrel⟩ := run_loadT hf hvs hr
    exact good_pure C h (by simp [execOp, ho, hv, hrun]) hrel
  · rename_i k off heq
    injection heq with heq
    rw [heq] at hx
    split at h
    · rename_i bt cs hlk
      have hm := hos _ _ hlk
      obtain ⟨hb, h⟩ := bif_inv h
      rw [Bool.and_eq_true, Bool.and_eq_true] at hb
      obtain ⟨hnm, ht, hle⟩ := hb
      have hnm : isMapT bt = false := by simpa using hnm
      have hv := hx.ptr_inv hm hnm
      obtain ⟨c, el, hheap, hsz, hcs⟩ := (C.sim.box k bt cs hm).cells hnm
      have hle : off + sizeT P t ≤ cs.length := Nat.le_of_ble_eq_true hle
      have hcell : ∀ j, off + j < c.size → w.cell? ((⟨β k, off, none⟩ : Addr).add j) = some (c.getD (off + j) undef) := by
        intro j hj
        rw [add_eq]
        simp [World.cell?, hheap, Array.getD_eq_getD_getElem?, hj]
      cases hag : isAg P t with
      | true =>
        rw [hag] at h
        simp only [cond_true] at h
        have hrun : (Instr.loadAt t (a.eval x)).run P w = .ok (.agg ((List.range (sizeT P t)).map fun j => c.getD (off + j) undef).toArray) w := by
          rw [hv]
          unfold Instr.loadAt Instr.sureAddr loadVar
          simp only [Sem.run_bind, Sem.run_pure, Result.andThen_ok, run_isAg ht, hag, if_true, run_sizeT ht]
          rw [run_loadCells w _ _ (fun j => c.getD (off + j) undef) (fun j hj => hcell j (by omega))]
          rfl
        refine good_pure C (x := .agg ((List.range (sizeT P t)).map fun j => c.getD (off + j) undef).toArray) h (by simp [execOp, ho, hrun]) (.ag (by simp; omega) fun j y hj => ?_)
        rw [List.getElem?_take] at hj
        split at hj
        · rename_i hjs
          rw [List.getElem?_drop] at hj
          have h3 : (((List.range (sizeT P t)).map fun j => c.getD (off + j) undef).toArray).getD j undef = c.getD (off + j) undef := by
            simp [Array.getD_eq_getD_getElem?, hjs]
          rw [h3]
          exact hcs _ _ hj
        · cases hj
      | false =>
        rw [hag] at h
        simp only [cond_false] at h
        split at h
        · rename_i v hj
          have hlt : off < c.size := by rw [hsz]; exact (List.getElem?_eq_some_iff.1 hj).1
          have h0 := hcell 0 (by omega)
          rw [add_eq] at h0
          simp only [Nat.add_zero] at h0
          refine good_pure C h (x := c.getD off undef) ?_ (.c (hcs off v hj))
          simp [execOp, ho, hv, Instr.loadAt, Instr.sureAddr, loadVar, run_isAg ht, hag, h0]
        · cases h
    · cases h
  · rename_i k i off heq
    injection heq with heq
    rw [heq] at hx
    split at h
    · rename_i e n g hlk
      have hm := hos _ _ hlk
      obtain ⟨b, hb, hv⟩ := hx.ep_inv hm
      obtain ⟨hf, h⟩ := bif_inv h
      obtain ⟨hin, h⟩ := iff_inv h
      have hin : i < n := of_decide_eq_true hin
      obtain ⟨hpos, xs, hown, hxs⟩ := C.sim.row k e n g hm
      have hlt := (C.sim.ge k b (.inr ⟨e, n, g, hm, hb⟩))
      have hrun : ∃ v, (Instr.loadAt t (.pointer (some ⟨b, i * (lv P e).length + off, none⟩))).run P w = .ok v w ∧ RA P w M β hd (loadT P t fun j => g i (off + j)) v := by
        refine run_loadT (vs := fun j => xs.getD (i * (lv P e).length + j) undef) hf (fun j τ hj => ?_) (fun j τ hj => ?_)
        · obtain ⟨v, h1, h2⟩ := hxs i j τ hin hj
          have := hown.cells hb _ v h1
          rw [add_eq, Nat.zero_add] at this
          rw [this, List.getD_eq_getElem?_getD, h1]
          rfl
        · obtain ⟨v, h1, h2⟩ := hxs i j τ hin hj
          rw [List.getD_eq_getElem?_getD, h1]
          exact h2
      obtain ⟨v, hr1, hr2⟩ := hrun
      exact good_pure C h (by simp [execOp, ho, hv, hr1]) hr2
    · cases h
  · cases h
theorem fieldAddr_ok {o : Oper} {t : TypeId} {f : Nat} {x : Operand} (ho : o.op = .fieldAddr t x f) (h : eFieldAddr P t f os κ [evO sl x] = some r) : Good P w0 w M β hd a o κ r := by
  have hx := rel1 C x
  unfold eFieldAddr at h
  split at h
  · rename_i y heq
    injection heq with heq
    rw [heq] at hx
    split at h
    · rename_i fd hf
      obtain ⟨fs, hu, hfs⟩ := fieldOf_inv hf
      obtain ⟨hpos, h⟩ := bif_inv h
      have hpos : 0 < sizeT P fd.type := by simpa using hpos
      have hne : ¬ sizeT P fd.type = 0 := by omega
      have hrun : ∀ b q, (Instr.fieldAt t (.pointer (some ⟨b, q, none⟩)) f).run P w = .ok (.pointer (some ⟨b, q + fd.offset, none⟩)) w := by
        intro b q
        simp [Instr.fieldAt, Instr.sureAddr, run_underlying hu, hfs, fieldPlace, run_sizeT' hpos, hne, add_eq]
      split at h
      · rename_i e c off _
        obtain ⟨b, o', vs, hv, hb, hob, hvs, hr⟩ := hx.rp_inv
        refine good_pure C h (x := .pointer (some ⟨b, o' + (off + fd.offset), none⟩)) ?_ (.c (.rp _ b o' vs hb hob hvs hr))
        simp [execOp, ho, hv, hrun, Nat.add_assoc]
      · rename_i k off _
        obtain ⟨hb, h⟩ := bif_inv h
        obtain ⟨bt, cs, hm, hnm⟩ := isBox_inv hos hb
        have hv := hx.ptr_inv hm hnm
        refine good_pure C h (x := .pointer (some ⟨β k, off + fd.offset, none⟩)) ?_ (.c (.ptr (by simp [hm]) rfl fun t cs' hm' => by rw [hm] at hm'; cases hm'; exact (ptrV_box hnm _ _).symm))
        simp [execOp, ho, hv, hrun]
      · rename_i k i off _
        obtain ⟨hb, h⟩ := bif_inv h
        obtain ⟨e, n, g, hm⟩ := isRow_inv hos hb
        obtain ⟨b, hb2, hv⟩ := hx.ep_inv hm
        refine good_pure C h (x := .pointer (some ⟨b, i * (lv P e).length + off + fd.offset, none⟩)) ?_ (.c (.ep (by simp [hm]) rfl fun e' n' g' hm' => ?_))
        · simp [execOp, ho, hv, hrun]
        · rw [hm] at hm'
          cases hm'
          exact ⟨b, hb2, by rw [Nat.add_assoc]⟩
      · cases h
    · cases h
  · rename_i hne
    exact absurd rfl (hne _)
theorem indexAddr_ok {o : Oper} {t : TypeId} {x y : Operand} (ho : o.op = .indexAddr t x y) (h : eIndexAddr P t os κ [evO sl x, evO sl y] = some r) : Good P w0 w M β hd a o κ r := by
  have hx := rel1 C x
  have hy := rel1 C y
  unfold eIndexAddr at h
  split at h
  · rename_i e' z k i heq
    injection heq with h1 h2
    injection h2 with h2 _
    rw [h1] at hx
    rw [h2] at hy
    split at h
    · rename_i e hu
      obtain ⟨hb, h'⟩ := bif_inv h
      clear h
      rw [Bool.and_eq_true, Bool.and_eq_true] at hb
      obtain ⟨⟨hee, hsz⟩, hpos⟩ := hb
      obtain rfl : e = e' := eq_of_beq hee
      have h := h'
      have hsz : sizeT P e = (lv P e).length := eq_of_beq hsz
      have hpos : 0 < sizeT P e := by simpa using hpos
      obtain ⟨hc, h⟩ := iff_inv h
      rw [Bool.and_eq_true] at hc
      have hi0 : 0 ≤ i := of_decide_eq_true hc.1
      have hi1 : i < (z.len : Int) := of_decide_eq_true hc.2
      have hlt : i.toNat < z.len := by omega
      obtain ⟨t', A, cc, ht', hv, hle, hr⟩ := hx.sl_inv
      rw [hv] at hr
      cases hr with
      | @sl _ e2 _ _ _ hu2 hc2 b off vs ha hvs hrr =>
        rw [hu2] at ht'
        cases ht'
        obtain ⟨hA, hbs, hob⟩ := ha (by omega)
        refine good_pure C h (x := .pointer (some ⟨b, off + i.toNat * (lv P e).length + 0, none⟩)) ?_ (.c (.rp 0 b (off + i.toNat * (lv P e).length) (fun j => vs i.toNat j) hbs hob (fun j τ hj => hvs _ j τ hlt hj) (fun j τ hj => hrr _ j τ hlt hj)))
        simp [execOp, ho, hv, hA, hy.i_inv, Instr.indexAt, asIntOf, run_underlying hu, hi0, hi1, run_sizeT' hpos, hsz, add_eq]
    · cases h
  · rename_i k off len k' i heq
    injection heq with h1 h2
    injection h2 with h2 _
    rw [h1] at hx
    rw [h2] at hy
    split at h
    · rename_i e hu
      split at h
      · rename_i e' n g hlk
        have hm := hos _ _ hlk
        obtain ⟨hb, h'⟩ := bif_inv h
        clear h
        rw [Bool.and_eq_true, Bool.and_eq_true] at hb
        obtain ⟨⟨hee, hsz⟩, hpos⟩ := hb
        obtain rfl : e = e' := eq_of_beq hee
        have h := h'
        have hsz : sizeT P e = (lv P e).length := eq_of_beq hsz
        have hpos : 0 < sizeT P e := by simpa using hpos
        obtain ⟨hc, h⟩ := iff_inv h
        rw [Bool.and_eq_true] at hc
        have hi0 : 0 ≤ i := of_decide_eq_true hc.1
        have hi1 : i < (len : Int) := of_decide_eq_true hc.2
        rcases hx.rowv_inv hm with ⟨_, _, _, h0⟩ | ⟨gb, cap, ad, hhd, hcap, hol, hv, had⟩
        · omega
        · have hadr := had (.inl (by omega))
          subst hadr
          refine good_pure C h (x := .pointer (some ⟨gb, (off + i.toNat) * (lv P e).length + 0, none⟩)) ?_ (.c (.ep (by simp [hm]) rfl fun e' n' g' hm' => ?_))
          · simp [execOp, ho, hv, hy.i_inv, Instr.indexAt, asIntOf, run_underlying hu, hi0, hi1, run_sizeT' hpos, hsz, add_eq, Nat.add_mul]
          · rw [hm] at hm'
            cases hm'
            exact ⟨gb, by simp [hhd, Value.ownBlock], rfl⟩
      · cases h
    · cases h
  · rename_i k off k' i heq
    injection heq with h1 h2
    injection h2 with h2 _
    rw [h1] at hx
    rw [h2] at hy
    split at h
    · rename_i m e hu
      obtain ⟨hb, h⟩ := bif_inv h
      rw [Bool.and_eq_true, Bool.and_eq_true] at hb
      obtain ⟨⟨hbox, hm1⟩, hpos⟩ := hb
      obtain ⟨bt, cs, hm, hnm⟩ := isBox_inv hos hbox
      have hpos : 0 < sizeT P e := by simpa using hpos
      have hm1 : 1 < m := by simpa using hm1
      obtain ⟨c, hcm, hic, h'⟩ := pickN_inv h
      clear h
      have h := h'
      have hi0 : 0 ≤ i := by omega
      have hi1 : i < (m : Int) := by omega
      obtain rfl : i.toNat = c := by omega
      have hv := hx.ptr_inv hm hnm
      refine good_pure C h (x := .pointer (some ⟨β k, off + i.toNat * sizeT P e, none⟩)) ?_ (.c (.ptr (by simp [hm]) rfl fun t cs' hm' => by rw [hm] at hm'; cases hm'; exact (ptrV_box hnm _ _).symm))
      have hnt : ¬ m ≤ 1 := by omega
      simp [execOp, ho, hv, hy.i_inv, Instr.indexAt, Instr.sureAddr, asIntOf, run_underlying hu, hi0, hi1, run_sizeT' hpos, add_eq, hnt]
    · cases h
  · cases h
end
end Go.AM
