/- The engine, part 3: each operation does what its abstract value says (those that only reckon). -/
import Derived.Test.YtnlkhjileipmcaaGreatEng2
import Derived.Laws.CopyRow
import Derived.Laws.Cells
import Derived.Laws.Entries
import Derived.ChangeKeysEq
set_option linter.unusedSimpArgs false
set_option linter.unusedVariables false
namespace Go.AM
open Go.RowKit (Below)

/-- What an operation comes to. -/
def Done (P : Program) (w0 : Fr0) (w : World) (M : Store) (β : Bn) (hd : Nat → Value) (v : AV) (us : List (Nat × Ob)) (x : Value) (w' : World) : Prop :=
  ∃ β' hd', RA P w' (M.sets us) β' hd' v x ∧ Sim P w0 w' (M.sets us) β' hd' ∧ Ext M β hd (M.sets us) β' hd' ∧ Keeps w (Own M β hd) w' (Own (M.sets us) β' hd')
def OpOk (P : Program) (w0 : Fr0) (w : World) (M : Store) (β : Bn) (hd : Nat → Value) (v : AV) (us : List (Nat × Ob)) (r : Result Next) : Prop :=
  (∃ x w', r = .ok (.value x) w' ∧ Done P w0 w M β hd v us x w') ∨ (∃ w', r = .ok .skip w' ∧ Done P w0 w M β hd v us undef w')

section
variable {P : Program} {w0 : Fr0} {w : World} {M : Store} {β : Bn} {hd : Nat → Value}
theorem Done.pure (h : Sim P w0 w M β hd) {v : AV} {x : Value} (r : RA P w M β hd v x) : Done P w0 w M β hd v [] x w :=
  ⟨β, hd, r, h, Ext.refl _ _ _, Keeps.refl _ _⟩
theorem OpOk.pure (h : Sim P w0 w M β hd) {v : AV} {x : Value} {r : Result Next} (hr : r = .ok (.value x) w) (hx : RA P w M β hd v x) : OpOk P w0 w M β hd v [] r :=
  .inl ⟨x, w, hr, Done.pure h hx⟩

/-! ### Operands -/
theorem ofConst1_rel (v : Value) (h : one1 v = true) : RC P w M β hd (ofConst1 v) v := by
  cases v with
  | bool b => exact .b b
  | int k n => exact .i k n
  | string s => exact .s s
  | slice a l c =>
    unfold ofConst1
    split
    · exact absurd ‹_› (by simp)
    · exact absurd ‹_› (by simp)
    · exact absurd ‹_› (by simp)
    · rename_i h'
      cases h'
      exact .nl
    · exact .und rfl
  | agg cs => simp [one1] at h
  | tuple vs => simp [one1] at h
  | _ => exact .und rfl
theorem ofConst_rel (v : Value) : RA P w M β hd (ofConst v) v := by
  unfold ofConst
  split
  · rename_i cs
    cases hb : cs.toList.all one1
    · exact .und _
    · refine .ag (by simp) fun j x hj => ?_
      simp only [List.getElem?_map, Option.map_eq_some_iff] at hj
      obtain ⟨y, hy, rfl⟩ := hj
      have h1 := List.all_eq_true.1 hb y (List.mem_of_getElem? hy)
      have h2 : cs.getD j undef = y := by
        rw [Array.getElem?_toList] at hy
        simp [Array.getD_eq_getD_getElem?, hy]
      rw [h2]
      exact ofConst1_rel y h1
  · rename_i h
    by_cases h1 : one1 v = true
    · exact .c (ofConst1_rel v h1)
    · cases v with
      | agg cs => exact absurd rfl (h cs)
      | tuple vs => exact .und _
      | _ => simp [one1] at h1
theorem evO_rel {sl : List AV} {a : Act} (hs : Slots P w M β hd sl a) (x : Operand) : RA P w M β hd (evO sl x) (a.eval x) := by
  cases x with
  | tmp t =>
    show RA P w M β hd (sl.getD t .und) (a.tmps.getD t undef)
    cases h : sl[t]? with
    | none => rw [List.getD_eq_getElem?_getD, h]; exact .und _
    | some y => rw [List.getD_eq_getElem?_getD, h]; exact hs.val t y h
  | const v => exact ofConst_rel v
  | global g => exact .und _
  | func f => exact .c (.clo (by simp) (by simp))

/-! ### What the relation says of values whose form is known -/
theorem RA.b_inv {x : Bool} {v : Value} (h : RA P w M β hd (.b x) v) : v = .bool x := by
  cases h with
  | c h => cases h; rfl
theorem RA.i_inv {k : IntKind} {n : Int} {v : Value} (h : RA P w M β hd (.i k n) v) : v = .int k n := by
  cases h with
  | c h => cases h; rfl
theorem RA.s_inv {x : ByteArray} {v : Value} (h : RA P w M β hd (.s x) v) : v = .string x := by
  cases h with
  | c h => cases h; rfl
theorem RA.nl_inv {v : Value} (h : RA P w M β hd .nl v) : v = .slice none 0 0 := by
  cases h with
  | c h => cases h; rfl
theorem RA.ag_inv {cs : List AV} {v : Value} (h : RA P w M β hd (.ag cs) v) : ∃ vs, v = .agg vs ∧ cs.length = vs.size ∧ ∀ j x, cs[j]? = some x → RC P w M β hd x (vs.getD j undef) := by
  cases h with
  | c h => cases h
  | ag hl h => exact ⟨_, rfl, hl, h⟩
theorem RA.tup_inv {cs : List AV} {v : Value} (h : RA P w M β hd (.tup cs) v) : ∃ vs, v = .tuple vs ∧ cs.length = vs.size ∧ ∀ j x, cs[j]? = some x → RA P w M β hd x (vs.getD j undef) := by
  cases h with
  | c h => cases h
  | tup hl h => exact ⟨_, rfl, hl, h⟩
theorem RA.sl_inv {e : TypeId} {x : T} {v : Value} (h : RA P w M β hd (.sl e x) v) : ∃ t A c, P.underlying t = some (.slice e) ∧ v = .slice A x.len c ∧ x.len ≤ c ∧ RT P w (Own M β hd) t x v := by
  cases h with
  | c h =>
    cases h with
    | sl ht r =>
      cases r with
      | int h => rw [h] at ht; cases ht
      | bool h => rw [h] at ht; cases ht
      | str h => rw [h] at ht; cases ht
      | sl h hc b off vs ha hv hr => exact ⟨_, _, _, ht, rfl, hc, .sl h hc b off vs ha hv hr⟩
theorem RA.row_inv {k off len : Nat} {v : Value} (h : RA P w M β hd (.row k off len) v) : RC P w M β hd (.row k off len) v := by
  cases h with
  | c h => exact h
theorem RA.clo_inv {f : FuncId} {caps : List AV} {v : Value} (h : RA P w M β hd (.clo f caps) v) : ∃ vs, v = .func (.func f) #[] vs ∧ caps.length = vs.size ∧ ∀ j x, caps[j]? = some x → RC P w M β hd x (vs.getD j undef) := by
  cases h with
  | c h =>
    cases h with
    | clo hl h => exact ⟨_, rfl, hl, h⟩

/-! ### Lists of operands -/
theorem opVals_one {sl : List AV} {o : Op} {x : AV} (h : opVals sl o = [x]) : ∃ p, o.operands.toList = [p] ∧ evO sl p = x := by
  unfold opVals at h
  match hl : o.operands.toList, h with
  | [p], h => exact ⟨p, rfl, by simpa [hl] using h⟩
  | [], h => simp [hl] at h
  | _ :: _ :: _, h => simp [hl] at h
theorem opVals_two {sl : List AV} {o : Op} {x y : AV} (h : opVals sl o = [x, y]) : ∃ p q, o.operands.toList = [p, q] ∧ evO sl p = x ∧ evO sl q = y := by
  unfold opVals at h
  match hl : o.operands.toList, h with
  | [p, q], h => exact ⟨p, q, rfl, by simpa [hl] using h⟩
  | [], h => simp [hl] at h
  | [_], h => simp [hl] at h
  | _ :: _ :: _ :: _, h => simp [hl] at h
end

section
variable {P : Program} {w : World} {a : Act}
theorem run_op_bin {o : Oper} {op : BinOp} {t yt : TypeId} {x y : Operand} (ho : o.op = .binOp op t x y yt) {v : Value} (hg : (eqGuard op t x y (a.eval x) (a.eval y)).run P w = .ok () w) (hb : (binOp op t (a.eval x) (a.eval y)).run P w = .ok v w) : (execOp a.eval o).run P w = .ok (.value v) w := by
  simp [execOp, ho, hg, hb]
theorem eqGuard_plain (op : BinOp) (t : TypeId) (x y : Operand) (u v : Value) (h1 : ∀ cs, u ≠ .agg cs) (h2 : u ≠ .nilIface) : (eqGuard op t x y u v).run P w = .ok () w := by
  cases u with
  | agg cs => exact absurd rfl (h1 cs)
  | nilIface => exact absurd rfl h2
  | _ => cases op <;> simp [eqGuard]
end

section
variable {ρ : Type} {κ : Kk ρ} {r : ρ}
theorem iff_inv {c : Bool} {v : AV} (h : iff c v κ = some r) : c = true ∧ κ v [] = some r := by
  unfold iff at h
  cases c
  · cases h
  · exact ⟨rfl, h⟩
theorem bif_inv {c : Bool} {x : Option ρ} (h : (bif c then x else none) = some r) : c = true ∧ x = some r := by
  cases c
  · cases h
  · exact ⟨rfl, h⟩
end

section
variable {P : Program} {w : World}
theorem run_equalIn_bool (d : Nat) {t : TypeId} (hu : P.underlying t = some .bool) (m n : Bool) : (Op.equalIn (d + 1) t (.bool m) (.bool n)).run P w = .ok (m == n) w := by
  simp only [Op.equalIn, Sem.run_bind, run_underlying hu, Result.andThen_ok]
  rfl
theorem run_equalIn_int (d : Nat) {t : TypeId} {k k' : IntKind} (hu : P.underlying t = some (.int k')) (m n : Int) : (Op.equalIn (d + 1) t (.int k m) (.int k n)).run P w = .ok (m == n) w := by
  simp only [Op.equalIn, Sem.run_bind, run_underlying hu, Result.andThen_ok, if_true]
  rfl
theorem run_equalIn_str (d : Nat) {t : TypeId} (hu : P.underlying t = some .string) (m n : ByteArray) : (Op.equalIn (d + 1) t (.string m) (.string n)).run P w = .ok (m == n) w := by
  simp only [Op.equalIn, Sem.run_bind, run_underlying hu, Result.andThen_ok]
  rfl
theorem run_equal_bool {t : TypeId} (hu : P.underlying t = some .bool) (m n : Bool) : (Op.equal t (.bool m) (.bool n)).run P w = .ok (m == n) w := run_equalIn_bool 9999 hu m n
theorem run_binOp_bool_eql {t : TypeId} (hu : P.underlying t = some .bool) (m n : Bool) : (binOp .eql t (.bool m) (.bool n)).run P w = .ok (.bool (m == n)) w := by
  have e : binOp .eql t (.bool m) (.bool n) = (do pure (.bool (← Op.equal t (.bool m) (.bool n)))) := rfl
  rw [e, Sem.run_bind, run_equal_bool hu]
  rfl
theorem run_binOp_bool_neq {t : TypeId} (hu : P.underlying t = some .bool) (m n : Bool) : (binOp .neq t (.bool m) (.bool n)).run P w = .ok (.bool (!(m == n))) w := by
  have e : binOp .neq t (.bool m) (.bool n) = (do pure (.bool (!(← Op.equal t (.bool m) (.bool n))))) := rfl
  rw [e, Sem.run_bind, run_equal_bool hu]
  rfl
end

/-- All that the lemmas on one operation have in common. -/
structure Ctx (P : Program) (w0 : Fr0) (w : World) (M : Store) (β : Bn) (hd : Nat → Value) (sl : List AV) (a : Act) : Prop where
  sim : Sim P w0 w M β hd
  slots : Slots P w M β hd sl a

section
variable {ρ : Type} {P : Program} {w0 : Fr0} {w : World} {M : Store} {β : Bn} {hd : Nat → Value} {sl : List AV} {a : Act} {κ : Kk ρ} {r : ρ}
variable (C : Ctx P w0 w M β hd sl a)
include C

theorem rel1 (x : Operand) : RA P w M β hd (evO sl x) (a.eval x) := evO_rel C.slots x

/-- The claim on one operation. -/
abbrev Good (P : Program) (w0 : Fr0) (w : World) (M : Store) (β : Bn) (hd : Nat → Value) (a : Act) (o : Oper) (κ : Kk ρ) (r : ρ) : Prop :=
  ∃ v us, κ v us = some r ∧ OpOk P w0 w M β hd v us ((execOp a.eval o).run P w)

theorem good_pure {o : Oper} {v : AV} {x : Value} (hk : κ v [] = some r) (hr : (execOp a.eval o).run P w = .ok (.value x) w) (hx : RA P w M β hd v x) : Good P w0 w M β hd a o κ r :=
  ⟨v, [], hk, OpOk.pure C.sim hr hx⟩

theorem same_ok {o : Oper} {x : Operand} (ho : o.op = .move x ∨ o.op = .assign x) (h : eSame κ [evO sl x] = some r) : Good P w0 w M β hd a o κ r := by
  refine good_pure C (v := evO sl x) (x := a.eval x) h ?_ (rel1 C x)
  rcases ho with ho | ho <;> simp [execOp, ho]

theorem pick_ok {o : Oper} {c x y : Operand} (ho : o.op = .pick c x y) (h : ePick κ [evO sl c, evO sl x, evO sl y] = some r) : Good P w0 w M β hd a o κ r := by
  have hc := rel1 C c
  unfold ePick at h
  split at h
  · rename_i b u v heq
    injection heq with h1 h2
    injection h2 with h2 h3
    injection h3 with h3 _
    rw [h1] at hc
    have hc' := hc.b_inv
    cases b
    · refine good_pure C (v := v) (x := a.eval y) h ?_ (h3 ▸ rel1 C y)
      simp [execOp, ho, hc', asBool]
    · refine good_pure C (v := u) (x := a.eval x) h ?_ (h2 ▸ rel1 C x)
      simp [execOp, ho, hc', asBool]
  · cases h

theorem bin_int {o : Oper} {op : BinOp} {t yt : TypeId} {x y : Operand} {k k' : IntKind} {m n : Int} (ho : o.op = .binOp op t x y yt) (hx : evO sl x = .i k m) (hy : evO sl y = .i k' n) (h : evInt op k k' m n κ = some r) : Good P w0 w M β hd a o κ r := by
  have rx : a.eval x = .int k m := (hx ▸ rel1 C x).i_inv
  have ry : a.eval y = .int k' n := (hy ▸ rel1 C y).i_inv
  have hg : (eqGuard op t x y (a.eval x) (a.eval y)).run P w = .ok () w := eqGuard_plain op t x y _ _ (by simp [rx]) (by simp [rx])
  cases op <;> simp only [evInt] at h
  case shl =>
    obtain ⟨hc, h⟩ := iff_inv h
    have h0 : ¬ n < 0 := by have := of_decide_eq_true hc; omega
    exact good_pure C h (run_op_bin ho hg (by simp [rx, ry, binOp, Op.shift, h0]; try rfl)) (.c (.i ..))
  case shr =>
    obtain ⟨hc, h⟩ := iff_inv h
    have h0 : ¬ n < 0 := by have := of_decide_eq_true hc; omega
    exact good_pure C h (run_op_bin ho hg (by simp [rx, ry, binOp, Op.shift, h0]; try rfl)) (.c (.i ..))
  case quo =>
    obtain ⟨hk, h'⟩ := bif_inv h
    obtain rfl := eq_of_beq hk
    clear h
    obtain ⟨hc, h⟩ := iff_inv h'
    have h0 : n ≠ 0 := by simpa using hc
    exact good_pure C h (run_op_bin ho hg (by simp [rx, ry, binOp, Op.intDiv, h0]; try rfl)) (.c (.i ..))
  case rem =>
    obtain ⟨hk, h'⟩ := bif_inv h
    obtain rfl := eq_of_beq hk
    clear h
    obtain ⟨hc, h⟩ := iff_inv h'
    have h0 : n ≠ 0 := by simpa using hc
    exact good_pure C h (run_op_bin ho hg (by simp [rx, ry, binOp, Op.intDiv, h0]; try rfl)) (.c (.i ..))
  all_goals
    obtain ⟨hk, h'⟩ := bif_inv h
    obtain rfl := eq_of_beq hk
    clear h
    first
    | exact good_pure C h' (run_op_bin ho hg (by simp [rx, ry, binOp, Op.intArith, Op.intBits, Op.intCmp, bitsOf]; try rfl)) (.c (.i ..))
    | exact good_pure C h' (run_op_bin ho hg (by simp [rx, ry, binOp, Op.intArith, Op.intBits, Op.intCmp, bitsOf]; try rfl)) (.c (.b ..))
theorem bin_bool {o : Oper} {op : BinOp} {t yt : TypeId} {x y : Operand} {m n : Bool} (ho : o.op = .binOp op t x y yt) (hx : evO sl x = .b m) (hy : evO sl y = .b n) (h : evBool P op t m n κ = some r) : Good P w0 w M β hd a o κ r := by
  have rx : a.eval x = .bool m := (hx ▸ rel1 C x).b_inv
  have ry : a.eval y = .bool n := (hy ▸ rel1 C y).b_inv
  have hg : (eqGuard op t x y (a.eval x) (a.eval y)).run P w = .ok () w := eqGuard_plain op t x y _ _ (by simp [rx]) (by simp [rx])
  unfold evBool at h
  split at h
  · rename_i hu
    split at h
    · exact good_pure C h (run_op_bin ho hg (by rw [rx, ry]; exact run_binOp_bool_eql hu m n)) (.c (.b _))
    · exact good_pure C h (run_op_bin ho hg (by rw [rx, ry]; exact run_binOp_bool_neq hu m n)) (.c (.b _))
    · cases h
  · cases h
theorem bin_str {o : Oper} {op : BinOp} {t yt : TypeId} {x y : Operand} {m n : ByteArray} (ho : o.op = .binOp op t x y yt) (hx : evO sl x = .s m) (hy : evO sl y = .s n) (h : evStr op m n κ = some r) : Good P w0 w M β hd a o κ r := by
  have rx : a.eval x = .string m := (hx ▸ rel1 C x).s_inv
  have ry : a.eval y = .string n := (hy ▸ rel1 C y).s_inv
  have hg : (eqGuard op t x y (a.eval x) (a.eval y)).run P w = .ok () w := eqGuard_plain op t x y _ _ (by simp [rx]) (by simp [rx])
  cases op <;> simp only [evStr] at h
  case add =>
    obtain ⟨hc, h⟩ := iff_inv h
    have h0 := of_decide_eq_true hc
    refine good_pure C h (run_op_bin ho hg ?_) (.c (.s _))
    have h1 : ¬ (((m.size + n.size : Nat) : Int) > IntKind.i64.max) := by
      have : IntKind.i64.max = 9223372036854775807 := by decide
      omega
    simp only [rx, ry, binOp, Op.stringOp]
    rw [if_neg h1]
    rfl
  all_goals first
    | (cases h; done)
    | exact good_pure C h (run_op_bin ho hg (by simp [rx, ry, binOp, Op.stringOp, strEq, strLt])) (.c (.b _))
end
end Go.AM
