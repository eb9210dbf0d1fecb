/- The engine, part 11: steps, and regions in their text's order. -/
import Derived.Test.YtljfhfgbpcaadaaDoorEng10b
import Derived.Orders
set_option linter.unusedSimpArgs false
set_option linter.unusedVariables false
namespace Go.AM
open Go.RowKit (Below)
def Ext1 (F : Fr0) (M : Store) (β : Bn) (hd : Nat → Value) : Prop := (∀ q, F.M.get q ≠ none → HB ≤ q ∧ M.get q ≠ none) ∧ Ext0 F M β hd
theorem Ext1.step {F : Fr0} {M M' : Store} {β β' : Bn} {hd hd' : Nat → Value} (h : Ext1 F M β hd) (e : Ext M β hd M' β' hd') : Ext1 F M' β' hd' := by
  refine ⟨fun q hq => ⟨(h.1 q hq).1, e.pres q (h.1 q hq).2⟩, fun q hq => ⟨fun t cs hm => ?_, fun e' n g hm => ?_⟩⟩
  · obtain ⟨⟨c1, h1⟩, h2⟩ := e.box q t cs hm (h.1 q hq).2
    obtain ⟨h3, h4⟩ := (h.2 q hq).1 t c1 h1
    exact ⟨h3, h2.trans h4⟩
  · obtain ⟨⟨g1, h1⟩, h2⟩ := e.row q e' n g hm (h.1 q hq).2
    obtain ⟨h3, h4⟩ := (h.2 q hq).2 e' n g1 h1
    exact ⟨h3, h2.trans h4⟩
def StOk (P : Program) (w0 : Fr0) (O : Nat → Prop) (s : St) (a : Act) (w : World) : Prop := ∃ β hd, (β.O = O ∧ Ext1 w0 s.M β hd) ∧ Ctx P w0 w s.M β hd s.slots a
section
variable {P : Program} {fr : Fr} {h : H} {w0 : Fr0} {w : World} {O : Nat → Prop} {s : St} {a : Act}
theorem setS_len (sl : List AV) (d : Option Nat) (v : AV) : (setS sl d v).length = sl.length := by
  cases d <;> simp [setS]
theorem put_size (a : Act) (d : Option Nat) (v : Value) : (a.put d v).tmps.size = a.tmps.size := by
  cases d <;> simp [Act.put]
theorem Slots.put {M : Store} {β : Bn} {hd : Nat → Value} {sl : List AV} (hs : Slots P w M β hd sl a) {d : Option Nat} {v : AV} {x : Value} (hv : RA P w M β hd v x) : Slots P w M β hd (setS sl d v) (a.put d x) := by
  refine ⟨by rw [setS_len, put_size]; exact hs.len, fun t y hy => ?_, ?_⟩
  · cases d with
    | none => exact hs.val t y hy
    | some d =>
      simp only [setS] at hy
      have hlen := hs.len
      show RA P w M β hd y ((a.tmps.setIfInBounds d x).getD t undef)
      rw [List.getElem?_set] at hy
      by_cases hdt : d = t
      · subst hdt
        rw [if_pos rfl] at hy
        split at hy
        · rename_i hlt
          obtain rfl : v = y := by simpa using hy
          have : d < a.tmps.size := by omega
          simpa [Array.getD_eq_getD_getElem?, this] using hv
        · cases hy
      · rw [if_neg hdt] at hy
        have := hs.val t y hy
        simpa [Array.getD_eq_getD_getElem?, Array.getElem?_setIfInBounds_ne hdt] using this
  · cases d <;> exact hs.defers
theorem StOk.next (h : StOk P w0 O s a w) {d : Option Nat} {v : AV} {us : List (Nat × Ob)} {x : Value} {w' : World} (hd' : ∀ β hd, Ctx P w0 w s.M β hd s.slots a → β.O = O → Done P w0 w s.M β hd v us x w') :
    StOk P w0 O ⟨setS s.slots d v, s.M.sets us⟩ (a.put d x) w' := by
  obtain ⟨β, hd, hO, C⟩ := h
  obtain ⟨β', hd2, h1, h2, h3, h4⟩ := hd' β hd C hO.1
  refine ⟨β', hd2, ⟨h3.far.trans hO.1, hO.2.step h3⟩, h2, ?_⟩
  exact Slots.put ⟨C.slots.len, fun t y hy => (C.slots.val t y hy).keep h4 h3, C.slots.defers⟩ h1
theorem StOk.skip (h : StOk P w0 O s a w) (d : Option Nat) : StOk P w0 O (setDst s d (.tup [])) (a.put d undef) w := by
  obtain ⟨β, hd, hO, C⟩ := h
  exact ⟨β, hd, hO, C.sim, C.slots.put (.tup (vs := #[]) rfl (by simp))⟩
theorem slot_tup (hst : StOk P w0 O s a w) {d : Nat} (h : s.slots.getD d .und = .tup []) : a.tmps[d]? = some undef := by
  obtain ⟨β, hd, hO, C⟩ := hst
  have hlt : d < s.slots.length := by
    rcases Nat.lt_or_ge d s.slots.length with h1 | h1
    · exact h1
    · rw [List.getD_eq_getElem?_getD, List.getElem?_eq_none h1] at h; cases h
  rw [List.getD_eq_getElem?_getD, List.getElem?_eq_getElem hlt] at h
  have h2 := C.slots.val d _ (List.getElem?_eq_getElem hlt)
  simp only [Option.getD_some] at h
  rw [h] at h2
  obtain ⟨vs, h3, h5, _⟩ := h2.tup_inv
  have h6 : vs = #[] := Array.eq_empty_of_size_eq_zero (by simpa using h5.symm)
  have h4 : d < a.tmps.size := by have := C.slots.len; omega
  rw [Array.getElem?_eq_getElem h4]
  rw [h6] at h3
  have h7 : a.tmps.getD d undef = a.tmps[d] := by simp [Array.getD_eq_getD_getElem?, h4]
  exact congrArg some (h7.symm.trans h3)
theorem set_same {sl : List AV} {d : Nat} {v : AV} (h : sl.getD d .und = v) : sl.set d v = sl := by
  apply List.ext_getElem?
  intro i
  rw [List.getElem?_set]
  by_cases hdi : d = i
  · subst hdi
    rw [if_pos rfl]
    split
    · rename_i hlt
      rw [List.getD_eq_getElem?_getD, List.getElem?_eq_getElem hlt] at h
      rw [List.getElem?_eq_getElem hlt]
      simp at h
      rw [h]
    · rw [List.getElem?_eq_none (by omega)]
  · rw [if_neg hdi]
variable {ρ : Type} {r : ρ}
theorem stepOp_ok (hs : HSound P fr h) (hst : StOk P w0 O s a w) {o : Oper} {κ : St → Lab → Option ρ} (hr : stepOp P fr h o s κ = some r) (next : Act → World → Prop) (Q : Exit → Act → World → Prop)
    (hn : ∀ s' l a' w', κ s' l = some r → StOk P w0 O s' a' w' → next a' w') : o.wp P a w next Q := by
  have hst0 := hst
  obtain ⟨β, hd, hO, C⟩ := hst
  refine evalAny_ok hs C hr next Q fun v us x w' hk hdn => ?_
  obtain ⟨_, hk⟩ := bif_inv hk
  refine hn _ _ _ _ hk ?_
  obtain ⟨β', hd2, h1, h2, h3, h4⟩ := hdn
  exact ⟨β', hd2, ⟨h3.far.trans hO.1, hO.2.step h3⟩, h2, Slots.put ⟨C.slots.len, fun t y hy => (C.slots.val t y hy).keep h4 h3, C.slots.defers⟩ h1⟩
theorem slot_bool (hst : StOk P w0 O s a w) {d : Nat} {c : Bool} (h : s.slots.getD d .und = .b c) : a.tmps[d]? = some (.bool c) := by
  obtain ⟨β, hd, hO, C⟩ := hst
  have hlt : d < s.slots.length := by
    rcases Nat.lt_or_ge d s.slots.length with h1 | h1
    · exact h1
    · rw [List.getD_eq_getElem?_getD, List.getElem?_eq_none h1] at h; cases h
  rw [List.getD_eq_getElem?_getD, List.getElem?_eq_getElem hlt] at h
  have h2 := C.slots.val d _ (List.getElem?_eq_getElem hlt)
  simp only [Option.getD_some] at h
  rw [h] at h2
  have h3 := h2.b_inv
  have h4 : d < a.tmps.size := by have := C.slots.len; omega
  rw [Array.getElem?_eq_getElem h4]
  simpa [Array.getD_eq_getD_getElem?, h4] using h3
theorem stepG_ok (hs : HSound P fr h) (hst : StOk P w0 O s a w) {ops : Array Oper} {i : Nat} {o : Oper} (ho : ops[i]? = some o) {κ : St → Lab → Option ρ} (hr : stepG P fr h ops.toList o s κ = some r) (next : Act → World → Prop) (Q : Exit → Act → World → Prop)
    (hn : ∀ s' l a' w', κ s' l = some r → StOk P w0 O s' a' w' → next a' w') : wpOp P ops Q i next a w := by
  unfold wpOp
  rw [ho]
  simp only
  unfold stepG at hr
  split at hr
  · rename_i hg
    have hw : Region.wanted o (yielded ops a.tmps) = true := by simp [Region.wanted, hg]
    rw [if_pos hw]
    exact .inl (stepOp_ok hs hst hr next Q hn)
  · rename_i g want hg
    split at hr
    · rename_i d hd
      split at hr
      · rename_i c hc
        have hy : yielded ops a.tmps g = some c := by
          unfold yielded
          have h1 : (ops[g]?).bind (·.dst) = some d := by
            unfold dstTmp at hd
            rw [Array.getElem?_toList] at hd
            cases ho' : ops[g]? with
            | none => rw [ho'] at hd; cases hd
            | some o' => rw [ho'] at hd; simpa using hd
          rw [h1]
          simp [slot_bool hst hc]
        have hsame : ∀ b, c = b → setSlot s d (.b b) = s := by
          rintro b rfl
          unfold setSlot
          rw [set_same hc]
        have hw : Region.wanted o (yielded ops a.tmps) = (c == want) := by
          simp [Region.wanted, hg, hy]
        cases want with
        | true =>
          simp only at hr
          cases c with
          | true =>
            rw [cond_true, hsame true rfl] at hr
            rw [if_pos (by rw [hw]; rfl)]
            exact .inl (stepOp_ok hs hst hr next Q hn)
          | false =>
            rw [cond_false, hsame false rfl] at hr
            rw [if_neg (by rw [hw]; simp)]
            exact hn _ _ _ _ hr (hst.skip o.dst)
        | false =>
          simp only at hr
          cases c with
          | true =>
            rw [cond_true, hsame true rfl] at hr
            rw [if_neg (by rw [hw]; simp)]
            exact hn _ _ _ _ hr (hst.skip o.dst)
          | false =>
            rw [cond_false, hsame false rfl] at hr
            rw [if_pos (by rw [hw]; rfl)]
            exact .inl (stepOp_ok hs hst hr next Q hn)
      · rename_i hc
        have hy : yielded ops a.tmps g = none := by
          unfold yielded
          have h1 : (ops[g]?).bind (·.dst) = some d := by
            unfold dstTmp at hd
            rw [Array.getElem?_toList] at hd
            cases ho' : ops[g]? with
            | none => rw [ho'] at hd; cases hd
            | some o' => rw [ho'] at hd; simpa using hd
          rw [h1]
          simp [slot_tup hst hc, undef]
        have hw : Region.wanted o (yielded ops a.tmps) = false := by
          simp [Region.wanted, hg, hy]
        rw [if_neg (by rw [hw]; simp)]
        exact hn _ _ _ _ hr (hst.skip o.dst)
      · cases hr
    · cases hr
theorem runOps_ok (hs : HSound P fr h) {ops : Array Oper} {Q : Exit → Act → World → Prop} {κ : St → List Lab → Option ρ} (hn : ∀ s' ls a' w', κ s' ls = some r → StOk P w0 O s' a' w' → Q .normal a' w') :
    ∀ (l : List Oper) (i : Nat) (s : St) (ls : List Lab) (a : Act) (w : World), l = ops.toList.drop i → runOps P fr h ops.toList l s ls κ = some r → StOk P w0 O s a w → wpOps P ops Q (List.range' i l.length) a w
  | [], i, s, ls, a, w, _, hr, hst => hn _ _ _ _ hr hst
  | o :: l, i, s, ls, a, w, hl, hr, hst => by
    have ho : ops[i]? = some o := by
      have : (ops.toList.drop i)[0]? = some o := by rw [← hl]; rfl
      rw [List.getElem?_drop, Nat.add_zero, Array.getElem?_toList] at this
      exact this
    have hl' : l = ops.toList.drop (i + 1) := by
      rw [← List.tail_drop, ← hl]; rfl
    rw [List.length_cons, List.range'_succ, wpOps_cons]
    simp only [runOps] at hr
    refine stepG_ok hs hst ho hr _ Q fun s' lab a' w' hk hst' => ?_
    exact runOps_ok hs hn l (i + 1) s' _ a' w' hl' hk hst'
def DrawSound (P : Program) (fr : Fr) (h : H) : Prop := ∀ (w0 : Fr0) (O : Nat → Prop) (ρ : Type) (r : ρ) (ops : Array Oper) (Q : Exit → Act → World → Prop) (κ : St → Option ρ) (id : Nat) (s : St) (a : Act) (w : World),
  runReg P fr h ops true s κ = some r → StOk P w0 O s a w → (∀ s' a' w', κ s' = some r → StOk P w0 O s' a' w' → Q .normal a' w') → (Code.region id ops true).wp P Q a w
theorem runReg_ok (hs : HSound P fr h) (hdr : DrawSound P fr h) {ops : Array Oper} {Q : Exit → Act → World → Prop} {κ : St → Option ρ} {id : Nat} {draw : Bool} (hr : runReg P fr h ops draw s κ = some r) (hst : StOk P w0 O s a w)
    (hn : ∀ s' a' w', κ s' = some r → StOk P w0 O s' a' w' → Q .normal a' w') : (Code.region id ops draw).wp P Q a w := by
  cases draw with
  | true => exact hdr w0 O ρ r ops Q κ id s a w hr hst hn
  | false =>
    unfold runReg at hr
    refine wp_region ?_
    have := runOps_ok (Q := Q) hs (ops := ops) (κ := fun s' _ => κ s') (fun s' _ a' w' hk hst' => hn s' a' w' hk hst') ops.toList 0 s [] a w rfl hr hst
    rw [Array.length_toList] at this
    rwa [List.range_eq_range']
end
end Go.AM
