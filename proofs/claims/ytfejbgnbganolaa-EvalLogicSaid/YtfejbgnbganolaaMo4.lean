/- Of which sort expressions are, and what values they have: the plain laws. -/
import Derived.Test.YtfejbgnbganolaaMo3
set_option linter.unusedVariables false
set_option linter.unusedSimpArgs false
namespace Go.AM

/-- Sorts of variables that may be. -/
def Sorts (l : List Va) : Prop := ∀ v ∈ l, v.sort = 1 ∨ v.sort = 2
theorem sortedV_sort {v : Va} (h : sortedV v = 0) : v.sort = 1 ∨ v.sort = 2 := by
  unfold sortedV at h
  split at h
  · cases h
  · omega
theorem mayV_sorts {l : List Va} (h : mayV l = 0) : Sorts l := fun v hv => sortedV_sort (totalE_pos (mayV_total h) v hv).1
/-- The ways in which an expression is of a sort. -/
inductive Typed (l : List Va) : Ex → Int → Prop
  | num {n : Int} (h1 : -1000 ≤ n) (h2 : n ≤ 1000) : Typed l (.mk 1 n []) 2
  | bool {n : Int} (h : n = 0 ∨ n = 1) : Typed l (.mk 2 n []) 1
  | var {op : Int} {i : Nat} {v : Va} (ho : op = 3 ∨ op = 4) (h : l[i]? = some v) (hi : i < 6) : Typed l (.mk op i []) v.sort
  | not {a : Ex} (ha : Typed l a 1) : Typed l (.mk 5 0 [a]) 1
  | logic {op : Int} {a b : Ex} (ho : 6 ≤ op ∧ op ≤ 8) (ha : Typed l a 1) (hb : Typed l b 1) : Typed l (.mk op 0 [a, b]) 1
  | same {s : Int} {a b : Ex} (ha : Typed l a s) (hb : Typed l b s) : Typed l (.mk 9 0 [a, b]) 1
  | less {op : Int} {a b : Ex} (ho : 10 ≤ op ∧ op ≤ 11) (ha : Typed l a 2) (hb : Typed l b 2) : Typed l (.mk op 0 [a, b]) 1
  | sum {op : Int} {a b : Ex} (ho : 12 ≤ op ∧ op ≤ 14) (ha : Typed l a 2) (hb : Typed l b 2) : Typed l (.mk op 0 [a, b]) 2
  | ite {s : Int} {a b c : Ex} (ha : Typed l a 1) (hb : Typed l b s) (hc : Typed l c s) : Typed l (.mk 15 0 [a, b, c]) s
theorem Typed.sort {l : List Va} (hs : Sorts l) {e : Ex} {s : Int} (h : Typed l e s) : s = 1 ∨ s = 2 := by
  induction h with
  | num => exact .inr rfl
  | bool => exact .inl rfl
  | var _ h _ => exact hs _ (List.mem_of_getElem? h)
  | not => exact .inl rfl
  | logic => exact .inl rfl
  | same => exact .inl rfl
  | less => exact .inl rfl
  | sum => exact .inr rfl
  | ite _ _ _ _ ih _ => exact ih
theorem kids0 {ks : List Ex} (h : (ks.length : Int) = 0) : ks = [] := List.eq_nil_of_length_eq_zero (by omega)
theorem kids1 {ks : List Ex} (h : (ks.length : Int) = 1) : ∃ a, ks = [a] := by
  match ks, h with
  | [a], _ => exact ⟨a, rfl⟩
  | [], h => simp at h
  | _ :: _ :: _, h => simp at h; omega
theorem kids2 {ks : List Ex} (h : (ks.length : Int) = 2) : ∃ a b, ks = [a, b] := by
  match ks, h with
  | [a, b], _ => exact ⟨a, b, rfl⟩
  | [], h => simp at h
  | [_], h => simp at h
  | _ :: _ :: _ :: _, h => simp at h; omega
theorem kids3 {ks : List Ex} (h : (ks.length : Int) = 3) : ∃ a b c, ks = [a, b, c] := by
  match ks, h with
  | [a, b, c], _ => exact ⟨a, b, c, rfl⟩
  | [], h => simp at h
  | [_], h => simp at h
  | [_, _], h => simp at h
  | _ :: _ :: _ :: _ :: _, h => simp at h; omega
theorem fits2 (w x y : Int) (hw : w ≠ 0) : fitsFrom [w, w] [x, y] 0 = decide (x = w ∧ y = w) := by
  simp only [fitsFrom]
  by_cases h1 : x = w <;> by_cases h2 : y = w <;> simp [h1, h2, hw]
theorem fits1 (w x : Int) (hw : w ≠ 0) : fitsFrom [w] [x] 0 = decide (x = w) := by
  simp only [fitsFrom]
  by_cases h1 : x = w <;> simp [h1, hw]
theorem fits00 (x y : Int) (hx : x ≠ 0) : fitsFrom [0, 0] [x, y] 0 = decide (y = x) := by
  simp only [fitsFrom]
  by_cases h1 : y = x <;> simp [h1, hx]
theorem fits100 (x y z : Int) (hy : y ≠ 0) : fitsFrom [1, 0, 0] [x, y, z] 0 = decide (x = 1 ∧ z = y) := by
  simp only [fitsFrom]
  by_cases h1 : x = 1 <;> by_cases h2 : z = y <;> simp [h1, h2, hy]
/-- An expression that may be is of a sort just if it is so by the rules. -/
theorem ofE_typed {l : List Va} (hs : Sorts l) : ∀ (e : Ex), soundE e = true → ((ofE l e).2 = 0 → Typed l e (ofE l e).1) ∧ ∀ s, Typed l e s → ofE l e = (s, 0)
  | .mk op n ks, h => by
    have hk : ∀ k ∈ ks, soundE k = true → ((ofE l k).2 = 0 → Typed l k (ofE l k).1) ∧ ∀ s, Typed l k s → ofE l k = (s, 0) := fun k hk h => ofE_typed hs k h
    simp only [soundE, Bool.and_eq_true, decide_eq_true_eq] at h
    obtain ⟨⟨⟨h1, h2⟩, h3⟩, h4⟩ := h
    have hop : op = 1 ∨ op = 2 ∨ (op = 3 ∨ op = 4) ∨ op = 5 ∨ (6 ≤ op ∧ op ≤ 8) ∨ op = 9 ∨ (10 ≤ op ∧ op ≤ 11) ∨ (12 ≤ op ∧ op ≤ 14) ∨ op = 15 := by
      unfold kidsN at h1
      repeat' split at h1
      all_goals omega
    have hn0 : 5 ≤ op → n = 0 := by
      intro h5
      unfold numberE at h3
      rw [if_neg (by omega), if_neg (by omega), if_neg (by omega)] at h3
      exact of_decide_eq_true h3
    rcases hop with rfl | rfl | hop | rfl | hop | rfl | hop | hop | rfl
    · obtain rfl := kids0 (h2.trans rfl)
      have h5 : -1000 ≤ n ∧ n ≤ 1000 := of_decide_eq_true h3
      refine ⟨fun _ => .num h5.1 h5.2, fun s ht => ?_⟩
      cases ht with
      | num => rfl
      | var ho => omega
    · obtain rfl := kids0 (h2.trans rfl)
      have h5 : n = 0 ∨ n = 1 := of_decide_eq_true h3
      refine ⟨fun _ => .bool h5, fun s ht => ?_⟩
      cases ht with
      | bool => rfl
      | var ho => omega
    · have hkn : kidsN op = 0 := by unfold kidsN; rw [if_pos (by omega)]
      obtain rfl := kids0 (h2.trans hkn)
      have h5 : 0 ≤ n ∧ n < 6 := by
        unfold numberE at h3
        rw [if_neg (by omega), if_neg (by omega), if_pos hop] at h3
        exact of_decide_eq_true h3
      obtain ⟨i, rfl⟩ := Int.eq_ofNat_of_zero_le h5.1
      have hnd : needsL op = [] := by
        unfold needsL
        rw [if_neg (by omega), if_neg (by omega), if_neg (by omega), if_neg (by omega), if_neg (by omega)]
      have hof : ofE l (.mk op i []) = if (l.length : Int) ≤ i then (0, 3) else (((l[i]?).map Va.sort).getD 0, 0) := by
        simp only [ofE, ofL, nodeE, hnd, fitsFrom, toldE]
        rw [if_neg (by simp)]
        by_cases c : (l.length : Int) ≤ i
        · rw [if_pos ⟨hop, c⟩, if_pos c]
        · rw [if_neg (by simp [c]), if_neg (by simp), if_neg c, if_neg (by omega), if_pos hop]
          rfl
      refine ⟨fun h0 => ?_, fun s ht => ?_⟩
      · rw [hof] at h0 ⊢
        by_cases c : (l.length : Int) ≤ i
        · rw [if_pos c] at h0; cases h0
        · rw [if_neg c]
          have hlt : i < l.length := by omega
          have := Typed.var (l := l) (v := l[i]) hop (List.getElem?_eq_getElem hlt) (by omega)
          simpa [List.getElem?_eq_getElem hlt] using this
      · generalize hx : ((i : Nat) : Int) = x at ht
        generalize hks : ([] : List Ex) = ks at ht
        cases ht with
        | num => omega
        | bool => omega
        | @var _ j v ho hv hi =>
          have hij : i = j := by omega
          subst hij
          rw [hof]
          have hlt : i < l.length := (List.getElem?_eq_some_iff.1 hv).1
          rw [if_neg (by omega), hv]
          rfl
        | _ => cases hks
    · obtain ⟨a, rfl⟩ := kids1 (h2.trans rfl)
      obtain rfl := hn0 (by omega)
      simp only [soundL, Bool.and_eq_true] at h4
      obtain ⟨ih1, ih2⟩ := hk a (by simp) h4.1
      refine ⟨fun h0 => ?_, fun s ht => ?_⟩
      · simp only [ofE, ofL] at h0 ⊢
        by_cases c : (ofE l a).2 = 0
        · simp only [c, ne_eq, not_true_eq_false, if_false] at h0 ⊢
          have hnd : needsL 5 = [1] := rfl
          simp only [nodeE, hnd, fits1 1 _ (by omega)] at h0 ⊢
          rw [if_neg (by omega)] at h0 ⊢
          by_cases c2 : (ofE l a).1 = 1
          · simp only [c2, decide_true, Bool.true_eq_false, if_false]
            have := ih1 c
            rw [c2] at this
            exact .not this
          · simp [c2] at h0
        · simp [c] at h0
      · cases ht with
        | not ha =>
          have := ih2 _ ha
          simp [ofE, ofL, nodeE, this, needsL, fitsFrom, toldE]
    · have hkn : kidsN op = 2 := by unfold kidsN; rw [if_neg (by omega), if_neg (by omega), if_pos (by omega)]
      obtain ⟨a, b, rfl⟩ := kids2 (h2.trans hkn)
      obtain rfl := hn0 (by omega)
      simp only [soundL, Bool.and_eq_true] at h4
      obtain ⟨ih1, ih2⟩ := hk a (by simp) h4.1
      obtain ⟨jh1, jh2⟩ := hk b (by simp) h4.2.1
      have hnd : needsL op = [1, 1] := by unfold needsL; rw [if_neg (by omega), if_pos (by omega)]
      have htd : ∀ ss, toldE l op 0 ss = 1 := fun ss => by unfold toldE; rw [if_neg (by omega), if_neg (by omega), if_neg (by omega)]
      refine ⟨fun h0 => ?_, fun s ht => ?_⟩
      · simp only [ofE, ofL] at h0 ⊢
        by_cases c : (ofE l a).2 = 0
        · by_cases c' : (ofE l b).2 = 0
          · simp only [c, c', ne_eq, not_true_eq_false, if_false, nodeE, hnd, fits2 1 _ _ (by omega), htd] at h0 ⊢
            rw [if_neg (by omega)] at h0 ⊢
            by_cases c2 : (ofE l a).1 = 1 ∧ (ofE l b).1 = 1
            · simp only [c2, and_self, decide_true, Bool.true_eq_false, if_false]
              have t1 := ih1 c
              have t2 := jh1 c'
              rw [c2.1] at t1
              rw [c2.2] at t2
              exact .logic hop t1 t2
            · simp [c2] at h0
          · simp [c, c'] at h0
        · simp [c] at h0
      · cases ht with
        | logic ho ha hb =>
          simp only [ofE, ofL, ih2 _ ha, jh2 _ hb, nodeE, hnd, fits2 1 _ _ (by omega : (1 : Int) ≠ 0), htd]
          rw [if_neg (by simp)]
          simp only [ne_eq, not_true_eq_false, if_false, and_self, decide_true, Bool.true_eq_false, fits2 1 _ _ (by omega : (1 : Int) ≠ 0)]
          rw [if_neg (by omega)]
        | same => omega
        | less ho => omega
        | sum ho => omega
    · obtain ⟨a, b, rfl⟩ := kids2 (h2.trans rfl)
      obtain rfl := hn0 (by omega)
      simp only [soundL, Bool.and_eq_true] at h4
      obtain ⟨ih1, ih2⟩ := hk a (by simp) h4.1
      obtain ⟨jh1, jh2⟩ := hk b (by simp) h4.2.1
      have hnd : needsL 9 = [0, 0] := rfl
      refine ⟨fun h0 => ?_, fun s ht => ?_⟩
      · simp only [ofE, ofL] at h0 ⊢
        by_cases c : (ofE l a).2 = 0
        · by_cases c' : (ofE l b).2 = 0
          · have t1 := ih1 c
            have t2 := jh1 c'
            have hne : (ofE l a).1 ≠ 0 := by rcases t1.sort hs with h | h <;> omega
            simp only [c, c', ne_eq, not_true_eq_false, if_false, nodeE, hnd, fits00 _ _ hne] at h0 ⊢
            rw [if_neg (by omega)] at h0 ⊢
            by_cases c2 : (ofE l b).1 = (ofE l a).1
            · simp only [c2, decide_true, Bool.true_eq_false, if_false]
              rw [c2] at t2
              exact .same t1 t2
            · simp [c2] at h0
          · simp [c, c'] at h0
        · simp [c] at h0
      · cases ht with
        | @same s _ _ ha hb =>
          have hne : s ≠ 0 := by rcases ha.sort hs with h | h <;> omega
          have e1 : fitsFrom [0, 0] [s, s] 0 = true := by rw [fits00 _ _ hne]; simp
          simp [ofE, ofL, ih2 _ ha, jh2 _ hb, nodeE, hnd, e1, toldE]
        | logic ho => omega
        | less ho => omega
        | sum ho => omega
    · have hkn : kidsN op = 2 := by unfold kidsN; rw [if_neg (by omega), if_neg (by omega), if_pos (by omega)]
      obtain ⟨a, b, rfl⟩ := kids2 (h2.trans hkn)
      obtain rfl := hn0 (by omega)
      simp only [soundL, Bool.and_eq_true] at h4
      obtain ⟨ih1, ih2⟩ := hk a (by simp) h4.1
      obtain ⟨jh1, jh2⟩ := hk b (by simp) h4.2.1
      have hnd : needsL op = [2, 2] := by unfold needsL; rw [if_neg (by omega), if_neg (by omega), if_pos (by omega)]
      have htd : ∀ ss, toldE l op 0 ss = 1 := fun ss => by unfold toldE; rw [if_neg (by omega), if_neg (by omega), if_neg (by omega)]
      have e2 : fitsFrom [2, 2] [2, 2] 0 = true := rfl
      refine ⟨fun h0 => ?_, fun s ht => ?_⟩
      · simp only [ofE, ofL] at h0 ⊢
        by_cases c : (ofE l a).2 = 0
        · by_cases c' : (ofE l b).2 = 0
          · simp only [c, c', ne_eq, not_true_eq_false, if_false, nodeE, hnd, fits2 2 _ _ (by omega), htd] at h0 ⊢
            rw [if_neg (by omega)] at h0 ⊢
            by_cases c2 : (ofE l a).1 = 2 ∧ (ofE l b).1 = 2
            · simp only [c2, and_self, decide_true, Bool.true_eq_false, if_false]
              have t1 := ih1 c
              have t2 := jh1 c'
              rw [c2.1] at t1
              rw [c2.2] at t2
              exact .less hop t1 t2
            · simp [c2] at h0
          · simp [c, c'] at h0
        · simp [c] at h0
      · cases ht with
        | less ho ha hb =>
          simp only [ofE, ofL, ih2 _ ha, jh2 _ hb, nodeE, hnd, htd, ne_eq, not_true_eq_false, if_false, e2, Bool.true_eq_false]
          rw [if_neg (by omega)]
        | same => omega
        | logic ho => omega
        | sum ho => omega
    · have hkn : kidsN op = 2 := by unfold kidsN; rw [if_neg (by omega), if_neg (by omega), if_pos (by omega)]
      obtain ⟨a, b, rfl⟩ := kids2 (h2.trans hkn)
      obtain rfl := hn0 (by omega)
      simp only [soundL, Bool.and_eq_true] at h4
      obtain ⟨ih1, ih2⟩ := hk a (by simp) h4.1
      obtain ⟨jh1, jh2⟩ := hk b (by simp) h4.2.1
      have hnd : needsL op = [2, 2] := by unfold needsL; rw [if_neg (by omega), if_neg (by omega), if_pos (by omega)]
      have htd : ∀ ss, toldE l op 0 ss = 2 := fun ss => by unfold toldE; rw [if_pos (by omega)]
      have e2 : fitsFrom [2, 2] [2, 2] 0 = true := rfl
      refine ⟨fun h0 => ?_, fun s ht => ?_⟩
      · simp only [ofE, ofL] at h0 ⊢
        by_cases c : (ofE l a).2 = 0
        · by_cases c' : (ofE l b).2 = 0
          · simp only [c, c', ne_eq, not_true_eq_false, if_false, nodeE, hnd, fits2 2 _ _ (by omega), htd] at h0 ⊢
            rw [if_neg (by omega)] at h0 ⊢
            by_cases c2 : (ofE l a).1 = 2 ∧ (ofE l b).1 = 2
            · simp only [c2, and_self, decide_true, Bool.true_eq_false, if_false]
              have t1 := ih1 c
              have t2 := jh1 c'
              rw [c2.1] at t1
              rw [c2.2] at t2
              exact .sum hop t1 t2
            · simp [c2] at h0
          · simp [c, c'] at h0
        · simp [c] at h0
      · cases ht with
        | sum ho ha hb =>
          simp only [ofE, ofL, ih2 _ ha, jh2 _ hb, nodeE, hnd, htd, ne_eq, not_true_eq_false, if_false, e2, Bool.true_eq_false]
          rw [if_neg (by omega)]
        | same => omega
        | logic ho => omega
        | less ho => omega
    · obtain ⟨a, b, c, rfl⟩ := kids3 (h2.trans rfl)
      obtain rfl := hn0 (by omega)
      simp only [soundL, Bool.and_eq_true] at h4
      obtain ⟨ih1, ih2⟩ := hk a (by simp) h4.1
      obtain ⟨jh1, jh2⟩ := hk b (by simp) h4.2.1
      obtain ⟨kh1, kh2⟩ := hk c (by simp) h4.2.2.1
      have hnd : needsL 15 = [1, 0, 0] := rfl
      refine ⟨fun h0 => ?_, fun s ht => ?_⟩
      · simp only [ofE, ofL] at h0 ⊢
        by_cases c1 : (ofE l a).2 = 0
        · by_cases c2 : (ofE l b).2 = 0
          · by_cases c3 : (ofE l c).2 = 0
            · have t1 := ih1 c1
              have t2 := jh1 c2
              have t3 := kh1 c3
              have hne : (ofE l b).1 ≠ 0 := by rcases t2.sort hs with h | h <;> omega
              simp only [c1, c2, c3, ne_eq, not_true_eq_false, if_false, nodeE, hnd, fits100 _ _ _ hne] at h0 ⊢
              rw [if_neg (by omega)] at h0 ⊢
              by_cases c4 : (ofE l a).1 = 1 ∧ (ofE l c).1 = (ofE l b).1
              · simp only [c4, and_self, decide_true, Bool.true_eq_false, if_false]
                rw [c4.1] at t1
                rw [c4.2] at t3
                have e3 : toldE l 15 0 [1, (ofE l b).1, (ofE l b).1] = (ofE l b).1 := rfl
                rw [e3]
                exact .ite t1 t2 t3
              · simp [c4] at h0
            · simp [c1, c2, c3] at h0
          · simp [c1, c2] at h0
        · simp [c1] at h0
      · cases ht with
        | ite ha hb hc =>
          have hne : s ≠ 0 := by rcases hb.sort hs with h | h <;> omega
          have e1 : fitsFrom [1, 0, 0] [1, s, s] 0 = true := by rw [fits100 _ _ _ hne]; simp
          simp [ofE, ofL, ih2 _ ha, jh2 _ hb, kh2 _ hc, nodeE, hnd, e1, toldE]

/-! ### Values -/
/-- What is read has a value that its variable may have. -/
def vok (l : List Va) (xs : List Int) (n : Int) : Prop := ∀ v, l[n.toNat]? = some v → ∃ x, xs[n.toNat]? = some x ∧ -1000 ≤ x ∧ x ≤ 1000 ∧ (v.sort = 1 → x = 0 ∨ x = 1)
mutual
def rdOk (l : List Va) (now next : List Int) : Ex → Prop
  | .mk op n ks => (op = 3 → vok l now n) ∧ (op = 4 → vok l next n) ∧ rdOkL l now next ks
def rdOkL (l : List Va) (now next : List Int) : List Ex → Prop
  | [] => True
  | k :: ks => rdOk l now next k ∧ rdOkL l now next ks
end
def Vals (l : List Va) (xs : List Int) : Prop := ∀ n, vok l xs n
mutual
theorem Vals.rdOk {l : List Va} {now next : List Int} (h : Vals l now) (k : Vals l next) : ∀ e, rdOk l now next e
  | .mk op n ks => by
    unfold Go.AM.rdOk
    exact ⟨fun _ => h n, fun _ => k n, Vals.rdOkL h k ks⟩
theorem Vals.rdOkL {l : List Va} {now next : List Int} (h : Vals l now) (k : Vals l next) : ∀ ks, rdOkL l now next ks
  | [] => trivial
  | e :: ks => ⟨Vals.rdOk h k e, Vals.rdOkL h k ks⟩
end
theorem bitE_range (b : Bool) : bitE b = 0 ∨ bitE b = 1 := by cases b <;> simp [bitE]
theorem valE_num (now next : List Int) {op n : Int} (ho : op = 1 ∨ op = 2) (ks : List Ex) : valE now next (.mk op n ks) = (n, 0) := by
  simp only [valE, nodeV]
  rw [if_pos ho]
theorem valE_now (now next : List Int) {n : Int} (ks : List Ex) : valE now next (.mk 3 n ks) = (now.getD n.toNat 0, 0) := by
  simp [valE, nodeV]
theorem valE_next (now next : List Int) {n : Int} (ks : List Ex) : valE now next (.mk 4 n ks) = (next.getD n.toNat 0, 0) := by
  simp [valE, nodeV]
theorem valE_not (now next : List Int) (a : Ex) : valE now next (.mk 5 0 [a]) = if (valE now next a).2 ≠ 0 then (0, (valE now next a).2) else (1 - (valE now next a).1, 0) := by
  simp only [valE, nodeV, valL, List.getD_cons_zero]
  rw [if_neg (by omega), if_neg (by omega), if_neg (by omega)]
  by_cases c : (valE now next a).2 ≠ 0
  · rw [if_pos c, if_pos c]
  · rw [if_neg c, if_neg c, if_pos (.inl (by omega))]
    have hl : lazyE 5 (valE now next a).1 = (-1, 1 - (valE now next a).1) := by simp [lazyE]
    rw [hl, if_pos (by simp)]
theorem valE_logic (now next : List Int) {op : Int} (ho : 6 ≤ op ∧ op ≤ 8) (a b : Ex) : valE now next (.mk op 0 [a, b]) = if (valE now next a).2 ≠ 0 then (0, (valE now next a).2) else
    if op = 6 ∧ (valE now next a).1 = 0 then (0, 0) else if op = 7 ∧ (valE now next a).1 = 1 ∨ op = 8 ∧ (valE now next a).1 = 0 then (1, 0) else valE now next b := by
  simp only [valE, nodeV, valL, List.getD_cons_zero]
  rw [if_neg (by omega), if_neg (by omega), if_neg (by omega)]
  by_cases c : (valE now next a).2 ≠ 0
  · rw [if_pos c, if_pos c]
  · rw [if_neg c, if_neg c, if_pos (.inl (by omega))]
    have hl : lazyE op (valE now next a).1 = if op = 6 ∧ (valE now next a).1 = 0 then (-1, 0) else if op = 7 ∧ (valE now next a).1 = 1 ∨ op = 8 ∧ (valE now next a).1 = 0 then (-1, 1) else (1, 0) := by
      unfold lazyE
      rw [if_neg (show ¬ op = 5 by omega), if_neg (show ¬ op = 15 by omega)]
    rw [hl]
    by_cases c1 : op = 6 ∧ (valE now next a).1 = 0
    · rw [if_pos c1, if_pos c1, if_pos (by simp)]
    · rw [if_neg c1, if_neg c1]
      by_cases c2 : op = 7 ∧ (valE now next a).1 = 1 ∨ op = 8 ∧ (valE now next a).1 = 0
      · rw [if_pos c2, if_pos c2, if_pos (by simp)]
      · rw [if_neg c2, if_neg c2, if_neg (by simp)]
        rfl
theorem valE_two (now next : List Int) {op : Int} (ho : 9 ≤ op ∧ op ≤ 14) (a b : Ex) : valE now next (.mk op 0 [a, b]) = if (valE now next a).2 ≠ 0 then (0, (valE now next a).2) else if (valE now next b).2 ≠ 0 then (0, (valE now next b).2) else
    if twoE op (valE now next a).1 (valE now next b).1 < -1000 ∨ 1000 < twoE op (valE now next a).1 (valE now next b).1 then (0, 6) else (twoE op (valE now next a).1 (valE now next b).1, 0) := by
  simp only [valE, nodeV, valL, List.getD_cons_zero, List.getD_cons_succ]
  rw [if_neg (by omega), if_neg (by omega), if_neg (by omega)]
  by_cases c : (valE now next a).2 ≠ 0
  · rw [if_pos c, if_pos c]
  · rw [if_neg c, if_neg c, if_neg (by omega)]
theorem valE_ite (now next : List Int) (a b c : Ex) : valE now next (.mk 15 0 [a, b, c]) = if (valE now next a).2 ≠ 0 then (0, (valE now next a).2) else
    if 2 - (valE now next a).1 < 0 then (0, 0) else [valE now next a, valE now next b, valE now next c].getD (2 - (valE now next a).1).toNat (0, 0) := by
  simp only [valE, nodeV, valL, List.getD_cons_zero]
  rw [if_neg (by omega), if_neg (by omega), if_neg (by omega)]
  by_cases c : (valE now next a).2 ≠ 0
  · rw [if_pos c, if_pos c]
  · rw [if_neg c, if_neg c, if_pos (.inr trivial)]
    have hl : lazyE 15 (valE now next a).1 = (2 - (valE now next a).1, 0) := by simp [lazyE]
    rw [hl]
theorem valE_typed {l : List Va} {now next : List Int} {e : Ex} {s : Int} (ht : Typed l e s) (hr : rdOk l now next e) (h0 : (valE now next e).2 = 0) : -1000 ≤ (valE now next e).1 ∧ (valE now next e).1 ≤ 1000 ∧ (s = 1 → (valE now next e).1 = 0 ∨ (valE now next e).1 = 1) := by
  induction ht with
  | num h1 h2 => rw [valE_num _ _ (.inl rfl)]; exact ⟨h1, h2, by omega⟩
  | bool h => rw [valE_num _ _ (.inr rfl)]; exact ⟨by simp only; omega, by simp only; omega, fun _ => h⟩
  | @var op i v ho h hi =>
    simp only [rdOk] at hr
    rcases ho with rfl | rfl
    · obtain ⟨x, h1, h2, h3, h4⟩ := hr.1 rfl v (by simpa using h)
      have e : valE now next (.mk 3 i []) = (x, 0) := by rw [valE_now, List.getD_eq_getElem?_getD, h1]; rfl
      rw [e]
      exact ⟨h2, h3, h4⟩
    · obtain ⟨x, h1, h2, h3, h4⟩ := hr.2.1 rfl v (by simpa using h)
      have e : valE now next (.mk 4 i []) = (x, 0) := by rw [valE_next, List.getD_eq_getElem?_getD, h1]; rfl
      rw [e]
      exact ⟨h2, h3, h4⟩
  | @not a ha ih =>
    simp only [rdOk, rdOkL] at hr
    rw [valE_not] at h0 ⊢
    by_cases c : (valE now next a).2 = 0
    · rw [if_neg (by simpa using c)]
      have := ih hr.2.2.1 c
      simp only
      have h2 := this.2.2 rfl
      omega
    · rw [if_pos c] at h0; exact absurd h0 c
  | @logic op a b ho ha hb iha ihb =>
    simp only [rdOk, rdOkL] at hr
    rw [valE_logic _ _ ho] at h0 ⊢
    by_cases c : (valE now next a).2 = 0
    · rw [if_neg (by simpa using c)] at h0 ⊢
      split
      · simp
      · rename_i c1
        rw [if_neg c1] at h0
        split
        · simp
        · rename_i c2
          rw [if_neg c2] at h0
          exact ihb hr.2.2.2.1 h0
    · rw [if_pos c] at h0; exact absurd h0 c
  | @same s' a b ha hb iha ihb =>
    rw [valE_two _ _ (by omega)] at h0 ⊢
    by_cases c : (valE now next a).2 = 0
    · rw [if_neg (by simpa using c)] at h0 ⊢
      by_cases c' : (valE now next b).2 = 0
      · rw [if_neg (by simpa using c')] at h0 ⊢
        split at h0
        · cases h0
        · rename_i h1
          rw [if_neg h1]
          have h2 : twoE 9 (valE now next a).1 (valE now next b).1 = bitE ((valE now next a).1 == (valE now next b).1) := by simp [twoE]
          simp only [h2]
          have := bitE_range ((valE now next a).1 == (valE now next b).1)
          omega
      · rw [if_pos c'] at h0; exact absurd h0 c'
    · rw [if_pos c] at h0; exact absurd h0 c
  | @less op a b ho ha hb iha ihb =>
    rw [valE_two _ _ (by omega)] at h0 ⊢
    by_cases c : (valE now next a).2 = 0
    · rw [if_neg (by simpa using c)] at h0 ⊢
      by_cases c' : (valE now next b).2 = 0
      · rw [if_neg (by simpa using c')] at h0 ⊢
        split at h0
        · cases h0
        · rename_i h1
          rw [if_neg h1]
          have h2 : ∃ q, twoE op (valE now next a).1 (valE now next b).1 = bitE q := by
            unfold twoE
            rw [if_neg (by omega)]
            split
            · exact ⟨_, rfl⟩
            · rw [if_pos (by omega)]; exact ⟨_, rfl⟩
          obtain ⟨q, h2⟩ := h2
          simp only [h2]
          have := bitE_range q
          omega
      · rw [if_pos c'] at h0; exact absurd h0 c'
    · rw [if_pos c] at h0; exact absurd h0 c
  | @sum op a b ho ha hb iha ihb =>
    rw [valE_two _ _ (by omega)] at h0 ⊢
    by_cases c : (valE now next a).2 = 0
    · rw [if_neg (by simpa using c)] at h0 ⊢
      by_cases c' : (valE now next b).2 = 0
      · rw [if_neg (by simpa using c')] at h0 ⊢
        split at h0
        · cases h0
        · rename_i h1
          rw [if_neg h1]
          simp only
          omega
      · rw [if_pos c'] at h0; exact absurd h0 c'
    · rw [if_pos c] at h0; exact absurd h0 c
  | @ite s' a b c ha hb hc iha ihb ihc =>
    simp only [rdOk, rdOkL] at hr
    rw [valE_ite] at h0 ⊢
    by_cases q : (valE now next a).2 = 0
    · rw [if_neg (by simpa using q)] at h0 ⊢
      have h1 := (iha hr.2.2.1 q).2.2 rfl
      rw [if_neg (by omega)] at h0 ⊢
      rcases h1 with h1 | h1 <;> rw [h1] at h0 ⊢
      · exact ihc hr.2.2.2.2.1 h0
      · exact ihb hr.2.2.2.1 h0
    · rw [if_pos q] at h0; exact absurd h0 q
end Go.AM
