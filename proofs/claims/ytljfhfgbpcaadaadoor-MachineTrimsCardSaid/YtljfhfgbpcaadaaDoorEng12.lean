/- The engine, part 12: where ways meet; code. -/
import Derived.Test.YtljfhfgbpcaadaaDoorEng11
set_option linter.unusedSimpArgs false
set_option linter.unusedVariables false
namespace Go.AM
open Go.RowKit (Below)
section
variable {P : Program} {w0 : Fr0} {w : World} {M M' : Store} {β : Bn} {hd : Nat → Value}
theorem rename (h : Sim P w0 w M β hd) {k K : Nat} {e : TypeId} {n : Nat} {g : Nat → Nat → T} (hk : M.get k = some (.row e n g)) (hK : M.get K = none)
    (hM : ∀ q, M'.get q = if q = K then some (.row e n g) else if q = k then some .dead else M.get q) :
    Sim P w0 w M' β (fun q => if q = K then hd k else hd q) ∧ Ext M β hd M' β (fun q => if q = K then hd k else hd q) ∧ Keeps w (Own M β hd) w (Own M' β (fun q => if q = K then hd k else hd q)) ∧
      ∀ off len v, RC P w M β hd (.row k off len) v → RC P w M' β (fun q => if q = K then hd k else hd q) (.row K off len) v := by
  have hkK : k ≠ K := fun e => by rw [e, hK] at hk; cases hk
  have howns : ∀ q b, Owns M' β (fun q => if q = K then hd k else hd q) q b → (q = K ∧ Owns M β hd k b) ∨ (q ≠ K ∧ q ≠ k ∧ Owns M β hd q b) := by
    intro q b ho
    unfold Owns at ho
    rw [hM] at ho
    by_cases h1 : q = K
    · subst h1
      rw [if_pos rfl] at ho
      rcases ho with ⟨_, _, h2, _⟩ | ⟨_, _, _, h2, h3⟩
      · cases h2
      · left
        refine ⟨rfl, .inr ⟨e, n, g, hk, ?_⟩⟩
        simpa using h3
    · rw [if_neg h1] at ho
      by_cases h2 : q = k
      · rw [if_pos h2] at ho
        rcases ho with ⟨_, _, h3, _⟩ | ⟨_, _, _, h3, _⟩ <;> cases h3
      · rw [if_neg h2] at ho
        right
        refine ⟨h1, h2, ?_⟩
        rcases ho with ⟨t, cs, h3, h4⟩ | ⟨e', n', g', h3, h4⟩
        · exact .inl ⟨t, cs, h3, h4⟩
        · exact .inr ⟨e', n', g', h3, by simpa [h1] using h4⟩
  have hkp : Keeps w (Own M β hd) w (Own M' β (fun q => if q = K then hd k else hd q)) := by
    refine ⟨Nat.le_refl _, fun b _ ho => ⟨rfl, ?_⟩⟩
    rintro (⟨q, hq⟩ | hq)
    · rcases howns q b hq with ⟨_, h1⟩ | ⟨_, _, h1⟩
      · exact ho (.inl ⟨k, h1⟩)
      · exact ho (.inl ⟨q, h1⟩)
    · exact ho (.inr hq)
  have hex : Ext M β hd M' β (fun q => if q = K then hd k else hd q) := by
    refine ⟨fun q hq => ?_, fun q t cs hq h0 => ?_, fun q e' n' g' hq h0 => ?_, rfl⟩
    · rw [hM]; split
      · simp
      · split
        · simp
        · exact hq
    · rw [hM] at hq
      by_cases h1 : q = K
      · rw [h1] at h0; exact absurd hK h0
      · rw [if_neg h1] at hq
        split at hq
        · cases hq
        · exact ⟨⟨cs, hq⟩, rfl⟩
    · rw [hM] at hq
      by_cases h1 : q = K
      · rw [h1] at h0; exact absurd hK h0
      · rw [if_neg h1] at hq
        split at hq
        · cases hq
        · exact ⟨⟨g', hq⟩, by simp [h1]⟩
  refine ⟨h.evolve h.below hkp hex ?_ ?_ ?_ ?_, hex, hkp, ?_⟩
  · intro q b ho
    rcases howns q b ho with ⟨_, h1⟩ | ⟨_, _, h1⟩ <;> exact h.ge _ b h1
  · intro q q' b ho ho'
    rcases howns q b ho with ⟨rfl, h1⟩ | ⟨h2, h3, h1⟩ <;> rcases howns q' b ho' with ⟨rfl, h1'⟩ | ⟨h2', h3', h1'⟩
    · rfl
    · exact absurd (h.inj k q' b h1 h1').symm h3'
    · exact absurd (h.inj k q b h1' h1).symm h3
    · exact h.inj q q' b h1 h1'
  · intro q t cs hq
    rw [hM] at hq
    split at hq
    · cases hq
    · split at hq
      · cases hq
      · exact .inl ⟨hq, rfl, rfl⟩
  · intro q e' n' g' hq
    rw [hM] at hq
    by_cases h1 : q = K
    · rw [if_pos h1] at hq
      cases hq
      right
      obtain ⟨hpos, xs, h2, h3⟩ := h.row k e n g hk
      refine ⟨hpos, xs, by simpa [h1] using h2, fun i j τ hi hj => ?_⟩
      obtain ⟨v, h4, h5⟩ := h3 i j τ hi hj
      exact ⟨v, h4, h5.keep hkp⟩
    · rw [if_neg h1] at hq
      split at hq
      · cases hq
      · exact .inl ⟨hq, by simp [h1], fun _ _ => rfl⟩
  · intro off len v hr
    cases hr with
    | row h0 h1 hv =>
      refine .row (by rw [hM, if_pos rfl]; simp) h1 fun e' n' g' hq => ?_
      rw [hM, if_pos rfl] at hq
      cases hq
      have := hv e n g hk
      simpa using this
theorem name_nil (h : Sim P w0 w M β hd) {K : Nat} {e : TypeId} {g : Nat → Nat → T} (hK : M.get K = none) (hpos : 0 < (lv P e).length) (hM : ∀ q, M'.get q = if q = K then some (.row e 0 g) else M.get q) :
    Sim P w0 w M' β (fun q => if q = K then .slice none 0 0 else hd q) ∧ Ext M β hd M' β (fun q => if q = K then .slice none 0 0 else hd q) ∧ Keeps w (Own M β hd) w (Own M' β (fun q => if q = K then .slice none 0 0 else hd q)) ∧
      ∀ A : Option Addr, RC P w M' β (fun q => if q = K then .slice none 0 0 else hd q) (.row K 0 0) (.slice A 0 0) := by
  have howns : ∀ q b, Owns M' β (fun q => if q = K then .slice none 0 0 else hd q) q b → q ≠ K ∧ Owns M β hd q b := by
    intro q b ho
    unfold Owns at ho
    rw [hM] at ho
    by_cases h1 : q = K
    · subst h1
      rw [if_pos rfl] at ho
      rcases ho with ⟨_, _, h2, _⟩ | ⟨_, _, _, _, h3⟩
      · cases h2
      · simp [Value.ownBlock] at h3
    · rw [if_neg h1] at ho
      refine ⟨h1, ?_⟩
      rcases ho with ⟨t, cs, h3, h4⟩ | ⟨e', n', g', h3, h4⟩
      · exact .inl ⟨t, cs, h3, h4⟩
      · exact .inr ⟨e', n', g', h3, by simpa [h1] using h4⟩
  have hkp : Keeps w (Own M β hd) w (Own M' β (fun q => if q = K then .slice none 0 0 else hd q)) := by
    refine ⟨Nat.le_refl _, fun b _ ho => ⟨rfl, ?_⟩⟩
    rintro (⟨q, hq⟩ | hq)
    · exact ho (.inl ⟨q, (howns q b hq).2⟩)
    · exact ho (.inr hq)
  have hex : Ext M β hd M' β (fun q => if q = K then .slice none 0 0 else hd q) := by
    refine ⟨fun q hq => ?_, fun q t cs hq h0 => ?_, fun q e' n' g' hq h0 => ?_, rfl⟩
    · rw [hM]; split
      · simp
      · exact hq
    · rw [hM] at hq
      by_cases h1 : q = K
      · rw [h1] at h0; exact absurd hK h0
      · rw [if_neg h1] at hq
        exact ⟨⟨cs, hq⟩, rfl⟩
    · rw [hM] at hq
      by_cases h1 : q = K
      · rw [h1] at h0; exact absurd hK h0
      · rw [if_neg h1] at hq
        exact ⟨⟨g', hq⟩, by simp [h1]⟩
  refine ⟨h.evolve h.below hkp hex ?_ ?_ ?_ ?_, hex, hkp, ?_⟩
  · intro q b ho
    exact h.ge _ b (howns q b ho).2
  · intro q q' b ho ho'
    exact h.inj q q' b (howns q b ho).2 (howns q' b ho').2
  · intro q t cs hq
    rw [hM] at hq
    split at hq
    · cases hq
    · exact .inl ⟨hq, rfl, rfl⟩
  · intro q e' n' g' hq
    rw [hM] at hq
    by_cases h1 : q = K
    · rw [if_pos h1] at hq
      cases hq
      right
      exact ⟨hpos, [], by simpa [h1] using World.ownsRow_nil w 0 e _, fun i j τ hi _ => absurd hi (Nat.not_lt_zero _)⟩
    · rw [if_neg h1] at hq
      exact .inl ⟨hq, by simp [h1], fun _ _ => rfl⟩
  · intro A
    refine .row (by rw [hM, if_pos rfl]; simp) rfl fun e' n' g' hq => ?_
    rw [hM, if_pos rfl] at hq
    cases hq
    simp only [if_true]
    exact .inl ⟨rfl, ⟨A, rfl⟩, rfl, rfl⟩
theorem rebox (h : Sim P w0 w M β hd) {b : Nat} {t : TypeId} {cs cs' : List AV} (hnm : isMapT t = false) (hb : M.get b = some (.box t cs)) (hM : ∀ q, M'.get q = if q = b then some (.box t cs') else M.get q) (hl : cs'.length = cs.length)
    (hc : ∀ (c : Array Value) j x, (∀ j x, cs[j]? = some x → RC P w M β hd x (c.getD j undef)) → cs'[j]? = some x → RC P w M β hd x (c.getD j undef)) : Sim P w0 w M' β hd ∧ Ext M β hd M' β hd ∧ Keeps w (Own M β hd) w (Own M' β hd) := by
  have howns : ∀ q x, Owns M' β hd q x → Owns M β hd q x := by
    intro q x ho
    unfold Owns at ho ⊢
    rw [hM] at ho
    by_cases h1 : q = b
    · subst h1
      rw [if_pos rfl] at ho
      rcases ho with ⟨_, _, _, h3⟩ | ⟨_, _, _, h2, _⟩
      · exact .inl ⟨t, cs, hb, h3⟩
      · cases h2
    · rw [if_neg h1] at ho
      exact ho
  have hkp : Keeps w (Own M β hd) w (Own M' β hd) := by
    refine ⟨Nat.le_refl _, fun b _ ho => ⟨rfl, fun hq => ho (hq.imp (fun ⟨q, hq⟩ => ⟨q, howns q b hq⟩) id)⟩⟩
  have hex : Ext M β hd M' β hd := by
    refine ⟨fun q hq => ?_, fun q t' cs2 hq h0 => ?_, fun q e' n' g' hq h0 => ?_, rfl⟩
    · rw [hM]; split
      · simp
      · exact hq
    · rw [hM] at hq
      by_cases h1 : q = b
      · subst h1; rw [if_pos rfl] at hq; cases hq; exact ⟨⟨cs, hb⟩, rfl⟩
      · rw [if_neg h1] at hq; exact ⟨⟨cs2, hq⟩, rfl⟩
    · rw [hM] at hq
      by_cases h1 : q = b
      · rw [if_pos h1] at hq; cases hq
      · rw [if_neg h1] at hq; exact ⟨⟨g', hq⟩, rfl⟩
  refine ⟨h.evolve h.below hkp hex (fun q b ho => h.ge _ b (howns q b ho)) (fun q q' b ho ho' => h.inj q q' b (howns q b ho) (howns q' b ho')) ?_ ?_, hex, hkp⟩
  · intro q t' cs2 hq
    rw [hM] at hq
    by_cases h1 : q = b
    · subst h1
      rw [if_pos rfl] at hq
      cases hq
      obtain ⟨c, h2, h3, h4⟩ := (h.box q t cs hb).cellsT hnm
      exact .inr (.inl ⟨hnm, c, h2, by omega, fun j x hj => (hc c j x h4 hj).keep hkp hex⟩)
    · rw [if_neg h1] at hq
      exact .inl ⟨hq, rfl, rfl⟩
  · intro q e' n' g' hq
    rw [hM] at hq
    by_cases h1 : q = b
    · rw [if_pos h1] at hq; cases hq
    · rw [if_neg h1] at hq
      exact .inl ⟨hq, rfl, fun _ _ => rfl⟩
theorem freeze (h : Sim P w0 w M β hd) {b k : Nat} {t : TypeId} {cs cs' : List AV} (hnm : isMapT t = false) (hb : M.get b = some (.box t cs)) (hbk : b ≠ k) (hk : M.get k ≠ none) (hM : ∀ q, M'.get q = if q = b then some (.box t cs') else if q = k then some .dead else M.get q) (hl : cs'.length = cs.length)
    (hc : ∀ (c : Array Value) j x, (∀ j x, cs[j]? = some x → RC P w M β hd x (c.getD j undef)) → cs'[j]? = some x → RC P w M β hd x (c.getD j undef) ∨ RC P w M' β hd x (c.getD j undef)) : Sim P w0 w M' β hd ∧ Ext M β hd M' β hd ∧ Keeps w (Own M β hd) w (Own M' β hd) := by
  have howns : ∀ q x, Owns M' β hd q x → Owns M β hd q x := by
    intro q x ho
    unfold Owns at ho ⊢
    rw [hM] at ho
    by_cases h1 : q = b
    · subst h1
      rw [if_pos rfl] at ho
      rcases ho with ⟨_, _, _, h3⟩ | ⟨_, _, _, h2, _⟩
      · exact .inl ⟨t, cs, hb, h3⟩
      · cases h2
    · rw [if_neg h1] at ho
      by_cases h2 : q = k
      · rw [if_pos h2] at ho
        rcases ho with ⟨_, _, h3, _⟩ | ⟨_, _, _, h3, _⟩ <;> cases h3
      · rw [if_neg h2] at ho
        exact ho
  have hkp : Keeps w (Own M β hd) w (Own M' β hd) := by
    refine ⟨Nat.le_refl _, fun b _ ho => ⟨rfl, fun hq => ho (hq.imp (fun ⟨q, hq⟩ => ⟨q, howns q b hq⟩) id)⟩⟩
  have hex : Ext M β hd M' β hd := by
    refine ⟨fun q hq => ?_, fun q t' cs2 hq h0 => ?_, fun q e' n' g' hq h0 => ?_, rfl⟩
    · rw [hM]; split
      · simp
      · split
        · simp
        · exact hq
    · rw [hM] at hq
      by_cases h1 : q = b
      · subst h1; rw [if_pos rfl] at hq; cases hq; exact ⟨⟨cs, hb⟩, rfl⟩
      · rw [if_neg h1] at hq
        by_cases h2 : q = k
        · rw [if_pos h2] at hq; cases hq
        · rw [if_neg h2] at hq; exact ⟨⟨cs2, hq⟩, rfl⟩
    · rw [hM] at hq
      by_cases h1 : q = b
      · rw [if_pos h1] at hq; cases hq
      · rw [if_neg h1] at hq
        by_cases h2 : q = k
        · rw [if_pos h2] at hq; cases hq
        · rw [if_neg h2] at hq; exact ⟨⟨g', hq⟩, rfl⟩
  refine ⟨h.evolve h.below hkp hex (fun q b ho => h.ge _ b (howns q b ho)) (fun q q' b ho ho' => h.inj q q' b (howns q b ho) (howns q' b ho')) ?_ ?_, hex, hkp⟩
  · intro q t' cs2 hq
    rw [hM] at hq
    by_cases h1 : q = b
    · subst h1
      rw [if_pos rfl] at hq
      cases hq
      obtain ⟨c, h2, h3, h4⟩ := (h.box q t cs hb).cellsT hnm
      exact .inr (.inl ⟨hnm, c, h2, by omega, fun j x hj => (hc c j x h4 hj).elim (fun h5 => h5.keep hkp hex) id⟩)
    · rw [if_neg h1] at hq
      by_cases h2 : q = k
      · rw [if_pos h2] at hq; cases hq
      · rw [if_neg h2] at hq
        exact .inl ⟨hq, rfl, rfl⟩
  · intro q e' n' g' hq
    rw [hM] at hq
    by_cases h1 : q = b
    · rw [if_pos h1] at hq; cases hq
    · rw [if_neg h1] at hq
      by_cases h2 : q = k
      · rw [if_pos h2] at hq; cases hq
      · rw [if_neg h2] at hq
        exact .inl ⟨hq, rfl, fun _ _ => rfl⟩
theorem Slots.reset {sl : List AV} {a : Act} (hs : Slots P w M β hd sl a) {t : Nat} {x : AV} (hx : RA P w M β hd x (a.tmps.getD t undef)) : Slots P w M β hd (sl.set t x) a := by
  refine ⟨by simpa using hs.len, fun q y hy => ?_, hs.defers⟩
  rw [List.getElem?_set] at hy
  by_cases hqt : t = q
  · subst hqt
    rw [if_pos rfl] at hy
    split at hy
    · obtain rfl : x = y := by simpa using hy
      exact hx
    · cases hy
  · rw [if_neg hqt] at hy
    exact hs.val q y hy
theorem Slots.keep {M' : Store} {hd' : Nat → Value} {sl : List AV} {a : Act} (hs : Slots P w M β hd sl a) (hk : Keeps w (Own M β hd) w (Own M' β hd')) (he : Ext M β hd M' β hd') : Slots P w M' β hd' sl a :=
  ⟨hs.len, fun t x hx => (hs.val t x hx).keep hk he, hs.defers⟩
theorem absent_inv {K : Nat} (h : absent M K = true) : M.get K = none := by
  unfold absent at h
  split at h
  · assumption
  · cases h
theorem slot_rel {sl : List AV} {a : Act} (hs : Slots P w M β hd sl a) {t : Nat} {x : AV} (h : sl.getD t .und = x) : RA P w M β hd x (a.tmps.getD t undef) := h ▸ evO_rel hs (.tmp t)
end
section
variable {P : Program} {w0 : Fr0} {w : World} {O : Nat → Prop} {s s' : St} {a : Act}
theorem canonS_ok (hst : StOk P w0 O s a w) {t : Nat} {e : TypeId} {K : Nat} (h : canonS P s t e K = some s') : StOk P w0 O s' a w := by
  unfold canonS at h
  split at h
  · rename_i hsl
    obtain ⟨hc, h1⟩ := bif_inv h
    clear h
    cases h1
    rw [Bool.and_eq_true] at hc
    obtain ⟨β, hd, hO, C⟩ := hst
    have hK := absent_inv hc.1
    have hpos : 0 < (lv P e).length := by have := hc.2; rwa [Nat.blt_eq] at this
    obtain ⟨h1, h2, h3, h4⟩ := name_nil (g := fun _ _ => .b false) (M' := s.M.set K (.row e 0 fun _ _ => .b false)) C.sim hK hpos (fun q => by rw [Store.get_set]; by_cases hq : K = q <;> simp [hq, eq_comm])
    refine ⟨β, _, ⟨hO.1, hO.2.step h2⟩, h1, (C.slots.keep h3 h2).reset ?_⟩
    obtain ⟨A, hA⟩ := (slot_rel C.slots hsl).nl_inv
    rw [hA]
    exact .c (h4 A)
  · rename_i k off len hsl
    cases hkk : k == K with
    | true => rw [hkk] at h; cases h; exact hst
    | false =>
      rw [hkk] at h
      simp only [cond_false] at h
      split at h
      · rename_i e' n g hK hk
        cases h
        obtain ⟨β, hd, hO, C⟩ := hst
        obtain ⟨h1, h2, h3, h4⟩ := rename (M' := (s.M.set k .dead).set K (.row e' n g)) C.sim hk hK (fun q => by
          rw [Store.get_set, Store.get_set]
          by_cases hq : K = q
          · simp [hq]
          · have h8 : ¬ q = K := fun e => hq e.symm
            by_cases hq2 : k = q
            · simp [hq, hq2, h8]
            · have h9 : ¬ q = k := fun e => hq2 e.symm
              simp [hq, hq2, h8, h9])
        refine ⟨β, _, ⟨hO.1, hO.2.step h2⟩, h1, ?_, fun t0 x hx => ?_, C.slots.defers⟩
        · rw [renL_map, List.length_map]; exact C.slots.len
        · rw [renL_map, List.getElem?_map] at hx
          cases hc : s.slots[t0]? with
          | none => rw [hc] at hx; cases hx
          | some y =>
            rw [hc] at hx
            obtain rfl : ren (sw k K) y = x := by simpa using hx
            refine ren_RA (C.slots.val t0 y hc) (fun q hq h0 => ?_) (.inr h3)
            by_cases hqk : q = k
            · subst hqk
              have e1 : sw q K q = K := by simp [sw]
              have e2 : ((s.M.set q .dead).set K (.row e' n g)).get K = some (.row e' n g) := by rw [Store.get_set]; simp
              rw [e1]
              refine ⟨by rw [e2]; simp, fun t1 c1 hb => ?_, fun e1 n1 g1 hr => ?_⟩
              · rw [e2] at hb; cases hb
              · rw [e2] at hr
                cases hr
                exact ⟨⟨g, hk⟩, by simp⟩
            · have e1 : sw k K q = q := by
                unfold sw
                rw [show (q == k) = false by simpa using hqk]
                rfl
              rw [e1]
              exact ⟨h2.pres q h0, fun t1 c1 hb => h2.box q t1 c1 hb h0, fun e1 n1 g1 hr => h2.row q e1 n1 g1 hr h0⟩
      · cases h
  · cases h
theorem canonC_ok (hst : StOk P w0 O s a w) {b j : Nat} {e : TypeId} {K : Nat} (h : canonC P s b j e K = some s') : StOk P w0 O s' a w := by
  unfold canonC at h
  split at h
  · rename_i bt cs hb
    split at h
    · rename_i hcj
      obtain ⟨hc, h1⟩ := bif_inv h
      clear h
      cases h1
      rw [Bool.and_eq_true] at hc
      obtain ⟨β, hd, hO, C⟩ := hst
      have hK := absent_inv hc.1
      have hbK : b ≠ K := fun e => by rw [e, hK] at hb; cases hb
      have hpos : 0 < (lv P e).length := by have := hc.2; rwa [Nat.blt_eq] at this
      obtain ⟨h1, h2, h3, h4⟩ := name_nil (g := fun _ _ => .b false) (M' := s.M.set K (.row e 0 fun _ _ => .b false)) C.sim hK hpos (fun q => by rw [Store.get_set]; by_cases hq : K = q <;> simp [hq, eq_comm])
      obtain ⟨h5, h6, h7⟩ := rebox (M' := (s.M.set b (.box bt (cs.set j (.row K 0 0)))).set K (.row e 0 fun _ _ => .b false)) (b := b) (t := bt) (cs := cs) (cs' := cs.set j (.row K 0 0)) h1 ((C.sim.box b bt cs hb).notMap hcj (fun _ _ e => by cases e) (fun e => by cases e))
        (by rw [Store.get_set, if_neg (fun e => hbK e.symm)]; exact hb) (fun q => by
          rw [Store.get_set, Store.get_set, Store.get_set]
          by_cases hq : K = q
          · subst hq; simp [show ¬ K = b from fun e => hbK e.symm]
          · by_cases hq2 : b = q
            · simp [hq, hq2]
            · have h9 : ¬ q = b := fun e => hq2 e.symm
              simp [hq, hq2, h9]) (by simp) (fun c q x hcs hq => by
          rw [List.getElem?_set] at hq
          by_cases hjq : j = q
          · subst hjq
            rw [if_pos rfl] at hq
            split at hq
            · rename_i hlt
              obtain rfl : AV.row K 0 0 = x := by simpa using hq
              have h8 : cs[j]? = some .nl := by
                rw [List.getD_eq_getElem?_getD, List.getElem?_eq_getElem hlt] at hcj
                rw [List.getElem?_eq_getElem hlt]
                simpa using hcj
              have h9 := hcs j _ h8
              generalize c.getD j undef = v at h9 ⊢
              cases h9
              exact h4 _
            · cases hq
          · rw [if_neg hjq] at hq
            exact hcs q x hq)
      exact ⟨β, _, ⟨hO.1, (hO.2.step h2).step h6⟩, h5, (C.slots.keep h3 h2).keep h7 h6⟩
    · rename_i k off len hcj
      cases hkk : k == K with
      | true => rw [hkk] at h; cases h; exact hst
      | false =>
        rw [hkk] at h
        simp only [cond_false] at h
        split at h
        · rename_i e' n g hK hk
          cases h
          obtain ⟨β, hd, hO, C⟩ := hst
          have hbK : b ≠ K := fun e => by rw [e, hK] at hb; cases hb
          have hbk : b ≠ k := fun e => by rw [e, hk] at hb; cases hb
          obtain ⟨h1, h2, h3, h4⟩ := rename (M' := (s.M.set k .dead).set K (.row e' n g)) C.sim hk hK (fun q => by
            rw [Store.get_set, Store.get_set]
            by_cases hq : K = q
            · simp [hq]
            · have h8 : ¬ q = K := fun e => hq e.symm
              by_cases hq2 : k = q
              · simp [hq, hq2, h8]
              · have h9 : ¬ q = k := fun e => hq2 e.symm
                simp [hq, hq2, h8, h9])
          have hnm := (C.sim.box b bt cs hb).notMap hcj (fun _ _ e => by cases e) (fun e => by cases e)
          obtain ⟨c, h10, h11, h12⟩ := (C.sim.box b bt cs hb).cellsT hnm
          obtain ⟨h5, h6, h7⟩ : Sim P w0 w (((s.M.set b (.box bt (cs.set j (.row K off len)))).set k .dead).set K (.row e' n g)) β (fun q => if q = K then hd k else hd q) ∧ _ ∧ _ := by
            have hMM : ∀ q, (((s.M.set b (.box bt (cs.set j (.row K off len)))).set k .dead).set K (.row e' n g)).get q = if q = b then some (.box bt (cs.set j (.row K off len))) else ((s.M.set k .dead).set K (.row e' n g)).get q := by
              intro q
              rw [Store.get_set, Store.get_set, Store.get_set, Store.get_set, Store.get_set]
              by_cases hq : K = q
              · subst hq; simp [show ¬ K = b from fun e => hbK e.symm]
              · by_cases hq2 : k = q
                · subst hq2; simp [hq, show ¬ k = b from fun e => hbk e.symm]
                · by_cases hq3 : b = q
                  · simp [hq, hq2, hq3]
                  · have h9 : ¬ q = b := fun e => hq3 e.symm
                    simp [hq, hq2, hq3, h9]
            have hbb : ((s.M.set k .dead).set K (.row e' n g)).get b = some (.box bt cs) := by
              rw [Store.get_set, if_neg (fun e => hbK e.symm), Store.get_set, if_neg (fun e => hbk e.symm)]; exact hb
            have howns : ∀ q x, Owns (((s.M.set b (.box bt (cs.set j (.row K off len)))).set k .dead).set K (.row e' n g)) β (fun q => if q = K then hd k else hd q) q x → Owns ((s.M.set k .dead).set K (.row e' n g)) β (fun q => if q = K then hd k else hd q) q x := by
              intro q x ho
              unfold Owns at ho ⊢
              rw [hMM] at ho
              by_cases h1 : q = b
              · subst h1
                rw [if_pos rfl] at ho
                rcases ho with ⟨_, _, _, h3⟩ | ⟨_, _, _, h2, _⟩
                · exact .inl ⟨bt, cs, hbb, h3⟩
                · cases h2
              · rw [if_neg h1] at ho
                exact ho
            have hkp : Keeps w (Own ((s.M.set k .dead).set K (.row e' n g)) β (fun q => if q = K then hd k else hd q)) w (Own (((s.M.set b (.box bt (cs.set j (.row K off len)))).set k .dead).set K (.row e' n g)) β (fun q => if q = K then hd k else hd q)) :=
              ⟨Nat.le_refl _, fun b _ ho => ⟨rfl, fun hq => ho (hq.imp (fun ⟨q, hq⟩ => ⟨q, howns q b hq⟩) id)⟩⟩
            have hex : Ext ((s.M.set k .dead).set K (.row e' n g)) β (fun q => if q = K then hd k else hd q) (((s.M.set b (.box bt (cs.set j (.row K off len)))).set k .dead).set K (.row e' n g)) β (fun q => if q = K then hd k else hd q) := by
              refine ⟨fun q hq => ?_, fun q t' cs2 hq h0 => ?_, fun q e' n' g' hq h0 => ?_, rfl⟩
              · rw [hMM]; split
                · simp
                · exact hq
              · rw [hMM] at hq
                by_cases h1 : q = b
                · subst h1; rw [if_pos rfl] at hq; cases hq; exact ⟨⟨cs, hbb⟩, rfl⟩
                · rw [if_neg h1] at hq; exact ⟨⟨cs2, hq⟩, rfl⟩
              · rw [hMM] at hq
                by_cases h1 : q = b
                · rw [if_pos h1] at hq; cases hq
                · rw [if_neg h1] at hq; exact ⟨⟨g', hq⟩, rfl⟩
            refine ⟨h1.evolve h1.below hkp hex (fun q b ho => h1.ge _ b (howns q b ho)) (fun q q' b ho ho' => h1.inj q q' b (howns q b ho) (howns q' b ho')) ?_ ?_, hex, hkp⟩
            · intro q t' cs2 hq
              rw [hMM] at hq
              by_cases hqb : q = b
              · subst hqb
                rw [if_pos rfl] at hq
                cases hq
                refine .inr (.inl ⟨hnm, c, h10, by simpa using h11, fun i x hi => ?_⟩)
                rw [List.getElem?_set] at hi
                by_cases hji : j = i
                · subst hji
                  rw [if_pos rfl] at hi
                  split at hi
                  · rename_i hlt
                    obtain rfl : AV.row K off len = x := by simpa using hi
                    have h8 : cs[j]? = some (.row k off len) := by
                      rw [List.getD_eq_getElem?_getD, List.getElem?_eq_getElem hlt] at hcj
                      rw [List.getElem?_eq_getElem hlt]
                      simpa using hcj
                    exact (h4 off len _ (h12 j _ h8)).keep hkp hex
                  · cases hi
                · rw [if_neg hji] at hi
                  exact ((h12 i x hi).keep h3 h2).keep hkp hex
              · rw [if_neg hqb] at hq
                exact .inl ⟨hq, rfl, rfl⟩
            · intro q e2 n' g' hq
              rw [hMM] at hq
              by_cases hqb : q = b
              · rw [if_pos hqb] at hq; cases hq
              · rw [if_neg hqb] at hq
                exact .inl ⟨hq, rfl, fun _ _ => rfl⟩
          exact ⟨β, _, ⟨hO.1, (hO.2.step h2).step h6⟩, h5, (C.slots.keep h3 h2).keep h7 h6⟩
        · cases h
    · cases h
  · cases h
theorem frzC_ok (hst : StOk P w0 O s a w) {b j t : Nat} (h : frzC P s b j t = some s') : StOk P w0 O s' a w := by
  unfold frzC at h
  split at h
  · rename_i bt cs hb
    split at h
    · rename_i k off len e hcj hu
      obtain ⟨hc, h1⟩ := bif_inv h
      clear h
      rw [Bool.and_eq_true] at hc
      obtain ⟨hc1, hc2⟩ := hc
      split at h1
      · rename_i x hx
        cases h1
        obtain ⟨β, hd, hO, C⟩ := hst
        have hbk : b ≠ k := by
          intro he
          subst he
          simp at hc1
        have hk : s.M.get k ≠ none := by
          intro h0
          rw [h0] at hx
          simp [frz] at hx
        have hM : ∀ q, ((s.M.set b (.box bt (cs.set j (.sl e x)))).set k .dead).get q = if q = b then some (.box bt (cs.set j (.sl e x))) else if q = k then some .dead else s.M.get q := by
          intro q
          rw [Store.get_set, Store.get_set]
          by_cases hq : k = q
          · subst hq
            simp [show ¬ k = b from fun e => hbk e.symm]
          · by_cases hq2 : b = q
            · simp [hq, hq2]
            · have h9 : ¬ q = b := fun e => hq2 e.symm
              have h8 : ¬ q = k := fun e => hq e.symm
              simp [hq, hq2, h9, h8]
        obtain ⟨h5, h6, h7⟩ := freeze (cs := cs) C.sim ((C.sim.box b bt cs hb).notMap hcj (fun _ _ e => by cases e) (fun e => by cases e)) hb hbk hk hM (by simp) (fun c q y hcs hq => by
          rw [List.getElem?_set] at hq
          by_cases hjq : j = q
          · subst hjq
            rw [if_pos rfl] at hq
            split at hq
            · rename_i hlt
              obtain rfl : AV.sl e x = y := by simpa using hq
              have h8 : cs[j]? = some (.row k off len) := by
                rw [List.getD_eq_getElem?_getD, List.getElem?_eq_getElem hlt] at hcj
                rw [List.getElem?_eq_getElem hlt]
                simpa using hcj
              have h9 := hcs j _ h8
              refine .inr (.sl hu (frz_rel C.sim (os := [(k, s.M.get k)]) (fun q ob hq => ?_) (fun b' ho => ?_) (fun q b' hq hown ho => ?_) hc2 hx h9))
              · simp only [lk, List.find?] at hq
                split at hq
                · rename_i q' o hf
                  split at hf
                  · rename_i hqk
                    obtain rfl := eq_of_beq hqk
                    cases hf
                    exact hq
                  · cases hf
                · cases hq
              · rcases ho with ⟨q, hq⟩ | hq
                · refine .inl ⟨q, ?_⟩
                  unfold Owns at hq ⊢
                  rw [hM] at hq
                  by_cases h1 : q = b
                  · subst h1
                    rw [if_pos rfl] at hq
                    rcases hq with ⟨_, _, _, h3⟩ | ⟨_, _, _, h2, _⟩
                    · exact .inl ⟨bt, cs, hb, h3⟩
                    · cases h2
                  · rw [if_neg h1] at hq
                    by_cases h2 : q = k
                    · rw [if_pos h2] at hq
                      rcases hq with ⟨_, _, h3, _⟩ | ⟨_, _, _, h3, _⟩ <;> cases h3
                    · rw [if_neg h2] at hq
                      exact hq
                · exact .inr hq
              · obtain rfl : q = k := by simpa [rowKeys] using hq
                rcases ho with ⟨q', hq'⟩ | ho
                · have h10 : q' ≠ q := by
                    rintro rfl
                    unfold Owns at hq'
                    rw [hM, if_neg (fun e => hbk e.symm), if_pos rfl] at hq'
                    rcases hq' with ⟨_, _, h3, _⟩ | ⟨_, _, _, h3, _⟩ <;> cases h3
                  refine h10 (C.sim.inj q' q b' ?_ hown)
                  unfold Owns at hq' ⊢
                  rw [hM, if_neg h10] at hq'
                  by_cases h1 : q' = b
                  · subst h1
                    rw [if_pos rfl] at hq'
                    rcases hq' with ⟨_, _, _, h3⟩ | ⟨_, _, _, h2, _⟩
                    · exact .inl ⟨bt, cs, hb, h3⟩
                    · cases h2
                  · rw [if_neg h1] at hq'
                    exact hq'
                · exact C.sim.far b' ho (C.sim.ge q b' hown).1
            · cases hq
          · rw [if_neg hjq] at hq
            exact .inl (hcs q y hq))
        exact ⟨β, hd, ⟨hO.1, hO.2.step h6⟩, h5, C.slots.keep h7 h6⟩
      · cases h1
    · cases h; exact hst
    · cases h
  · cases h
theorem thawL_len {k : Nat} {t : TypeId} {c : Nat → T} : ∀ l : List AV, (thawL k t c l).length = l.length
  | [] => rfl
  | y :: l => by simp only [thawL, List.length_cons, thawL_len l]
mutual
theorem thawV_RC {k : Nat} {t : TypeId} {c : Nat → T} {M M' : Store} {β : Bn} {hd : Nat → Value} (hK : Keeps w (Own M β hd) w (Own M' β hd)) (hE : Ext M β hd M' β hd) (hb : ∃ t cs, M.get k = some (.box t cs) ∧ isMapT t = false) (hrp : ∀ off, RC P w M' β hd (.rp t c off) (.pointer (some ⟨β k, off, none⟩))) : ∀ (x : AV) {v : Value}, RC P w M β hd x v → RC P w M' β hd (thawV k t c x) v
  | .ptr k' off, v, r => by
    simp only [thawV]
    cases hc : Nat.beq k' k with
    | true =>
      obtain rfl := Nat.eq_of_beq_eq_true hc
      obtain ⟨t0, cs0, hb, hnm⟩ := hb
      cases r with
      | ptr h0 h1 h => rw [h t0 cs0 hb, ptrV_box hnm]; exact hrp off
    | false => exact r.keep hK hE
  | .clo f cs, v, r => by
    simp only [thawV]
    cases r with
    | @clo _ _ vs hnp hl h => exact .clo hnp (by rw [thawL_len]; exact hl) (thawL_RC hK hE hb hrp cs h)
    | np => exact .np
    | ni => exact .ni
  | .ag cs, v, r => by cases r
  | .tup cs, v, r => by cases r
  | .b x, v, r => r.keep hK hE
  | .i k n, v, r => r.keep hK hE
  | .s x, v, r => r.keep hK hE
  | .sl e x, v, r => r.keep hK hE
  | .nl, v, r => r.keep hK hE
  | .rp e c off, v, r => r.keep hK hE
  | .row k off len, v, r => r.keep hK hE
  | .ep k i off, v, r => r.keep hK hE
  | .und, v, r => r.keep hK hE
theorem thawL_RC {k : Nat} {t : TypeId} {c : Nat → T} {M M' : Store} {β : Bn} {hd : Nat → Value} (hK : Keeps w (Own M β hd) w (Own M' β hd)) (hE : Ext M β hd M' β hd) (hb : ∃ t cs, M.get k = some (.box t cs) ∧ isMapT t = false) (hrp : ∀ off, RC P w M' β hd (.rp t c off) (.pointer (some ⟨β k, off, none⟩))) : ∀ (l : List AV) {us : Nat → Value}, (∀ j x, l[j]? = some x → RC P w M β hd x (us j)) → ∀ j x, (thawL k t c l)[j]? = some x → RC P w M' β hd x (us j)
  | [], us, h, j, x, hj => by simp [thawL] at hj
  | y :: l, us, h, j, x, hj => by
    simp only [thawL] at hj
    cases j with
    | zero =>
      obtain rfl : thawV k t c y = x := by simpa using hj
      exact thawV_RC hK hE hb hrp y (h 0 y rfl)
    | succ j => exact thawL_RC hK hE hb hrp l (us := fun j => us (j + 1)) (fun j x hj => h (j + 1) x (by simpa using hj)) j x (by simpa using hj)
end
theorem thawL_get {k : Nat} {t : TypeId} {c : Nat → T} : ∀ (l : List AV) (j : Nat), (thawL k t c l)[j]? = (l[j]?).map (thawV k t c)
  | [], j => by simp [thawL]
  | y :: l, 0 => by simp [thawL]
  | y :: l, j + 1 => by simp only [thawL, List.getElem?_cons_succ]; exact thawL_get l j
theorem thawV_RA {k : Nat} {t : TypeId} {c : Nat → T} {M M' : Store} {β : Bn} {hd : Nat → Value} (hK : Keeps w (Own M β hd) w (Own M' β hd)) (hE : Ext M β hd M' β hd) (hb : ∃ t cs, M.get k = some (.box t cs) ∧ isMapT t = false) (hrp : ∀ off, RC P w M' β hd (.rp t c off) (.pointer (some ⟨β k, off, none⟩))) {x : AV} {v : Value} (r : RA P w M β hd x v) : RA P w M' β hd (thawV k t c x) v := by
  induction r with
  | c h => exact .c (thawV_RC hK hE hb hrp _ h)
  | @ag cs vs hl h =>
    simp only [thawV]
    exact .ag (by rw [thawL_len]; exact hl) (thawL_RC hK hE hb hrp cs h)
  | @tup cs vs hl h ih =>
    simp only [thawV]
    refine .tup (by rw [thawL_len]; exact hl) fun j x hj => ?_
    rw [thawL_get] at hj
    cases hc : cs[j]? with
    | none => rw [hc] at hj; cases hj
    | some y =>
      rw [hc] at hj
      obtain rfl : thawV k t c y = x := by simpa using hj
      exact ih j y hc
  | und v => exact .und v
theorem thawRL_len {k : Nat} {e : TypeId} {g : Nat → Nat → T} : ∀ l : List AV, (thawRL k e g l).length = l.length
  | [] => rfl
  | y :: l => by simp only [thawRL, List.length_cons, thawRL_len l]
mutual
theorem thawRV_RC {k : Nat} {e : TypeId} {g : Nat → Nat → T} {M M' : Store} {β : Bn} {hd : Nat → Value} (hK : Keeps w (Own M β hd) w (Own M' β hd)) (hE : Ext M β hd M' β hd) (hrp : ∀ off len v, RC P w M β hd (.row k off len) v → RC P w M' β hd (.sl e (.l len fun i j => g (off + i) j)) v) : ∀ (x : AV) {v : Value}, RC P w M β hd x v → RC P w M' β hd (thawRV k e g x) v
  | .row k' off len, v, r => by
    simp only [thawRV]
    cases hc : Nat.beq k' k with
    | true =>
      obtain rfl := Nat.eq_of_beq_eq_true hc
      exact hrp off len v r
    | false => exact r.keep hK hE
  | .clo f cs, v, r => by
    simp only [thawRV]
    cases r with
    | @clo _ _ vs hnp hl h => exact .clo hnp (by rw [thawRL_len]; exact hl) (thawRL_RC hK hE hrp cs h)
    | np => exact .np
    | ni => exact .ni
  | .ag cs, v, r => by cases r
  | .tup cs, v, r => by cases r
  | .b x, v, r => r.keep hK hE
  | .i k n, v, r => r.keep hK hE
  | .s x, v, r => r.keep hK hE
  | .sl e x, v, r => r.keep hK hE
  | .nl, v, r => r.keep hK hE
  | .rp e c off, v, r => r.keep hK hE
  | .ptr k off, v, r => r.keep hK hE
  | .ep k i off, v, r => r.keep hK hE
  | .und, v, r => r.keep hK hE
theorem thawRL_RC {k : Nat} {e : TypeId} {g : Nat → Nat → T} {M M' : Store} {β : Bn} {hd : Nat → Value} (hK : Keeps w (Own M β hd) w (Own M' β hd)) (hE : Ext M β hd M' β hd) (hrp : ∀ off len v, RC P w M β hd (.row k off len) v → RC P w M' β hd (.sl e (.l len fun i j => g (off + i) j)) v) : ∀ (l : List AV) {us : Nat → Value}, (∀ j x, l[j]? = some x → RC P w M β hd x (us j)) → ∀ j x, (thawRL k e g l)[j]? = some x → RC P w M' β hd x (us j)
  | [], us, h, j, x, hj => by simp [thawRL] at hj
  | y :: l, us, h, j, x, hj => by
    simp only [thawRL] at hj
    cases j with
    | zero =>
      obtain rfl : thawRV k e g y = x := by simpa using hj
      exact thawRV_RC hK hE hrp y (h 0 y rfl)
    | succ j => exact thawRL_RC hK hE hrp l (us := fun j => us (j + 1)) (fun j x hj => h (j + 1) x (by simpa using hj)) j x (by simpa using hj)
end
theorem thawRL_get {k : Nat} {e : TypeId} {g : Nat → Nat → T} : ∀ (l : List AV) (j : Nat), (thawRL k e g l)[j]? = (l[j]?).map (thawRV k e g)
  | [], j => by simp [thawRL]
  | y :: l, 0 => by simp [thawRL]
  | y :: l, j + 1 => by simp only [thawRL, List.getElem?_cons_succ]; exact thawRL_get l j
theorem thawRV_RA {k : Nat} {e : TypeId} {g : Nat → Nat → T} {M M' : Store} {β : Bn} {hd : Nat → Value} (hK : Keeps w (Own M β hd) w (Own M' β hd)) (hE : Ext M β hd M' β hd) (hrp : ∀ off len v, RC P w M β hd (.row k off len) v → RC P w M' β hd (.sl e (.l len fun i j => g (off + i) j)) v) {x : AV} {v : Value} (r : RA P w M β hd x v) : RA P w M' β hd (thawRV k e g x) v := by
  induction r with
  | c h => exact .c (thawRV_RC hK hE hrp _ h)
  | @ag cs vs hl h =>
    simp only [thawRV]
    exact .ag (by rw [thawRL_len]; exact hl) (thawRL_RC hK hE hrp cs h)
  | @tup cs vs hl h ih =>
    simp only [thawRV]
    refine .tup (by rw [thawRL_len]; exact hl) fun j x hj => ?_
    rw [thawRL_get] at hj
    cases hc : cs[j]? with
    | none => rw [hc] at hj; cases hj
    | some y =>
      rw [hc] at hj
      obtain rfl : thawRV k e g y = x := by simpa using hj
      exact ih j y hc
  | und v => exact .und v
theorem frzB_ok (hst : StOk P w0 O s a w) {k : Nat} {t0 : TypeId} (h : frzB P s k t0 = some s') : StOk P w0 O s' a w := by
  unfold frzB at h
  split at h
  · rename_i t cs hm
    cases hnm : isMapT t with
    | true => rw [hnm] at h; cases h
    | false =>
    rw [hnm, cond_false] at h
    split at h
    · rename_i xs hxs
      cases h
      obtain ⟨β, hd, hO, C⟩ := hst
      obtain ⟨c, el, hheap, hsz, hcs⟩ := (C.sim.box k t cs hm).cells hnm
      have hown : Owns s.M β hd k (β k) := .inl ⟨t, cs, hm, rfl⟩
      obtain ⟨h1, h2, h3⟩ := frzs_rel (O' := Own (s.M.sets (consumed [k])) β hd) C.sim (os := []) (fun q ob hq => by simp [lk] at hq) (fun b hb => own_kills hb) (us := c) 0 (lv P t) cs xs 0 hxs (fun q b hq ho => by obtain ⟨ob, hob⟩ := frzs_keys hxs hq; simp [lk] at hob) (fun j x hj => by simpa using hcs j x hj)
      have hK := keeps_kills (w := w) (M := s.M) (β := β) (hd := hd) [k]
      have hE := ext_kills (M := s.M) (β := β) (hd := hd) [k]
      have hrp : ∀ off, RC P w (s.M.sets (consumed [k])) β hd (.rp t (fun j => xs.getD j (.b false)) off) (.pointer (some ⟨β k, off, none⟩)) := by
        intro off
        have := RC.rp (P := P) (w := w) (M := s.M.sets (consumed [k])) (β := β) (hd := hd) (e := t) (c := fun j => xs.getD j (.b false)) off (β k) 0 (fun j => c.getD j undef) (C.sim.ge k _ hown).2 (C.sim.given_up (by simp) hown) (fun j τ hj => ?_) (fun j τ hj => ?_)
        · rw [Nat.zero_add] at this; exact this
        · have hjl : j < (lv P t).length := (List.getElem?_eq_some_iff.1 hj).1
          have hjc : j < c.size := by omega
          unfold World.cell?
          simp [hheap, Array.getD_eq_getD_getElem?, hjc]
        · obtain ⟨x, hx, hrt⟩ := h3 j τ hj
          simp only [Nat.zero_add] at hrt
          rw [List.getD_eq_getElem?_getD, hx]
          exact hrt
      refine ⟨β, hd, ⟨hO.1, hO.2.step hE⟩, C.sim.kills [k], ?_, fun q0 x hx => ?_, C.slots.defers⟩
      · rw [thawL_len]; exact C.slots.len
      · rw [thawL_get] at hx
        cases hc : s.slots[q0]? with
        | none => rw [hc] at hx; cases hx
        | some y =>
          rw [hc] at hx
          obtain rfl : thawV k t (fun j => xs.getD j (.b false)) y = x := by simpa using hx
          exact thawV_RA hK hE ⟨t, cs, hm, hnm⟩ hrp (C.slots.val q0 y hc)
    · cases h
  · rename_i e n g hm
    split at h
    · rename_i e' hu
      obtain ⟨hee, h1⟩ := bif_inv h
      clear h
      obtain rfl : e = e' := eq_of_beq hee
      cases h1
      obtain ⟨β, hd, hO, C⟩ := hst
      have hK := keeps_kills (w := w) (M := s.M) (β := β) (hd := hd) [k]
      have hE := ext_kills (M := s.M) (β := β) (hd := hd) [k]
      have hrp : ∀ off len v, RC P w s.M β hd (.row k off len) v → RC P w (s.M.sets (consumed [k])) β hd (.sl e (.l len fun i j => g (off + i) j)) v := by
        intro off len v hr
        have hcf : conf P [(k, s.M.get k)] t0 (.row k off len) = true := by
          unfold conf
          rw [hu]
          simp [hm]
        have hfz : frz [(k, s.M.get k)] (.row k off len) = some (.l len fun i j => g (off + i) j) := by
          unfold frz
          simp [hm]
        refine .sl hu (frz_rel C.sim (os := [(k, s.M.get k)]) (fun q ob hq => ?_) (fun b' ho => own_kills ho) (fun q b' hq hown => ?_) hcf hfz hr)
        · simp only [lk, List.find?] at hq
          split at hq
          · rename_i q' o hf
            split at hf
            · rename_i hqk
              obtain rfl := eq_of_beq hqk
              cases hf
              exact hq
            · cases hf
          · cases hq
        · obtain rfl : q = k := by simpa [rowKeys] using hq
          exact C.sim.given_up (by simp) hown
      refine ⟨β, hd, ⟨hO.1, hO.2.step hE⟩, C.sim.kills [k], ?_, fun q0 x hx => ?_, C.slots.defers⟩
      · rw [thawRL_len]; exact C.slots.len
      · rw [thawRL_get] at hx
        cases hc : s.slots[q0]? with
        | none => rw [hc] at hx; cases hx
        | some y =>
          rw [hc] at hx
          obtain rfl : thawRV k e g y = x := by simpa using hx
          exact thawRV_RA hK hE hrp (C.slots.val q0 y hc)
    · cases h
  · cases h; exact hst
theorem frzBs_ok : ∀ {l : List (Nat × TypeId)} {s : St}, StOk P w0 O s a w → frzBs P l s = some s' → StOk P w0 O s' a w
  | [], s, hst, h => by cases h; exact hst
  | (k, t) :: r, s, hst, h => by
    simp only [frzBs] at h
    split at h
    · rename_i s1 h1
      exact frzBs_ok (frzB_ok hst h1) h
    · cases h
theorem canonSs_ok : ∀ {l : List (Nat × TypeId)} {s : St}, StOk P w0 O s a w → canonSs P l s = some s' → StOk P w0 O s' a w
  | [], s, hst, h => by cases h; exact hst
  | (t, e) :: r, s, hst, h => by
    simp only [canonSs] at h
    split at h
    · rename_i s1 h1
      exact canonSs_ok (canonS_ok hst h1) h
    · cases h
theorem canonCs_ok : ∀ {l : List (Nat × Nat × TypeId)} {s : St}, StOk P w0 O s a w → canonCs P l s = some s' → StOk P w0 O s' a w
  | [], s, hst, h => by cases h; exact hst
  | (b, j, e) :: r, s, hst, h => by
    simp only [canonCs] at h
    split at h
    · rename_i s1 h1
      cases hc : Nat.ble FZ e with
      | true => rw [hc] at h1; exact canonCs_ok (frzC_ok hst h1) h
      | false => rw [hc] at h1; exact canonCs_ok (canonC_ok hst h1) h
    · cases h
end
section
variable {P : Program} {w0 : Fr0} {w : World} {M M' : Store} {β : Bn} {hd : Nat → Value}
theorem only_get (ks : List Nat) (M : Store) (q : Nat) : (Store.only ks M).get q = if ks.contains q = true then M.get q else if HB ≤ q then (M.get q).map fun _ => .dead else none := by
  induction M with
  | nil => simp [Store.only, Store.get]
  | cons x r ih =>
    obtain ⟨k, o⟩ := x
    simp only [Store.only]
    cases hc : ks.contains k with
    | true =>
      simp only [cond_true, Store.get]
      by_cases hq : k = q
      · subst hq
        simp [hc]
        intro h
        rw [List.contains_iff_mem] at hc
        exact absurd hc h
      · have : (k == q) = false := by simpa using hq
        simp only [this, cond_false]
        exact ih
    | false =>
      simp only [cond_false]
      cases hh : Nat.ble HB k with
      | true =>
        simp only [cond_true, Store.get]
        by_cases hq : k = q
        · subst hq
          have : HB ≤ k := Nat.le_of_ble_eq_true hh
          rw [hc]
          simp [this]
        · have : (k == q) = false := by simpa using hq
          simp only [this, cond_false]
          exact ih
      | false =>
        simp only [cond_false, Store.get]
        rw [ih]
        by_cases hq : k = q
        · subst hq
          rw [hc]
          have : ¬ HB ≤ k := fun h => by rw [Nat.ble_eq_true_of_le h] at hh; cases hh
          simp [this]
        · have : (k == q) = false := by simpa using hq
          simp only [this, cond_false]
theorem alive_inv {k : Nat} (h : alive M k = true) : M.get k ≠ none := by
  unfold alive at h
  split at h
  · rename_i heq; rw [heq]; simp
  · rename_i heq; rw [heq]; simp
  · cases h
theorem mem_refsL {x : AV} {l : List AV} {k : Nat} (hx : x ∈ l) (hk : k ∈ refs x) : k ∈ refsL l := by
  induction l with
  | nil => cases hx
  | cons y l ih =>
    simp only [refsL, List.mem_append]
    rcases List.mem_cons.1 hx with rfl | hx
    · exact .inl hk
    · exact .inr (ih hx)
theorem own_less (hM : ∀ q o, M'.get q = some o → o ≠ .dead → M.get q = some o) {b : Nat} (h : Own M' β hd b) : Own M β hd b := by
  rcases h with ⟨k, ⟨t, cs, h1, h2⟩ | ⟨e, n, g, h1, h2⟩⟩ | h
  · exact .inl ⟨k, .inl ⟨t, cs, hM _ _ h1 (fun e => by cases e), h2⟩⟩
  · exact .inl ⟨k, .inr ⟨e, n, g, hM _ _ h1 (fun e => by cases e), h2⟩⟩
  · exact .inr h
theorem keeps_less (hM : ∀ q o, M'.get q = some o → o ≠ .dead → M.get q = some o) : Keeps w (Own M β hd) w (Own M' β hd) := ⟨Nat.le_refl _, fun b _ ho => ⟨rfl, fun h => ho (own_less hM h)⟩⟩
theorem RC.less (hM : ∀ q o, M'.get q = some o → o ≠ .dead → M.get q = some o) {x : AV} {v : Value} (r : RC P w M β hd x v) (hr : ∀ k ∈ refs x, M'.get k ≠ none) : RC P w M' β hd x v := by
  have hk : Keeps w (Own M β hd) w (Own M' β hd) := keeps_less hM
  induction r with
  | b x => exact .b x
  | i k n => exact .i k n
  | s x => exact .s x
  | sl h r => exact .sl h (r.keep hk)
  | nl => exact .nl
  | @rp e c off b o vs hb ho hv hr2 => exact .rp off b o vs hb (hk.blk b hb ho).2 hv (fun j τ hj => (hr2 j τ hj).keep hk)
  | ptr h0 h1 h => exact .ptr (hr _ (by simp [refs])) h1 fun t cs hq => h t cs (hM _ _ hq (fun e => by cases e))
  | row h0 h1 h => exact .row (hr _ (by simp [refs])) h1 fun e n g hq => h e n g (hM _ _ hq (fun e => by cases e))
  | ep h0 h1 h => exact .ep (hr _ (by simp [refs])) h1 fun e n g hq => h e n g (hM _ _ hq (fun e => by cases e))
  | clo hnp hl h ih => exact .clo hnp hl fun j x hj => ih j x hj fun k hk => hr k (by simp only [refs]; exact mem_refsL (List.mem_of_getElem? hj) hk)
  | und h1 => exact .und h1
  | np => exact .np
  | ni => exact .ni
theorem RA.less (hM : ∀ q o, M'.get q = some o → o ≠ .dead → M.get q = some o) {x : AV} {v : Value} (r : RA P w M β hd x v) (hr : ∀ k ∈ refs x, M'.get k ≠ none) : RA P w M' β hd x v := by
  induction r with
  | c h => exact .c (h.less hM hr)
  | ag hl h => exact .ag hl fun j x hj => (h j x hj).less hM fun k hk => hr k (by simp only [refs]; exact mem_refsL (List.mem_of_getElem? hj) hk)
  | tup hl h ih => exact .tup hl fun j x hj => ih j x hj fun k hk => hr k (by simp only [refs]; exact mem_refsL (List.mem_of_getElem? hj) hk)
  | und v => exact .und v
theorem keep_get (l : List Nat) : ∀ (vs : List AV) (n t : Nat), (keep n l vs).length = vs.length ∧ ∀ x, (keep n l vs)[t]? = some x → x = .und ∨ vs[t]? = some x
  | [], _, _ => ⟨rfl, fun x h => by simp [keep] at h⟩
  | v :: vs, n, t => by
    refine ⟨by simp [keep, (keep_get l vs (n + 1) 0).1], fun x hx => ?_⟩
    cases t with
    | zero =>
      simp only [keep, List.getElem?_cons_zero, Option.some.injEq] at hx
      cases hc : l.contains n with
      | true => rw [hc] at hx; exact .inr (by rw [← hx]; rfl)
      | false => rw [hc] at hx; exact .inl hx.symm
    | succ t =>
      simp only [keep, List.getElem?_cons_succ] at hx
      simpa using (keep_get l vs (n + 1) t).2 x hx
theorem get_mem {q : Nat} {o : Ob} (h : M.get q = some o) : (q, o) ∈ M := by
  induction M with
  | nil => cases h
  | cons x r ih =>
    obtain ⟨k, p⟩ := x
    simp only [Store.get] at h
    by_cases hq : k = q
    · subst hq
      simp at h
      rw [h]; simp
    · have : (k == q) = false := by simpa using hq
      rw [this, cond_false] at h
      exact List.mem_cons_of_mem _ (ih h)
theorem cutTo_ok {s : St} {a : Act} {O : Nat → Prop} (hst : StOk P w0 O s a w) {live ks : List Nat} (hk : okRefs (cutTo live ks s) = true) : StOk P w0 O (cutTo live ks s) a w := by
  obtain ⟨β, hd, hO, C⟩ := hst
  unfold okRefs at hk
  rw [Bool.and_eq_true] at hk
  obtain ⟨hk1, hk2⟩ := hk
  have hM : ∀ q o, (cutTo live ks s).M.get q = some o → o ≠ .dead → s.M.get q = some o := by
    intro q o h hnd
    have h1 := only_get (ks) s.M q
    rw [show (Store.only (ks) s.M) = (cutTo live ks s).M from rfl, h] at h1
    split at h1
    · exact h1.symm
    · split at h1
      · cases hg : s.M.get q with
        | none => rw [hg] at h1; cases h1
        | some ob => rw [hg] at h1; exact absurd (Option.some.inj h1) hnd
      · cases h1
  have hX : Ext1 w0 (cutTo live ks s).M β hd := by
    refine ⟨fun q hq => ⟨(hO.2.1 q hq).1, ?_⟩, fun q hq => ⟨fun t cs hm => (hO.2.2 q hq).1 t cs (hM _ _ hm (fun e => by cases e)), fun e n g hm => (hO.2.2 q hq).2 e n g (hM _ _ hm (fun e => by cases e))⟩⟩
    have h1 := only_get (ks) s.M q
    rw [show (Store.only (ks) s.M) = (cutTo live ks s).M from rfl] at h1
    obtain ⟨h2, h3⟩ := hO.2.1 q hq
    rw [h1]
    split
    · exact h3
    · (try rw [if_pos h2])
      cases hg : s.M.get q with
      | none => exact absurd hg h3
      | some ob => simp
  have hal : ∀ k ∈ refsL (cutTo live ks s).slots, (cutTo live ks s).M.get k ≠ none := fun k hkm => alive_inv (List.all_eq_true.1 hk1 k hkm)
  have hal2 : ∀ q t cs, (cutTo live ks s).M.get q = some (.box t cs) → ∀ k ∈ refsL cs, (cutTo live ks s).M.get k ≠ none := by
    intro q t cs hq k hkm
    have h1 := List.all_eq_true.1 hk2 _ (get_mem hq)
    exact alive_inv (List.all_eq_true.1 h1 k hkm)
  have hown : ∀ k b, Owns (cutTo live ks s).M β hd k b → Owns s.M β hd k b := by
    rintro k b (⟨t, cs, h1, h2⟩ | ⟨e, n, g, h1, h2⟩)
    · exact .inl ⟨t, cs, hM _ _ h1 (fun e => by cases e), h2⟩
    · exact .inr ⟨e, n, g, hM _ _ h1 (fun e => by cases e), h2⟩
  have hkl : Keeps w (Own s.M β hd) w (Own (cutTo live ks s).M β hd) := keeps_less hM
  refine ⟨β, hd, ⟨hO.1, hX⟩, ⟨C.sim.below, fun k b h => C.sim.ge k b (hown k b h), fun k k' b h h' => C.sim.inj k k' b (hown k b h) (hown k' b h'), C.sim.far, fun k t cs hq => ?_, fun k e n g hq => ?_, C.sim.tab⟩, ⟨?_, fun t x hx => ?_, C.slots.defers⟩⟩
  · rcases C.sim.box k t cs (hM _ _ hq (fun e => by cases e)) with ⟨hnm, c, h1, h2, h3⟩ | ⟨hnm, hmap⟩
    rotate_left
    · exact .inr ⟨hnm, hmap.keep hkl rfl⟩
    exact .inl ⟨hnm, c, h1, h2, fun j x hj => (h3 j x hj).less hM fun q hqq => hal2 k t cs hq q (mem_refsL (List.mem_of_getElem? hj) hqq)⟩
  · obtain ⟨h1, xs, h2, h3⟩ := C.sim.row k e n g (hM _ _ hq (fun e => by cases e))
    refine ⟨h1, xs, h2, fun i j τ hi hj => ?_⟩
    obtain ⟨v, h4, h5⟩ := h3 i j τ hi hj
    exact ⟨v, h4, h5.keep hkl⟩
  · exact (keep_get live s.slots 0 0).1.trans C.slots.len
  · have hmem : x ∈ (cutTo live ks s).slots := List.mem_of_getElem? hx
    rcases (keep_get live s.slots 0 t).2 x hx with rfl | h1
    · exact .und _
    · exact (C.slots.val t x h1).less hM fun k hkk => hal k (mem_refsL hmem hkk)
theorem norm_ok {s s' : St} {a : Act} {O : Nat → Prop} (hst : StOk P w0 O s a w) {lp : LP} (h : norm P lp s = some s') : StOk P w0 O s' a w := by
  unfold norm at h
  obtain ⟨h0, h'⟩ := bif_inv h
  clear h
  have hst0 := cutTo_ok hst h0
  split at h'
  · rename_i s0 h00
    have hst0 := frzBs_ok hst0 h00
    split at h'
    · rename_i s1 h1
      split at h'
      · rename_i s2 h2
        obtain ⟨hc, h3⟩ := bif_inv h'
        cases h3
        exact cutTo_ok (canonCs_ok (canonSs_ok hst0 h1) h2) hc
      · cases h'
    · cases h'
  · cases h'
theorem normAt_ok {s s' : St} {a : Act} {O : Nat → Prop} (hst : StOk P w0 O s a w) {pl : Nat → Option LP} {o : Option Nat} (h : normAt P pl o s = some s') : StOk P w0 O s' a w := by
  unfold normAt at h
  split at h
  · split at h
    · exact norm_ok hst h
    · cases h; exact hst
  · cases h; exact hst
end
def ex : X → Exit
  | .normal => .normal
  | .exit id => .exit id
  | .ret => .ret
theorem exists_min (p : Nat → Prop) : (∃ n, p n) → ∃ n, p n ∧ ∀ m, p m → n ≤ m := by
  rintro ⟨n, hn⟩
  induction n using Nat.strongRecOn with
  | _ n ih =>
    by_cases h : ∃ m, m < n ∧ p m
    · obtain ⟨m, h1, h2⟩ := h
      exact ih m h1 h2
    · exact ⟨n, hn, fun m hm => Nat.le_of_not_lt fun hlt => h ⟨m, hlt, hm⟩⟩
theorem wp_loop_min {P : Program} {c : Code} {Q : Exit → Act → World → Prop} {a : Act} {w : World} (I : Nat → Act → World → Prop) (h0 : ∃ n, I n a w)
    (round : ∀ n a w, I n a w → c.wp P (Exit.then (fun a' w' => ∃ m, m < n ∧ I m a' w') Q) a w) : (Code.loop c).wp P Q a w := by
  classical
  let μ : Act → World → Nat := fun a w => if h : ∃ n, I n a w then Classical.choose (exists_min _ h) else 0
  have hμ : ∀ a w (h : ∃ n, I n a w), I (μ a w) a w ∧ ∀ m, I m a w → μ a w ≤ m := by
    intro a w h
    have := Classical.choose_spec (exists_min _ h)
    simp only [μ, h, dif_pos]
    exact this
  refine wp_loop (fun a w => ∃ n, I n a w) μ h0 fun a w h => ?_
  obtain ⟨h1, h2⟩ := hμ a w h
  refine wp_mono (round _ a w h1) fun e a' w' hq => ?_
  cases e with
  | normal =>
    obtain ⟨m, hm, hi⟩ := hq
    exact ⟨⟨m, hi⟩, Nat.lt_of_le_of_lt ((hμ a' w' ⟨m, hi⟩).2 m hi) hm⟩
  | _ => exact hq
section
variable {P : Program} {fr : Fr} {h : H} {w0 : Fr0} {O : Nat → Prop} {pl : Nat → Option LP} {ρ : Type} {r : ρ} {base : X → St → Option ρ} {Q : Exit → Act → World → Prop}
def SQ (P : Program) (fr : Fr) (h : H) (w0 : Fr0) (O : Nat → Prop) (pl : Nat → Option LP) (base : X → St → Option ρ) (r : ρ) (Q : Exit → Act → World → Prop) : List (Frm × Nat) → Exit → Act → World → Prop
  | [] => Q
  | (.seq b, _) :: stk => Exit.then (b.wp P (SQ P fr h w0 O pl base r Q stk)) (SQ P fr h w0 O pl base r Q stk)
  | (.blk id, _) :: stk => Exit.inBlock id (SQ P fr h w0 O pl base r Q stk)
  | (.lp c, n0) :: stk => Exit.then (fun a w => ∃ m s, m < n0 ∧ blkR P fr h pl base m (.loop c) (stk.map (·.1)) s = some r ∧ StOk P w0 O s a w) (SQ P fr h w0 O pl base r Q stk)
def JOk (P : Program) (fr : Fr) (h : H) (w0 : Fr0) (O : Nat → Prop) (pl : Nat → Option LP) (base : X → St → Option ρ) (r : ρ) (Q : Exit → Act → World → Prop) (n : Nat) : Prop :=
  ∀ c (gs : List (Frm × Nat)) s a w, (∀ x ∈ gs, n < x.2) → blkR P fr h pl base n c (gs.map (·.1)) s = some r → StOk P w0 O s a w → c.wp P (SQ P fr h w0 O pl base r Q gs) a w
theorem go_ok (hs : HSound P fr h) (hdr : DrawSound P fr h) (hbase : ∀ e s a w, base e s = some r → StOk P w0 O s a w → Q (ex e) a w) (n : Nat) (hJ : JOk P fr h w0 O pl base r Q n) : ∀ (d : Nat),
    (∀ (c : Code) (e : X) (gs : List (Frm × Nat)) (s : St) (a : Act) (w : World), (∀ x ∈ gs, n < x.2) → go P fr h pl base (blkR P fr h pl base n) d (some c) e (gs.map (·.1)) s = some r → StOk P w0 O s a w → c.wp P (SQ P fr h w0 O pl base r Q gs) a w) ∧
    (∀ (e : X) (gs : List (Frm × Nat)) (s : St) (a : Act) (w : World), (∀ x ∈ gs, n < x.2) → go P fr h pl base (blkR P fr h pl base n) d none e (gs.map (·.1)) s = some r → StOk P w0 O s a w → SQ P fr h w0 O pl base r Q gs (ex e) a w)
  | 0 => ⟨(fun c e gs s a w _ hr => by cases hr), (fun e gs s a w _ hr => by cases hr)⟩
  | d + 1 => by
    obtain ⟨ih1, ih2⟩ := go_ok hs hdr hbase n hJ d
    refine ⟨fun c e gs s a w hgs hr hst => ?_, fun e gs s a w hgs hr hst => ?_⟩
    · simp only [go] at hr
      split at hr
      · exact wp_skip (ih2 .normal gs s a w hgs hr hst)
      · exact runReg_ok hs hdr hr hst fun s' a' w' hk hst' => ih2 .normal gs s' a' w' hgs hk hst'
      · rename_i x y
        refine wp_seq ?_
        exact ih1 x .normal ((.seq y, n + 1) :: gs) s a w (fun z hz => by rcases List.mem_cons.1 hz with rfl | hz; exact Nat.lt_succ_self n; exact hgs z hz) hr hst
      · rename_i cnd x y
        split at hr
        · rename_i t ht
          have hb : a.eval cnd = .bool t := by
            obtain ⟨β, hd, hO, C⟩ := hst
            exact (ht ▸ rel1 C cnd).b_inv
          cases t with
          | true => exact wp_cond_true hb (ih1 x .normal gs s a w hgs hr hst)
          | false => exact wp_cond_false hb (ih1 y .normal gs s a w hgs hr hst)
        · cases hr
      · rename_i id c
        refine wp_block ?_
        exact ih1 c .normal ((.blk id, n + 1) :: gs) s a w (fun z hz => by rcases List.mem_cons.1 hz with rfl | hz; exact Nat.lt_succ_self n; exact hgs z hz) hr hst
      · rename_i c
        split at hr
        · rename_i s1 hs1
          exact hJ (.loop c) gs s1 a w hgs hr (normAt_ok hst hs1)
        · cases hr
      · rename_i id
        split at hr
        · rename_i s1 hs1
          exact wp_exit (ih2 (.exit id) gs s1 a w hgs hr (normAt_ok hst hs1))
        · cases hr
      · split at hr
        · rename_i s1 hs1
          exact wp_ret (ih2 .ret gs s1 a w hgs hr (normAt_ok hst hs1))
        · cases hr
      · cases hr
    · match gs, hgs, hr with
      | [], _, hr => exact hbase e s a w hr hst
      | (.seq b, k) :: gs, hgs, hr =>
        have hgs' : ∀ x ∈ gs, n < x.2 := fun x hx => hgs x (List.mem_cons_of_mem _ hx)
        simp only [List.map_cons, go] at hr
        cases e with
        | normal =>
          simp only at hr
          split at hr
          · rename_i s1 hs1
            show b.wp P (SQ P fr h w0 O pl base r Q gs) a w
            cases hj : joinAt pl (firstR b) with
            | true => rw [hj] at hr; exact hJ b gs s1 a w hgs' hr (normAt_ok hst hs1)
            | false => rw [hj] at hr; exact ih1 b .normal gs s1 a w hgs' hr (normAt_ok hst hs1)
          · cases hr
        | exit id => exact ih2 (.exit id) gs s a w hgs' hr hst
        | ret => exact ih2 .ret gs s a w hgs' hr hst
      | (.blk id, k) :: gs, hgs, hr =>
        have hgs' : ∀ x ∈ gs, n < x.2 := fun x hx => hgs x (List.mem_cons_of_mem _ hx)
        simp only [List.map_cons, go] at hr
        cases e with
        | normal => exact ih2 .normal gs s a w hgs' hr hst
        | exit id' =>
          simp only at hr
          show (if id' = id then SQ P fr h w0 O pl base r Q gs .normal a w else SQ P fr h w0 O pl base r Q gs (.exit id') a w)
          by_cases hid : id' = id
          · subst hid
            rw [if_pos rfl]
            simp only [beq_self_eq_true, cond_true] at hr
            exact ih2 .normal gs s a w hgs' hr hst
          · rw [if_neg hid]
            have : (id' == id) = false := by simpa using hid
            simp only [this, cond_false] at hr
            exact ih2 (.exit id') gs s a w hgs' hr hst
        | ret => exact ih2 .ret gs s a w hgs' hr hst
      | (.lp c, k) :: gs, hgs, hr =>
        have hgs' : ∀ x ∈ gs, n < x.2 := fun x hx => hgs x (List.mem_cons_of_mem _ hx)
        simp only [List.map_cons, go] at hr
        cases e with
        | normal =>
          simp only at hr
          split at hr
          · rename_i s1 hs1
            exact ⟨n, s1, hgs _ (List.mem_cons_self ..), hr, normAt_ok hst hs1⟩
          · cases hr
        | exit id => exact ih2 (.exit id) gs s a w hgs' hr hst
        | ret => exact ih2 .ret gs s a w hgs' hr hst
theorem blk_ok (hs : HSound P fr h) (hdr : DrawSound P fr h) (hbase : ∀ e s a w, base e s = some r → StOk P w0 O s a w → Q (ex e) a w) : ∀ n, JOk P fr h w0 O pl base r Q n := by
  intro n
  induction n using Nat.strongRecOn with
  | _ n ih =>
    intro c gs s a w hgs hr hst
    cases n with
    | zero => cases hr
    | succ n =>
      have hJ := ih n (Nat.lt_succ_self n)
      have plain : ∀ c, go P fr h pl base (blkR P fr h pl base n) deep (some c) .normal (gs.map (·.1)) s = some r → c.wp P (SQ P fr h w0 O pl base r Q gs) a w := fun c hr =>
        (go_ok hs hdr hbase n hJ deep).1 c .normal gs s a w (fun x hx => Nat.lt_of_succ_lt (hgs x hx)) hr hst
      by_cases hl : ∃ b, c = .loop b
      · obtain ⟨b, rfl⟩ := hl
        refine wp_loop_min (fun m a w => m ≤ n + 1 ∧ ∃ s, blkR P fr h pl base m (.loop b) (gs.map (·.1)) s = some r ∧ StOk P w0 O s a w) ⟨n + 1, Nat.le_refl _, s, hr, hst⟩ ?_
        rintro m a w ⟨hm, s, hit, hst⟩
        cases m with
        | zero => cases hit
        | succ m =>
          have hJm := ih m (by omega)
          have hit2 : go P fr h pl base (blkR P fr h pl base m) deep (some b) .normal (((Frm.lp b, m + 1) :: gs).map (·.1)) s = some r := hit
          refine wp_mono ((go_ok hs hdr hbase m hJm deep).1 b .normal ((.lp b, m + 1) :: gs) s a w (fun x hx => ?_) hit2 hst) fun e a' w' hq => ?_
          · rcases List.mem_cons.1 hx with rfl | hx
            · exact Nat.lt_succ_self m
            · have := hgs x hx; omega
          · cases e with
            | normal =>
              obtain ⟨m', s', h1, h2, h3⟩ := hq
              exact ⟨m', h1, by omega, s', h2, h3⟩
            | _ => exact hq
      · refine plain c ?_
        cases c <;> first | exact hr | exact absurd ⟨_, rfl⟩ hl
end
end Go.AM
