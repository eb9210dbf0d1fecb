/- The engine, part 6: the operations that make or change memory. -/
import Derived.Test.YtljfhfgbpcaadaaDoorEng5
import Derived.Laws.OwnMore
import Derived.Laws.Tables
set_option linter.unusedSimpArgs false
set_option linter.unusedVariables false
namespace Go.AM
open Go.RowKit (Below)
theorem Store.get_set (M : Store) (k : Nat) (o : Ob) (k' : Nat) : (M.set k o).get k' = if k = k' then some o else M.get k' := by
  induction M with
  | nil =>
    simp only [Store.set, Store.get]
    by_cases h : k = k'
    · simp [h]
    · have : (k == k') = false := by simpa using h
      simp [h, this]
  | cons x r ih =>
    obtain ⟨q, p⟩ := x
    simp only [Store.set]
    by_cases h1 : q = k
    · subst h1
      simp only [beq_self_eq_true, cond_true, Store.get]
      by_cases h : q = k'
      · simp [h]
      · have : (q == k') = false := by simpa using h
        simp [h, this]
    · have e1 : (q == k) = false := by simpa using h1
      simp only [e1, cond_false]
      cases hb : Nat.blt k q with
      | true =>
        simp only [cond_true, Store.get]
        by_cases h : k = k'
        · simp [h]
        · have : (k == k') = false := by simpa using h
          simp [h, this]
      | false =>
        simp only [cond_false, Store.get, ih]
        by_cases h : q = k'
        · subst h
          have : ¬ k = q := fun e => h1 e.symm
          simp [this]
        · have : (q == k') = false := by simpa using h
          simp [this]
theorem Store.sets_one (M : Store) (k : Nat) (o : Ob) : M.sets [(k, o)] = M.set k o := rfl
theorem Store.sets_two (M : Store) (k q : Nat) (o p : Ob) : M.sets [(k, o), (q, p)] = (M.set k o).set q p := rfl
section
variable {P : Program} {w0 : Fr0} {w w' : World} {M M' : Store} {β β' : Bn} {hd hd' : Nat → Value}
theorem Owns.lt (h : Sim P w0 w M β hd) {k b : Nat} (ho : Owns M β hd k b) : b < w.heap.size := (h.ge k b ho).2
theorem Sim.evolve (h : Sim P w0 w M β hd) (hb : Under w0 w') (hk : Keeps w (Own M β hd) w' (Own M' β' hd')) (he : Ext M β hd M' β' hd')
    (hge : ∀ k b, Owns M' β' hd' k b → w0.mine b ∧ b < w'.heap.size) (hinj : ∀ k k' b, Owns M' β' hd' k b → Owns M' β' hd' k' b → k = k')
    (hbox : ∀ k t cs, M'.get k = some (.box t cs) → (M.get k = some (.box t cs) ∧ β' k = β k ∧ w'.heap[β k]? = w.heap[β k]?) ∨ BoxIs P w' M' β' hd' (β' k) t cs)
    (hrow : ∀ k e n g, M'.get k = some (.row e n g) → (M.get k = some (.row e n g) ∧ hd' k = hd k ∧ ∀ b, (hd k).ownBlock = some b → w'.heap[b]? = w.heap[b]?) ∨
      (0 < (lv P e).length ∧ ∃ xs, w'.ownsRow 0 e (lv P e).length (hd' k) n xs ∧ ∀ i j τ, i < n → (lv P e)[j]? = some τ → ∃ v, xs[i * (lv P e).length + j]? = some v ∧ RT P w' (Own M' β' hd') τ (g i j) v)) : Sim P w0 w' M' β' hd' := by
  refine ⟨hb, hge, hinj, fun b hb => h.far b (he.far ▸ hb), fun k t cs hm => ?_, fun k e n g hm => ?_, h.tab⟩
  · rcases hbox k t cs hm with ⟨h1, h2, h3⟩ | h1
    · exact (h.box k t cs h1).keep hk he (by rw [h2, h3])
    · exact h1
  · rcases hrow k e n g hm with ⟨h1, h2, h3⟩ | h1
    · obtain ⟨h4, xs, h5, h6⟩ := h.row k e n g h1
      refine ⟨h4, xs, ?_, fun i j τ hi hj => ?_⟩
      · rw [h2]
        refine ⟨h5.1, ?_⟩
        rcases h5.2 with h7 | ⟨gb, cap, cur, h8, h9, h10, r⟩
        · exact .inl h7
        · exact .inr ⟨gb, cap, cur, h8, h9, by rw [h3 gb (by simp [h8, Value.ownBlock])]; exact h10, r⟩
      · obtain ⟨v, h7, h8⟩ := h6 i j τ hi hj
        exact ⟨v, h7, h8.keep hk⟩
    · exact h1
theorem new_box (h : Sim P w0 w M β hd) {d : Nat} {t : TypeId} {cs : List AV} {vs : Array Value} (hnm : isMapT t = false) (hd0 : M.get d = none) (hl : vs.size = cs.length) (hr : ∀ j x, cs[j]? = some x → RC P w M β hd x (vs.getD j undef)) :
    Done P w0 w M β hd (.ptr d 0) [(d, .box t cs)] (.pointer (some ⟨w.heap.size, 0, none⟩)) (w.alloc (.cells vs t)) := by
  have hM : ∀ k, (M.set d (.box t cs)).get k = if d = k then some (.box t cs) else M.get k := Store.get_set M d _
  have hother : ∀ k, M.get k ≠ none → d ≠ k := fun k hk e => hk (e ▸ hd0)
  have hown : ∀ k b, Owns (M.set d (.box t cs)) ⟨fun k => if k = d then w.heap.size else β k, β.O⟩ hd k b → (k = d ∧ b = w.heap.size) ∨ (k ≠ d ∧ Owns M β hd k b) := by
    intro k b ho
    by_cases hkd : k = d
    · left
      refine ⟨hkd, ?_⟩
      rcases ho with ⟨t', cs', h1, h2⟩ | ⟨e, n, g, h1, h2⟩
      · simpa [hkd] using h2.symm
      · rw [hM, if_pos hkd.symm] at h1; cases h1
    · right
      refine ⟨hkd, ?_⟩
      rcases ho with ⟨t', cs', h1, h2⟩ | ⟨e, n, g, h1, h2⟩
      · rw [hM, if_neg (fun e => hkd e.symm)] at h1
        exact .inl ⟨t', cs', h1, by simpa [hkd] using h2⟩
      · rw [hM, if_neg (fun e => hkd e.symm)] at h1
        exact .inr ⟨e, n, g, h1, h2⟩
  have hsz : (w.alloc (.cells vs t)).heap.size = w.heap.size + 1 := by
    show (w.heap.push _).size = _
    simp
  have hk : Keeps w (Own M β hd) (w.alloc (.cells vs t)) (Own (M.set d (.box t cs)) ⟨fun k => if k = d then w.heap.size else β k, β.O⟩ hd) := by
    refine ⟨by rw [hsz]; omega, fun b hb hob => ⟨heap_alloc_old w _ b hb, ?_⟩⟩
    rintro (⟨k, ho⟩ | ho)
    · rcases hown k b ho with ⟨_, rfl⟩ | ⟨_, ho⟩
      · omega
      · exact hob (.inl ⟨k, ho⟩)
    · exact hob (.inr ho)
  have he : Ext M β hd (M.set d (.box t cs)) ⟨fun k => if k = d then w.heap.size else β k, β.O⟩ hd := by
    refine ⟨fun k hk => ?_, fun k t' cs' hm h0 => ?_, fun k e n g hm h0 => ?_, rfl⟩
    · rw [hM]; split <;> simp_all
    · have hdk := hother k h0
      rw [hM, if_neg hdk] at hm
      exact ⟨⟨cs', hm⟩, if_neg (fun e => hdk e.symm)⟩
    · have hdk := hother k h0
      rw [hM, if_neg hdk] at hm
      exact ⟨⟨g, hm⟩, rfl⟩
  refine ⟨⟨fun k => if k = d then w.heap.size else β k, β.O⟩, hd, ?_, ?_, he, hk⟩
  · refine .c (.ptr (by rw [Store.sets_one, hM, if_pos rfl]; simp) rfl fun t' cs' hm => by
      rw [Store.sets_one, hM, if_pos rfl] at hm
      cases hm
      rw [ptrV_box hnm]; simp)
  · refine h.evolve (h.below.alloc _) hk he ?_ ?_ ?_ ?_
    · intro k b ho
      rw [hsz]
      rcases hown k b ho with ⟨_, rfl⟩ | ⟨_, ho⟩
      · exact ⟨.inl h.below.size, by omega⟩
      · have := h.ge k b ho; exact ⟨this.1, by omega⟩
    · intro k k' b ho ho'
      rcases hown k b ho with ⟨rfl, rfl⟩ | ⟨h1, h2⟩ <;> rcases hown k' _ ho' with ⟨rfl, h3⟩ | ⟨h3, h4⟩
      · rfl
      · have := (h.ge k' _ h4).2; omega
      · have := (h.ge k _ h2).2; omega
      · exact h.inj k k' b h2 h4
    · intro k t' cs' hm
      rw [Store.sets_one, hM] at hm
      by_cases hkd : d = k
      · rw [if_pos hkd] at hm
        cases hm
        refine .inr (.inl ⟨hnm, vs, ?_, hl, fun j x hj => (hr j x hj).keep hk he⟩)
        show (w.alloc _).heap[if k = d then w.heap.size else β k]? = _
        rw [if_pos hkd.symm]
        exact heap_alloc_new w _
      · rw [if_neg hkd] at hm
        have hlt := (h.ge k (β k) (.inl ⟨t', cs', hm, rfl⟩)).2
        exact .inl ⟨hm, if_neg (fun e => hkd e.symm), heap_alloc_old w _ _ hlt⟩
    · intro k e n g hm
      rw [Store.sets_one, hM] at hm
      by_cases hkd : d = k
      · rw [if_pos hkd] at hm; cases hm
      · rw [if_neg hkd] at hm
        refine .inl ⟨hm, rfl, fun b hb => heap_alloc_old w _ b (h.ge k b (.inr ⟨e, n, g, hm, hb⟩)).2⟩
theorem own_congr (hm : ∀ k, M'.get k = M.get k) {b : Nat} (h : Own M' β hd b) : Own M β hd b := by
  rcases h with ⟨k, h⟩ | h
  · refine .inl ⟨k, ?_⟩
    unfold Owns at h ⊢
    rw [hm] at h
    exact h
  · exact .inr h
theorem ext_congr (hm : ∀ k, M'.get k = M.get k) : Ext M β hd M' β hd :=
  ⟨fun k h => by rw [hm]; exact h, fun k t cs h _ => ⟨⟨cs, by rw [← hm]; exact h⟩, rfl⟩, fun k e n g h _ => ⟨⟨g, by rw [← hm]; exact h⟩, rfl⟩, rfl⟩
theorem keeps_congr (hm : ∀ k, M'.get k = M.get k) : Keeps w (Own M β hd) w (Own M' β hd) :=
  ⟨Nat.le_refl _, fun b hb ho => ⟨rfl, fun h => ho (own_congr hm h)⟩⟩
theorem Sim.congr (h : Sim P w0 w M β hd) (hm : ∀ k, M'.get k = M.get k) : Sim P w0 w M' β hd := by
  have ho : ∀ k b, Owns M' β hd k b → Owns M β hd k b := by
    intro k b h
    unfold Owns at h ⊢
    rw [hm] at h
    exact h
  exact h.evolve h.below (keeps_congr hm) (ext_congr hm) (fun k b h1 => h.ge k b (ho k b h1)) (fun k k' b h1 h2 => h.inj k k' b (ho k b h1) (ho k' b h2))
    (fun k t cs h1 => .inl ⟨by rw [← hm]; exact h1, rfl, rfl⟩) (fun k e n g h1 => .inl ⟨by rw [← hm]; exact h1, rfl, fun _ _ => rfl⟩)
theorem Done.congr {v : AV} {us us' : List (Nat × Ob)} {x : Value} (hm : ∀ k, (M.sets us').get k = (M.sets us).get k) (h : Done P w0 w M β hd v us x w') : Done P w0 w M β hd v us' x w' := by
  obtain ⟨β', hd', h1, h2, h3, h4⟩ := h
  exact ⟨β', hd', h1.keep (keeps_congr hm) (ext_congr hm), h2.congr hm, h3.trans (ext_congr hm), h4.trans (keeps_congr hm)⟩
theorem Done.then {v : AV} {us us' : List (Nat × Ob)} {x : Value} {w1 : World} {β1 : Bn} {hd1 : Nat → Value} (he : Ext M β hd (M.sets us) β1 hd1) (hk : Keeps w (Own M β hd) w1 (Own (M.sets us) β1 hd1)) (h : Done P w0 w1 (M.sets us) β1 hd1 v us' x w') : Done P w0 w M β hd v (us ++ us') x w' := by
  have e : ∀ (us : List (Nat × Ob)) (M : Store), M.sets (us ++ us') = (M.sets us).sets us' := by
    intro us
    induction us with
    | nil => intro M; rfl
    | cons u us ih => intro M; exact ih _
  obtain ⟨β', hd', h1, h2, h3, h4⟩ := h
  unfold Done
  rw [e]
  exact ⟨β', hd', h1, h2, he.trans h3, hk.trans h4⟩
theorem get_kills (ks : List Nat) (M : Store) (k : Nat) : (M.sets (consumed ks)).get k = if k ∈ ks then some .dead else M.get k := by
  induction ks generalizing M with
  | nil => simp [consumed, Store.sets]
  | cons q ks ih =>
    show ((M.set q .dead).sets (consumed ks)).get k = _
    rw [ih, Store.get_set]
    by_cases h1 : k ∈ ks
    · simp [h1]
    · by_cases h2 : q = k
      · simp [h1, h2]
      · have : ¬ k = q := fun e => h2 e.symm
        simp [h1, h2, this]
theorem owns_kills {ks : List Nat} {k b : Nat} (h : Owns (M.sets (consumed ks)) β hd k b) : k ∉ ks ∧ Owns M β hd k b := by
  unfold Owns at h
  rw [get_kills] at h
  by_cases hk : k ∈ ks
  · simp [hk] at h
  · simp only [hk, if_false] at h
    exact ⟨hk, h⟩
theorem own_kills {ks : List Nat} {b : Nat} (h : Own (M.sets (consumed ks)) β hd b) : Own M β hd b := by
  rcases h with ⟨k, h⟩ | h
  · exact .inl ⟨k, (owns_kills h).2⟩
  · exact .inr h
theorem keeps_kills (ks : List Nat) : Keeps w (Own M β hd) w (Own (M.sets (consumed ks)) β hd) :=
  ⟨Nat.le_refl _, fun b hb ho => ⟨rfl, fun h => ho (own_kills h)⟩⟩
theorem ext_kills (ks : List Nat) : Ext M β hd (M.sets (consumed ks)) β hd := by
  refine ⟨fun k h => ?_, fun k t cs h _ => ?_, fun k e n g h _ => ?_, rfl⟩
  · rw [get_kills]; split <;> simp_all
  · rw [get_kills] at h
    split at h
    · cases h
    · exact ⟨⟨cs, h⟩, rfl⟩
  · rw [get_kills] at h
    split at h
    · cases h
    · exact ⟨⟨g, h⟩, rfl⟩
theorem Sim.given_up (h : Sim P w0 w M β hd) {ks : List Nat} {k b : Nat} (hk : k ∈ ks) (ho : Owns M β hd k b) : ¬ Own (M.sets (consumed ks)) β hd b := by
  rintro (⟨q, hq⟩ | hq)
  · obtain ⟨h1, h2⟩ := owns_kills hq
    exact h1 (h.inj k q b ho h2 ▸ hk)
  · exact h.far b hq (h.ge k b ho).1
theorem Sim.kills (h : Sim P w0 w M β hd) (ks : List Nat) : Sim P w0 w (M.sets (consumed ks)) β hd := by
  refine h.evolve h.below (keeps_kills ks) (ext_kills ks) (fun k b h1 => h.ge k b (owns_kills h1).2) (fun k k' b h1 h2 => h.inj k k' b (owns_kills h1).2 (owns_kills h2).2) (fun k t cs hm => ?_) (fun k e n g hm => ?_)
  · rw [get_kills] at hm
    split at hm
    · cases hm
    · exact .inl ⟨hm, rfl, rfl⟩
  · rw [get_kills] at hm
    split at hm
    · cases hm
    · exact .inl ⟨hm, rfl, fun _ _ => rfl⟩
theorem frz_rel (h : Sim P w0 w M β hd) {O' : Nat → Prop} {os : List (Nat × Option Ob)} (hos : ∀ k ob, lk os k = some ob → M.get k = some ob) {t : TypeId} {v : AV} {x : T} {u : Value} (hO : ∀ b, O' b → Own M β hd b) (hK : ∀ k b, k ∈ rowKeys [v] → Owns M β hd k b → ¬ O' b)
    (hc : conf P os t v = true) (hf : frz os v = some x) (hr : RC P w M β hd v u) : RT P w O' t x u := by
  have hk : Keeps w (Own M β hd) w O' := ⟨Nat.le_refl _, fun b _ ho => ⟨rfl, fun h => ho (hO b h)⟩⟩
  unfold conf at hc
  split at hc
  · rename_i k k' n hu
    obtain rfl := eq_of_beq hc
    cases hr
    obtain rfl : T.i n = x := by simpa [frz] using hf
    exact .int (x := .i n) hu
  · rename_i b hu
    cases hr
    obtain rfl : T.b b = x := by simpa [frz] using hf
    exact .bool (x := .b b) hu
  · rename_i s hu
    cases hr
    obtain rfl : T.s s = x := by simpa [frz] using hf
    exact .str (x := .s s) hu
  · rename_i e e' y hu
    obtain rfl := eq_of_beq hc
    obtain rfl : y = x := by simpa [frz] using hf
    cases hr with
    | sl hu2 r =>
      have r2 := r.keep hk
      cases r2 with
      | int h => rw [h] at hu2; cases hu2
      | bool h => rw [h] at hu2; cases hu2
      | str h => rw [h] at hu2; cases hu2
      | sl hu3 hc b off vs ha hv hr =>
        rw [hu3] at hu2
        cases hu2
        exact .sl hu hc b off vs ha hv hr
  · rename_i e hu
    cases hr
    obtain rfl : noT = x := by simpa [frz] using hf
    exact .sl (x := noT) (c := 0) hu (Nat.le_refl _) 0 0 (fun _ _ => undef) (fun h0 => absurd h0 (by simp [noT, T.len])) (fun i j τ hi _ => absurd hi (by simp [noT, T.len])) (fun i j τ hi _ => absurd hi (by simp [noT, T.len]))
  · rename_i e k off len hu
    have hfind : ∀ ob, (match os.find? (fun o => o.1 == k) with | some (_, o) => o | none => none) = some ob → M.get k = some ob := fun ob hob => hos k ob hob
    simp only [frz] at hf
    split at hf
    · rename_i q e' n g hq
      rw [hq] at hc
      obtain rfl := eq_of_beq hc
      obtain rfl : (T.l len fun i j => g (off + i) j) = x := by simpa using hf
      have hm : M.get k = some (.row e n g) := hfind _ (by rw [hq])
      obtain ⟨hpos, xs, hown, hxs⟩ := h.row k e n g hm
      cases hr with
      | row h0 h1 hrv =>
        rcases hrv e n g hm with ⟨_, ⟨A, rfl⟩, rfl, rfl⟩ | ⟨gb, cap, a, hhd, hcap, hol, rfl, had⟩
        · exact .sl (x := .l 0 fun i j => g (0 + i) j) (A := A) (c := 0) hu (Nat.le_refl _) 0 0 (fun _ _ => undef) (fun h0 => absurd h0 (by simp [T.len])) (fun i j τ hi _ => absurd hi (by simp [T.len])) (fun i j τ hi _ => absurd hi (by simp [T.len]))
        · have hob : (hd k).ownBlock = some gb := by simp [hhd, Value.ownBlock]
          have how : Owns M β hd k gb := .inr ⟨e, n, g, hm, hob⟩
          refine .sl (x := .l len fun i j => g (off + i) j) (A := some a) (c := cap - off) hu (by show len ≤ cap - off; omega) gb (off * (lv P e).length) (fun i j => xs.getD ((off + i) * (lv P e).length + j) undef) (fun h0 => ?_) (fun i j τ hi hj => ?_) (fun i j τ hi hj => ?_)
          · have h0 : 0 < len := h0
            rw [had (.inl (by omega))]
            exact ⟨rfl, (h.ge k gb how).2, hK k gb (by simp [rowKeys]) how⟩
          · have hi : i < len := hi
            obtain ⟨v, h3, h4⟩ := hxs (off + i) j τ (by omega) hj
            have h5 := hown.cells hob _ v h3
            rw [add_eq, Nat.zero_add] at h5
            rw [List.getD_eq_getElem?_getD, h3, ← Nat.add_mul]
            exact h5
          · have hi : i < len := hi
            obtain ⟨v, h3, h4⟩ := hxs (off + i) j τ (by omega) hj
            rw [List.getD_eq_getElem?_getD, h3]
            exact h4.keep hk
    · cases hf
  · cases hc
theorem new_row (h : Sim P w0 w M β hd) {d : Nat} {e : TypeId} {n : Nat} {g : Nat → Nat → T} {hv : Value} {xs : List Value} (hd0 : M.get d = none) (hpos : 0 < (lv P e).length)
    (hb : Under w0 w') (hown : w'.ownsRow 0 e (lv P e).length hv n xs) (hnew : ∀ b, hv.ownBlock = some b → w.heap.size ≤ b) (hsame : ∀ b, b < w.heap.size → w'.heap[b]? = w.heap[b]?) (hsz : w.heap.size ≤ w'.heap.size)
    (hxs : ∀ i j τ, i < n → (lv P e)[j]? = some τ → ∃ v, xs[i * (lv P e).length + j]? = some v ∧ RT P w (Own M β hd) τ (g i j) v) :
    Done P w0 w M β hd (.row d 0 n) [(d, .row e n g)] hv w' := by
  have hM : ∀ k, (M.set d (.row e n g)).get k = if d = k then some (.row e n g) else M.get k := Store.get_set M d _
  have hother : ∀ k, M.get k ≠ none → d ≠ k := fun k hk e => hk (e ▸ hd0)
  have hd'd : (fun k => if k = d then hv else hd k) d = hv := if_pos rfl
  have hd'n : ∀ k, k ≠ d → (fun k => if k = d then hv else hd k) k = hd k := fun k hk => if_neg hk
  have howns : ∀ k b, Owns (M.set d (.row e n g)) β (fun k => if k = d then hv else hd k) k b → (k = d ∧ hv.ownBlock = some b) ∨ (k ≠ d ∧ Owns M β hd k b) := by
    intro k b ho
    by_cases hkd : k = d
    · left
      refine ⟨hkd, ?_⟩
      subst hkd
      rcases ho with ⟨t', cs', h1, h2⟩ | ⟨e', n', g', h1, h2⟩
      · rw [hM, if_pos rfl] at h1; cases h1
      · simpa using h2
    · right
      refine ⟨hkd, ?_⟩
      rcases ho with ⟨t', cs', h1, h2⟩ | ⟨e', n', g', h1, h2⟩
      · rw [hM, if_neg (fun e => hkd e.symm)] at h1
        exact .inl ⟨t', cs', h1, h2⟩
      · rw [hM, if_neg (fun e => hkd e.symm)] at h1
        exact .inr ⟨e', n', g', h1, by simpa [hkd] using h2⟩
  have hk : Keeps w (Own M β hd) w' (Own (M.set d (.row e n g)) β (fun k => if k = d then hv else hd k)) := by
    refine ⟨hsz, fun b hb hob => ⟨hsame b hb, ?_⟩⟩
    rintro (⟨k, ho⟩ | ho)
    · rcases howns k b ho with ⟨_, h1⟩ | ⟨_, ho⟩
      · have := hnew b h1; omega
      · exact hob (.inl ⟨k, ho⟩)
    · exact hob (.inr ho)
  have he : Ext M β hd (M.set d (.row e n g)) β (fun k => if k = d then hv else hd k) := by
    refine ⟨fun k hk => ?_, fun k t' cs' hm h0 => ?_, fun k e' n' g' hm h0 => ?_, rfl⟩
    · rw [hM]; split <;> simp_all
    · have hdk := hother k h0
      rw [hM, if_neg hdk] at hm
      exact ⟨⟨cs', hm⟩, rfl⟩
    · have hdk := hother k h0
      rw [hM, if_neg hdk] at hm
      exact ⟨⟨g', hm⟩, if_neg (fun e => hdk e.symm)⟩
  have hone : hv.oneCell' = true := by
    rcases hown.2 with ⟨rfl, _⟩ | ⟨q, cap, cur, rfl, _⟩ <;> rfl
  refine ⟨β, fun k => if k = d then hv else hd k, ?_, ?_, he, hk⟩
  · refine .c (.row (by rw [Store.sets_one, hM, if_pos rfl]; simp) hone fun e' n' g' hm => ?_)
    rw [Store.sets_one, hM, if_pos rfl] at hm
    cases hm
    show RowV P e (if d = d then hv else hd d) n 0 n hv
    rw [if_pos rfl]
    rcases hown.2 with ⟨rfl, rfl⟩ | ⟨q, cap, cur, rfl, h1, h2, h3, _⟩
    · exact .inl ⟨rfl, ⟨none, rfl⟩, rfl, rfl⟩
    · exact .inr ⟨q, cap, ⟨q, 0, none⟩, rfl, h3, by omega, rfl, fun _ => by simp⟩
  · refine h.evolve hb hk he ?_ ?_ ?_ ?_
    · intro k b ho
      rcases howns k b ho with ⟨_, h1⟩ | ⟨_, ho⟩
      · exact ⟨.inl (Nat.le_trans h.below.size (hnew b h1)), (hown.lt b h1).2⟩
      · have := h.ge k b ho; exact ⟨this.1, by omega⟩
    · intro k k' b ho ho'
      rcases howns k b ho with ⟨rfl, h1⟩ | ⟨h1, h2⟩ <;> rcases howns k' _ ho' with ⟨rfl, h3⟩ | ⟨h3, h4⟩
      · rfl
      · have := (h.ge k' _ h4).2; have := hnew _ h1; omega
      · have := (h.ge k _ h2).2; have := hnew _ h3; omega
      · exact h.inj k k' b h2 h4
    · intro k t' cs' hm
      rw [Store.sets_one, hM] at hm
      by_cases hkd : d = k
      · rw [if_pos hkd] at hm; cases hm
      · rw [if_neg hkd] at hm
        exact .inl ⟨hm, rfl, hsame _ (h.ge k (β k) (.inl ⟨t', cs', hm, rfl⟩)).2⟩
    · intro k e' n' g' hm
      rw [Store.sets_one, hM] at hm
      by_cases hkd : d = k
      · rw [if_pos hkd] at hm
        cases hm
        refine .inr ⟨hpos, xs, ?_, fun i j τ hi hj => ?_⟩
        · show w'.ownsRow 0 e (lv P e).length (if k = d then hv else hd k) n xs
          rw [if_pos hkd.symm]; exact hown
        · obtain ⟨v, h1, h2⟩ := hxs i j τ hi hj
          exact ⟨v, h1, h2.keep hk⟩
      · rw [if_neg hkd] at hm
        refine .inl ⟨hm, if_neg (fun e => hkd e.symm), fun b hb => hsame b (h.ge k b (.inr ⟨e', n', g', hm, hb⟩)).2⟩
theorem frzs_rel (h : Sim P w0 w M β hd) {O' : Nat → Prop} {os : List (Nat × Option Ob)} (hos : ∀ k ob, lk os k = some ob → M.get k = some ob) (hO : ∀ b, O' b → Own M β hd b) {us : Array Value} (off : Nat) :
    ∀ (ts : List TypeId) (vs : List AV) (xs : List T) (j0 : Nat), frzs P os ts vs = some xs → (∀ k b, k ∈ rowKeys vs → Owns M β hd k b → ¬ O' b) → (∀ j x, vs[j]? = some x → RC P w M β hd x (us.getD (off + j0 + j) undef)) →
      xs.length = ts.length ∧ vs.length = ts.length ∧ ∀ j τ, ts[j]? = some τ → ∃ x, xs[j]? = some x ∧ RT P w O' τ x (us.getD (off + j0 + j) undef)
  | [], [], xs, j0, hf, _, _ => by
    obtain rfl : ([] : List T) = xs := by simpa [frzs] using hf
    exact ⟨rfl, rfl, fun j τ hj => by simp at hj⟩
  | [], _ :: _, _, _, hf, _, _ => by simp [frzs] at hf
  | _ :: _, [], _, _, hf, _, _ => by simp [frzs] at hf
  | t :: ts, v :: vs, xs, j0, hf, hK, hr => by
    simp only [frzs] at hf
    obtain ⟨hc, hf⟩ := bif_inv hf
    split at hf
    · rename_i x hx
      split at hf
      · rename_i ys hys
        obtain rfl : x :: ys = xs := by simpa using hf
        have hsub : ∀ k, k ∈ rowKeys [v] → k ∈ rowKeys (v :: vs) := by
          intro k hk
          cases v <;> simp [rowKeys] at hk ⊢
          exact .inl hk
        have hsub2 : ∀ k, k ∈ rowKeys vs → k ∈ rowKeys (v :: vs) := by
          intro k hk
          cases v <;> simp [rowKeys] <;> first | exact hk | exact .inr hk
        have ih := frzs_rel h hos hO off ts vs ys (j0 + 1) hys (fun k b hk => hK k b (hsub2 k hk)) (fun j y hj => by have := hr (j + 1) y hj; rwa [show off + j0 + (j + 1) = off + (j0 + 1) + j by omega] at this)
        refine ⟨by simp [ih.1], by simp [ih.2.1], fun j τ hj => ?_⟩
        cases j with
        | zero =>
          obtain rfl : t = τ := by simpa using hj
          refine ⟨x, rfl, ?_⟩
          have := hr 0 v rfl
          exact frz_rel h hos hO (fun k b hk => hK k b (hsub k hk)) hc hx this
        | succ j =>
          obtain ⟨y, hy, hrel⟩ := ih.2.2 j τ hj
          exact ⟨y, hy, by rwa [show off + j0 + (j + 1) = off + (j0 + 1) + j by omega]⟩
      · cases hf
    · cases hf
end
end Go.AM
