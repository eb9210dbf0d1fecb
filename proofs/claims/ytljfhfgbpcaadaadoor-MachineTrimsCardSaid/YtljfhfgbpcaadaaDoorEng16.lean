/- The engine, part 16: all orders come to the same. -/
import Derived.Test.YtljfhfgbpcaadaaDoorEng15
set_option linter.unusedSimpArgs false
set_option linter.unusedVariables false
namespace Go.AM
open Go.RowKit (Below)
section
variable {P : Program} {w0 : Fr0} {w : World} {O : Nat → Prop} {s s' : St} {a : Act}
theorem StOk.drawn (h : StOk P w0 O s a w) (n : Nat) : StOk P w0 O s a { w with drawn := n } := by
  obtain ⟨β, hd, hO, C⟩ := h
  have hk : Keeps w (Own s.M β hd) { w with drawn := n } (Own s.M β hd) := ⟨Nat.le_refl _, fun b _ ho => ⟨rfl, ho⟩⟩
  have he := Ext.refl s.M β hd
  refine ⟨β, hd, hO, ⟨C.sim.evolve ?_ hk he C.sim.ge C.sim.inj (fun k t cs hm => .inl ⟨hm, rfl, rfl⟩) (fun k e n g hm => .inl ⟨hm, rfl, fun _ _ => rfl⟩), ⟨C.slots.len, fun t x hx => (C.slots.val t x hx).keep hk he, C.slots.defers⟩⟩⟩
  exact C.sim.below.trans ⟨rfl, rfl, rfl, Nat.le_refl _, fun _ _ => rfl⟩
theorem StOk.congr (h : StOk P w0 O s a w) (hs : s'.slots = s.slots) (hM : ∀ k, s'.M.get k = s.M.get k) : StOk P w0 O s' a w := by
  obtain ⟨β, hd, hO, C⟩ := h
  refine ⟨β, hd, ⟨hO.1, hO.2.step (ext_congr hM)⟩, ⟨C.sim.congr hM, ?_⟩⟩
  rw [hs]
  exact ⟨C.slots.len, fun t x hx => (C.slots.val t x hx).keep (keeps_congr hM) (ext_congr hM), C.slots.defers⟩
end
section
variable {P : Program} {fr : Fr} {h : H} {ops : List Oper}
theorem chain_len : ∀ {l : List Oper} {s : St} {es : List En} {s' : St}, Chain P fr h ops l s es s' → es.length = l.length
  | [], _, [], _, _ => rfl
  | [], _, _ :: _, _, hc => hc.elim
  | _ :: _, _, [], _, hc => hc.elim
  | o :: l, s, en :: es, s', hc => by simp [chain_len hc.2]
theorem Does.lab {o : Oper} {s : St} {en : En} (hd : Does P fr h ops o s en) : ∀ k, lastOf en.us k ≠ none → k ∈ en.lab.ks ∧ k ∈ en.lab.wr := by
  intro k hk
  have runs : Runs P fr h o s en → k ∈ en.lab.ks ∧ k ∈ en.lab.wr := by
    rintro ⟨_, h2, h3⟩
    obtain ⟨ob, hob⟩ := Option.ne_none_iff_exists'.1 hk
    obtain ⟨u, hu, rfl⟩ := lastOf_mem hob
    rw [h3]
    exact ⟨List.contains_iff_mem.1 (List.all_eq_true.1 h2 u hu), List.mem_map_of_mem (f := (·.1)) hu⟩
  have skips : Skips en → k ∈ en.lab.ks ∧ k ∈ en.lab.wr := by
    intro hs
    rw [hs] at hk
    exact absurd rfl hk
  unfold Does at hd
  split at hd
  · exact runs hd
  · obtain ⟨d, _, (⟨c, _, (⟨_, h1⟩ | ⟨_, h1⟩)⟩ | ⟨_, h1⟩)⟩ := hd
    · exact runs h1
    · exact skips h1
    · exact skips h1
theorem chain_at {s0 : St} {es0 : List En} (hl : es0.length = ops.length) : ∀ (l : List Oper) (es : List En) (i : Nat) (s s' : St), l = ops.drop i → es = es0.drop i → i ≤ ops.length → Chain P fr h ops l s es s' → Rep s0 ops es0 (fun j => decide (j < i)) s →
    Rep s0 ops es0 (fun j => decide (j < ops.length)) s' ∧ ∀ j o en, i ≤ j → ops[j]? = some o → es0[j]? = some en → ∃ sj, Rep s0 ops es0 (fun q => decide (q < j)) sj ∧ Does P fr h ops o sj en
  | [], es, i, s, s', hlo, hle, hi, hc, R => by
    have hi' : i = ops.length := by
      have : (ops.drop i).length = 0 := by rw [← hlo]; rfl
      rw [List.length_drop] at this
      omega
    cases es with
    | cons _ _ => exact hc.elim
    | nil =>
      obtain rfl : s = s' := hc
      subst hi'
      exact ⟨R, fun j o en hj ho _ => absurd (List.getElem?_eq_some_iff.1 ho).1 (by omega)⟩
  | o :: l, es, i, s, s', hlo, hle, hi, hc, R => by
    cases es with
    | nil => exact hc.elim
    | cons en es =>
      obtain ⟨hd, hc⟩ := hc
      have ho : ops[i]? = some o := by
        have : (ops.drop i)[0]? = some o := by rw [← hlo]; rfl
        rw [List.getElem?_drop, Nat.add_zero] at this
        exact this
      have he : es0[i]? = some en := by
        have : (es0.drop i)[0]? = some en := by rw [← hle]; rfl
        rw [List.getElem?_drop, Nat.add_zero] at this
        exact this
      have hlt : i < ops.length := (List.getElem?_eq_some_iff.1 ho).1
      have R2 := R.step ho he (fun t _ j oj hj hL => by simp at hL; omega) (fun k ob _ j ej hj hL => by simp at hL; omega)
      have R3 : Rep s0 ops es0 (fun j => decide (j < i + 1)) (after s o en) := by
        have : add (fun j => decide (j < i)) i = fun j => decide (j < i + 1) := by
          funext j
          unfold add
          by_cases h1 : j = i
          · subst h1; simp
          · by_cases h2 : j < i
            · have : j < i + 1 := by omega
              simp [h1, h2, this]
            · have : ¬ j < i + 1 := by omega
              simp [h1, h2, this]
        rwa [this] at R2
      obtain ⟨h1, h2⟩ := chain_at hl l es (i + 1) (after s o en) s' (by rw [← List.tail_drop, ← hlo]; rfl) (by rw [← List.tail_drop, ← hle]; rfl) hlt hc R3
      refine ⟨h1, fun j oj ej hj hoj hej => ?_⟩
      by_cases hji : j = i
      · subst hji
        rw [ho] at hoj
        rw [he] at hej
        cases hoj
        cases hej
        exact ⟨s, R, hd⟩
      · exact h2 j oj ej (by omega) hoj hej
theorem filter_len {p q : Nat → Bool} : ∀ (l : List Nat), (∀ x ∈ l, p x = true → q x = true) → (l.filter p).length ≤ (l.filter q).length ∧ ((∃ x ∈ l, p x = false ∧ q x = true) → (l.filter p).length < (l.filter q).length)
  | [], _ => ⟨Nat.le_refl _, fun ⟨x, hx, _⟩ => by cases hx⟩
  | y :: l, hpq => by
    obtain ⟨h1, h2⟩ := filter_len l (fun x hx => hpq x (List.mem_cons_of_mem _ hx))
    have hy := hpq y (List.mem_cons_self ..)
    simp only [List.filter_cons]
    cases hp : p y with
    | true =>
      rw [hy hp]
      simp only [if_true, List.length_cons]
      refine ⟨by omega, ?_⟩
      rintro ⟨x, hx, h3, h4⟩
      rcases List.mem_cons.1 hx with rfl | hx
      · rw [hp] at h3; cases h3
      · have := h2 ⟨x, hx, h3, h4⟩; omega
    | false =>
      cases hq : q y with
      | true =>
        simp only [if_true, List.length_cons, Bool.false_eq_true, if_false]
        exact ⟨by omega, fun _ => by omega⟩
      | false =>
        simp only [Bool.false_eq_true, if_false]
        refine ⟨h1, ?_⟩
        rintro ⟨x, hx, h3, h4⟩
        rcases List.mem_cons.1 hx with rfl | hx
        · rw [hq] at h4; cases h4
        · exact h2 ⟨x, hx, h3, h4⟩
end
section
variable {P : Program} {fr : Fr} {h : H} {w0 : Fr0} {O : Nat → Prop}
theorem draw_sound (hmix : P.follows .mixedOrders = true) (hs : HSound P fr h) : DrawSound P fr h := by
  intro w0 O ρ r ops Q κ id s a w hr hst hn
  unfold runReg at hr
  obtain ⟨es, s', hchain, hk⟩ := runOps_chain hr
  simp only [List.reverse_nil, List.nil_append] at hk
  obtain ⟨hg, hk⟩ := bif_inv hk
  rw [Bool.and_eq_true] at hg
  obtain ⟨hdraw, hpairs⟩ := hg
  have hel : es.length = ops.toList.length := chain_len hchain
  have hback : ∀ j o, ops[j]? = some o → ∀ e ∈ o.after, Region.binds .any e = true → e.on < j := by
    intro j o ho e he hb
    unfold drawOk at hdraw
    rw [Bool.and_eq_true] at hdraw
    have h1 := List.all_eq_true.1 hdraw.2 (o, j) (by
      rw [List.mem_zipIdx_iff_getElem?]
      rw [Array.getElem?_toList]; exact ho)
    have h2 := Array.all_eq_true'.1 h1 e he
    rw [hb] at h2
    simpa using h2
  obtain ⟨hlast, hat⟩ := chain_at (s0 := s) hel ops.toList es 0 s s' rfl rfl (Nat.zero_le _) hchain (by
    have := Rep.init s ops.toList es
    simpa using this)
  have pair : ∀ i j, i < j → j < ops.size → ((Region.before ops).getD j 0).testBit i = true ∨ ∃ x y ex ey, ops[i]? = some x ∧ ops[j]? = some y ∧ es[i]? = some ex ∧ es[j]? = some ey ∧ apart ops.toList x y ex.lab ey.lab = true := by
    intro i j hij hj
    unfold pairsOk at hpairs
    have h1 := List.all_eq_true.1 hpairs j (by simpa using hj)
    have h2 := List.all_eq_true.1 h1 i (by simpa using hij)
    rw [Bool.or_eq_true] at h2
    rcases h2 with h2 | h2
    · exact .inl h2
    · right
      split at h2
      · rename_i x y lx ly hx hy hlx hly
        rw [List.getElem?_map, Option.map_eq_some_iff] at hlx hly
        obtain ⟨ex, hex, rfl⟩ := hlx
        obtain ⟨ey, hey, rfl⟩ := hly
        exact ⟨x, y, ex, ey, by rw [← Array.getElem?_toList]; exact hx, by rw [← Array.getElem?_toList]; exact hy, hex, hey, h2⟩
      · cases h2
  have does : ∀ j o en, ops[j]? = some o → es[j]? = some en → ∃ sj, Rep s ops.toList es (fun q => decide (q < j)) sj ∧ Does P fr h ops.toList o sj en := fun j o en ho he => hat j o en (Nat.zero_le _) (by rw [Array.getElem?_toList]; exact ho) he
  refine wp_region_any hmix ?_
  have main : ∀ (fuel : Nat) (listed : Array Bool) (sL : St) (a : Act) (w : World), listed.size = ops.size → ((List.range ops.size).filter fun j => !(listed.getD j false)).length ≤ fuel →
      (∀ i j, listed.getD j false = true → j < ops.size → ((Region.before ops).getD j 0).testBit i = true → listed.getD i false = true) → Rep s ops.toList es (fun j => listed.getD j false) sL → StOk P w0 O sL a w → wpAny P .any ops Q fuel listed a w := by
    intro fuel
    induction fuel with
    | zero =>
      intro listed sL a w hsz hcnt hcl R hst
      have hall : ∀ j, j < ops.size → listed.getD j false = true := by
        intro j hj
        cases hl : listed.getD j false with
        | true => rfl
        | false =>
          exfalso
          have : j ∈ (List.range ops.size).filter fun j => !(listed.getD j false) := List.mem_filter.2 ⟨List.mem_range.2 hj, by rw [hl]; rfl⟩
          have := List.length_pos_of_mem this
          omega
      refine ⟨?_, ?_⟩
      · unfold Region.ready
        rw [List.filter_eq_nil_iff]
        intro j hj
        have hj := List.mem_range.1 hj
        have h1 := hall j hj
        have h2 : listed.getD j true = true := by
          have h3 : j < listed.size := by omega
          simp only [Array.getD_eq_getD_getElem?, Array.getElem?_eq_getElem h3, Option.getD_some] at h1 ⊢
          exact h1
        simp [h2]
      · refine hn s' a w hk (hst.congr ?_ ?_)
        · apply List.ext_getElem?
          intro t
          by_cases ht : t < s.slots.length
          · have h1 : s'.slots.getD t .und = sL.slots.getD t .und := by
              rw [hlast.sl t ht, R.sl t ht]
              refine slotAt_ext (fun j oj hoj _ => ?_) _
              have hj : j < ops.size := by have := (List.getElem?_eq_some_iff.1 hoj).1; simpa using this
              rw [hall j hj]
              simpa using hj
            have e1 : t < s'.slots.length := by rw [hlast.len]; exact ht
            have e2 : t < sL.slots.length := by rw [R.len]; exact ht
            rw [List.getElem?_eq_getElem e1, List.getElem?_eq_getElem e2]
            rw [List.getD_eq_getElem?_getD, List.getD_eq_getElem?_getD, List.getElem?_eq_getElem e1, List.getElem?_eq_getElem e2] at h1
            exact congrArg some h1
          · rw [List.getElem?_eq_none (by rw [hlast.len]; omega), List.getElem?_eq_none (by rw [R.len]; omega)]
        · intro k
          rw [hlast.mem k, R.mem k]
          refine memAt_ext (fun j ej hej _ => ?_) _
          have hj : j < ops.size := by have := (List.getElem?_eq_some_iff.1 hej).1; rw [hel] at this; simpa using this
          rw [hall j hj]
          simpa using hj
    | succ fuel ih =>
      intro listed sL a w hsz hcnt hcl R hst
      have getDt : ∀ j, j < ops.size → listed.getD j true = listed.getD j false := by
        intro j hj
        have h3 : j < listed.size := by omega
        simp [Array.getD_eq_getD_getElem?, Array.getElem?_eq_getElem h3]
      refine ⟨fun hready => ?_, fun i hi => ?_⟩
      · -- nothing is ready: all is listed
        have hall : ∀ j, j < ops.size → listed.getD j false = true := by
          intro j
          induction j using Nat.strongRecOn with
          | _ j ihj =>
            intro hj
            cases hl : listed.getD j false with
            | true => rfl
            | false =>
              exfalso
              unfold Region.ready at hready
              rw [List.filter_eq_nil_iff] at hready
              refine hready j (List.mem_range.2 hj) ?_
              rw [getDt j hj, hl, Array.getElem?_eq_getElem hj]
              simp only [Bool.not_false, Option.map_some, Option.getD_some, Bool.true_and]
              rw [Array.all_eq_true']
              intro e he
              cases hb : Region.binds .any e with
              | false => rfl
              | true =>
                have h1 := hback j _ (Array.getElem?_eq_getElem hj) e he hb
                rw [ihj e.on h1 (by omega)]
                rfl
        have hc0 : ((List.range ops.size).filter fun j => !(listed.getD j false)).length ≤ 0 := by
          have : (List.range ops.size).filter (fun j => !(listed.getD j false)) = [] := by
            rw [List.filter_eq_nil_iff]
            intro j hj
            rw [hall j (List.mem_range.1 hj)]
            simp
          rw [this]
          exact Nat.le_refl _
        refine hn s' a w hk (hst.congr ?_ ?_)
        · apply List.ext_getElem?
          intro t
          by_cases ht : t < s.slots.length
          · have h1 : s'.slots.getD t .und = sL.slots.getD t .und := by
              rw [hlast.sl t ht, R.sl t ht]
              refine slotAt_ext (fun j oj hoj _ => ?_) _
              have hj : j < ops.size := by have := (List.getElem?_eq_some_iff.1 hoj).1; simpa using this
              rw [hall j hj]
              simpa using hj
            have e1 : t < s'.slots.length := by rw [hlast.len]; exact ht
            have e2 : t < sL.slots.length := by rw [R.len]; exact ht
            rw [List.getElem?_eq_getElem e1, List.getElem?_eq_getElem e2]
            rw [List.getD_eq_getElem?_getD, List.getD_eq_getElem?_getD, List.getElem?_eq_getElem e1, List.getElem?_eq_getElem e2] at h1
            exact congrArg some h1
          · rw [List.getElem?_eq_none (by rw [hlast.len]; omega), List.getElem?_eq_none (by rw [R.len]; omega)]
        · intro k
          rw [hlast.mem k, R.mem k]
          refine memAt_ext (fun j ej hej _ => ?_) _
          have hj : j < ops.size := by have := (List.getElem?_eq_some_iff.1 hej).1; rw [hel] at this; simpa using this
          rw [hall j hj]
          simpa using hj
      · unfold Region.ready at hi
        rw [List.mem_filter] at hi
        obtain ⟨hi0, hi1⟩ := hi
        have hi0 := List.mem_range.1 hi0
        rw [Bool.and_eq_true] at hi1
        obtain ⟨hi2, hi3⟩ := hi1
        rw [getDt i hi0] at hi2
        have hil : listed.getD i false = false := by simpa using hi2
        have ho : ops[i]? = some ops[i] := Array.getElem?_eq_getElem hi0
        generalize ops[i] = o at ho
        have he : i < es.length := by rw [hel]; simpa using hi0
        have hen : es[i]? = some es[i] := List.getElem?_eq_getElem he
        generalize es[i] = en at hen
        rw [ho] at hi3
        simp only [Option.map_some, Option.getD_some] at hi3
        have hedges : ∀ e ∈ o.after, Region.binds .any e = true → listed.getD e.on false = true := by
          intro e hem hb
          have := Array.all_eq_true'.1 hi3 e hem
          rw [hb] at this
          simpa using this
        have hbits : ∀ q, ((Region.before ops).getD i 0).testBit q = true → listed.getD q false = true := by
          intro q hq
          obtain ⟨e, he1, he2, he3⟩ := before_bit ho (fun e he hb => hback i o ho e he hb) hq
          have h1 := hedges e he1 he2
          rcases he3 with rfl | he3
          · exact h1
          · exact hcl q e.on h1 (by have := hback i o ho e he1 he2; omega) he3
        obtain ⟨si, Ri, hdoes⟩ := does i o en ho hen
        have hsame : ∀ t ∈ readsOf ops.toList o, ∀ j oj, ops.toList[j]? = some oj → oj.dst = some t → decide (j < i) = listed.getD j false := by
          intro t ht j oj hoj hd
          have hj : j < ops.size := by have := (List.getElem?_eq_some_iff.1 hoj).1; simpa using this
          rw [Array.getElem?_toList] at hoj
          rcases Nat.lt_trichotomy j i with hji | hji | hji
          · rcases pair j i hji hi0 with hb | ⟨x, y, ex, ey, hx, hy, _, _, hap⟩
            · rw [hbits j hb]; simpa using hji
            · exfalso
              rw [hoj] at hx
              rw [ho] at hy
              cases hx
              cases hy
              unfold apart at hap
              rw [Bool.and_eq_true, Bool.and_eq_true] at hap
              have h1 := hap.1.1
              rw [hd] at h1
              simp only [Bool.and_eq_true, Bool.not_eq_true'] at h1
              rw [List.contains_iff_mem.2 ht] at h1
              exact absurd h1.1 (by simp)
          · subst hji
            rw [hil]
            simp
          · have h1 : decide (j < i) = false := by simp; omega
            rw [h1]
            cases hl : listed.getD j false with
            | false => rfl
            | true =>
              exfalso
              rcases pair i j hji hj with hb | ⟨x, y, ex, ey, hx, hy, _, _, hap⟩
              · have := hcl i j hl hj hb
                rw [hil] at this; cases this
              · rw [ho] at hx
                rw [hoj] at hy
                cases hx
                cases hy
                unfold apart at hap
                rw [Bool.and_eq_true, Bool.and_eq_true] at hap
                have h2 := hap.1.2
                rw [hd] at h2
                simp only [Bool.not_eq_true'] at h2
                rw [List.contains_iff_mem.2 ht] at h2
                cases h2
        have hsameM : ∀ k ∈ en.lab.ks, ∀ j ej, es[j]? = some ej → lastOf ej.us k ≠ none → decide (j < i) = listed.getD j false := by
          intro k hkk j ej hej hus
          have hj : j < ops.size := by have := (List.getElem?_eq_some_iff.1 hej).1; rw [hel] at this; simpa using this
          obtain ⟨sj, _, hdj⟩ := does j ops[j] ej (Array.getElem?_eq_getElem hj) hej
          obtain ⟨hkj, hwr⟩ := hdj.lab k hus
          rcases Nat.lt_trichotomy j i with hji | hji | hji
          · rcases pair j i hji hi0 with hb | ⟨x, y, ex, ey, hx, hy, hex, hey, hap⟩
            · rw [hbits j hb]; simpa using hji
            · exfalso
              rw [hej] at hex
              rw [hen] at hey
              cases hex
              cases hey
              unfold apart at hap
              rw [Bool.and_eq_true] at hap
              have h1 := hap.2
              rw [Bool.and_eq_true] at h1
              have h2 := List.all_eq_true.1 h1.1 k hwr
              rw [List.contains_iff_mem.2 hkk] at h2
              cases h2
          · subst hji
            rw [hil]
            simp
          · have h1 : decide (j < i) = false := by simp; omega
            rw [h1]
            cases hl : listed.getD j false with
            | false => rfl
            | true =>
              exfalso
              rcases pair i j hji hj with hb | ⟨x, y, ex, ey, hx, hy, hex, hey, hap⟩
              · have := hcl i j hl hj hb
                rw [hil] at this; cases this
              · rw [hej] at hey
                rw [hen] at hex
                cases hex
                cases hey
                unfold apart at hap
                rw [Bool.and_eq_true] at hap
                have h1 := hap.2
                rw [Bool.and_eq_true] at h1
                have h2 := List.all_eq_true.1 h1.2 k hwr
                rw [List.contains_iff_mem.2 hkk] at h2
                cases h2
        have hD : Does P fr h ops.toList o sL en := by
          refine hdoes.congr (fun t ht => ?_) (fun k hkk => ?_)
          · by_cases htl : t < s.slots.length
            · rw [Ri.sl t htl, R.sl t htl]
              exact slotAt_ext (fun j oj hoj hd => hsame t ht j oj hoj hd) _
            · rw [List.getD_eq_getElem?_getD, List.getD_eq_getElem?_getD, List.getElem?_eq_none (by rw [Ri.len]; omega), List.getElem?_eq_none (by rw [R.len]; omega)]
          · rw [Ri.mem k, R.mem k]
            exact memAt_ext (fun j ej hej hus => hsameM k hkk j ej hej hus) _
        refine does_ok hs hst ho hD _ Q fun a' w' hst' => ?_
        have hadd : ∀ j, (listed.setIfInBounds i true).getD j false = add (fun j => listed.getD j false) i j := by
          intro j
          unfold add
          by_cases hji : j = i
          · subst hji
            have h3 : j < listed.size := by omega
            simp [Array.getD_eq_getD_getElem?, h3]
          · have : (j == i) = false := by simpa using hji
            rw [this, Bool.false_or]
            simp only [Array.getD_eq_getD_getElem?]
            rw [Array.getElem?_setIfInBounds_ne (fun e => hji e.symm)]
        refine ih (listed.setIfInBounds i true) (after sL o en) a' w' (by simp [hsz]) ?_ ?_ ?_ hst'
        · have := (filter_len (p := fun j => !((listed.setIfInBounds i true).getD j false)) (q := fun j => !(listed.getD j false)) (List.range ops.size) (fun x _ hx => by
            rw [hadd] at hx
            unfold add at hx
            cases hl : listed.getD x false with
            | false => rfl
            | true => simp [hl] at hx)).2 ⟨i, List.mem_range.2 hi0, by rw [hadd]; simp [add], by rw [hil]; rfl⟩
          omega
        · intro p j hj hjs hb
          rw [hadd] at hj ⊢
          unfold add at hj ⊢
          rw [Bool.or_eq_true] at hj
          rcases hj with hj | hj
          · obtain rfl := eq_of_beq hj
            simp [hbits p hb]
          · simp [hcl p j hj hjs hb]
        · have h1 : (fun j => (listed.setIfInBounds i true).getD j false) = add (fun j => listed.getD j false) i := funext hadd
          rw [h1]
          refine R.step (by rw [Array.getElem?_toList]; exact ho) hen (fun t ht j oj hj hL hoj hd => ?_) (fun k ob hk j ej hj hL hej => ?_)
          · have hjs : j < ops.size := by have := (List.getElem?_eq_some_iff.1 hoj).1; simpa using this
            rw [Array.getElem?_toList] at hoj
            rcases pair i j hj hjs with hb | ⟨x, y, ex, ey, hx, hy, _, _, hap⟩
            · have := hcl i j hL hjs hb
              rw [hil] at this; cases this
            · rw [ho] at hx
              rw [hoj] at hy
              cases hx
              cases hy
              unfold apart at hap
              rw [Bool.and_eq_true, Bool.and_eq_true] at hap
              have h2 := hap.1.1
              rw [ht] at h2
              simp only [Bool.and_eq_true, Bool.not_eq_true'] at h2
              have h3 := h2.2
              rw [hd] at h3
              simp at h3
          · have hjs : j < ops.size := by have := (List.getElem?_eq_some_iff.1 hej).1; rw [hel] at this; simpa using this
            cases hl : lastOf ej.us k with
            | none => rfl
            | some ob2 =>
              exfalso
              obtain ⟨sj, _, hdj⟩ := does j ops[j] ej (Array.getElem?_eq_getElem hjs) hej
              obtain ⟨hkj, hwr⟩ := hdj.lab k (by rw [hl]; simp)
              obtain ⟨hki, _⟩ := hdoes.lab k (by rw [hk]; simp)
              rcases pair i j hj hjs with hb | ⟨x, y, ex, ey, hx, hy, hex, hey, hap⟩
              · have := hcl i j hL hjs hb
                rw [hil] at this; cases this
              · rw [hej] at hey
                rw [hen] at hex
                cases hex
                cases hey
                unfold apart at hap
                rw [Bool.and_eq_true] at hap
                have h1 := hap.2
                rw [Bool.and_eq_true] at h1
                have h2 := List.all_eq_true.1 h1.2 k hwr
                rw [List.contains_iff_mem.2 hki] at h2
                cases h2
  refine main ops.size (Array.replicate ops.size false) s a _ (by simp) ?_ ?_ ?_ (hst.drawn _)
  · have := List.length_filter_le (fun j => !((Array.replicate ops.size false).getD j false)) (List.range ops.size)
    simpa using this
  · intro i j hj hjs
    simp [Array.getD_eq_getD_getElem?, hjs] at hj
  · have : (fun j => (Array.replicate ops.size false).getD j false) = fun _ => false := by
      funext j
      simp only [Array.getD_eq_getD_getElem?, Array.getElem?_replicate]
      split <;> rfl
    rw [this]
    exact Rep.init s ops.toList es
theorem calls_ok {pl : Plan} {ext : FuncId → Option (List AV → Store → Option R)} (hmix : P.follows .mixedOrders = true) (hext : ∀ f F args M r, ext f = some F → F args M = some r → FSound P fr f args M r) (n : Nat) : HSound P fr (call P pl fr ext n) :=
  call_ok (fun h hs => draw_sound hmix hs) hext n
end
end Go.AM
namespace Go.AM
theorem call_succ {P : Program} {pl : Plan} {fr : Fr} {ext : FuncId → Option (List AV → Store → Option R)} {n : Nat} {f : FuncId} {args : List AV} {M : Store} {fn : Func} (he : ext f = none) (hf : P.funcs[f]? = some fn) (ha : Nat.ble args.length fn.ntmps = true) :
    call P pl fr ext (n + 1) f args M = runF P fr (call P pl fr ext n) (pl f) n (fr.tpl f) fn args M := by
  have ha : args.length ≤ fn.ntmps := Nat.le_of_ble_eq_true ha
  simp only [call, he, hf, ha, decide_true, cond_true]
def Ev (p : Nat → Prop) : Prop := ∃ N, ∀ n, N ≤ n → p n
namespace Ev
variable {p q r s t : Nat → Prop}
theorem of (h : ∀ n, p n) : Ev p := ⟨0, fun n _ => h n⟩
theorem ge (k : Nat) : Ev fun n => k ≤ n := ⟨k, fun _ h => h⟩
theorem imp (h : Ev p) (k : ∀ n, p n → q n) : Ev q := h.elim fun N hN => ⟨N, fun n hn => k n (hN n hn)⟩
theorem and (h : Ev p) (k : Ev q) : Ev fun n => p n ∧ q n := by
  obtain ⟨N, hN⟩ := h
  obtain ⟨K, hK⟩ := k
  exact ⟨max N K, fun n hn => ⟨hN n (by omega), hK n (by omega)⟩⟩
theorem imp2 (h1 : Ev p) (h2 : Ev q) (k : ∀ n, p n → q n → r n) : Ev r := (h1.and h2).imp fun n h => k n h.1 h.2
theorem imp3 (h1 : Ev p) (h2 : Ev q) (h3 : Ev r) (k : ∀ n, p n → q n → r n → s n) : Ev s := (h1.and (h2.and h3)).imp fun n h => k n h.1 h.2.1 h.2.2
theorem imp4 (h1 : Ev p) (h2 : Ev q) (h3 : Ev r) (h4 : Ev s) (k : ∀ n, p n → q n → r n → s n → t n) : Ev t := (h1.and (h2.and (h3.and h4))).imp fun n h => k n h.1 h.2.1 h.2.2.1 h.2.2.2
theorem step (h : Ev fun n => p (n + 1)) : Ev p := by
  obtain ⟨N, hN⟩ := h
  exact ⟨N + 1, fun n hn => by obtain ⟨m, rfl⟩ : ∃ m, n = m + 1 := ⟨n - 1, by omega⟩; exact hN m (by omega)⟩
theorem all {k : Nat} {p : Nat → Nat → Prop} (h : ∀ i, i < k → Ev (p i)) : Ev fun n => ∀ i, i < k → p i n := by
  induction k with
  | zero => exact of fun n i hi => absurd hi (Nat.not_lt_zero _)
  | succ k ih =>
    refine imp2 (ih fun i hi => h i (by omega)) (h k (by omega)) fun n h1 h2 i hi => ?_
    rcases Nat.lt_or_eq_of_le (Nat.le_of_lt_succ hi) with h3 | rfl
    · exact h1 i h3
    · exact h2
end Ev
def Gets (c : Nat → Option R) (post : R → Prop) : Prop := Ev fun n => ∃ r, c n = some r ∧ post r
theorem lookR_0 (x : T) (l : List (Nat × T)) : lookR ((0, x) :: l) 0 = x := rfl
theorem lookR_1 (x y : T) (l : List (Nat × T)) : lookR ((0, x) :: (1, y) :: l) 1 = y := rfl
theorem lookR_2 (x y z : T) (l : List (Nat × T)) : lookR ((0, x) :: (1, y) :: (2, z) :: l) 2 = z := rfl
theorem lookR_3 (x y z u : T) (l : List (Nat × T)) : lookR ((0, x) :: (1, y) :: (2, z) :: (3, u) :: l) 3 = u := rfl
theorem lookR_4 (x y z u v : T) (l : List (Nat × T)) : lookR ((0, x) :: (1, y) :: (2, z) :: (3, u) :: (4, v) :: l) 4 = v := rfl
theorem wrap_eq {a : Int} (h1 : -9223372036854775808 ≤ a) (h2 : a ≤ 9223372036854775807) : IntKind.wrap .i64 a = a := by
  simp only [IntKind.wrap, IntKind.signed, IntKind.bits]
  simp
  omega
end Go.AM
