/- The engine, part 10b: what a call promises; the call. -/
import Derived.Test.YtljfhfgbpcaadaaDoorEng10
set_option linter.unusedSimpArgs false
set_option linter.unusedVariables false
namespace Go.AM
open Go.RowKit (Below)
def outV : List Value → Value
  | [v] => v
  | vs => .tuple vs.toArray
def Ext0 (F : Fr0) (M : Store) (β : Bn) (hd : Nat → Value) : Prop :=
  ∀ q, F.M.get q ≠ none → (∀ t cs, M.get q = some (.box t cs) → (∃ cs, F.M.get q = some (.box t cs)) ∧ β q = F.β q) ∧ (∀ e n g, M.get q = some (.row e n g) → (∃ g0, F.M.get q = some (.row e n g0)) ∧ hd q = F.hd q)
structure ArgsOk (P : Program) (F : Fr0) (args : List AV) (vals : Array Value) : Prop where
  sim : Sim P F F.w F.M F.β F.hd
  high : ∀ q, F.M.get q ≠ none → HB ≤ q
  len : args.length = vals.size
  val : ∀ j x, args[j]? = some x → RA P F.w F.M F.β F.hd x (vals.getD j undef)
structure ResOk (P : Program) (F : Fr0) (tp : Tpl) (r : R) (w' : World) (us : List Value) : Prop where
  len : us.length = tp.vs.length
  ex : ∃ β hd, β.O = F.β.O ∧ Sim P F w' (tp.M r) β hd ∧ Ext0 F (tp.M r) β hd ∧ ∀ j x, (TA.instL r tp.vs)[j]? = some x → RA P w' (tp.M r) β hd x (us.getD j undef)
def FSound (P : Program) (fr : Fr) (f : FuncId) (args : List AV) (M : Store) (r : R) : Prop :=
  ∀ (F : Fr0) (vals : Array Value), F.M = M → ArgsOk P F args vals → ∀ fn, P.funcs[f]? = some fn →
    Calls P f vals F.w fun e w' => ∃ us, e = .returned (outV us) ∧ ResOk P F (fr.tpl f) r w' us
def HSound (P : Program) (fr : Fr) (h : H) : Prop := ∀ f args M r, h f args M = some r → FSound P fr f args M r
section
variable {P : Program} {w0 : Fr0} {w : World} {M : Store} {β : Bn} {hd : Nat → Value} {os : List (Nat × Option Ob)} {names : List (Nat × Nat)}
theorem lk_out {k : Nat} {ob : Ob} (h : lk (outOf names os) k = some ob) : lk os k = some ob ∧ k ∉ names.map (·.1) := by
  unfold outOf at h
  induction os with
  | nil => simp [lk] at h
  | cons x r ih =>
    obtain ⟨q, o⟩ := x
    simp only [List.filter_cons] at h
    cases hc : (names.map (·.1)).contains q with
    | true =>
      simp only [hc, Bool.not_true, Bool.false_eq_true, if_false] at h
      obtain ⟨h1, h2⟩ := ih h
      refine ⟨?_, h2⟩
      have hqk : (q == k) = false := by
        cases hq : q == k with
        | false => rfl
        | true => rw [eq_of_beq hq] at hc; exact absurd (List.contains_iff_mem.1 hc) h2
      unfold lk at h1 ⊢
      rw [List.find?_cons]
      simp only [hqk]
      exact h1
    | false =>
      simp only [hc, Bool.not_false, if_true] at h
      unfold lk at h ⊢
      rw [List.find?_cons] at h ⊢
      cases hq : q == k with
      | true =>
        simp only [hq] at h ⊢
        refine ⟨h, fun hm => ?_⟩
        rw [eq_of_beq hq] at hc
        rw [List.contains_iff_mem.2 hm] at hc
        cases hc
      | false =>
        simp only [hq] at h ⊢
        exact ih h
theorem lift_RA {O'' : Nat → Prop} {M' : Store} {β' : Bn} {hd' : Nat → Value} (hO : ∀ b, Own M' β' hd' b → O'' b) {x : AV} {v : Value} (r : RA P w [] (b0 O'') hd0 x v) : RA P w M' β' hd' x v := by
  have := ren_RA (M' := M') (β' := β') (hd' := hd') (w' := w) (f := fun k => k) r (fun k _ h0 => absurd rfl h0) (.inr ⟨Nat.le_refl _, fun b _ ho => ⟨rfl, fun h => ho (.inr (hO b h))⟩⟩)
  rwa [ren_id] at this
theorem inArgs_rel (L : Lent P M os names) (h : Sim P w0 w M β hd) {O' : Nat → Prop} (hO : ∀ b, O' b → Own M β hd b) (hN : ∀ k ob b, lk os k = some ob → Owns M β hd k b → ¬ O' b) {ld : Nat → Bool} :
    ∀ (ts : List TypeId) (vs xs : List AV) (j0 : Nat), inArgs P (outOf names os) (find names) ld j0 ts vs = some xs → (∀ q ∈ refsL (lentOf ld j0 vs), q ∈ names.map (·.1)) → xs.length = vs.length ∧
      ∀ (j : Nat) (x : AV), xs[j]? = some x → ∃ v, vs[j]? = some v ∧ ∀ u, RA P w M β hd v u → RA P w (lentM P os names) (lentB names β O') (lentH names hd) x u
  | [], [], xs, j0, ha, _ => by cases ha; exact ⟨rfl, fun j x hj => by simp at hj⟩
  | [], _ :: _, _, _, ha, _ => by simp [inArgs] at ha
  | _ :: _, [], _, _, ha, _ => by simp [inArgs] at ha
  | t :: ts, v :: vs, xs, j0, ha, hr => by
    simp only [inArgs] at ha
    split at ha
    · rename_i x ys hx hys
      cases ha
      have hkp := (L.sim h hO (fun k b hk ho => by
        obtain ⟨⟨k', K⟩, hk1, rfl⟩ := List.mem_map.1 hk
        rcases L.at hk1 with ⟨t', cs', hl, _⟩ | ⟨e, n, g, hl, _⟩ <;> exact hN _ _ b hl ho)).1
      have hr' : ∀ q ∈ refsL (lentOf ld (j0 + 1) vs), q ∈ names.map (·.1) := by
        intro q hq
        refine hr q ?_
        simp only [lentOf]
        cases ld j0 with
        | true => simp only [cond_true, refsL, List.mem_append]; exact .inr hq
        | false => exact hq
      obtain ⟨ih1, ih2⟩ := inArgs_rel L h hO hN ts vs ys (j0 + 1) hys hr'
      refine ⟨by simp [ih1], fun j y hj => ?_⟩
      cases j with
      | succ j => exact ih2 j y hj
      | zero =>
        obtain rfl : x = y := by simpa using hj
        refine ⟨v, rfl, fun u hu => ?_⟩
        cases hld : ld j0 with
        | true =>
          rw [hld] at hx
          cases hx
          refine ren_RA hu (fun q hq _ => L.means (hr q ?_)) (.inr hkp)
          simp only [lentOf, hld, cond_true, refsL, List.mem_append]
          exact .inl hq
        | false =>
          rw [hld] at hx
          have hx : argOf P (outOf names os) t v = some x := hx
          refine lift_RA (O'' := fun b => O' b ∨ ∃ K, Owns (lentM P os names) (lentB names β O') (lentH names hd) K b) (fun b hb => hb.elim .inr .inl) (argOf_rel h (fun k ob hk => L.hos _ _ (lk_out hk).1) (fun b hb => ?_) (fun k ob b hk ho => ?_) hx hu)
          · rcases hb with hb | ⟨K, hb⟩
            · exact hO b hb
            · obtain ⟨k, _, hk⟩ := L.owns hb
              exact .inl ⟨k, hk⟩
          · obtain ⟨h1, h2⟩ := lk_out hk
            rintro (hb | ⟨K, hb⟩)
            · exact hN k ob b h1 ho hb
            · obtain ⟨k2, h3, h4⟩ := L.owns hb
              obtain rfl := h.inj k k2 b ho h4
              exact h2 (List.mem_map_of_mem (f := (·.1)) h3)
    · cases ha
theorem inCaps_rel (L : Lent P M os names) (h : Sim P w0 w M β hd) {O' : Nat → Prop} (hO : ∀ b, O' b → Own M β hd b) (hN : ∀ k ob b, lk os k = some ob → Owns M β hd k b → ¬ O' b) {ld : Nat → Bool} :
    ∀ (vs xs : List AV) (j0 : Nat), inCaps P (outOf names os) (find names) ld j0 vs = some xs → (∀ q ∈ refsL (lentOf ld j0 vs), q ∈ names.map (·.1)) → xs.length = vs.length ∧
      ∀ (j : Nat) (x : AV), xs[j]? = some x → ∃ v, vs[j]? = some v ∧ ∀ u, RC P w M β hd v u → RC P w (lentM P os names) (lentB names β O') (lentH names hd) x u
  | [], xs, j0, ha, _ => by cases ha; exact ⟨rfl, fun j x hj => by simp at hj⟩
  | v :: vs, xs, j0, ha, hr => by
    simp only [inCaps] at ha
    split at ha
    · rename_i x ys hx hys
      cases ha
      have hkp := (L.sim h hO (fun k b hk ho => by
        obtain ⟨⟨k', K⟩, hk1, rfl⟩ := List.mem_map.1 hk
        rcases L.at hk1 with ⟨t', cs', hl, _⟩ | ⟨e, n, g, hl, _⟩ <;> exact hN _ _ b hl ho)).1
      have hr' : ∀ q ∈ refsL (lentOf ld (j0 + 1) vs), q ∈ names.map (·.1) := by
        intro q hq
        refine hr q ?_
        simp only [lentOf]
        cases ld j0 with
        | true => simp only [cond_true, refsL, List.mem_append]; exact .inr hq
        | false => exact hq
      obtain ⟨ih1, ih2⟩ := inCaps_rel L h hO hN vs ys (j0 + 1) hys hr'
      refine ⟨by simp [ih1], fun j y hj => ?_⟩
      cases j with
      | succ j => exact ih2 j y hj
      | zero =>
        obtain rfl : x = y := by simpa using hj
        refine ⟨v, rfl, fun u hu => ?_⟩
        cases hld : ld j0 with
        | true =>
          rw [hld] at hx
          cases hx
          refine ren_RC hu (fun q hq _ => L.means (hr q ?_)) (.inr hkp)
          simp only [lentOf, hld, cond_true, refsL, List.mem_append]
          exact .inl hq
        | false =>
          rw [hld] at hx
          have hx : argPtr P (outOf names os) v = some x := hx
          have hc := argPtr_cell hx
          have hxc : isCell x = true := by
            unfold argPtr at hx
            split at hx
            · split at hx
              · rename_i t0 cs0 _
                cases hnm : isMapT t0 with
                | true => rw [hnm] at hx; cases hx
                | false =>
                  rw [hnm, cond_false] at hx
                  split at hx
                  · cases hx; rfl
                  · cases hx
              · cases hx
            · cases hx; rfl
            · cases hx
          refine (lift_RA (O'' := fun b => O' b ∨ ∃ K, Owns (lentM P os names) (lentB names β O') (lentH names hd) K b) (fun b hb => hb.elim .inr .inl) (.c (argPtr_rel h (fun k ob hk => L.hos _ _ (lk_out hk).1) (fun b hb => ?_) (fun k ob b hk ho => ?_) hx hu))).cell hxc
          · rcases hb with hb | ⟨K, hb⟩
            · exact hO b hb
            · obtain ⟨k, _, hk⟩ := L.owns hb
              exact .inl ⟨k, hk⟩
          · obtain ⟨h1, h2⟩ := lk_out hk
            rintro (hb | ⟨K, hb⟩)
            · exact hN k ob b h1 ho hb
            · obtain ⟨k2, h3, h4⟩ := L.owns hb
              obtain rfl := h.inj k k2 b ho h4
              exact h2 (List.mem_map_of_mem (f := (·.1)) h3)
    · cases ha
theorem refsL_lentOf {ld : Nat → Bool} : ∀ (vs us : List AV) (j0 : Nat) {q : Nat}, (q ∈ refsL (lentOf ld j0 vs) → q ∈ refsL (lentOf ld j0 (vs ++ us))) ∧ (q ∈ refsL (lentOf ld (j0 + vs.length) us) → q ∈ refsL (lentOf ld j0 (vs ++ us)))
  | [], us, j0, q => ⟨fun h => by simp [lentOf, refsL] at h, fun h => by simpa using h⟩
  | v :: vs, us, j0, q => by
    obtain ⟨h1, h2⟩ := refsL_lentOf (ld := ld) vs us (j0 + 1) (q := q)
    simp only [List.cons_append, lentOf, List.length_cons]
    rw [show j0 + (vs.length + 1) = j0 + 1 + vs.length by omega]
    cases ld j0 with
    | true =>
      simp only [cond_true, refsL, List.mem_append]
      exact ⟨fun h => h.imp id h1, fun h => .inr (h2 h)⟩
    | false => exact ⟨h1, h2⟩
end
end Go.AM
set_option linter.unusedSimpArgs false
set_option linter.unusedVariables false
namespace Go.AM
open Go.RowKit (Below)
section
variable {P : Program} {w0 : Fr0} {w w' : World} {M : Store} {β : Bn} {hd : Nat → Value} {os : List (Nat × Option Ob)} {names : List (Nat × Nat)}
theorem RT.plain {w : World} {O O' : Nat → Prop} {t : TypeId} {x : T} {v : Value} (hn : ∀ e, P.underlying t ≠ some (.slice e)) (r : RT P w O t x v) : RT P w O' t x v := by
  cases r with
  | int h => exact .int h
  | bool h => exact .bool h
  | str h => exact .str h
  | sl h hc b off vs ha hv hr => exact absurd h (hn _)
theorem slicyT_no {t τ : TypeId} {j : Nat} (h : slicyT P t = false) (hj : (lv P t)[j]? = some τ) (e : TypeId) : P.underlying τ ≠ some (.slice e) := by
  intro hu
  unfold slicyT at h
  rw [List.any_eq_false] at h
  have := h τ (List.mem_of_getElem? hj)
  rw [hu] at this
  simp at this
mutual
theorem TA.plain {r : R} : ∀ a : TA, TA.slicy P a = false → plainV (TA.inst r a) = true
  | .b _, _ => rfl
  | .i .., _ => rfl
  | .s _, _ => rfl
  | .sl .., h => by simp [TA.slicy] at h
  | .rp .., h => by simp [TA.slicy] at h
  | .row .., _ => rfl
  | .ptr .., _ => rfl
  | .nl, _ => rfl
  | .und, _ => rfl
  | .clo f cs, h => by simp only [TA.inst, plainV]; exact TA.plainL cs (by simpa [TA.slicy] using h)
  | .ag cs, h => by simp only [TA.inst, plainV]; exact TA.plainL cs (by simpa [TA.slicy] using h)
theorem TA.plainL {r : R} : ∀ l : List TA, TA.slicyL P l = false → plainVL (TA.instL r l) = true
  | [], _ => rfl
  | a :: l, h => by
    simp only [TA.slicyL, Bool.or_eq_false_iff] at h
    simp only [TA.instL, plainVL, TA.plain a h.1, TA.plainL l h.2, Bool.and_self]
end
mutual
theorem TA.rows_plain : ∀ (a : TA) {x : Nat × TypeId × Nat}, TA.slicy P a = false → x ∈ TA.rows a → slicyT P x.2.1 = false
  | .b _, _, _, h => by simp [TA.rows] at h
  | .i .., _, _, h => by simp [TA.rows] at h
  | .s _, _, _, h => by simp [TA.rows] at h
  | .sl .., _, _, h => by simp [TA.rows] at h
  | .rp .., _, _, h => by simp [TA.rows] at h
  | .row K e n, x, h, hx => by
    obtain rfl : x = (K, e, n) := by simpa [TA.rows] using hx
    simpa [TA.slicy] using h
  | .ptr .., _, _, h => by simp [TA.rows] at h
  | .nl, _, _, h => by simp [TA.rows] at h
  | .und, _, _, h => by simp [TA.rows] at h
  | .clo f cs, x, h, hx => TA.rows_plainL cs (by simpa [TA.slicy] using h) (by simpa [TA.rows] using hx)
  | .ag cs, x, h, hx => TA.rows_plainL cs (by simpa [TA.slicy] using h) (by simpa [TA.rows] using hx)
theorem TA.rows_plainL : ∀ (l : List TA) {x : Nat × TypeId × Nat}, TA.slicyL P l = false → x ∈ TA.rowsL l → slicyT P x.2.1 = false
  | [], _, _, h => by simp [TA.rowsL] at h
  | a :: l, x, h, hx => by
    simp only [TA.slicyL, Bool.or_eq_false_iff] at h
    simp only [TA.rowsL, List.mem_append] at hx
    rcases hx with hx | hx
    · exact TA.rows_plain a h.1 hx
    · exact TA.rows_plainL l h.2 hx
end
theorem Tpl.ents_keys (tp : Tpl) (r : R) : (tp.ents r).map (·.1) = tp.keys := by
  simp [Tpl.ents, Tpl.keys, List.map_append, List.map_map, Function.comp_def]
theorem Tpl.get_in {tp : Tpl} {r : R} (hn : tp.keys.Nodup) {K : Nat} {ob : Ob} (h : (K, ob) ∈ tp.ents r) : (tp.M r).get K = some ob := get_sets_in _ [] (by rw [Tpl.ents_keys]; exact hn) h
theorem Tpl.get_inv {tp : Tpl} {r : R} (hn : tp.keys.Nodup) {K : Nat} {ob : Ob} (h : (tp.M r).get K = some ob) : (K, ob) ∈ tp.ents r := by
  rcases get_sets_inv _ [] (by rw [Tpl.ents_keys]; exact hn) h with h | ⟨_, h⟩
  · exact h
  · cases h
theorem nodup_map_inj {α : Type} {f : α → Nat} : ∀ {l : List α}, (l.map f).Nodup → ∀ {a b : α}, a ∈ l → b ∈ l → f a = f b → a = b
  | [], _, _, _, h, _, _ => by cases h
  | x :: l, hn, a, b, ha, hb, he => by
    simp only [List.map_cons, List.nodup_cons] at hn
    rcases List.mem_cons.1 ha with h1 | h1 <;> rcases List.mem_cons.1 hb with h2 | h2
    · rw [h1, h2]
    · exact absurd (by rw [← h1, he]; exact List.mem_map_of_mem h2) hn.1
    · exact absurd (by rw [← h2, ← he]; exact List.mem_map_of_mem h1) hn.1
    · exact nodup_map_inj hn.2 h1 h2 he
theorem back (h : Sim P w0 w M β hd) (L : Lent P M os names) {tp : Tpl} {r : R} {us : List Value} {d : Nat} {gv : List Nat} {O' : Nat → Prop} (hgv : ∀ k ∈ names.map (·.1), k ∈ gv) (hO : ∀ b, O' b → Own M β hd b)
    (hmode : (∀ b, Own (M.sets (consumed gv)) β hd b → O' b) ∨ tp.slicy P = false) (hn : tp.keys.Nodup) (hnu : (tp.keys.map (upK names d)).Nodup) (hnew : ∀ K ∈ tp.keys, inv? names K = none → M.get (d + K) = none ∧ d + K ∉ gv)
    (hres : ResOk P (lentF P w β hd os names O') tp r w' us) :
    Done P w0 w M β hd (one (renL (upK names d) (TA.instL r tp.vs))) (consumed gv ++ (tp.ents r).map fun x => (upK names d x.1, renOb (upK names d) x.2)) (outV us) w' := by
  classical
  obtain ⟨hlen, β1, hd1, hβ1, hs1, hx1, hv1⟩ := hres
  generalize hup : upK names d = up at hnu ⊢
  have hupn : ∀ K, inv? names K = none → up K = d + K := fun K hK => by rw [← hup]; unfold upK; rw [hK]
  have hups : ∀ K k, inv? names K = some k → up K = k := fun K k hK => by rw [← hup]; unfold upK; rw [hK]
  have hukey : ((tp.ents r).map fun x => (up x.1, renOb up x.2)).map (·.1) = tp.keys.map up := by
    rw [← Tpl.ents_keys tp r, List.map_map, List.map_map]; rfl
  have hunod : (((tp.ents r).map fun x => (up x.1, renOb up x.2)).map (·.1)).Nodup := by rw [hukey]; exact hnu
  have hMs : M.sets (consumed gv ++ (tp.ents r).map fun x => (up x.1, renOb up x.2)) = (M.sets (consumed gv)).sets ((tp.ents r).map fun x => (up x.1, renOb up x.2)) := by
    have e : ∀ (us us' : List (Nat × Ob)) (M : Store), M.sets (us ++ us') = (M.sets us).sets us' := by
      intro us us'
      induction us with
      | nil => intro M; rfl
      | cons u us ih => intro M; exact ih _
    exact e _ _ _
  unfold Done
  rw [hMs]
  generalize hM' : (M.sets (consumed gv)).sets ((tp.ents r).map fun x => (up x.1, renOb up x.2)) = M'
  have gin : ∀ K ob, (K, ob) ∈ tp.ents r → M'.get (up K) = some (renOb up ob) := fun K ob hm => by
    rw [← hM']; exact get_sets_in _ _ hunod (List.mem_map.2 ⟨(K, ob), hm, rfl⟩)
  have ginv : ∀ q ob', M'.get q = some ob' → (∃ K ob, (K, ob) ∈ tp.ents r ∧ q = up K ∧ ob' = renOb up ob) ∨ (q ∉ tp.keys.map up ∧ q ∉ gv ∧ M.get q = some ob') ∨ (q ∉ tp.keys.map up ∧ q ∈ gv ∧ ob' = .dead) := by
    intro q ob' hq
    rw [← hM'] at hq
    rcases get_sets_inv _ _ hunod hq with hq | ⟨h1, hq⟩
    · obtain ⟨x, hx, he⟩ := List.mem_map.1 hq
      cases he
      exact .inl ⟨x.1, x.2, hx, rfl, rfl⟩
    · rw [hukey] at h1
      rw [get_kills] at hq
      split at hq
      · cases hq; exact .inr (.inr ⟨h1, ‹_›, rfl⟩)
      · exact .inr (.inl ⟨h1, ‹_›, hq⟩)
  have hkin : ∀ {K ob}, (K, ob) ∈ tp.ents r → K ∈ tp.keys := fun {K ob} hm => by rw [← Tpl.ents_keys tp r]; exact List.mem_map_of_mem (f := (·.1)) hm
  have upinj : ∀ {K K'}, K ∈ tp.keys → K' ∈ tp.keys → up K = up K' → K = K' := fun hK hK' he => nodup_map_inj hnu hK hK' he
  let dn : Nat → Option Nat := fun q => if h : ∃ K, K ∈ tp.keys ∧ up K = q then some (Classical.choose h) else none
  have dnin : ∀ {K}, K ∈ tp.keys → dn (up K) = some K := by
    intro K hK
    have hex : ∃ K', K' ∈ tp.keys ∧ up K' = up K := ⟨K, hK, rfl⟩
    have hc := Classical.choose_spec hex
    show (if h : ∃ K', K' ∈ tp.keys ∧ up K' = up K then some (Classical.choose h) else none) = some K
    rw [dif_pos hex, upinj hc.1 hK hc.2]
  have dnout : ∀ {q}, q ∉ tp.keys.map up → dn q = none := by
    intro q hq
    show (if h : ∃ K', K' ∈ tp.keys ∧ up K' = q then some (Classical.choose h) else none) = none
    rw [dif_neg]
    rintro ⟨K, hK, rfl⟩
    exact hq (List.mem_map_of_mem hK)
  let β' : Bn := ⟨fun q => match dn q with | some K => β1 K | none => β q, β.O⟩
  let hd' : Nat → Value := fun q => match dn q with | some K => hd1 K | none => hd q
  have hβin : ∀ {K}, K ∈ tp.keys → β' (up K) = β1 K := fun {K} hK => by show (match dn (up K) with | some K => β1 K | none => β (up K)) = _; rw [dnin hK]
  have hβout : ∀ {q}, q ∉ tp.keys.map up → β' q = β q := fun {q} hq => by show (match dn q with | some K => β1 K | none => β q) = _; rw [dnout hq]
  have hhin : ∀ {K}, K ∈ tp.keys → hd' (up K) = hd1 K := fun {K} hK => by show (match dn (up K) with | some K => hd1 K | none => hd (up K)) = _; rw [dnin hK]
  have hhout : ∀ {q}, q ∉ tp.keys.map up → hd' q = hd q := fun {q} hq => by show (match dn q with | some K => hd1 K | none => hd q) = _; rw [dnout hq]
  have means : ∀ K, (tp.M r).get K ≠ none → Means (tp.M r) β1 hd1 M' β' hd' K (up K) := by
    intro K hK
    obtain ⟨ob, hob⟩ := Option.ne_none_iff_exists'.1 hK
    have hm := Tpl.get_inv hn hob
    have hk := hkin hm
    have hg := gin K ob hm
    refine ⟨by rw [hg]; simp, fun t cs hq => ?_, fun e n g hq => ?_⟩
    · rw [hg] at hq
      cases ob with
      | box t' cs' => cases hq; exact ⟨⟨cs', hob⟩, hβin hk⟩
      | row e n g => cases hq
      | dead => cases hq
    · rw [hg] at hq
      cases ob with
      | box t' cs' => cases hq
      | row e' n' g' => cases hq; exact ⟨⟨_, hob⟩, hhin hk⟩
      | dead => cases hq
  have howns : ∀ q b, Owns M' β' hd' q b → (∃ K, K ∈ tp.keys ∧ q = up K ∧ Owns (tp.M r) β1 hd1 K b) ∨ (q ∉ tp.keys.map up ∧ q ∉ gv ∧ Owns M β hd q b) := by
    intro q b ho
    rcases ho with ⟨t, cs, h1, h2⟩ | ⟨e, n, g, h1, h2⟩
    · rcases ginv q _ h1 with ⟨K, ob, h3, rfl, h5⟩ | ⟨h3, h4, h5⟩ | ⟨_, _, h5⟩
      · have hk := hkin h3
        cases ob with
        | box t' cs' => exact .inl ⟨K, hk, rfl, .inl ⟨t', cs', Tpl.get_in hn h3, by rw [← hβin hk]; exact h2⟩⟩
        | row e n g => cases h5
        | dead => cases h5
      · exact .inr ⟨h3, h4, .inl ⟨t, cs, h5, by rw [← hβout h3]; exact h2⟩⟩
      · cases h5
    · rcases ginv q _ h1 with ⟨K, ob, h3, rfl, h5⟩ | ⟨h3, h4, h5⟩ | ⟨_, _, h5⟩
      · have hk := hkin h3
        cases ob with
        | box t' cs' => cases h5
        | row e' n' g' => exact .inl ⟨K, hk, rfl, .inr ⟨e', n', g', Tpl.get_in hn h3, by rw [← hhin hk]; exact h2⟩⟩
        | dead => cases h5
      · exact .inr ⟨h3, h4, .inr ⟨e, n, g, h5, by rw [← hhout h3]; exact h2⟩⟩
      · cases h5
  have hlent : ∀ b, (lentF P w β hd os names O').lent b → ∃ k, k ∈ gv ∧ Owns M β hd k b := by
    rintro b ⟨K, hK⟩
    obtain ⟨k, h1, h2⟩ := L.owns hK
    exact ⟨k, hgv k (List.mem_map_of_mem (f := (·.1)) h1), h2⟩
  have hold : ∀ b, b < w.heap.size → (∀ k, k ∈ gv → ¬ Owns M β hd k b) → w'.heap[b]? = w.heap[b]? := by
    intro b hb hno
    refine hs1.below.block b ?_
    rintro (h1 | h1)
    · exact absurd hb (Nat.not_lt.2 h1)
    · obtain ⟨k, h2, h3⟩ := hlent b h1
      exact hno k h2 h3
  have hsz : w.heap.size ≤ w'.heap.size := hs1.below.size
  have hkp : Keeps w (Own M β hd) w' (Own M' β' hd') := by
    refine ⟨hsz, fun b hb ho => ⟨hold b hb fun k _ hk => ho (.inl ⟨k, hk⟩), ?_⟩⟩
    rintro (⟨q, hq⟩ | hq)
    · rcases howns q b hq with ⟨K, _, _, h2⟩ | ⟨_, _, h2⟩
      · rcases (hs1.ge K b h2).1 with h3 | h3
        · exact absurd hb (Nat.not_lt.2 h3)
        · obtain ⟨k, _, h4⟩ := hlent b h3
          exact ho (.inl ⟨k, h4⟩)
      · exact ho (.inl ⟨q, h2⟩)
    · exact ho (.inr hq)
  have hS : tp.slicy P = false ∨ Keeps w' (Own (tp.M r) β1 hd1) w' (Own M' β' hd') := by
    rcases hmode with hm | hm
    · refine .inr ⟨Nat.le_refl _, fun b _ ho => ⟨rfl, ?_⟩⟩
      rintro (⟨q, hq⟩ | hq)
      · rcases howns q b hq with ⟨K, _, _, h2⟩ | ⟨_, h3, h2⟩
        · exact ho (.inl ⟨K, h2⟩)
        · refine ho (.inr ?_)
          rw [hβ1]
          refine hm b (.inl ⟨q, ?_⟩)
          unfold Owns
          rw [get_kills, if_neg h3]
          exact h2
      · refine ho (.inr ?_)
        rw [hβ1]
        exact hm b (.inr hq)
    · exact .inl hm
  have hgood : ∀ (a : TA) (v : Value), (tp.slicy P = false → TA.slicy P a = false) → RA P w' (tp.M r) β1 hd1 (TA.inst r a) v → RA P w' M' β' hd' (ren up (TA.inst r a)) v := by
    intro a v hp hr
    refine ren_RA hr (fun k _ h0 => means k h0) ?_
    rcases hS with hS | hS
    · exact .inl (TA.plain (P := P) a (hp hS))
    · exact .inr hS
  have he : Ext M β hd M' β' hd' := by
    have pre : ∀ {K}, K ∈ tp.keys → M.get (up K) ≠ none → ∃ k, inv? names K = some k ∧ up K = k ∧ (k, K) ∈ names := by
      intro K hK h0
      cases hi : inv? names K with
      | some k => exact ⟨k, rfl, hups K k hi, inv_mem hi⟩
      | none =>
        rw [hupn K hi] at h0
        exact absurd (hnew K hK hi).1 h0
    refine ⟨fun q hq => ?_, fun q t cs hq h0 => ?_, fun q e n g hq h0 => ?_, rfl⟩
    · rw [← hM']
      by_cases hm : q ∈ ((tp.ents r).map fun x => (up x.1, renOb up x.2)).map (·.1)
      · obtain ⟨x, hx, rfl⟩ := List.mem_map.1 hm
        rw [get_sets_in _ _ hunod (ob := x.2) hx]; simp
      · rw [get_sets_out _ _ hm, get_kills]
        split
        · simp
        · exact hq
    · rcases ginv q _ hq with ⟨K, ob, h3, rfl, h5⟩ | ⟨h3, h4, h5⟩ | ⟨_, _, h5⟩
      · have hk := hkin h3
        obtain ⟨k, hi, huk, hmem⟩ := pre hk h0
        cases ob with
        | row e n g => cases h5
        | dead => cases h5
        | box t' cs' =>
          have hg1 := Tpl.get_in hn h3
          rcases L.at hmem with ⟨t2, cs2, _, h6, h7, _⟩ | ⟨e2, n2, g2, _, h6, h7⟩
          · obtain ⟨⟨c3, h9⟩, h8⟩ := (hx1 K (by show (lentM P os names).get K ≠ none; rw [h7]; simp)).1 _ _ hg1
            have h9 : (lentM P os names).get K = some (.box t' c3) := h9
            rw [h7] at h9
            cases h9
            cases h5
            refine ⟨⟨cs2, by rw [huk]; exact h6⟩, ?_⟩
            rw [hβin hk, h8, huk]
            show (match inv? names K with | some k => β k | none => 0) = _
            rw [hi]
          · obtain ⟨⟨c3, h8⟩, _⟩ := (hx1 K (by show (lentM P os names).get K ≠ none; rw [h7]; simp)).1 _ _ hg1
            have h8 : (lentM P os names).get K = some (.box t' c3) := h8
            rw [h7] at h8; cases h8
      · exact ⟨⟨cs, h5⟩, hβout h3⟩
      · cases h5
    · rcases ginv q _ hq with ⟨K, ob, h3, rfl, h5⟩ | ⟨h3, h4, h5⟩ | ⟨_, _, h5⟩
      · have hk := hkin h3
        obtain ⟨k, hi, huk, hmem⟩ := pre hk h0
        cases ob with
        | box t' cs' => cases h5
        | dead => cases h5
        | row e' n' g' =>
          cases h5
          have hg1 := Tpl.get_in hn h3
          obtain ⟨⟨g3, h8⟩, h9⟩ := (hx1 K (by
            rcases L.at hmem with ⟨t2, cs2, _, h6, h7, _⟩ | ⟨e2, n2, g2, _, h6, h7⟩ <;> (show (lentM P os names).get K ≠ none; rw [h7]; simp))).2 _ _ _ hg1
          have h8 : (lentM P os names).get K = some (.row _ _ g3) := h8
          rcases L.at hmem with ⟨t2, cs2, _, h6, h7, _⟩ | ⟨e2, n2, g2, _, h6, h7⟩
          · rw [h7] at h8; cases h8
          · rw [h7] at h8
            cases h8
            refine ⟨⟨_, by rw [huk]; exact h6⟩, ?_⟩
            rw [hhin hk, h9, huk]
            show lentH names hd K = _
            unfold lentH
            rw [hi]
      · exact ⟨⟨g, h5⟩, hhout h3⟩
      · cases h5
  have hsim : Sim P w0 w' M' β' hd' := by
    refine h.evolve ?_ hkp he ?_ ?_ ?_ ?_
    · refine h.below.trans ⟨hs1.below.os, hs1.below.tape, hs1.below.output, hsz, fun b hb => ?_⟩
      refine hold b ?_ fun k _ hk => hb (h.ge k b hk).1
      have := h.below.size
      have h2 : ¬ w0.w.heap.size ≤ b := fun e => hb (.inl e)
      omega
    · intro q b ho
      rcases howns q b ho with ⟨K, _, _, h2⟩ | ⟨_, _, h2⟩
      · refine ⟨?_, (hs1.ge K b h2).2⟩
        rcases (hs1.ge K b h2).1 with h3 | h3
        · exact .inl (Nat.le_trans h.below.size h3)
        · obtain ⟨k, _, h4⟩ := hlent b h3
          exact (h.ge k b h4).1
      · have := h.ge q b h2
        exact ⟨this.1, by omega⟩
    · intro q q' b ho ho'
      have cross : ∀ K q, K ∈ tp.keys → Owns (tp.M r) β1 hd1 K b → q ∉ gv → Owns M β hd q b → False := by
        intro K q hK h1 h2 h3
        rcases (hs1.ge K b h1).1 with h4 | h4
        · exact absurd (h.ge q b h3).2 (Nat.not_lt.2 h4)
        · obtain ⟨k, h5, h6⟩ := hlent b h4
          exact h2 (h.inj q k b h3 h6 ▸ h5)
      rcases howns q b ho with ⟨K, hK, rfl, h2⟩ | ⟨_, h1, h2⟩ <;> rcases howns q' b ho' with ⟨K', hK', rfl, h2'⟩ | ⟨_, h1', h2'⟩
      · rw [hs1.inj K K' b h2 h2']
      · exact (cross K q' hK h2 h1' h2').elim
      · exact (cross K' q hK' h2' h1 h2).elim
      · exact h.inj q q' b h2 h2'
    · intro q t cs hq
      rcases ginv q _ hq with ⟨K, ob, h3, rfl, h5⟩ | ⟨h3, h4, h5⟩ | ⟨_, _, h5⟩
      · have hk := hkin h3
        cases ob with
        | row e n g => cases h5
        | dead => cases h5
        | box t' cs' =>
          cases h5
          have hbs : ∃ b ∈ tp.bs, b.K = K ∧ cs' = TA.instL r b.cs := by
            rcases List.mem_append.1 h3 with h9 | h9
            · obtain ⟨b, hb, he⟩ := List.mem_map.1 h9
              cases he
              exact ⟨b, hb, rfl, rfl⟩
            · obtain ⟨b, hb, he⟩ := List.mem_map.1 h9
              cases he
          obtain ⟨b, hb, hbK, hbcs⟩ := hbs
          have hplain : tp.slicy P = false → TA.slicyL P b.cs = false := by
            intro hS
            unfold Tpl.slicy at hS
            simp only [Bool.or_eq_false_iff] at hS
            have h10 := hS.1.2
            have key : ∀ (l : List TB), TA.slicyL P (l.flatMap TB.cs) = false → b ∈ l → TA.slicyL P b.cs = false := by
              have app : ∀ (l l' : List TA), TA.slicyL P (l ++ l') = (TA.slicyL P l || TA.slicyL P l') := by
                intro l l'
                induction l with
                | nil => rfl
                | cons a l ih => simp only [List.cons_append, TA.slicyL, ih, Bool.or_assoc]
              intro l
              induction l with
              | nil => intro _ h; cases h
              | cons x l ih =>
                intro h11 h12
                rw [List.flatMap_cons, app, Bool.or_eq_false_iff] at h11
                rcases List.mem_cons.1 h12 with rfl | h12
                · exact h11.1
                · exact ih h11.2 h12
            exact key tp.bs h10 hb
          rcases hs1.box K _ _ (Tpl.get_in hn h3) with ⟨hnm, c, h6, h7, h8⟩ | ⟨hnm, hmap⟩
          · refine .inr (.inl ⟨hnm, c, by rw [hβin hk]; exact h6, by rw [renL_map]; simpa using h7, fun j x hj => ?_⟩)
            rw [renL_map] at hj
            simp only [List.getElem?_map, Option.map_eq_some_iff] at hj
            obtain ⟨y, hy, rfl⟩ := hj
            have hr := h8 j y hy
            refine ren_RC hr (fun k _ h0 => means k h0) ?_
            rcases hS with hS | hS
            · rw [hbcs] at hy
              exact .inl (plainVL_get (TA.plainL (P := P) b.cs (hplain hS)) hy)
            · exact .inr hS
          · have hcs : renL up cs' = cs' := by
              obtain ⟨t0, kt, vt, x, es, _, _, _, _, hcs, _⟩ := hmap
              subst hcs
              rfl
            rw [hcs]
            rcases hS with hS | hS
            · exfalso
              have h9 := hplain hS
              obtain ⟨t0, kt, vt, x, es, _, _, _, _, hcs, _⟩ := hmap
              rw [hbcs] at hcs
              match hb2 : b.cs, hcs with
              | [.sl t1 e1 n1], hcs => rw [hb2] at h9; simp [TA.slicyL, TA.slicy] at h9
              | [], hcs => simp [TA.instL] at hcs
              | .b _ :: _, hcs => simp [TA.instL, TA.inst] at hcs
              | .i .. :: _, hcs => simp [TA.instL, TA.inst] at hcs
              | .s _ :: _, hcs => simp [TA.instL, TA.inst] at hcs
              | .row .. :: _, hcs => simp [TA.instL, TA.inst] at hcs
              | .ptr .. :: _, hcs => simp [TA.instL, TA.inst] at hcs
              | .rp .. :: _, hcs => simp [TA.instL, TA.inst] at hcs
              | .nl :: _, hcs => simp [TA.instL, TA.inst] at hcs
              | .und :: _, hcs => simp [TA.instL, TA.inst] at hcs
              | .clo .. :: _, hcs => simp [TA.instL, TA.inst] at hcs
              | .ag _ :: _, hcs => simp [TA.instL, TA.inst] at hcs
              | .sl .. :: _ :: _, hcs => simp [TA.instL, TA.inst] at hcs
            · exact .inr (.inr ⟨hnm, hmap.keep hS (by rw [hβin hk])⟩)
      · exact .inl ⟨h5, hβout h3, hold _ (h.ge q (β q) (.inl ⟨t, cs, h5, rfl⟩)).2 fun k hk ho => h4 (h.inj q k _ (.inl ⟨t, cs, h5, rfl⟩) ho ▸ hk)⟩
      · cases h5
    · intro q e n g hq
      rcases ginv q _ hq with ⟨K, ob, h3, rfl, h5⟩ | ⟨h3, h4, h5⟩ | ⟨_, _, h5⟩
      · have hk := hkin h3
        cases ob with
        | box t' cs' => cases h5
        | dead => cases h5
        | row e' n' g' =>
          cases h5
          obtain ⟨h6, xs, h7, h8⟩ := hs1.row K _ _ _ (Tpl.get_in hn h3)
          refine .inr ⟨h6, xs, by rw [hhin hk]; exact h7, fun i j τ hi hj => ?_⟩
          obtain ⟨v, h9, h10⟩ := h8 i j τ hi hj
          refine ⟨v, h9, ?_⟩
          rcases hS with hS | hS
          · have hsl : slicyT P e = false := by
              unfold Tpl.slicy at hS
              simp only [Bool.or_eq_false_iff] at hS
              rcases List.mem_append.1 h3 with h11 | h11
              · obtain ⟨b, _, he⟩ := List.mem_map.1 h11
                cases he
              · obtain ⟨x, hx, he⟩ := List.mem_map.1 h11
                cases he
                unfold Tpl.rows at hx
                rcases List.mem_append.1 hx with hx | hx
                · exact TA.rows_plainL _ hS.1.1 hx
                · rcases List.mem_append.1 hx with hx | hx
                  · exact TA.rows_plainL _ hS.1.2 hx
                  · have := hS.2
                    rw [List.any_eq_false] at this
                    simpa using this x hx
            exact h10.plain (slicyT_no hsl hj)
          · exact h10.keep hS
      · exact .inl ⟨h5, hhout h3, fun b hb => hold b (h.ge q b (.inr ⟨e, n, g, h5, hb⟩)).2 fun k hk ho => h4 (h.inj q k b (.inr ⟨e, n, g, h5, hb⟩) ho ▸ hk)⟩
      · cases h5
  have hra : ∀ j x, (renL up (TA.instL r tp.vs))[j]? = some x → RA P w' M' β' hd' x (us.getD j undef) := by
    intro j x hj
    rw [renL_map] at hj
    simp only [List.getElem?_map, Option.map_eq_some_iff] at hj
    obtain ⟨y, hy, rfl⟩ := hj
    have hr := hv1 j y hy
    have hy' := hy
    rw [instL_map] at hy'
    simp only [List.getElem?_map, Option.map_eq_some_iff] at hy'
    obtain ⟨a, ha, rfl⟩ := hy'
    refine hgood a _ (fun hs => ?_) hr
    unfold Tpl.slicy at hs
    simp only [Bool.or_eq_false_iff] at hs
    have h10 := hs.1.1
    clear hr hy hs hv1
    have key : ∀ (l : List TA) (j : Nat), TA.slicyL P l = false → l[j]? = some a → TA.slicy P a = false := by
      intro l
      induction l with
      | nil => intro j _ h; simp at h
      | cons x l ih =>
        intro j h11 h12
        simp only [TA.slicyL, Bool.or_eq_false_iff] at h11
        cases j with
        | zero =>
          obtain rfl : x = a := by simpa using h12
          exact h11.1
        | succ j => exact ih j h11.2 (by simpa using h12)
    exact key tp.vs j h10 ha
  refine ⟨β', hd', ?_, hsim, he, hkp⟩
  have hvl : (renL up (TA.instL r tp.vs)).length = us.length := by rw [renL_map, instL_map]; simp [hlen]
  generalize (renL up (TA.instL r tp.vs)) = vs at hra hvl
  match vs, us, hvl, hra with
  | [], us, hvl, hra =>
    have : us = [] := List.eq_nil_of_length_eq_zero hvl.symm
    subst this
    exact .tup (by simp) (by simp)
  | [x], us, hvl, hra =>
    match us, hvl.symm with
    | [u], _ => exact hra 0 x rfl
  | x :: y :: l, us, hvl, hra =>
    match us, hvl.symm, hra with
    | u :: u' :: l', hl, hra =>
      refine .tup (vs := (u :: u' :: l').toArray) (by simpa using hl.symm) fun j z hj => ?_
      have := hra j z hj
      simpa [Array.getD_eq_getD_getElem?, List.getD_eq_getElem?_getD] using this
end
section
variable {ρ : Type} {P : Program} {fr : Fr} {h : H} {w0 : Fr0} {w : World} {M : Store} {β : Bn} {hd : Nat → Value} {sl : List AV} {a : Act} {κ : Kk ρ} {r : ρ}
theorem run_call_value {o : Oper} {c : Call} {x : Operand} (ho : o.op = .call c) (hc : c.callee = .value x) {f : FuncId} {fn : Func} {caps : Array Value} (hx : a.eval x = .func (.func f) #[] caps) (hf : P.funcs[f]? = some fn) (hb : fn.body.isSome = true) (hn : (fn.name == "runtime.NumGoroutine") = false) :
    (execOp a.eval o).run P w = .ok (.enter f (c.args.map a.eval ++ caps)) w := by
  have hb' : ¬ fn.body = none := fun e => by rw [e] at hb; cases hb
  have hn' : ¬ fn.name = "runtime.NumGoroutine" := by simpa using hn
  simp [execOp, ho, resolve, hc, hx, Deferred.ofValue, invoke, callFunc, hf, hn', hb']
theorem isCall_inv {o : Oper} (h : isCall o = true) : ∃ c x, o.op = .call c ∧ c.callee = .value x := by
  unfold isCall at h
  split at h
  · rename_i heq
    exact ⟨_, _, heq, rfl⟩
  · cases h
theorem callee_inv {o : Oper} {vs : List AV} {f : FuncId} {fn : Func} {args caps : List AV} (h : callee P o vs = some (f, fn, args, caps)) : vs = .clo f caps :: args ∧ P.funcs[f]? = some fn ∧ fn.body.isSome = true ∧ (fn.name == "runtime.NumGoroutine") = false ∧ Nat.ble NPF f = false := by
  unfold callee at h
  split at h
  · rename_i f' caps' args' _
    split at h
    · rename_i fn' hfn
      obtain ⟨hb, h1⟩ := bif_inv (c := (fn'.body.isSome && !(fn'.name == "runtime.NumGoroutine")) && !(Nat.ble NPF f')) (x := some (f', fn', args', caps')) (r := (f, fn, args, caps)) (by cases hc : ((fn'.body.isSome && !(fn'.name == "runtime.NumGoroutine")) && !(Nat.ble NPF f')) <;> simp_all)
      cases h1
      rw [Bool.and_eq_true, Bool.and_eq_true] at hb
      exact ⟨rfl, hfn, hb.1.1, by simpa using hb.1.2, by simpa using hb.2⟩
    · cases h
  · cases h
theorem present_of {os : List (Nat × Option Ob)} {k : Nat} {ob : Ob} (h : lk os k = some ob) : k ∈ present os := by
  induction os with
  | nil => simp [lk] at h
  | cons x r ih =>
    obtain ⟨q, o⟩ := x
    unfold lk at h
    rw [List.find?_cons] at h
    cases hq : q == k with
    | true =>
      simp only [hq] at h
      obtain rfl := eq_of_beq hq
      have h : o = some ob := h
      subst h
      simp [present]
    | false =>
      simp only [hq] at h
      have := ih h
      cases o with
      | none => exact this
      | some _ => exact List.mem_cons_of_mem _ this
theorem nlRows_high {K : Nat} : ∀ (ts : List TypeId) (vs : List AV) (c : Nat) {x : Nat × Ob}, x ∈ nlRows P K c ts vs → K ≤ x.1
  | [], _, c, x, h => by simp [nlRows] at h
  | _ :: _, [], c, x, h => by simp [nlRows] at h
  | t :: ts, v :: vs, c, x, h => by
    simp only [nlRows] at h
    split at h
    · rcases List.mem_cons.1 h with h | h
      · rw [h]; simp only; omega
      · exact nlRows_high ts vs _ h
    · exact nlRows_high ts vs _ h
theorem entsIn_high {os : List (Nat × Option Ob)} {names : List (Nat × Nat)} (L : Lent P M os names) {q : Nat} (hq : (lentM P os names).get q ≠ none) : HB ≤ q := by
  obtain ⟨ob, hob⟩ := Option.ne_none_iff_exists'.1 hq
  rcases get_sets_inv _ [] L.n2 hob with h | ⟨_, h⟩
  · rcases List.mem_append.1 h with h | h
    · obtain ⟨x, hx, he⟩ := List.mem_map.1 h
      cases he
      exact L.high x hx
    · obtain ⟨x, hx, he⟩ := List.mem_flatMap.1 h
      unfold nlOf at he
      split at he
      · exact Nat.le_trans (L.high x hx) (nlRows_high _ _ _ he)
      · cases he
  · cases h
theorem free_looks {ks : List Nat} {k : Nat} (hk : k ∈ ks) (h : free (looks M ks) k = true) : M.get k = none := by
  unfold free at h
  split at h
  · rename_i hl
    cases hm : M.get k with
    | none => rfl
    | some ob =>
      exfalso
      have : ∀ ks : List Nat, k ∈ ks → lk (looks M ks) k = some ob := by
        intro ks
        induction ks with
        | nil => intro h; cases h
        | cons q ks ih =>
          intro hk
          unfold lk looks
          rw [List.map_cons, List.find?_cons]
          cases hq : q == k with
          | true => simp only [hq]; rw [eq_of_beq hq]; exact hm
          | false =>
            simp only [hq]
            rcases List.mem_cons.1 hk with rfl | hk
            · simp at hq
            · exact ih hk
      rw [this ks hk] at hl
      cases hl
  · cases h
theorem evalAny_ok (hs : HSound P fr h) (C : Ctx P w0 w M β hd sl a) {o : Oper} (hr : evalAny P fr h o (opVals sl o.op) (looks M (keysAny fr M o (opVals sl o.op))) κ = some r) (next : Act → World → Prop) (Q : Exit → Act → World → Prop)
    (hn : ∀ v us x w', κ v us = some r → Done P w0 w M β hd v us x w' → next (a.put o.dst x) w') : o.wp P a w next Q := by
  unfold evalAny at hr
  cases hic : isCall o with
  | false =>
    rw [hic] at hr
    have hkk : keysAny fr M o (opVals sl o.op) = keysOf o (opVals sl o.op) := by unfold keysAny; rw [hic]; rfl
    rw [hkk] at hr
    obtain ⟨v, us, hk, hop⟩ := evalOp_ok C hr
    unfold Oper.wp
    rcases hop with ⟨x, w', hrun, hd'⟩ | ⟨w', hrun, hd'⟩
    · rw [hrun, Oper.upon_value]; exact hn v us x w' hk hd'
    · rw [hrun, Oper.upon_skip]; exact hn v us undef w' hk hd'
  | true =>
    rw [hic] at hr
    simp only [cond_true] at hr
    obtain ⟨c, x, ho, hc⟩ := isCall_inv hic
    split at hr
    · rename_i f fn args caps hcal
      obtain ⟨hvs, hfn, hbody, hname, hnp⟩ := callee_inv hcal
      have hops : opVals sl o.op = evO sl x :: c.args.toList.map (evO sl) := by simp [opVals, ho, Op.operands, Call.operands, hc]
      rw [hops] at hvs
      injection hvs with hv1 hv2
      have hkeys : ∀ K ∈ (fr.tpl f).keys, K < HB → dk o + K ∈ keysAny fr M o (opVals sl o.op) := by
        intro K hK hlt
        unfold keysAny
        rw [hic]
        simp only [cond_true, List.mem_append]
        left
        rw [hops, hv1]
        simp only [newKeys, List.mem_filterMap]
        refine ⟨K, hK, ?_⟩
        have : Nat.blt K HB = true := by rw [Nat.blt_eq]; exact hlt
        rw [this]; rfl
      generalize hosd : looks M (keysAny fr M o (opVals sl o.op)) = os at hr
      have hos : ∀ k ob, lk os k = some ob → M.get k = some ob := by rw [← hosd]; exact fun k ob => lk_looks
      generalize namesOf os (topsOf os 64 [] (refsL (lentOf (fr.lend f) 0 (args ++ caps)))) = names at hr
      unfold evCall at hr
      obtain ⟨hguard, hr1⟩ := bif_inv hr
      clear hr
      simp only [Bool.and_eq_true] at hguard
      obtain ⟨⟨⟨⟨⟨hg1, hg2⟩, hg3⟩, hg4⟩, hg5⟩, hg6⟩ := hguard
      have L : Lent P M os names := ⟨hos, hg1, fun y hy => Nat.le_of_ble_eq_true (List.all_eq_true.1 hg2 y hy), nodup_iff.1 hg3, nodup_iff.1 hg4⟩
      unfold backOk at hg6
      simp only [Bool.and_eq_true] at hg6
      obtain ⟨⟨hb1, hb2⟩, hb3⟩ := hg6
      have hrefs : ∀ q ∈ refsL (lentOf (fr.lend f) 0 (args ++ caps)), q ∈ names.map (·.1) := fun q hq => List.contains_iff_mem.1 (List.all_eq_true.1 hg5 q hq)
      split at hr1
      · rename_i xs ys hxs hys
        split at hr1
        · rename_i res hres
          have hxrel := rel1 C x
          rw [hv1] at hxrel
          obtain ⟨cs, hcv, hcl, hcr⟩ := hxrel.clo_inv hnp
          unfold Oper.wp
          rw [run_call_value ho hc hcv hfn hbody hname, Oper.upon_enter]
          have hargl : args.length = (c.args.map a.eval).size := by rw [← hv2]; simp
          have hargr : ∀ j x, args[j]? = some x → RA P w M β hd x ((c.args.map a.eval).getD j undef) := by
            intro j y hj
            rw [← hv2] at hj
            simp only [List.getElem?_map, Option.map_eq_some_iff, Array.getElem?_toList] at hj
            obtain ⟨p, hp, rfl⟩ := hj
            have : (c.args.map a.eval).getD j undef = a.eval p := by simp [Array.getD_eq_getD_getElem?, hp]
            rw [this]
            exact rel1 C p
          generalize hgvd : given P (fr.tpl f) names os = gv at hr1 hb3
          have hnew : ∀ K ∈ (fr.tpl f).keys, inv? names K = none → M.get (dk o + K) = none ∧ dk o + K ∉ gv := by
            intro K hK hi
            have h1 := List.all_eq_true.1 hb3 K hK
            have h2 : isNew names K = true := by unfold isNew; rw [hi]
            rw [h2] at h1
            simp only [Bool.not_true, Bool.false_or, Bool.and_eq_true, Bool.not_eq_true'] at h1
            refine ⟨?_, fun hm => ?_⟩
            · have h3 := h1.1.1
              rw [← hosd] at h3
              exact free_looks (hkeys K hK (by have := h1.2; rwa [Nat.blt_eq] at this)) h3
            · have := h1.1.2
              rw [List.contains_iff_mem.2 hm] at this
              cases this
          have finish : ∀ (O' : Nat → Prop), (∀ b, O' b → Own M β hd b) → (∀ k ob b, lk os k = some ob → Owns M β hd k b → ¬ O' b) → (∀ k ∈ names.map (·.1), k ∈ gv) → ((∀ b, Own (M.sets (consumed gv)) β hd b → O' b) ∨ (fr.tpl f).slicy P = false) →
              Calls P f (c.args.map a.eval ++ cs) w (fun e w'' => match e, w'' with
                | .returned v, w'' => next (a.put o.dst v) w''
                | .panicked chain, w'' => Q (.panic chain) a w''
                | .outgrown, _ => LetsOut Q) := by
            intro O' hO hN hgv hmode
            have hN2 : ∀ k b, k ∈ names.map (·.1) → Owns M β hd k b → ¬ O' b := by
              intro k b hk ho
              obtain ⟨⟨k', K⟩, hk1, rfl⟩ := List.mem_map.1 hk
              rcases L.at hk1 with ⟨t', cs', hl, _⟩ | ⟨e, n, g, hl, _⟩ <;> exact hN _ _ b hl ho
            obtain ⟨hkp, hsim⟩ := L.sim C.sim hO hN2
            obtain ⟨ha1, ha2⟩ := inArgs_rel L C.sim hO hN _ _ _ 0 hxs (fun q hq => hrefs q ((refsL_lentOf args caps 0).1 hq))
            obtain ⟨hc1, hc2⟩ := inCaps_rel L C.sim hO hN _ _ _ hys (fun q hq => hrefs q ((refsL_lentOf args caps 0).2 (by rw [Nat.zero_add]; exact hq)))
            have hargs : ArgsOk P (lentF P w β hd os names O') (xs ++ ys) (c.args.map a.eval ++ cs) := by
              refine ⟨hsim, fun q hq => ?_, by rw [List.length_append, Array.size_append, ← hargl, ← hcl, ha1, hc1], fun j y hj => ?_⟩
              · exact entsIn_high L hq
              · rw [List.getElem?_append] at hj
                by_cases hjl : j < xs.length
                · rw [if_pos hjl] at hj
                  obtain ⟨v, hv, hrel⟩ := ha2 j y hj
                  have e1 : (c.args.map a.eval ++ cs).getD j undef = (c.args.map a.eval).getD j undef := by
                    have : j < (c.args.map a.eval).size := by omega
                    rw [Array.getD_eq_getD_getElem?, Array.getD_eq_getD_getElem?, Array.getElem?_append, if_pos this]
                  rw [e1]
                  exact hrel _ (hargr j v hv)
                · rw [if_neg hjl] at hj
                  obtain ⟨v, hv, hrel⟩ := hc2 _ y hj
                  have e1 : (c.args.map a.eval ++ cs).getD j undef = cs.getD (j - xs.length) undef := by
                    have h5 : ¬ j < (c.args.map a.eval).size := by omega
                    have h6 : (c.args.map a.eval).size = xs.length := by omega
                    rw [Array.getD_eq_getD_getElem?, Array.getD_eq_getD_getElem?, Array.getElem?_append, if_neg h5, h6]
                  rw [e1]
                  exact .c (hrel _ (hcr _ v hv))
            refine (hs f (xs ++ ys) _ res hres (lentF P w β hd os names O') _ rfl hargs fn hfn).mono ?_
            rintro e w' ⟨us, rfl, hok⟩
            exact hn _ _ _ _ hr1 (back C.sim L hgv hO hmode (nodup_iff.1 hb1) (nodup_iff.1 hb2) hnew hok)
          have hsl : (names = [] ∧ (fr.tpl f).slicy P = false ∧ gv = []) ∨ gv = present os := by
            rw [← hgvd]
            unfold given
            cases hne : names.isEmpty with
            | false => exact .inr rfl
            | true =>
              cases hsy : (fr.tpl f).slicy P with
              | true => exact .inr rfl
              | false => exact .inl ⟨List.isEmpty_iff.1 hne, rfl, rfl⟩
          rcases hsl with ⟨h1, h2, h3⟩ | h3
          · refine finish (fun _ => False) (fun b hb => hb.elim) (fun k ob b _ _ hb => hb) ?_ (.inr h2)
            rw [h1]
            intro k hk
            cases hk
          · refine finish (Own (M.sets (consumed gv)) β hd) (fun b hb => own_kills hb) (fun k ob b hk ho => C.sim.given_up (by rw [h3]; exact present_of hk) ho) ?_ (.inl fun b hb => hb)
            intro k hk
            rw [h3]
            obtain ⟨⟨k', K⟩, hk1, rfl⟩ := List.mem_map.1 hk
            rcases L.at hk1 with ⟨t', cs', hl, _⟩ | ⟨e, n, g, hl, _⟩ <;> exact present_of hl
        · cases hr1
      · cases hr1
    · cases hr
end
end Go.AM
