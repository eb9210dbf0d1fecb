/- The engine, part 10b: what a call promises; the call. -/
import Derived.Test.YtnlkhjileipmcaaGreatEng10
set_option linter.unusedSimpArgs false
set_option linter.unusedVariables false
namespace Go.AM
open Go.RowKit (Below)

def outV : List Value → Value
  | [v] => v
  | vs => .tuple vs.toArray
/-- What was lent goes on being what it was. -/
def Ext0 (F : Fr0) (M : Store) (β : Bn) (hd : Nat → Value) : Prop :=
  ∀ q, F.M.get q ≠ none → (∀ t cs, M.get q = some (.box t cs) → (∃ t cs, F.M.get q = some (.box t cs)) ∧ β q = F.β q) ∧ (∀ e n g, M.get q = some (.row e n g) → (∃ g0, F.M.get q = some (.row e n g0)) ∧ hd q = F.hd q)
structure ArgsOk (P : Program) (F : Fr0) (args : List AV) (vals : Array Value) : Prop where
  sim : Sim P F F.w F.M F.β F.hd
  high : ∀ q, F.M.get q ≠ none → HB ≤ q
  len : args.length = vals.size
  val : ∀ j x, args[j]? = some x → RA P F.w F.M F.β F.hd x (vals.getD j undef)
structure ResOk (P : Program) (F : Fr0) (tp : Tpl) (r : R) (w' : World) (us : List Value) : Prop where
  len : us.length = tp.vs.length
  ex : ∃ β hd, β.O = F.β.O ∧ Sim P F w' (tp.M r) β hd ∧ Ext0 F (tp.M r) β hd ∧ ∀ j x, (TA.instL r tp.vs)[j]? = some x → RA P w' (tp.M r) β hd x (us.getD j undef)
/-- What is promised of one function. -/
def FSound (P : Program) (fr : Fr) (f : FuncId) (args : List AV) (M : Store) (r : R) : Prop :=
  ∀ (F : Fr0) (vals : Array Value), F.M = M → ArgsOk P F args vals → ∀ fn, P.funcs[f]? = some fn →
    Calls P f vals F.w fun e w' => ∃ us, e = .returned (outV us) ∧ ResOk P F (fr.tpl f) r w' us
/-- What a handler of calls promises. -/
def HSound (P : Program) (fr : Fr) (h : H) : Prop := ∀ f args M r, h f args M = some r → FSound P fr f args M r

/-! ### The arguments -/
section
variable {P : Program} {w0 : Fr0} {w : World} {M : Store} {β : Bn} {hd : Nat → Value} {os : List (Nat × Option Ob)} {names : List (Nat × Nat)}
theorem lk_out {k : Nat} {ob : Ob} (h : lk (outOf names os) k = some ob) : lk os k = some ob ∧ k ∉ names.map (·.1) := by
  unfold outOf at h
  induction os with
  | nil => simp [lk] at h
  | cons x r ih =>
    obtain ⟨q, o⟩ := x
    simp only [List.filter_cons] at h
    cases hc : (names.map (·.1)).contains q with
    | true =>
      simp only [hc, Bool.not_true, Bool.false_eq_true, if_false] at h
      obtain ⟨h1, h2⟩ := ih h
      refine ⟨?_, h2⟩
      have hqk : (q == k) = false := by
        cases hq : q == k with
        | false => rfl
        | true => rw [eq_of_beq hq] at hc; exact absurd (List.contains_iff_mem.1 hc) h2
      unfold lk at h1 ⊢
      rw [List.find?_cons]
      simp only [hqk]
      exact h1
    | false =>
      simp only [hc, Bool.not_false, if_true] at h
      unfold lk at h ⊢
      rw [List.find?_cons] at h ⊢
      cases hq : q == k with
      | true =>
        simp only [hq] at h ⊢
        refine ⟨h, fun hm => ?_⟩
        rw [eq_of_beq hq] at hc
        rw [List.contains_iff_mem.2 hm] at hc
        cases hc
      | false =>
        simp only [hq] at h ⊢
        exact ih h
theorem lift_RA {O'' : Nat → Prop} {M' : Store} {β' : Bn} {hd' : Nat → Value} (hO : ∀ b, Own M' β' hd' b → O'' b) {x : AV} {v : Value} (r : RA P w [] (b0 O'') hd0 x v) : RA P w M' β' hd' x v := by
  have := ren_RA (M' := M') (β' := β') (hd' := hd') (w' := w) (f := fun k => k) r (fun k _ h0 => absurd rfl h0) (.inr ⟨Nat.le_refl _, fun b _ ho => ⟨rfl, fun h => ho (.inr (hO b h))⟩⟩)
  rwa [ren_id] at this
theorem inArgs_rel (L : Lent P M os names) (h : Sim P w0 w M β hd) {O' : Nat → Prop} (hO : ∀ b, O' b → Own M β hd b) (hN : ∀ k ob b, lk os k = some ob → Owns M β hd k b → ¬ O' b) {ld : Nat → Bool} :
    ∀ (ts : List TypeId) (vs xs : List AV) (j0 : Nat), inArgs P (outOf names os) (find names) ld j0 ts vs = some xs → (∀ q ∈ refsL (lentOf ld j0 vs), q ∈ names.map (·.1)) → xs.length = vs.length ∧
      ∀ (j : Nat) (x : AV), xs[j]? = some x → ∃ v, vs[j]? = some v ∧ ∀ u, RA P w M β hd v u → RA P w (lentM P os names) (lentB names β O') (lentH names hd) x u
  | [], [], xs, j0, ha, _ => by cases ha; exact ⟨rfl, fun j x hj => by simp at hj⟩
  | [], _ :: _, _, _, ha, _ => by simp [inArgs] at ha
  | _ :: _, [], _, _, ha, _ => by simp [inArgs] at ha
  | t :: ts, v :: vs, xs, j0, ha, hr => by
    simp only [inArgs] at ha
    split at ha
    · rename_i x ys hx hys
      cases ha
      have hkp := (L.sim h hO (fun k b hk ho => by
        obtain ⟨⟨k', K⟩, hk1, rfl⟩ := List.mem_map.1 hk
        rcases L.at hk1 with ⟨t', cs', hl, _⟩ | ⟨e, n, g, hl, _⟩ <;> exact hN _ _ b hl ho)).1
      have hr' : ∀ q ∈ refsL (lentOf ld (j0 + 1) vs), q ∈ names.map (·.1) := by
        intro q hq
        refine hr q ?_
        simp only [lentOf]
        cases ld j0 with
        | true => simp only [cond_true, refsL, List.mem_append]; exact .inr hq
        | false => exact hq
      obtain ⟨ih1, ih2⟩ := inArgs_rel L h hO hN ts vs ys (j0 + 1) hys hr'
      refine ⟨by simp [ih1], fun j y hj => ?_⟩
      cases j with
      | succ j => exact ih2 j y hj
      | zero =>
        obtain rfl : x = y := by simpa using hj
        refine ⟨v, rfl, fun u hu => ?_⟩
        cases hld : ld j0 with
        | true =>
          rw [hld] at hx
          cases hx
          refine ren_RA hu (fun q hq _ => L.means (hr q ?_)) (.inr hkp)
          simp only [lentOf, hld, cond_true, refsL, List.mem_append]
          exact .inl hq
        | false =>
          rw [hld] at hx
          have hx : argOf P (outOf names os) t v = some x := hx
          refine lift_RA (O'' := fun b => O' b ∨ ∃ K, Owns (lentM P os names) (lentB names β O') (lentH names hd) K b) (fun b hb => hb.elim .inr .inl) (argOf_rel h (fun k ob hk => L.hos _ _ (lk_out hk).1) (fun b hb => ?_) (fun k ob b hk ho => ?_) hx hu)
          · rcases hb with hb | ⟨K, hb⟩
            · exact hO b hb
            · obtain ⟨k, _, hk⟩ := L.owns hb
              exact .inl ⟨k, hk⟩
          · obtain ⟨h1, h2⟩ := lk_out hk
            rintro (hb | ⟨K, hb⟩)
            · exact hN k ob b h1 ho hb
            · obtain ⟨k2, h3, h4⟩ := L.owns hb
              obtain rfl := h.inj k k2 b ho h4
              exact h2 (List.mem_map_of_mem (f := (·.1)) h3)
    · cases ha
theorem inCaps_rel (L : Lent P M os names) (h : Sim P w0 w M β hd) {O' : Nat → Prop} (hO : ∀ b, O' b → Own M β hd b) (hN : ∀ k ob b, lk os k = some ob → Owns M β hd k b → ¬ O' b) {ld : Nat → Bool} :
    ∀ (vs xs : List AV) (j0 : Nat), inCaps P (outOf names os) (find names) ld j0 vs = some xs → (∀ q ∈ refsL (lentOf ld j0 vs), q ∈ names.map (·.1)) → xs.length = vs.length ∧
      ∀ (j : Nat) (x : AV), xs[j]? = some x → ∃ v, vs[j]? = some v ∧ ∀ u, RC P w M β hd v u → RC P w (lentM P os names) (lentB names β O') (lentH names hd) x u
  | [], xs, j0, ha, _ => by cases ha; exact ⟨rfl, fun j x hj => by simp at hj⟩
  | v :: vs, xs, j0, ha, hr => by
    simp only [inCaps] at ha
    split at ha
    · rename_i x ys hx hys
      cases ha
      have hkp := (L.sim h hO (fun k b hk ho => by
        obtain ⟨⟨k', K⟩, hk1, rfl⟩ := List.mem_map.1 hk
        rcases L.at hk1 with ⟨t', cs', hl, _⟩ | ⟨e, n, g, hl, _⟩ <;> exact hN _ _ b hl ho)).1
      have hr' : ∀ q ∈ refsL (lentOf ld (j0 + 1) vs), q ∈ names.map (·.1) := by
        intro q hq
        refine hr q ?_
        simp only [lentOf]
        cases ld j0 with
        | true => simp only [cond_true, refsL, List.mem_append]; exact .inr hq
        | false => exact hq
      obtain ⟨ih1, ih2⟩ := inCaps_rel L h hO hN vs ys (j0 + 1) hys hr'
      refine ⟨by simp [ih1], fun j y hj => ?_⟩
      cases j with
      | succ j => exact ih2 j y hj
      | zero =>
        obtain rfl : x = y := by simpa using hj
        refine ⟨v, rfl, fun u hu => ?_⟩
        cases hld : ld j0 with
        | true =>
          rw [hld] at hx
          cases hx
          refine ren_RC hu (fun q hq _ => L.means (hr q ?_)) (.inr hkp)
          simp only [lentOf, hld, cond_true, refsL, List.mem_append]
          exact .inl hq
        | false =>
          rw [hld] at hx
          have hx : argPtr P (outOf names os) v = some x := hx
          have hc := argPtr_cell hx
          have hxc : isCell x = true := by
            unfold argPtr at hx
            split at hx
            · split at hx
              · split at hx
                · cases hx; rfl
                · cases hx
              · cases hx
            · cases hx; rfl
            · cases hx
          refine (lift_RA (O'' := fun b => O' b ∨ ∃ K, Owns (lentM P os names) (lentB names β O') (lentH names hd) K b) (fun b hb => hb.elim .inr .inl) (.c (argPtr_rel h (fun k ob hk => L.hos _ _ (lk_out hk).1) (fun b hb => ?_) (fun k ob b hk ho => ?_) hx hu))).cell hxc
          · rcases hb with hb | ⟨K, hb⟩
            · exact hO b hb
            · obtain ⟨k, _, hk⟩ := L.owns hb
              exact .inl ⟨k, hk⟩
          · obtain ⟨h1, h2⟩ := lk_out hk
            rintro (hb | ⟨K, hb⟩)
            · exact hN k ob b h1 ho hb
            · obtain ⟨k2, h3, h4⟩ := L.owns hb
              obtain rfl := h.inj k k2 b ho h4
              exact h2 (List.mem_map_of_mem (f := (·.1)) h3)
    · cases ha
theorem refsL_lentOf {ld : Nat → Bool} : ∀ (vs us : List AV) (j0 : Nat) {q : Nat}, (q ∈ refsL (lentOf ld j0 vs) → q ∈ refsL (lentOf ld j0 (vs ++ us))) ∧ (q ∈ refsL (lentOf ld (j0 + vs.length) us) → q ∈ refsL (lentOf ld j0 (vs ++ us)))
  | [], us, j0, q => ⟨fun h => by simp [lentOf, refsL] at h, fun h => by simpa using h⟩
  | v :: vs, us, j0, q => by
    obtain ⟨h1, h2⟩ := refsL_lentOf (ld := ld) vs us (j0 + 1) (q := q)
    simp only [List.cons_append, lentOf, List.length_cons]
    rw [show j0 + (vs.length + 1) = j0 + 1 + vs.length by omega]
    cases ld j0 with
    | true =>
      simp only [cond_true, refsL, List.mem_append]
      exact ⟨fun h => h.imp id h1, fun h => .inr (h2 h)⟩
    | false => exact ⟨h1, h2⟩
end
end Go.AM
