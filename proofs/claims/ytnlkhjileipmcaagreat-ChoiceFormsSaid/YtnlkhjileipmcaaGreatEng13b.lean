/- The engine, part 13b: a function's end; functions; all calls. -/
import Derived.Test.YtnlkhjileipmcaaGreatEng13
set_option linter.unusedSimpArgs false
set_option linter.unusedVariables false
namespace Go.AM
open Go.RowKit (Below)

section
variable {P : Program} {w0 : Fr0} {w : World} {s : St} {a : Act}
mutual
theorem take_fz {M : Store} {kk : List (Nat × Nat)} : ∀ (a : TA) (v : AV) (tk : Tk), TA.take P M kk a v = some tk → ∀ k ∈ tk.fz, ∃ e n g, M.get k = some (.row e n g)
  | .sl t e n, v, tk, h, k, hk => by
    have h' : (bif conf P (allOf M) t v && elemT P t == some e then (match frz (allOf M) v with
        | some x => some (⟨[(n, x)], [], rowKeys [v]⟩ : Tk)
        | none => none) else none) = some tk := by
      cases v <;> exact h
    obtain ⟨_, h1⟩ := bif_inv h'
    split at h1
    · rename_i x hx
      cases h1
      cases v with
      | row q off len =>
        obtain rfl : k = q := by simpa [rowKeys] using hk
        simp only [frz] at hx
        split at hx
        · rename_i q' e n g hq
          exact ⟨e, n, g, allOf_lk (by simp only [lk, hq])⟩
        · cases hx
      | _ => simp [rowKeys] at hk
    · cases h1
  | .rp t off ns, v, tk, h, k, hk => by
    cases v with
    | rp e c off' =>
      simp only [TA.take] at h
      obtain ⟨_, h0⟩ := bif_inv h
      cases h0
      simp at hk
    | _ => simp [TA.take] at h
  | .row K e n, v, tk, h, k, hk => by
    cases v with
    | row q off len =>
      cases off with
      | succ off => simp [TA.take] at h
      | zero =>
        simp only [TA.take] at h
        split at h
        · obtain ⟨_, h1⟩ := bif_inv h
          cases h1
          simp at hk
        · cases h
    | nl =>
      simp only [TA.take] at h
      obtain ⟨_, h1⟩ := bif_inv h
      cases h1
      simp at hk
    | _ => simp [TA.take] at h
  | .clo f as, v, tk, h, k, hk => by
    cases v with
    | clo f' cs =>
      simp only [TA.take] at h
      obtain ⟨_, h1⟩ := bif_inv h
      exact takeL_fz as cs tk h1 k hk
    | _ => simp [TA.take] at h
  | .ag as, v, tk, h, k, hk => by
    cases v with
    | ag cs => exact takeL_fz as cs tk (by simpa [TA.take] using h) k hk
    | _ => simp [TA.take] at h
  | .b n, v, tk, h, k, hk => by
    cases v with
    | b x => simp only [TA.take, Option.some.injEq] at h; subst h; simp at hk
    | _ => simp [TA.take] at h
  | .i k' n, v, tk, h, k, hk => by
    cases v with
    | i k2 x =>
      simp only [TA.take] at h
      obtain ⟨_, h1⟩ := bif_inv h
      cases h1
      simp at hk
    | _ => simp [TA.take] at h
  | .s n, v, tk, h, k, hk => by
    cases v with
    | s x => simp only [TA.take, Option.some.injEq] at h; subst h; simp at hk
    | _ => simp [TA.take] at h
  | .ptr K off, v, tk, h, k, hk => by
    cases v with
    | ptr q off' =>
      simp only [TA.take] at h
      obtain ⟨_, h1⟩ := bif_inv h
      cases h1
      simp [Tk.no] at hk
    | _ => simp [TA.take] at h
  | .nl, v, tk, h, k, hk => by
    cases v with
    | nl => simp only [TA.take, Option.some.injEq] at h; subst h; simp [Tk.no] at hk
    | _ => simp [TA.take] at h
  | .und, v, tk, h, k, hk => by
    have h' : (bif isCell v then some Tk.no else none) = some tk := by cases v <;> exact h
    obtain ⟨_, h1⟩ := bif_inv h'
    cases h1
    simp [Tk.no] at hk
theorem takeL_fz {M : Store} {kk : List (Nat × Nat)} : ∀ (as : List TA) (cs : List AV) (tk : Tk), TA.takeL P M kk as cs = some tk → ∀ k ∈ tk.fz, ∃ e n g, M.get k = some (.row e n g)
  | [], [], tk, h, k, hk => by simp only [TA.takeL, Option.some.injEq] at h; subst h; simp [Tk.no] at hk
  | [], _ :: _, _, h, _, _ => by simp [TA.takeL] at h
  | _ :: _, [], _, h, _, _ => by simp [TA.takeL] at h
  | a :: as, c :: cs, tk, h, k, hk => by
    obtain ⟨t1, t2, h1, h2, rfl⟩ := takeL_cons h
    rcases List.mem_append.1 hk with hk | hk
    · exact take_fz a c t1 h1 k hk
    · exact takeL_fz as cs t2 h2 k hk
end
theorem takeBs_fz {M : Store} {kk : List (Nat × Nat)} : ∀ {bs : List TB} {tk : Tk}, takeBs P M kk bs = some tk → ∀ k ∈ tk.fz, ∃ e n g, M.get k = some (.row e n g)
  | [], tk, h, k, hk => by simp only [takeBs, Option.some.injEq] at h; subst h; simp [Tk.no] at hk
  | c :: bs, tk, h, k, hk => by
    simp only [takeBs] at h
    split at h
    · obtain ⟨_, h1⟩ := bif_inv h
      split at h1
      · rename_i x y hx hy
        cases h1
        rcases List.mem_append.1 hk with hk | hk
        · exact takeL_fz _ _ _ hx k hk
        · exact takeBs_fz hy k hk
      · cases h1
    · cases h
theorem finish_ok (hst : StOk P w0 w0.β.O s a w) {tp : Tpl} {fn : Func} {r : R} (h : finish P tp fn s = some r) : a.defers = [] ∧ ∃ us, (results fn a.tmps).run P w = .ok (outV us) w ∧ ResOk P w0 tp r w us := by
  obtain ⟨β, hd, ⟨hO, hX⟩, C⟩ := hst
  refine ⟨C.slots.defers, ?_⟩
  unfold finish at h
  split at h
  · rename_i vs hvs
    split at h
    · rename_i x y z hx hy hz
      obtain ⟨hg, h1⟩ := bif_inv h
      clear h
      cases h1
      obtain ⟨us, hrun, hul, hvl, hrel⟩ := resVals_ok C hvs
      generalize hkk : (tp.bs.map fun b => (b.k, b.K)) = kk at hx hy
      generalize htk : x.app (y.app z) = tk at hg
      generalize hr : lookR tk.ps = r
      unfold tplOk at hg
      simp only [Bool.and_eq_true] at hg
      obtain ⟨⟨⟨⟨⟨⟨⟨⟨g1, g2⟩, g3⟩, g4⟩, g5⟩, g6⟩, g7⟩, g8⟩, g9⟩ := hg
      have g1 := nodup_iff.1 g1
      have g2 := nodup_iff.1 g2
      have g3 := nodup_iff.1 g3
      have g4 := nodup_iff.1 g4
      have g5 := nodup_iff.1 g5
      have hps : ∀ q ∈ tk.ps, r q.1 = q.2 := fun q hq => by rw [← hr]; exact lookR_of g1 hq
      have bs := takeBs_at hy
      obtain ⟨rs, rsw, rsf⟩ := takeRs_at hz
      have sx : (∀ q ∈ x.ps, q ∈ tk.ps) ∧ (∀ q ∈ x.rw, q ∈ tk.rw) ∧ (∀ q ∈ x.fz, q ∈ tk.fz) := by rw [← htk]; exact app_l
      have sy : (∀ q ∈ y.ps, q ∈ tk.ps) ∧ (∀ q ∈ y.rw, q ∈ tk.rw) ∧ (∀ q ∈ y.fz, q ∈ tk.fz) := by
        rw [← htk]
        exact ⟨fun q hq => app_r.1 _ (app_l.1 q hq), fun q hq => app_r.2.1 _ (app_l.2.1 q hq), fun q hq => app_r.2.2 _ (app_l.2.2 q hq)⟩
      have sz : ∀ q ∈ z.ps, q ∈ tk.ps := by
        rw [← htk]
        exact fun q hq => app_r.1 _ (app_r.1 q hq)
      have rel : ∀ j v, vs[j]? = some v → RA P w s.M β hd v (us.getD j undef) := by
        intro j v hj
        have hlt : j < us.length := by rw [hul]; exact (List.getElem?_eq_some_iff.1 hj).1
        have h2 := hrel j v us[j] hj (List.getElem?_eq_getElem hlt)
        rw [List.getD_eq_getElem?_getD, List.getElem?_eq_getElem hlt]
        exact h2
      have hinv : ∀ K k, inv? kk K = some k → ∃ b ∈ tp.bs, b.K = K ∧ b.k = k := by
        intro K k hi
        have := inv_mem hi
        rw [← hkk] at this
        obtain ⟨b, hb, he⟩ := List.mem_map.1 this
        cases he
        exact ⟨b, hb, rfl, rfl⟩
      have hbK : (tp.bs.map TB.K).Nodup := by
        unfold Tpl.keys at g2
        rw [List.nodup_append] at g2
        exact g2.1
      have hinv2 : ∀ b ∈ tp.bs, inv? kk b.K = some b.k := by
        intro b hb
        refine inv_of ?_ ?_
        · rw [← hkk, List.map_map]; exact hbK
        · rw [← hkk]; exact List.mem_map.2 ⟨b, hb, rfl⟩
      -- every row of the template
      have facts : ∀ q ∈ tp.rows, RowFact P s.M hd tk q ∨ (q ∈ tp.rs) := by
        intro q hq
        unfold Tpl.rows at hq
        rcases List.mem_append.1 hq with hq | hq
        · exact .inl ((take_rowsL tp.vs vs x (fun j => us.getD j undef) hx rel q hq).sub sx.2.1 sx.1)
        · rcases List.mem_append.1 hq with hq | hq
          · left
            have key : ∀ l : List TB, (∀ b ∈ l, b ∈ tp.bs) → q ∈ TA.rowsL (l.flatMap TB.cs) → ∃ b ∈ tp.bs, q ∈ TA.rowsL b.cs := by
              have app : ∀ (l l' : List TA), TA.rowsL (l ++ l') = TA.rowsL l ++ TA.rowsL l' := by
                intro l l'
                induction l with
                | nil => rfl
                | cons a l ih => simp only [List.cons_append, TA.rowsL, ih, List.append_assoc]
              intro l
              induction l with
              | nil => intro _ h; simp [TA.rowsL] at h
              | cons b l ih =>
                intro hl h
                rw [List.flatMap_cons, app] at h
                rcases List.mem_append.1 h with h | h
                · exact ⟨b, hl b (List.mem_cons_self ..), h⟩
                · exact ih (fun c hc => hl c (List.mem_cons_of_mem _ hc)) h
            obtain ⟨b, hb, hq⟩ := key tp.bs (fun b hb => hb) hq
            obtain ⟨cs, t1, h2, h3, h4, h5, h6⟩ := bs b hb
            obtain ⟨c, el, h7, h8, h9⟩ := C.sim.box b.k b.t cs h2
            exact (take_rowsL b.cs cs t1 (fun j => c.getD j undef) h3 (fun j v hj => .c (h9 j v hj)) q hq).sub (fun q hq => sy.2.1 q (h5 q hq)) (fun q hq => sy.1 q (h4 q hq))
          · exact .inr hq
      let β1 : Bn := ⟨fun K => match inv? kk K with | some k => β k | none => β K, β.O⟩
      let hd1 : Nat → Value := fun K => match tk.rw.find? (fun q => q.1 == K) with
        | some (_, some (k, len)) => cutHd (hd k) len
        | some (_, none) => .slice none 0 0
        | none => hd K
      have hfind : ∀ K o, (K, o) ∈ tk.rw → tk.rw.find? (fun q => q.1 == K) = some (K, o) := by
        intro K o hm
        cases hf : tk.rw.find? (fun q => q.1 == K) with
        | none =>
          rw [List.find?_eq_none] at hf
          have := hf _ hm
          simp at this
        | some q =>
          have h1 := List.find?_some hf
          have h2 := List.mem_of_find?_eq_some hf
          have h3 : q.1 = K := eq_of_beq h1
          rw [nodup_map_inj g3 h2 hm h3]
      have hd1row : ∀ K k len, (K, some (k, len)) ∈ tk.rw → hd1 K = cutHd (hd k) len := fun K k len hm => by
        show (match tk.rw.find? (fun q => q.1 == K) with | some (_, some (k, len)) => cutHd (hd k) len | some (_, none) => .slice none 0 0 | none => hd K) = _
        rw [hfind K _ hm]
      have hd1nil : ∀ K, (K, none) ∈ tk.rw → hd1 K = .slice none 0 0 := fun K hm => by
        show (match tk.rw.find? (fun q => q.1 == K) with | some (_, some (k, len)) => cutHd (hd k) len | some (_, none) => .slice none 0 0 | none => hd K) = _
        rw [hfind K _ hm]
      have hd1rs : ∀ q ∈ tp.rs, hd1 q.1 = hd q.1 := fun q hq => by
        show (match tk.rw.find? (fun p => p.1 == q.1) with | some (_, some (k, len)) => cutHd (hd k) len | some (_, none) => .slice none 0 0 | none => hd q.1) = _
        cases hf : tk.rw.find? (fun p => p.1 == q.1) with
        | none => rfl
        | some p =>
          exfalso
          have h1 := List.find?_some hf
          have h2 := List.mem_of_find?_eq_some hf
          have h3 : p.1 = q.1 := eq_of_beq h1
          have h4 := List.all_eq_true.1 g7 p h2
          have h5 := List.all_eq_true.1 g9 q hq
          rw [Nat.blt_eq] at h4
          rw [Nat.ble_eq] at h5
          omega
      have hβ1 : ∀ b ∈ tp.bs, β1 b.K = β b.k := fun b hb => by
        show (match inv? kk b.K with | some k => β k | none => β b.K) = _
        rw [hinv2 b hb]
      have ents : ∀ K ob, (tp.M r).get K = some ob → (∃ b ∈ tp.bs, K = b.K ∧ ob = .box b.t (TA.instL r b.cs)) ∨ (∃ q ∈ tp.rows, K = q.1 ∧ ob = .row q.2.1 (r q.2.2).len fun i j => (r q.2.2).el i j) := by
        intro K ob hm
        rcases List.mem_append.1 (Tpl.get_inv g2 hm) with h2 | h2
        · obtain ⟨b, hb, he⟩ := List.mem_map.1 h2
          cases he
          exact .inl ⟨b, hb, rfl, rfl⟩
        · obtain ⟨q, hq, he⟩ := List.mem_map.1 h2
          cases he
          exact .inr ⟨q, hq, rfl, rfl⟩
      have getb : ∀ b ∈ tp.bs, (tp.M r).get b.K = some (.box b.t (TA.instL r b.cs)) := fun b hb => Tpl.get_in g2 (List.mem_append.2 (.inl (List.mem_map.2 ⟨b, hb, rfl⟩)))
      have getr : ∀ q ∈ tp.rows, (tp.M r).get q.1 = some (.row q.2.1 (r q.2.2).len fun i j => (r q.2.2).el i j) := fun q hq => Tpl.get_in g2 (List.mem_append.2 (.inr (List.mem_map.2 ⟨q, hq, rfl⟩)))
      -- whose a block is
      have owns : ∀ K b, Owns (tp.M r) β1 hd1 K b → (∃ c ∈ tp.bs, c.K = K ∧ Owns s.M β hd c.k b) ∨ (∃ k len, (K, some (k, len)) ∈ tk.rw ∧ Owns s.M β hd k b ∧ ∃ e n g, s.M.get k = some (.row e n g)) ∨ (∃ q ∈ tp.rs, q.1 = K ∧ Owns s.M β hd K b ∧ ∃ e n g, s.M.get K = some (.row e n g)) := by
        intro K b ho
        rcases ho with ⟨t, cs, h2, h3⟩ | ⟨e, n, g, h2, h3⟩
        · rcases ents K _ h2 with ⟨c, hc, rfl, h4⟩ | ⟨q, _, _, h4⟩
          · left
            obtain ⟨cs', _, h5, _⟩ := bs c hc
            exact ⟨c, hc, rfl, .inl ⟨_, _, h5, by rw [← hβ1 c hc]; exact h3⟩⟩
          · cases h4
        · rcases ents K _ h2 with ⟨c, _, _, h4⟩ | ⟨q, hq, rfl, h4⟩
          · cases h4
          · right
            rcases facts q hq with (⟨k, len, n0, g0, u, h5, h6, h7, h8⟩ | ⟨h5, _, _⟩) | hq2
            · left
              refine ⟨k, len, h5, .inr ⟨_, n0, g0, h6, ?_⟩, _, n0, g0, h6⟩
              rw [hd1row _ _ _ h5, ownBlock_cutHd] at h3
              exact h3
            · rw [hd1nil _ h5] at h3
              simp [Value.ownBlock] at h3
            · right
              obtain ⟨m, g0, h5, _⟩ := rs q hq2
              refine ⟨q, hq2, rfl, .inr ⟨_, m, g0, h5, ?_⟩, _, m, g0, h5⟩
              rw [hd1rs q hq2] at h3
              exact h3
      have hown : ∀ b, Own (tp.M r) β1 hd1 b → Own s.M β hd b := by
        rintro b (⟨K, hK⟩ | hb)
        · rcases owns K b hK with ⟨c, _, _, h2⟩ | ⟨k, _, _, h2, _⟩ | ⟨q, _, _, h2, _⟩
          · exact .inl ⟨_, h2⟩
          · exact .inl ⟨_, h2⟩
          · exact .inl ⟨_, h2⟩
        · exact .inr hb
      have hkp : Keeps w (Own s.M β hd) w (Own (tp.M r) β1 hd1) := ⟨Nat.le_refl _, fun b _ ho => ⟨rfl, fun h => ho (hown b h)⟩⟩
      have boxrow : ∀ c ∈ tp.bs, ∀ e n g, s.M.get c.k = some (.row e n g) → False := by
        intro c hc e n g hm
        obtain ⟨cs', _, h5, _⟩ := bs c hc
        rw [h5] at hm
        cases hm
      have ownmem : ∀ K k len, (K, some (k, len)) ∈ tk.rw → k ∈ tk.own := fun K k len hm => List.mem_filterMap.2 ⟨_, hm, rfl⟩
      rw [List.nodup_append] at g4
      obtain ⟨g4a, g4b, g4c⟩ := g4
      have g4a : (tk.rw.filterMap fun x : Nat × Option (Nat × Nat) => x.2.map Prod.fst).Nodup := g4a
      have hfz : ∀ k b, k ∈ tk.fz → Owns s.M β hd k b → ∀ (hm : ∃ e n g, s.M.get k = some (.row e n g)), ¬ Own (tp.M r) β1 hd1 b := by
        rintro k b hk ho ⟨e, n, g, hm⟩ (⟨K, hK⟩ | hb)
        · have h9 := List.all_eq_true.1 g6 k hk
          rcases owns K b hK with ⟨c, hc, _, h2⟩ | ⟨k', len, h2, h3, _⟩ | ⟨q, hq, rfl, h3, _⟩
          · obtain rfl := C.sim.inj _ _ b ho h2
            exact boxrow c hc e n g hm
          · obtain rfl := C.sim.inj _ _ b ho h3
            rw [List.contains_iff_mem.2 (List.mem_append.2 (.inl (ownmem _ _ _ h2)))] at h9
            cases h9
          · obtain rfl := C.sim.inj _ _ b ho h3
            rw [List.contains_iff_mem.2 (List.mem_append.2 (.inr (List.mem_map_of_mem (f := (·.1)) hq)))] at h9
            cases h9
        · exact C.sim.far b hb (C.sim.ge k b ho).1
      have F : Fill P w s.M β hd (tp.M r) β1 hd1 kk r tk := by
        refine ⟨hps, hown, fun k b hk ho => ?_, hd1row, hd1nil, fun K k hi => ?_⟩
        · rcases ho with ⟨t, cs, h2, h3⟩ | ⟨e, n, g, h2, h3⟩
          · -- a box is never frozen by take, but its block is not a row's
            rintro (⟨K, hK⟩ | hb)
            · have h9 := List.all_eq_true.1 g6 k hk
              rcases owns K b hK with ⟨c, hc, _, h4⟩ | ⟨k', len, h4, h5, h6⟩ | ⟨q, hq, rfl, h5, h6⟩
              · obtain ⟨e, n, g, h9⟩ : ∃ e n g, s.M.get k = some (.row e n g) := by
                  rw [← htk] at hk
                  rcases List.mem_append.1 hk with hk | hk
                  · exact takeL_fz _ _ _ hx k hk
                  · rcases List.mem_append.1 hk with hk | hk
                    · exact takeBs_fz hy k hk
                    · rw [rsf] at hk; cases hk
                rw [h2] at h9; cases h9
              · obtain ⟨e, n, g, h6⟩ := h6
                obtain rfl := C.sim.inj _ _ b (.inl ⟨t, cs, h2, h3⟩) h5
                rw [h2] at h6; cases h6
              · obtain ⟨e, n, g, h6⟩ := h6
                obtain rfl := C.sim.inj _ _ b (.inl ⟨t, cs, h2, h3⟩) h5
                rw [h2] at h6; cases h6
            · exact C.sim.far b hb (C.sim.ge k b (.inl ⟨t, cs, h2, h3⟩)).1
          · exact hfz k b hk (.inr ⟨e, n, g, h2, h3⟩) ⟨e, n, g, h2⟩
        · obtain ⟨b, hb, rfl, rfl⟩ := hinv K k hi
          obtain ⟨cs', _, h5, _⟩ := bs b hb
          exact ⟨by rw [getb b hb]; simp, ⟨_, _, h5⟩, hβ1 b hb⟩
      have hsim : Sim P w0 w (tp.M r) β1 hd1 := by
        refine ⟨C.sim.below, fun K b ho => ?_, fun K K' b ho ho' => ?_, C.sim.far, fun K t cs hm => ?_, fun K e n g hm => ?_⟩
        · rcases owns K b ho with ⟨c, _, _, h2⟩ | ⟨k, _, _, h2, _⟩ | ⟨q, _, _, h2, _⟩ <;> exact C.sim.ge _ b h2
        · rcases owns K b ho with ⟨c, hc, rfl, h2⟩ | ⟨k, len, h1, h2, e, n, g, h3⟩ | ⟨q, hq, rfl, h2, e, n, g, h3⟩ <;> rcases owns K' b ho' with ⟨c', hc', rfl, h2'⟩ | ⟨k', len', h1', h2', e', n', g', h3'⟩ | ⟨q', hq', rfl, h2', e', n', g', h3'⟩
          · rw [nodup_map_inj g5 hc hc' (C.sim.inj _ _ b h2 h2')]
          · obtain rfl := C.sim.inj _ _ b h2 h2'
            exact (boxrow c hc _ _ _ h3').elim
          · have := C.sim.inj _ _ b h2 h2'
            rw [← this] at h3'
            exact (boxrow c hc _ _ _ h3').elim
          · obtain rfl := C.sim.inj _ _ b h2' h2
            exact (boxrow c' hc' _ _ _ h3).elim
          · obtain rfl := C.sim.inj _ _ b h2 h2'
            have := nodup_filterMap_inj g4a h1 h1' (c := k) rfl rfl
            exact congrArg (·.1) this
          · have := C.sim.inj _ _ b h2 h2'
            exact absurd this (g4c k (ownmem _ _ _ h1) q'.1 (List.mem_map_of_mem (f := (·.1)) hq'))
          · have := C.sim.inj _ _ b h2 h2'
            rw [this] at h3
            exact (boxrow c' hc' _ _ _ h3).elim
          · have := C.sim.inj _ _ b h2' h2
            exact absurd this (g4c k' (ownmem _ _ _ h1') q.1 (List.mem_map_of_mem (f := (·.1)) hq))
          · exact C.sim.inj _ _ b h2 h2'
        · rcases ents K _ hm with ⟨c, hc, rfl, h4⟩ | ⟨q, _, _, h4⟩
          · cases h4
            obtain ⟨cs', t1, h5, h6, h7, h8, h9⟩ := bs c hc
            obtain ⟨arr, el, h10, h11, h12⟩ := C.sim.box c.k _ cs' h5
            have hl := takeL_len h6
            refine ⟨arr, el, by rw [hβ1 c hc]; exact h10, by rw [instL_map, List.length_map, h11, hl], ?_⟩
            refine take_RCL C.sim c.cs cs' (fun j => arr.getD j undef) t1 h6 (F.sub (fun q hq => sy.1 q (h7 q hq)) (fun q hq => sy.2.1 q (h8 q hq)) (fun q hq => sy.2.2 q (h9 q hq))) (fun q hq => getr q ?_) h12
            unfold Tpl.rows
            refine List.mem_append.2 (.inr (List.mem_append.2 (.inl ?_)))
            have app : ∀ (l l' : List TA), TA.rowsL (l ++ l') = TA.rowsL l ++ TA.rowsL l' := by
              intro l l'
              induction l with
              | nil => rfl
              | cons a l ih => simp only [List.cons_append, TA.rowsL, ih, List.append_assoc]
            have key : ∀ l : List TB, c ∈ l → q ∈ TA.rowsL (l.flatMap TB.cs) := by
              intro l
              induction l with
              | nil => intro h; cases h
              | cons b l ih =>
                intro h
                rw [List.flatMap_cons, app]
                rcases List.mem_cons.1 h with rfl | h
                · exact List.mem_append.2 (.inl hq)
                · exact List.mem_append.2 (.inr (ih h))
            exact key tp.bs hc
          · cases h4
        · rcases ents K _ hm with ⟨c, _, _, h4⟩ | ⟨q, hq, rfl, h4⟩
          · cases h4
          · cases h4
            rcases facts q hq with (⟨k, len, n0, g0, u, h5, h6, h7, h8⟩ | ⟨h5, h6, h7⟩) | hq2
            · have hrn := hps _ h7
              simp only at hrn
              obtain ⟨hpos, xs, h9, h10⟩ := C.sim.row k _ n0 g0 h6
              rw [hrn, hd1row _ _ _ h5]
              rcases h8 with ⟨h11, _, _, h12⟩ | ⟨gb, cap, ad, h11, h12, h13, h14, h15⟩
              · subst h12
                refine ⟨hpos, [], ?_, fun i j τ hi _ => absurd hi (Nat.not_lt_zero _)⟩
                rw [h11]
                exact World.ownsRow_nil w 0 _ _
              · refine ⟨hpos, xs.take (len * (lv P q.2.1).length), ?_, fun i j τ hi hj => ?_⟩
                · rw [h11] at h9 ⊢
                  exact ownsRow_shorter h9 (show len ≤ n0 by omega)
                · have hi : i < len := hi
                  obtain ⟨v, h16, h17⟩ := h10 i j τ (by omega) hj
                  have hql : j < (lv P q.2.1).length := (List.getElem?_eq_some_iff.1 hj).1
                  have : i * (lv P q.2.1).length + (lv P q.2.1).length ≤ len * (lv P q.2.1).length := by rw [← Nat.succ_mul]; exact Nat.mul_le_mul_right _ hi
                  exact ⟨v, by rw [List.getElem?_take, if_pos (by omega)]; exact h16, h17.keep hkp⟩
            · have hrn := hps _ h6
              simp only at hrn
              rw [hrn, hd1nil _ h5]
              exact ⟨h7, [], World.ownsRow_nil w 0 _ _, fun i j τ hi _ => absurd hi (Nat.not_lt_zero _)⟩
            · obtain ⟨m, g0, h5, h6⟩ := rs q hq2
              have hrn := hps _ (sz _ h6)
              simp only at hrn
              obtain ⟨hpos, xs, h9, h10⟩ := C.sim.row _ _ m g0 h5
              rw [hrn, hd1rs q hq2]
              refine ⟨hpos, xs, h9, fun i j τ hi hj => ?_⟩
              obtain ⟨v, h11, h12⟩ := h10 i j τ hi hj
              exact ⟨v, h11, h12.keep hkp⟩
      refine ⟨us, results_run hrun, ?_, β1, hd1, hO, hsim, fun K hK => ⟨fun t cs hm => ?_, fun e n g hm => ?_⟩, fun j v hj => ?_⟩
      · rw [hul]; exact (takeL_len hx).symm
      · obtain ⟨hb, hne⟩ := hX.1 K hK
        rcases ents K _ hm with ⟨c, hc, rfl, h4⟩ | ⟨q, _, _, h4⟩
        · obtain ⟨cs', _, h5, _⟩ := bs c hc
          have h6 := List.all_eq_true.1 g8 c hc
          rw [Bool.or_eq_true, Nat.blt_eq] at h6
          rcases h6 with h6 | h6
          · omega
          · have h6 : c.K = c.k := eq_of_beq h6
            obtain ⟨h7, h8⟩ := (hX.2 c.K hK).1 c.t cs' (by rw [h6]; exact h5)
            exact ⟨h7, by rw [hβ1 c hc, ← h6]; exact h8⟩
        · cases h4
      · obtain ⟨hb, hne⟩ := hX.1 K hK
        rcases ents K _ hm with ⟨c, _, _, h4⟩ | ⟨q, hq, rfl, h4⟩
        · cases h4
        · cases h4
          have low : ∀ o, (q.1, o) ∈ tk.rw → False := by
            intro o hm
            have := List.all_eq_true.1 g7 _ hm
            rw [Nat.blt_eq] at this
            simp only at this
            omega
          rcases facts q hq with (⟨k, len, n0, g0, u, h5, _⟩ | ⟨h5, _, _⟩) | hq2
          · exact (low _ h5).elim
          · exact (low _ h5).elim
          · obtain ⟨m, g0, h5, h6⟩ := rs q hq2
            have hrn := hps _ (sz _ h6)
            simp only at hrn
            obtain ⟨h7, h8⟩ := (hX.2 q.1 hK).2 _ m g0 h5
            rw [hrn, hd1rs q hq2]
            exact ⟨h7, h8⟩
      · have hlen := takeL_len hx
        have key : ∀ (as : List TA) (cs : List AV) (t : Tk) (j0 : Nat), TA.takeL P s.M kk as cs = some t → (∀ q ∈ t.ps, q ∈ tk.ps) → (∀ q ∈ t.rw, q ∈ tk.rw) → (∀ q ∈ t.fz, q ∈ tk.fz) → (∀ q ∈ TA.rowsL as, q ∈ tp.rows) →
            (∀ j c, cs[j]? = some c → RA P w s.M β hd c (us.getD (j0 + j) undef)) → ∀ j v, (TA.instL r as)[j]? = some v → RA P w (tp.M r) β1 hd1 v (us.getD (j0 + j) undef) := by
          intro as
          induction as with
          | nil => intro cs t j0 _ _ _ _ _ _ j v hj; simp [TA.instL] at hj
          | cons a as ih =>
            intro cs t j0 h h1 h2 h3 h4 h5 j v hj
            cases cs with
            | nil => simp [TA.takeL] at h
            | cons c cs =>
              obtain ⟨t1, t2, h6, h7, rfl⟩ := takeL_cons h
              simp only [TA.instL] at hj
              cases j with
              | zero =>
                obtain rfl : TA.inst r a = v := by simpa using hj
                exact take_RA C.sim a c _ t1 h6 (F.sub (fun q hq => h1 q (app_l.1 q hq)) (fun q hq => h2 q (app_l.2.1 q hq)) (fun q hq => h3 q (app_l.2.2 q hq))) (fun q hq => getr q (h4 q (by simp only [TA.rowsL, List.mem_append]; exact .inl hq))) (h5 0 c rfl)
              | succ j =>
                have := ih cs t2 (j0 + 1) h7 (fun q hq => h1 q (app_r.1 q hq)) (fun q hq => h2 q (app_r.2.1 q hq)) (fun q hq => h3 q (app_r.2.2 q hq)) (fun q hq => h4 q (by simp only [TA.rowsL, List.mem_append]; exact .inr hq))
                  (fun j c' hj' => by have := h5 (j + 1) c' (by simpa using hj'); rwa [show j0 + (j + 1) = j0 + 1 + j by omega] at this) j v (by simpa using hj)
                rwa [show j0 + (j + 1) = j0 + 1 + j by omega]
        have := key tp.vs vs x 0 hx sx.1 sx.2.1 sx.2.2 (fun q hq => by unfold Tpl.rows; exact List.mem_append.2 (.inl hq)) (fun j c hj => by rw [Nat.zero_add]; exact rel j c hj) j v hj
        rwa [Nat.zero_add] at this
    · cases h
  · cases h
end
/-! ### Functions -/
theorem start_ok {P : Program} {F : Fr0} {fn : Func} {args : List AV} {vals : Array Value} (ha : ArgsOk P F args vals) :
    StOk P F F.β.O (start fn args F.M) { tmps := vals ++ Array.replicate (fn.ntmps - vals.size) undef, defers := [] } F.w := by
  refine ⟨F.β, F.hd, ⟨rfl, fun q hq => ⟨ha.high q hq, hq⟩, fun q hq => ⟨fun t cs hm => ⟨⟨t, cs, hm⟩, rfl⟩, fun e n g hm => ⟨⟨g, hm⟩, rfl⟩⟩⟩, ha.sim, ⟨?_, fun t x hx => ?_, rfl⟩⟩
  · simp [start, ha.len]
  · simp only [start] at hx
    rw [List.getElem?_append] at hx
    have hl := ha.len
    by_cases h1 : t < args.length
    · rw [if_pos h1] at hx
      have h2 := ha.val t x hx
      have h3 : (vals ++ Array.replicate (fn.ntmps - vals.size) undef).getD t undef = vals.getD t undef := by
        have : t < vals.size := by omega
        simp [Array.getD_eq_getD_getElem?, Array.getElem?_append, this]
      show RA P F.w F.M F.β F.hd x ((vals ++ Array.replicate (fn.ntmps - vals.size) undef).getD t undef)
      rw [h3]
      exact h2
    · rw [if_neg h1] at hx
      have := List.mem_of_getElem? hx
      obtain ⟨_, rfl⟩ := List.mem_replicate.1 this
      exact .und _
theorem runF_ok {P : Program} {fr : Fr} {h : H} (hs : HSound P fr h) (hdr : DrawSound P fr h) {n : Nat} {pl : Nat → Option LP} {f : FuncId} {fn : Func} {args : List AV} {M : Store} {r : R} (hf : P.funcs[f]? = some fn) (hr : runF P fr h pl n (fr.tpl f) fn args M = some r) :
    FSound P fr f args M r := by
  intro F vals hM ha fn' hf'
  rw [hf] at hf'
  cases hf'
  unfold runF at hr
  split at hr
  · rename_i c hc
    have hbase : ∀ e s a w', kEnd P (fr.tpl f) fn e s = some r → StOk P F F.β.O s a w' → bodyPost P fn (fun e w' => ∃ us, e = .returned (outV us) ∧ ResOk P F (fr.tpl f) r w' us) (ex e) a w' := by
      intro e s' a' w' hk hst
      cases e with
      | normal =>
        obtain ⟨h1, us, h2, h3⟩ := finish_ok hst hk
        exact ⟨h1, outV us, h2, us, rfl, h3⟩
      | ret =>
        obtain ⟨h1, us, h2, h3⟩ := finish_ok hst hk
        exact ⟨h1, outV us, h2, us, rfl, h3⟩
      | exit id => cases hk
    rw [← hM] at hr
    exact calls_of_wp hf hc ((go_ok hs hdr hbase n (blk_ok hs hdr hbase n) deep).1 c .normal [] _ _ _ (fun x hx => by cases hx) hr (start_ok ha))
  · cases hr
/-- ALL CALLS. -/
theorem call_ok {P : Program} {pl : Plan} {fr : Fr} {ext : FuncId → Option (List AV → Store → Option R)} (hdr : ∀ h, HSound P fr h → DrawSound P fr h) (hext : ∀ f F args M r, ext f = some F → F args M = some r → FSound P fr f args M r) : ∀ n, HSound P fr (call P pl fr ext n)
  | 0 => fun f args M r h => by cases h
  | n + 1 => by
    have ih := call_ok (pl := pl) hdr hext n
    intro f args M r h
    simp only [call] at h
    split at h
    · rename_i F hF
      exact hext f F args M r hF h
    · split at h
      · rename_i fn hfn
        obtain ⟨_, h1⟩ := bif_inv h
        exact runF_ok ih (hdr _ ih) hfn h1
      · cases h
end Go.AM
