/- The engine, part 10: calls. -/
import Derived.Test.YtljfhfgbpcaadaaDoorEng9
set_option linter.unusedSimpArgs false
set_option linter.unusedVariables false
namespace Go.AM
open Go.RowKit (Below)
def b0 (O : Nat → Prop) : Bn := ⟨fun _ => 0, O⟩
def hd0 : Nat → Value := fun _ => undef
theorem own_nil {O : Nat → Prop} {b : Nat} (h : Own [] (b0 O) hd0 b) : O b := by
  rcases h with ⟨k, ⟨t, cs, h, _⟩ | ⟨e, n, g, h, _⟩⟩ | h
  · cases h
  · cases h
  · exact h
theorem RT.closed {P : Program} {w : World} {O : Nat → Prop} {t : TypeId} {x : T} {v : Value} (r : RT P w O t x v) : RT P w (Own [] (b0 O) hd0) t x v :=
  r.keep ⟨Nat.le_refl _, fun b _ ho => ⟨rfl, fun h => ho (own_nil h)⟩⟩
section
variable {P : Program} {w0 : Fr0} {w : World} {M : Store} {β : Bn} {hd : Nat → Value} {O' : Nat → Prop} {os : List (Nat × Option Ob)}
theorem argLeaf_rel (h : Sim P w0 w M β hd) (hos : ∀ k ob, lk os k = some ob → M.get k = some ob) (hO : ∀ b, O' b → Own M β hd b) (hK : ∀ k ob b, lk os k = some ob → Owns M β hd k b → ¬ O' b)
    {t : TypeId} {v x : AV} {u : Value} (ha : argLeaf P os t v = some x) (hr : RC P w M β hd v u) : RC P w [] (b0 O') hd0 x u := by
  have hfz : ∀ {y : T}, conf P os t v = true → frz os v = some y → RT P w O' t y u := fun hc hf =>
    frz_rel h hos hO (fun k b hk ho => by obtain ⟨ob, hob⟩ := frz_keys hf hk; exact hK k ob b hob ho) hc hf hr
  unfold argLeaf at ha
  split at ha
  · rename_i e hu
    obtain ⟨hc, ha⟩ := bif_inv ha
    split at ha
    · rename_i y hy
      cases ha
      exact .sl hu (hfz hc hy).closed
    · cases ha
  · rename_i k hu
    obtain ⟨hc, ha⟩ := bif_inv ha
    cases ha
    unfold conf at hc
    rw [hu] at hc
    cases v <;> simp at hc
    cases hr
    exact .i ..
  · rename_i hu
    obtain ⟨hc, ha⟩ := bif_inv ha
    cases ha
    unfold conf at hc
    rw [hu] at hc
    cases v <;> simp at hc
    cases hr
    exact .b ..
  · rename_i hu
    obtain ⟨hc, ha⟩ := bif_inv ha
    cases ha
    unfold conf at hc
    rw [hu] at hc
    cases v <;> simp at hc
    cases hr
    exact .s ..
  · cases ha
theorem argLeaves_rel (h : Sim P w0 w M β hd) (hos : ∀ k ob, lk os k = some ob → M.get k = some ob) (hO : ∀ b, O' b → Own M β hd b) (hK : ∀ k ob b, lk os k = some ob → Owns M β hd k b → ¬ O' b) :
    ∀ {ts : List TypeId} {vs xs : List AV}, argLeaves P os ts vs = some xs → xs.length = vs.length ∧ ∀ (j : Nat) (x : AV), xs[j]? = some x → ∃ v, vs[j]? = some v ∧ ∀ u, RC P w M β hd v u → RC P w [] (b0 O') hd0 x u
  | [], [], _, ha => by
    cases ha
    exact ⟨rfl, fun j x hj => by simp at hj⟩
  | [], _ :: _, _, ha => by simp [argLeaves] at ha
  | _ :: _, [], _, ha => by simp [argLeaves] at ha
  | t :: ts, v :: vs, _, ha => by
    simp only [argLeaves] at ha
    split at ha
    · rename_i x xs hx hxs
      cases ha
      obtain ⟨ih1, ih2⟩ := argLeaves_rel h hos hO hK hxs
      refine ⟨by simp [ih1], fun j y hj => ?_⟩
      cases j with
      | zero =>
        obtain rfl : x = y := by simpa using hj
        exact ⟨v, rfl, fun u hr => argLeaf_rel h hos hO hK hx hr⟩
      | succ j => exact ih2 j y hj
    · cases ha
theorem argPtr_rel (h : Sim P w0 w M β hd) (hos : ∀ k ob, lk os k = some ob → M.get k = some ob) (hO : ∀ b, O' b → Own M β hd b) (hK : ∀ k ob b, lk os k = some ob → Owns M β hd k b → ¬ O' b)
    {v x : AV} {u : Value} (ha : argPtr P os v = some x) (hr : RC P w M β hd v u) : RC P w [] (b0 O') hd0 x u := by
  have hk : Keeps w (Own M β hd) w (Own [] (b0 O') hd0) := ⟨Nat.le_refl _, fun b _ ho => ⟨rfl, fun h => ho (hO b (own_nil h))⟩⟩
  unfold argPtr at ha
  split at ha
  · rename_i k off
    split at ha
    · rename_i t cs hlk
      cases hnm : isMapT t with
      | true => rw [hnm] at ha; cases ha
      | false =>
      rw [hnm, cond_false] at ha
      split at ha
      · rename_i xs hxs
        cases ha
        have hm := hos _ _ hlk
        obtain ⟨c, el, hheap, hsz, hcs⟩ := (h.box k t cs hm).cells hnm
        have hown : Owns M β hd k (β k) := .inl ⟨t, cs, hm, rfl⟩
        obtain ⟨h1, h2, h3⟩ := frzs_rel (O' := O') h hos hO (us := c) 0 (lv P t) cs xs 0 hxs (fun q b hq ho => by obtain ⟨ob, hob⟩ := frzs_keys hxs hq; exact hK q ob b hob ho) (fun j x hj => by simpa using hcs j x hj)
        cases hr with
        | ptr h0 h1' hp =>
          rw [hp t cs hm, ptrV_box hnm]
          have := RC.rp (P := P) (w := w) (M := []) (β := b0 O') (hd := hd0) (e := t) (c := fun j => xs.getD j (.b false)) off (β k) 0 (fun j => c.getD j undef) (h.ge k _ hown).2 (fun h9 => hK k _ _ hlk hown (own_nil h9)) (fun j τ hj => ?_) (fun j τ hj => ?_)
          · rw [Nat.zero_add] at this; exact this
          · have hjl : j < (lv P t).length := (List.getElem?_eq_some_iff.1 hj).1
            have hjc : j < c.size := by omega
            unfold World.cell?
            simp [hheap, Array.getD_eq_getD_getElem?, hjc]
          · obtain ⟨x, hx, hrt⟩ := h3 j τ hj
            simp only [Nat.zero_add] at hrt
            rw [List.getD_eq_getElem?_getD, hx]
            exact hrt.closed
      · cases ha
    · cases ha
  · rename_i e c off
    cases ha
    cases hr with
    | rp _ b o vs hb ho hv hr => exact .rp off b o vs hb (fun h9 => ho (hO b (own_nil h9))) hv (fun j τ hj => (hr j τ hj).keep hk)
  · cases ha
theorem argPtrs_rel (h : Sim P w0 w M β hd) (hos : ∀ k ob, lk os k = some ob → M.get k = some ob) (hO : ∀ b, O' b → Own M β hd b) (hK : ∀ k ob b, lk os k = some ob → Owns M β hd k b → ¬ O' b) :
    ∀ {vs xs : List AV}, argPtrs P os vs = some xs → xs.length = vs.length ∧ ∀ (j : Nat) (x : AV), xs[j]? = some x → ∃ v, vs[j]? = some v ∧ ∀ u, RC P w M β hd v u → RC P w [] (b0 O') hd0 x u
  | [], _, ha => by
    cases ha
    exact ⟨rfl, fun j x hj => by simp at hj⟩
  | v :: vs, _, ha => by
    simp only [argPtrs] at ha
    split at ha
    · rename_i x xs hx hxs
      cases ha
      obtain ⟨ih1, ih2⟩ := argPtrs_rel h hos hO hK hxs
      refine ⟨by simp [ih1], fun j y hj => ?_⟩
      cases j with
      | zero =>
        obtain rfl : x = y := by simpa using hj
        exact ⟨v, rfl, fun u hr => argPtr_rel h hos hO hK hx hr⟩
      | succ j => exact ih2 j y hj
    · cases ha
theorem argPtr_cell {v x : AV} (ha : argPtr P os v = some x) : isCell v = true := by
  unfold argPtr at ha
  split at ha
  · rfl
  · rfl
  · cases ha
theorem argLeaf_cell {t : TypeId} {v x : AV} (ha : argLeaf P os t v = some x) : isCell v = true := by
  have hc : conf P os t v = true := by
    unfold argLeaf at ha
    split at ha <;> first | exact (bif_inv ha).1 | cases ha
  unfold conf at hc
  split at hc <;> first | rfl | cases hc
theorem argOf_rel (h : Sim P w0 w M β hd) (hos : ∀ k ob, lk os k = some ob → M.get k = some ob) (hO : ∀ b, O' b → Own M β hd b) (hK : ∀ k ob b, lk os k = some ob → Owns M β hd k b → ¬ O' b)
    {t : TypeId} {v x : AV} {u : Value} (ha : argOf P os t v = some x) (hr : RA P w M β hd v u) : RA P w [] (b0 O') hd0 x u := by
  unfold argOf at ha
  split at ha
  · rename_i fs cs hu
    split at ha
    · rename_i xs hxs
      cases ha
      obtain ⟨vs, rfl, hl, hcs⟩ := hr.ag_inv
      obtain ⟨h1, h2⟩ := argLeaves_rel h hos hO hK hxs
      refine .ag (by omega) fun j x hj => ?_
      obtain ⟨v, hv, hrel⟩ := h2 j x hj
      exact hrel _ (hcs j v hv)
    · cases ha
  · rename_i f caps hu
    cases hnp : Nat.ble NPF f with
    | true => rw [hnp] at ha; cases ha
    | false =>
    rw [hnp] at ha
    simp only [cond_false] at ha
    split at ha
    · rename_i xs hxs
      cases ha
      obtain ⟨vs, rfl, hl, hcs⟩ := hr.clo_inv hnp
      obtain ⟨h1, h2⟩ := argPtrs_rel h hos hO hK hxs
      refine .c (.clo hnp (by omega) fun j x hj => ?_)
      obtain ⟨v, hv, hrel⟩ := h2 j x hj
      exact hrel _ (hcs j v hv)
    · cases ha
  · exact .c (argPtr_rel h hos hO hK ha (hr.cell (argPtr_cell ha)))
  · exact .c (argLeaf_rel h hos hO hK ha (hr.cell (argLeaf_cell ha)))
end
theorem nodup_iff : ∀ {l : List Nat}, nodup l = true ↔ l.Nodup
  | [] => by simp [nodup]
  | k :: r => by
    simp only [nodup, Bool.and_eq_true, Bool.not_eq_true', List.nodup_cons, nodup_iff (l := r)]
    constructor
    · rintro ⟨h1, h2⟩
      exact ⟨(fun h => by rw [List.contains_iff_mem.2 h] at h1; cases h1), h2⟩
    · rintro ⟨h1, h2⟩
      refine ⟨?_, h2⟩
      cases hc : r.contains k with
      | false => rfl
      | true => exact absurd (List.contains_iff_mem.1 hc) h1
theorem get_sets_out : ∀ (l : List (Nat × Ob)) (M : Store) {K : Nat}, K ∉ l.map (·.1) → (M.sets l).get K = M.get K
  | [], _, _, _ => rfl
  | (k, o) :: l, M, K, h => by
    simp only [List.map_cons, List.mem_cons, not_or] at h
    show ((M.set k o).sets l).get K = _
    rw [get_sets_out l _ h.2, Store.get_set, if_neg (fun e => h.1 e.symm)]
theorem get_sets_in : ∀ (l : List (Nat × Ob)) (M : Store) {K : Nat} {ob : Ob}, (l.map (·.1)).Nodup → (K, ob) ∈ l → (M.sets l).get K = some ob
  | [], _, _, _, _, h => by cases h
  | (k, o) :: l, M, K, ob, hn, h => by
    simp only [List.map_cons, List.nodup_cons] at hn
    show ((M.set k o).sets l).get K = _
    rcases List.mem_cons.1 h with h | h
    · cases h
      rw [get_sets_out l _ hn.1, Store.get_set, if_pos rfl]
    · exact get_sets_in l _ hn.2 h
theorem get_sets_inv (l : List (Nat × Ob)) (M : Store) {K : Nat} {ob : Ob} (hn : (l.map (·.1)).Nodup) (h : (M.sets l).get K = some ob) : (K, ob) ∈ l ∨ (K ∉ l.map (·.1) ∧ M.get K = some ob) := by
  by_cases hm : K ∈ l.map (·.1)
  · obtain ⟨x, hx, rfl⟩ := List.mem_map.1 hm
    rw [get_sets_in l M hn (ob := x.2) hx] at h
    cases h
    exact .inl hx
  · rw [get_sets_out l M hm] at h
    exact .inr ⟨hm, h⟩
theorem find_of : ∀ {names : List (Nat × Nat)} {k K : Nat}, (names.map (·.1)).Nodup → (k, K) ∈ names → find names k = K
  | [], _, _, _, h => by cases h
  | (q, K') :: r, k, K, hn, h => by
    simp only [List.map_cons, List.nodup_cons] at hn
    simp only [find]
    rcases List.mem_cons.1 h with h | h
    · cases h; simp
    · have : (q == k) = false := by
        cases hq : q == k with
        | false => rfl
        | true => rw [eq_of_beq hq] at hn; exact absurd (List.mem_map_of_mem (f := (·.1)) h) hn.1
      rw [this]
      exact find_of hn.2 h
theorem inv_of : ∀ {names : List (Nat × Nat)} {k K : Nat}, (names.map (·.2)).Nodup → (k, K) ∈ names → inv? names K = some k
  | [], _, _, _, h => by cases h
  | (q, K') :: r, k, K, hn, h => by
    simp only [List.map_cons, List.nodup_cons] at hn
    simp only [inv?]
    rcases List.mem_cons.1 h with h | h
    · cases h; simp
    · have : (K' == K) = false := by
        cases hq : K' == K with
        | false => rfl
        | true => rw [eq_of_beq hq] at hn; exact absurd (List.mem_map_of_mem (f := (·.2)) h) hn.1
      rw [this]
      exact inv_of hn.2 h
theorem inv_mem : ∀ {names : List (Nat × Nat)} {k K : Nat}, inv? names K = some k → (k, K) ∈ names
  | [], _, _, h => by cases h
  | (q, K') :: r, k, K, h => by
    simp only [inv?] at h
    cases hq : K' == K with
    | true =>
      rw [hq] at h
      cases h
      rw [eq_of_beq hq]
      exact List.mem_cons_self ..
    | false =>
      rw [hq] at h
      exact List.mem_cons_of_mem _ (inv_mem h)
theorem renL_map (f : Nat → Nat) : ∀ l, renL f l = l.map (ren f)
  | [] => rfl
  | v :: l => by simp only [renL, List.map_cons, renL_map f l]
theorem instL_map (r : R) : ∀ l, TA.instL r l = l.map (TA.inst r)
  | [] => rfl
  | v :: l => by simp only [TA.instL, List.map_cons, instL_map r l]
mutual
theorem ren_id : ∀ x : AV, ren (fun k => k) x = x
  | .ptr .. => rfl
  | .row .. => rfl
  | .ep .. => rfl
  | .ag cs => by simp only [ren, renL_id cs]
  | .tup cs => by simp only [ren, renL_id cs]
  | .clo g cs => by simp only [ren, renL_id cs]
  | .b _ => rfl
  | .i .. => rfl
  | .s _ => rfl
  | .sl .. => rfl
  | .nl => rfl
  | .rp .. => rfl
  | .und => rfl
theorem renL_id : ∀ l : List AV, renL (fun k => k) l = l
  | [] => rfl
  | v :: l => by simp only [renL, ren_id v, renL_id l]
end
mutual
def plainV : AV → Bool
  | .sl .. => false
  | .rp .. => false
  | .ag cs => plainVL cs
  | .tup cs => plainVL cs
  | .clo _ cs => plainVL cs
  | _ => true
def plainVL : List AV → Bool
  | [] => true
  | v :: l => plainV v && plainVL l
end
theorem plainVL_get : ∀ {l : List AV} {j : Nat} {x : AV}, plainVL l = true → l[j]? = some x → plainV x = true
  | [], _, _, _, h => by simp at h
  | v :: l, 0, x, h, hj => by
    simp only [plainVL, Bool.and_eq_true] at h
    obtain rfl : v = x := by simpa using hj
    exact h.1
  | v :: l, j + 1, x, h, hj => by
    simp only [plainVL, Bool.and_eq_true] at h
    exact plainVL_get h.2 (by simpa using hj)
theorem mem_refsL' {x : AV} {l : List AV} {j k : Nat} (hx : l[j]? = some x) (hk : k ∈ refs x) : k ∈ refsL l := by
  induction l generalizing j with
  | nil => simp at hx
  | cons y l ih =>
    simp only [refsL, List.mem_append]
    cases j with
    | zero =>
      obtain rfl : y = x := by simpa using hx
      exact .inl hk
    | succ j => exact .inr (ih (by simpa using hx))
section
variable {P : Program} {w w' : World} {M M' : Store} {β β' : Bn} {hd hd' : Nat → Value} {f : Nat → Nat}
structure Means (M : Store) (β : Bn) (hd : Nat → Value) (M' : Store) (β' : Bn) (hd' : Nat → Value) (k K : Nat) : Prop where
  there : M'.get K ≠ none
  box : ∀ t cs, M'.get K = some (.box t cs) → (∃ cs, M.get k = some (.box t cs)) ∧ β' K = β k
  row : ∀ e n g, M'.get K = some (.row e n g) → (∃ g0, M.get k = some (.row e n g0)) ∧ hd' K = hd k
theorem ren_RC {x : AV} {v : Value} (r : RC P w M β hd x v) (hf : ∀ k ∈ refs x, M.get k ≠ none → Means M β hd M' β' hd' k (f k)) (hS : plainV x = true ∨ Keeps w (Own M β hd) w' (Own M' β' hd')) : RC P w' M' β' hd' (ren f x) v := by
  induction r with
  | b x => exact .b x
  | i k n => exact .i k n
  | s x => exact .s x
  | sl h r =>
    rcases hS with hS | hS
    · cases hS
    · exact .sl h (r.keep hS)
  | nl => exact .nl
  | @rp e c off b o vs hb ho hv hr =>
    rcases hS with hS | hS
    · cases hS
    · exact .rp off b o vs (Nat.lt_of_lt_of_le hb hS.size) (hS.blk b hb ho).2 (fun j τ hj => by rw [cell_same (hS.blk b hb ho).1]; exact hv j τ hj) (fun j τ hj => (hr j τ hj).keep hS)
  | ptr h0 h1 h =>
    have hm := hf _ (by simp [refs]) h0
    refine .ptr hm.there h1 fun t cs hq => ?_
    obtain ⟨⟨c1, h2⟩, h3⟩ := hm.box t cs hq
    rw [h3]
    exact h t c1 h2
  | row h0 h1 h =>
    have hm := hf _ (by simp [refs]) h0
    refine .row hm.there h1 fun e n g hq => ?_
    obtain ⟨⟨g1, h2⟩, h3⟩ := hm.row e n g hq
    rw [h3]
    exact h e n g1 h2
  | ep h0 h1 h =>
    have hm := hf _ (by simp [refs]) h0
    refine .ep hm.there h1 fun e n g hq => ?_
    obtain ⟨⟨g1, h2⟩, h3⟩ := hm.row e n g hq
    rw [h3]
    exact h e n g1 h2
  | @clo g caps vs hnp hl h ih =>
    show RC P w' M' β' hd' (.clo g (renL f caps)) _
    rw [renL_map]
    refine .clo hnp (by simpa using hl) fun j x hj => ?_
    simp only [List.getElem?_map, Option.map_eq_some_iff] at hj
    obtain ⟨y, hy, rfl⟩ := hj
    refine ih j y hy (fun k hk h0 => hf k (by simp only [refs]; exact mem_refsL' hy hk) h0) ?_
    rcases hS with hS | hS
    · exact .inl (plainVL_get hS hy)
    · exact .inr hS
  | und h1 => exact .und h1
  | np => exact .np
  | ni => exact .ni
theorem ren_RA {x : AV} {v : Value} (r : RA P w M β hd x v) (hf : ∀ k ∈ refs x, M.get k ≠ none → Means M β hd M' β' hd' k (f k)) (hS : plainV x = true ∨ Keeps w (Own M β hd) w' (Own M' β' hd')) : RA P w' M' β' hd' (ren f x) v := by
  induction r with
  | c h => exact .c (ren_RC h hf hS)
  | @ag cs vs hl h =>
    show RA P w' M' β' hd' (.ag (renL f cs)) _
    rw [renL_map]
    refine .ag (by simpa using hl) fun j x hj => ?_
    simp only [List.getElem?_map, Option.map_eq_some_iff] at hj
    obtain ⟨y, hy, rfl⟩ := hj
    refine ren_RC (h j y hy) (fun k hk h0 => hf k (by simp only [refs]; exact mem_refsL' hy hk) h0) ?_
    rcases hS with hS | hS
    · exact .inl (plainVL_get hS hy)
    · exact .inr hS
  | @tup cs vs hl h ih =>
    show RA P w' M' β' hd' (.tup (renL f cs)) _
    rw [renL_map]
    refine .tup (by simpa using hl) fun j x hj => ?_
    simp only [List.getElem?_map, Option.map_eq_some_iff] at hj
    obtain ⟨y, hy, rfl⟩ := hj
    refine ih j y hy (fun k hk h0 => hf k (by simp only [refs]; exact mem_refsL' hy hk) h0) ?_
    rcases hS with hS | hS
    · exact .inl (plainVL_get hS hy)
    · exact .inr hS
  | und v => exact .und v
end
section
variable {P : Program} {w0 : Fr0} {w : World} {M : Store} {β : Bn} {hd : Nat → Value} {os : List (Nat × Option Ob)} {names : List (Nat × Nat)} {f : Nat → Nat}
theorem cellsIn_get (K : Nat) : ∀ (ts : List TypeId) (vs : List AV) (c : Nat), vs.length = ts.length → (cellsIn P f K c ts vs).length = vs.length ∧ ∀ j x, (cellsIn P f K c ts vs)[j]? = some x →
    ∃ t v, ts[j]? = some t ∧ vs[j]? = some v ∧ ((∃ e, nlT P t v = some e ∧ x = .row (K + 8 + (c + j)) 0 0) ∨ (nlT P t v = none ∧ x = ren f v))
  | [], [], c, _ => ⟨rfl, fun j x h => by simp [cellsIn] at h⟩
  | [], _ :: _, _, h => by simp at h
  | _ :: _, [], _, h => by simp at h
  | t :: ts, v :: vs, c, h => by
    obtain ⟨h1, h2⟩ := cellsIn_get K ts vs (c + 1) (by simpa using h)
    refine ⟨by simp [cellsIn, h1], fun j x hj => ?_⟩
    cases j with
    | zero =>
      simp only [cellsIn, List.getElem?_cons_zero, Option.some.injEq] at hj
      refine ⟨t, v, rfl, rfl, ?_⟩
      cases hn : nlT P t v with
      | none => rw [hn] at hj; exact .inr ⟨rfl, hj.symm⟩
      | some e => rw [hn] at hj; exact .inl ⟨e, rfl, hj.symm⟩
    | succ j =>
      simp only [cellsIn, List.getElem?_cons_succ] at hj
      obtain ⟨t', v', h3, h4, h5⟩ := h2 j x hj
      refine ⟨t', v', by simpa using h3, by simpa using h4, ?_⟩
      rw [show c + (j + 1) = c + 1 + j by omega]
      exact h5
theorem nlRows_get (K : Nat) : ∀ (ts : List TypeId) (vs : List AV) (c : Nat), (∀ K' ob, (K', ob) ∈ nlRows P K c ts vs → ∃ e g, ob = .row e 0 g ∧ 0 < (lv P e).length) ∧
    ∀ j t v e, ts[j]? = some t → vs[j]? = some v → nlT P t v = some e → ∃ g, (K + 8 + (c + j), Ob.row e 0 g) ∈ nlRows P K c ts vs
  | [], _, c => ⟨fun K' ob h => by simp [nlRows] at h, fun j t v e h => by simp at h⟩
  | _ :: _, [], c => ⟨fun K' ob h => by simp [nlRows] at h, fun j t v e _ h => by simp at h⟩
  | t :: ts, v :: vs, c => by
    obtain ⟨h1, h2⟩ := nlRows_get K ts vs (c + 1)
    have hpos : ∀ e, nlT P t v = some e → 0 < (lv P e).length := by
      intro e he
      unfold nlT at he
      split at he
      · split at he
        · rename_i e' _
          obtain ⟨h3, h4⟩ := bif_inv he
          cases h4
          simpa using h3
        · cases he
      · cases he
    refine ⟨fun K' ob h => ?_, fun j t' v' e ht hv he => ?_⟩
    · simp only [nlRows] at h
      cases hn : nlT P t v with
      | none => rw [hn] at h; exact h1 K' ob h
      | some e =>
        rw [hn] at h
        rcases List.mem_cons.1 h with h | h
        · cases h; exact ⟨e, _, rfl, hpos e hn⟩
        · exact h1 K' ob h
    · cases j with
      | zero =>
        obtain rfl : t = t' := by simpa using ht
        obtain rfl : v = v' := by simpa using hv
        simp only [nlRows, he]
        exact ⟨_, List.mem_cons_self ..⟩
      | succ j =>
        obtain ⟨g, hg⟩ := h2 j t' v' e (by simpa using ht) (by simpa using hv) he
        refine ⟨g, ?_⟩
        rw [show c + (j + 1) = c + 1 + j by omega]
        simp only [nlRows]
        split
        · exact List.mem_cons_of_mem _ hg
        · exact hg
theorem nlT_inv {t e : TypeId} {v : AV} (h : nlT P t v = some e) : v = .nl := by
  unfold nlT at h
  split at h
  · rfl
  · cases h
structure Lent (P : Program) (M : Store) (os : List (Nat × Option Ob)) (names : List (Nat × Nat)) : Prop where
  hos : ∀ k ob, lk os k = some ob → M.get k = some ob
  ok : lendOk P os names = true
  high : ∀ x ∈ names, HB ≤ x.2
  n1 : (names.map (·.1)).Nodup
  n2 : ((entsIn P os (find names) names).map (·.1)).Nodup
def lentM (P : Program) (os : List (Nat × Option Ob)) (names : List (Nat × Nat)) : Store := Store.sets [] (entsIn P os (find names) names)
def lentB (names : List (Nat × Nat)) (β : Bn) (O' : Nat → Prop) : Bn := ⟨fun K => match inv? names K with | some k => β k | none => 0, O'⟩
def lentH (names : List (Nat × Nat)) (hd : Nat → Value) (K : Nat) : Value := match inv? names K with | some k => hd k | none => .slice none 0 0
theorem Lent.n3 (L : Lent P M os names) : (names.map (·.2)).Nodup ∧ ∀ K, K ∈ (names.flatMap (nlOf P os)).map (·.1) → inv? names K = none := by
  have h := L.n2
  unfold entsIn at h
  rw [List.map_append, List.nodup_append] at h
  obtain ⟨h1, h2, h3⟩ := h
  have e : (names.map fun x => (x.2, headOb P os (find names) x)).map (·.1) = names.map (·.2) := by rw [List.map_map]; rfl
  rw [e] at h1 h3
  refine ⟨h1, fun K hK => ?_⟩
  cases hi : inv? names K with
  | none => rfl
  | some k => exact absurd rfl (h3 K (List.mem_map_of_mem (f := (·.2)) (inv_mem hi)) K hK)
theorem Lent.at (L : Lent P M os names) {k K : Nat} (h : (k, K) ∈ names) : (∃ t cs, lk os k = some (.box t cs) ∧ M.get k = some (.box t cs) ∧ (lentM P os names).get K = some (.box t (cellsIn P (find names) K 0 (lv P t) cs)) ∧ cs.length = (lv P t).length ∧ ∀ q ∈ refsL cs, q ∈ names.map (·.1)) ∨
    (∃ e n g, lk os k = some (.row e n g) ∧ M.get k = some (.row e n g) ∧ (lentM P os names).get K = some (.row e n g)) := by
  have hmem : (K, headOb P os (find names) (k, K)) ∈ entsIn P os (find names) names := List.mem_append.2 (.inl (List.mem_map.2 ⟨(k, K), h, rfl⟩))
  have hg := get_sets_in _ [] L.n2 hmem
  have hok := List.all_eq_true.1 L.ok _ h
  split at hok
  · rename_i t cs hl
    rw [Bool.and_eq_true] at hok
    refine .inl ⟨t, cs, hl, L.hos _ _ hl, ?_, eq_of_beq hok.1, fun q hq => List.contains_iff_mem.1 (List.all_eq_true.1 hok.2 q hq)⟩
    have : headOb P os (find names) (k, K) = .box t (cellsIn P (find names) K 0 (lv P t) cs) := by unfold headOb; simp only [hl]
    rw [this] at hg
    exact hg
  · rename_i e n g hl
    refine .inr ⟨e, n, g, hl, L.hos _ _ hl, ?_⟩
    have : headOb P os (find names) (k, K) = .row e n g := by unfold headOb; simp only [hl]
    rw [this] at hg
    exact hg
  · cases hok
theorem Lent.inv (L : Lent P M os names) {K : Nat} {ob : Ob} (h : (lentM P os names).get K = some ob) : (∃ k, (k, K) ∈ names) ∨ (inv? names K = none ∧ ∃ e g, ob = .row e 0 g ∧ 0 < (lv P e).length) := by
  rcases get_sets_inv _ [] L.n2 h with h | ⟨_, h⟩
  · rcases List.mem_append.1 h with h | h
    · obtain ⟨x, hx, he⟩ := List.mem_map.1 h
      cases he
      exact .inl ⟨x.1, hx⟩
    · refine .inr ⟨L.n3.2 K (List.mem_map_of_mem (f := (·.1)) h), ?_⟩
      obtain ⟨x, hx, he⟩ := List.mem_flatMap.1 h
      unfold nlOf at he
      split at he
      · exact (nlRows_get _ _ _ _).1 _ _ he
      · cases he
  · cases h
theorem Lent.nl (L : Lent P M os names) {k K j : Nat} {t τ e : TypeId} {cs : List AV} {v : AV} (h : (k, K) ∈ names) (hl : lk os k = some (.box t cs)) (ht : (lv P t)[j]? = some τ) (hv : cs[j]? = some v) (he : nlT P τ v = some e) :
    (∃ g, (lentM P os names).get (K + 8 + (0 + j)) = some (.row e 0 g)) ∧ inv? names (K + 8 + (0 + j)) = none := by
  obtain ⟨g, hg⟩ := (nlRows_get (P := P) K (lv P t) cs 0).2 j τ v e ht hv he
  have hm : (K + 8 + (0 + j), Ob.row e 0 g) ∈ names.flatMap (nlOf P os) := List.mem_flatMap.2 ⟨(k, K), h, by unfold nlOf; simp only [hl]; exact hg⟩
  exact ⟨⟨g, get_sets_in _ [] L.n2 (List.mem_append.2 (.inr hm))⟩, L.n3.2 _ (List.mem_map_of_mem (f := (·.1)) hm)⟩
theorem Lent.means (L : Lent P M os names) {O' : Nat → Prop} {k : Nat} (h : k ∈ names.map (·.1)) : Means M β hd (lentM P os names) (lentB names β O') (lentH names hd) k (find names k) := by
  obtain ⟨x, hx, rfl⟩ := List.mem_map.1 h
  rw [find_of L.n1 (k := x.1) (K := x.2) hx]
  have hi := inv_of L.n3.1 (k := x.1) (K := x.2) hx
  have hb : lentB names β O' x.2 = β x.1 := by show (match inv? names x.2 with | some k => β k | none => 0) = _; rw [hi]
  have hh : lentH names hd x.2 = hd x.1 := by unfold lentH; rw [hi]
  rcases L.at (k := x.1) (K := x.2) hx with ⟨t, cs, _, h2, h3, _⟩ | ⟨e, n, g, _, h2, h3⟩
  · exact ⟨by rw [h3]; simp, fun t' cs' h4 => by rw [h3] at h4; cases h4; exact ⟨⟨cs, h2⟩, hb⟩, fun e n g h4 => by rw [h3] at h4; cases h4⟩
  · exact ⟨by rw [h3]; simp, (fun t' cs' h4 => by rw [h3] at h4; cases h4), fun e' n' g' h4 => by rw [h3] at h4; cases h4; exact ⟨⟨g, h2⟩, hh⟩⟩
theorem Lent.owns (L : Lent P M os names) {O' : Nat → Prop} {K b : Nat} (h : Owns (lentM P os names) (lentB names β O') (lentH names hd) K b) : ∃ k, (k, K) ∈ names ∧ Owns M β hd k b := by
  have main : ∀ ob, (lentM P os names).get K = some ob → (∃ k, (k, K) ∈ names ∧ inv? names K = some k) ∨ (inv? names K = none ∧ ∃ e g, ob = .row e 0 g) := by
    intro ob hob
    rcases L.inv hob with ⟨k, hk⟩ | ⟨h1, e, g, h2, _⟩
    · exact .inl ⟨k, hk, inv_of L.n3.1 hk⟩
    · exact .inr ⟨h1, e, g, h2⟩
  rcases h with ⟨t, cs, h1, h2⟩ | ⟨e, n, g, h1, h2⟩
  · rcases main _ h1 with ⟨k, hk, hi⟩ | ⟨_, e, g, h3⟩
    · refine ⟨k, hk, ?_⟩
      have hb : lentB names β O' K = β k := by show (match inv? names K with | some k => β k | none => 0) = _; rw [hi]
      rcases L.at hk with ⟨t', cs', _, h4, h5, _⟩ | ⟨_, _, _, _, _, h5⟩
      · exact .inl ⟨t', cs', h4, hb ▸ h2⟩
      · rw [h1] at h5; cases h5
    · cases h3
  · rcases main _ h1 with ⟨k, hk, hi⟩ | ⟨hi, _, _, _⟩
    · refine ⟨k, hk, ?_⟩
      have hh : lentH names hd K = hd k := by unfold lentH; rw [hi]
      rcases L.at hk with ⟨t', cs', _, h4, h5, _⟩ | ⟨e', n', g', _, h4, h5⟩
      · rw [h1] at h5; cases h5
      · exact .inr ⟨e', n', g', h4, hh ▸ h2⟩
    · have hh : lentH names hd K = .slice none 0 0 := by unfold lentH; rw [hi]
      rw [hh] at h2
      simp [Value.ownBlock] at h2
def lentF (P : Program) (w : World) (β : Bn) (hd : Nat → Value) (os : List (Nat × Option Ob)) (names : List (Nat × Nat)) (O' : Nat → Prop) : Fr0 := ⟨w, lentM P os names, lentB names β O', lentH names hd⟩
theorem Lent.sim (L : Lent P M os names) (h : Sim P w0 w M β hd) {O' : Nat → Prop} (hO : ∀ b, O' b → Own M β hd b) (hN : ∀ k b, k ∈ names.map (·.1) → Owns M β hd k b → ¬ O' b) :
    Keeps w (Own M β hd) w (Own (lentM P os names) (lentB names β O') (lentH names hd)) ∧ Sim P (lentF P w β hd os names O') w (lentM P os names) (lentB names β O') (lentH names hd) := by
  have hown : ∀ b, Own (lentM P os names) (lentB names β O') (lentH names hd) b → Own M β hd b := by
    rintro b (⟨K, hK⟩ | hb)
    · obtain ⟨k, _, hk⟩ := L.owns hK
      exact .inl ⟨k, hk⟩
    · exact hO b hb
  have hkp : Keeps w (Own M β hd) w (Own (lentM P os names) (lentB names β O') (lentH names hd)) := ⟨Nat.le_refl _, fun b _ ho => ⟨rfl, fun h => ho (hown b h)⟩⟩
  have hlt : ∀ b, Own M β hd b → b < w.heap.size := by
    rintro b (⟨k, hk⟩ | hb)
    · exact (h.ge k b hk).2
    · exact h.far_lt hb
  refine ⟨hkp, ⟨Under.refl, fun K b hK => ⟨.inr ⟨K, hK⟩, hlt b (hown b (.inl ⟨K, hK⟩))⟩, fun K K' b hK hK' => ?_, fun b hb hm => ?_, fun K t cs hm => ?_, fun K e n g hm => ?_, fun g hg => ⟨?_, Nat.lt_of_lt_of_le (h.tab g hg).2.1 h.below.size, ?_⟩⟩⟩
  · obtain ⟨k, h1, h2⟩ := L.owns hK
    obtain ⟨k', h1', h2'⟩ := L.owns hK'
    obtain rfl := h.inj k k' b h2 h2'
    rw [← find_of L.n1 h1, ← find_of L.n1 h1']
  · rcases hm with hm | ⟨K, hK⟩
    · exact absurd (hlt b (hO b hb)) (Nat.not_lt.2 hm)
    · obtain ⟨k, h1, h2⟩ := L.owns hK
      exact hN k b (List.mem_map_of_mem (f := (·.1)) h1) h2 hb
  · rcases L.inv hm with ⟨k, hk⟩ | ⟨_, e, g, h3, _⟩
    · rcases L.at hk with ⟨t', cs', hl, h4, h5, hlen, hrefs⟩ | ⟨_, _, _, _, _, h5⟩
      · rw [hm] at h5
        cases h5
        have hi := inv_of L.n3.1 hk
        have hb : lentB names β O' K = β k := by show (match inv? names K with | some k => β k | none => 0) = _; rw [hi]
        obtain ⟨h9, h10⟩ := cellsIn_get (P := P) (f := find names) K (lv P t) cs' 0 hlen
        rcases h.box k t cs' h4 with ⟨hnm, c, h6, h7, h8⟩ | ⟨hnm, hmap⟩
        rotate_left
        · have hcs : cellsIn P (find names) K 0 (lv P t) cs' = cs' := by
            obtain ⟨t0, kt, vt, x, es, _, _, _, _, hcs, _⟩ := hmap
            subst hcs
            match hlv : lv P t, hlen with
            | [τ], _ => simp [cellsIn, nlT, ren]
            | [], hlen => cases hlen
            | _ :: _ :: _, hlen => simp at hlen
          rw [hcs]
          exact .inr ⟨hnm, hmap.keep hkp (by rw [hb])⟩
        refine .inl ⟨hnm, c, by rw [hb]; exact h6, by omega, fun j x hj => ?_⟩
        obtain ⟨τ, v, h11, h12, h13⟩ := h10 j x hj
        have hr := h8 j v h12
        rcases h13 with ⟨e, h14, rfl⟩ | ⟨h14, rfl⟩
        · obtain ⟨⟨g, h15⟩, h16⟩ := L.nl hk hl h11 h12 h14
          have hh : lentH names hd (K + 8 + (0 + j)) = .slice none 0 0 := by unfold lentH; rw [h16]
          rw [nlT_inv h14] at hr
          generalize c.getD j undef = u at hr ⊢
          cases hr
          refine .row (by rw [h15]; simp) rfl fun e' n' g' hq => ?_
          rw [hh]
          exact .inl ⟨rfl, ⟨_, rfl⟩, rfl, rfl⟩
        · exact ren_RC hr (fun q hq _ => L.means (hrefs q (mem_refsL' h12 hq))) (.inr hkp)
      · rw [hm] at h5; cases h5
    · cases h3
  · rcases L.inv hm with ⟨k, hk⟩ | ⟨hi, e', g', h3, hpos⟩
    · rcases L.at hk with ⟨_, _, _, _, h5, _⟩ | ⟨e', n', g', _, h4, h5⟩
      · rw [hm] at h5; cases h5
      · rw [hm] at h5
        cases h5
        have hi := inv_of L.n3.1 hk
        have hh : lentH names hd K = hd k := by unfold lentH; rw [hi]
        obtain ⟨h6, xs, h7, h8⟩ := h.row k e n g h4
        refine ⟨h6, xs, by rw [hh]; exact h7, fun i j τ hi hj => ?_⟩
        obtain ⟨v, h9, h10⟩ := h8 i j τ hi hj
        exact ⟨v, h9, h10.keep hkp⟩
    · cases h3
      have hh : lentH names hd K = .slice none 0 0 := by unfold lentH; rw [hi]
      exact ⟨hpos, [], by rw [hh]; exact World.ownsRow_nil w 0 e _, fun i j τ hi _ => absurd hi (Nat.not_lt_zero _)⟩
  · rintro ⟨K, hK⟩
    obtain ⟨k, _, hk⟩ := L.owns hK
    exact h.tab.not_mine hg (h.ge k g hk).1
  · have h1 := (h.tab g hg).2.2
    show Lib.TabIs P w _ _ _
    unfold Lib.TabIs World.var? at h1 ⊢
    rw [hg] at h1 ⊢
    simp only [Option.bind_some] at h1 ⊢
    rw [UStep.block h.below g (h.tab.not_mine hg)]
    exact h1
end
end Go.AM
