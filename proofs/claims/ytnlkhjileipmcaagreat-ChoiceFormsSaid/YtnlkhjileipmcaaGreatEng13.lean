/- The engine, part 13: results; functions; all calls. -/
import Derived.Test.YtnlkhjileipmcaaGreatEng12
set_option linter.unusedSimpArgs false
set_option linter.unusedVariables false
namespace Go.AM
open Go.RowKit (Below)

section
variable {P : Program} {w0 : Fr0} {w : World} {M : Store} {β : Bn} {hd : Nat → Value} {s : St} {a : Act}
theorem resVal_ok (C : Ctx P w0 w s.M β hd s.slots a) {rv : ResultVar} {v : AV} (h : resVal P s rv = some v) :
    ∃ u, ((match rv with | .tmp t => pure (a.tmps.getD t undef) | .cell b t => do loadVar t (← asAddr (a.tmps.getD b undef)) : Sem Value)).run P w = .ok u w ∧ RA P w s.M β hd v u := by
  cases rv with
  | tmp t =>
    cases h
    exact ⟨_, rfl, evO_rel C.slots (.tmp t)⟩
  | cell b t =>
    simp only [resVal] at h
    split at h
    · rename_i k off hsl
      split at h
      · rename_i bt cs hm
        have hv := (slot_rel C.slots hsl).ptr_inv hm
        obtain ⟨c, el, hheap, hsz, hcs⟩ := C.sim.box k bt cs hm
        obtain ⟨hb, h1⟩ := bif_inv h
        clear h
        rw [Bool.and_eq_true] at hb
        obtain ⟨ht, hle⟩ := hb
        have hle : off + sizeT P t ≤ cs.length := Nat.le_of_ble_eq_true hle
        have hcell : ∀ j, off + j < c.size → w.cell? ((⟨β k, off, none⟩ : Addr).add j) = some (c.getD (off + j) undef) := by
          intro j hj
          rw [add_eq]
          simp [World.cell?, hheap, Array.getD_eq_getD_getElem?, hj]
        simp only [hv]
        cases hag : isAg P t with
        | true =>
          rw [hag] at h1
          cases h1
          refine ⟨.agg ((List.range (sizeT P t)).map fun j => c.getD (off + j) undef).toArray, ?_, .ag (by simp; omega) fun j y hj => ?_⟩
          · unfold loadVar
            simp only [asAddr, Sem.run_bind, Sem.run_pure, Result.andThen_ok, run_isAg ht, hag, if_true, run_sizeT ht]
            rw [run_loadCells w _ _ (fun j => c.getD (off + j) undef) (fun j hj => hcell j (by omega))]
            rfl
          · rw [List.getElem?_take] at hj
            split at hj
            · rename_i hjs
              rw [List.getElem?_drop] at hj
              have h3 : (((List.range (sizeT P t)).map fun j => c.getD (off + j) undef).toArray).getD j undef = c.getD (off + j) undef := by
                simp [Array.getD_eq_getD_getElem?, hjs]
              rw [h3]
              exact hcs _ _ hj
            · cases hj
        | false =>
          rw [hag] at h1
          simp only [cond_false] at h1
          have hlt : off < c.size := by rw [hsz]; exact (List.getElem?_eq_some_iff.1 h1).1
          have h0 := hcell 0 (by omega)
          rw [add_eq] at h0
          simp only [Nat.add_zero] at h0
          refine ⟨c.getD off undef, ?_, .c (hcs off v h1)⟩
          simp [asAddr, loadVar, run_isAg ht, hag, h0]
      · cases h
    · cases h
theorem resVals_ok (C : Ctx P w0 w s.M β hd s.slots a) : ∀ {rs : List ResultVar} {vs : List AV}, resVals P s rs = some vs →
    ∃ us : List Value, (rs.mapM (fun | .tmp t => pure (a.tmps.getD t undef) | .cell b t => do loadVar t (← asAddr (a.tmps.getD b undef)) : ResultVar → Sem Value)).run P w = .ok us w ∧ us.length = vs.length ∧ vs.length = rs.length ∧ ∀ (j : Nat) (v : AV) (u : Value), vs[j]? = some v → us[j]? = some u → RA P w s.M β hd v u
  | [], _, h => by
    cases h
    exact ⟨[], rfl, rfl, rfl, fun j v u h => by simp at h⟩
  | r :: rs, _, h => by
    simp only [resVals] at h
    split at h
    · rename_i v vs hv hvs
      cases h
      obtain ⟨u, h1, h2⟩ := resVal_ok C hv
      obtain ⟨us, h3, h4, h5, h6⟩ := resVals_ok C hvs
      refine ⟨u :: us, ?_, by simp [h4], by simp [h5], fun j v' u' hj hj' => ?_⟩
      · rw [List.mapM_cons, Sem.run_bind, h1, Result.andThen_ok, Sem.run_bind, h3]
        rfl
      · cases j with
        | zero =>
          obtain rfl : v = v' := by simpa using hj
          obtain rfl : u = u' := by simpa using hj'
          exact h2
        | succ j => exact h6 j v' u' hj hj'
    · cases h
theorem results_run {fn : Func} {us : List Value} (h : (fn.results.toList.mapM (fun | .tmp t => pure (a.tmps.getD t undef) | .cell b t => do loadVar t (← asAddr (a.tmps.getD b undef)) : ResultVar → Sem Value)).run P w = .ok us w) :
    (results fn a.tmps).run P w = .ok (outV us) w := by
  have key : ∀ (m : Sem (List Value)), m.run P w = .ok us w → ((List.toArray <$> m) >>= fun vs => pure (if h : vs.size = 1 then vs[0] else .tuple vs) : Sem Value).run P w = .ok (outV us) w := by
    intro m hm
    simp only [Sem.run_bind, map_eq_pure_bind]
    rw [hm]
    simp only [Result.andThen_ok, Sem.run_pure]
    congr 1
    match us with
    | [] => rfl
    | [u] => rfl
    | u :: u' :: l => rfl
  unfold results
  rw [Array.mapM_eq_mapM_toList]
  exact key _ h

/-! ### What is taken -/
def cutHd (v : Value) (len : Nat) : Value := match v with
  | .slice (some a) _ cap => .slice (some a) len cap
  | v => v
theorem ownBlock_cutHd (v : Value) (len : Nat) : (cutHd v len).ownBlock = v.ownBlock := by
  unfold cutHd
  split <;> rfl
def RowFact (P : Program) (M : Store) (hd : Nat → Value) (tk : Tk) (x : Nat × TypeId × Nat) : Prop :=
  (∃ k len n0 g u, (x.1, some (k, len)) ∈ tk.rw ∧ M.get k = some (.row x.2.1 n0 g) ∧ (x.2.2, T.l len fun i j => g i j) ∈ tk.ps ∧ RowV P x.2.1 (hd k) n0 0 len u) ∨
  ((x.1, none) ∈ tk.rw ∧ (x.2.2, noT) ∈ tk.ps ∧ 0 < (lv P x.2.1).length)
theorem RowFact.sub {M : Store} {hd : Nat → Value} {tk tk' : Tk} {x : Nat × TypeId × Nat} (h : RowFact P M hd tk x) (h1 : ∀ y ∈ tk.rw, y ∈ tk'.rw) (h2 : ∀ y ∈ tk.ps, y ∈ tk'.ps) : RowFact P M hd tk' x := by
  rcases h with ⟨k, len, n0, g, u, h3, h4, h5, h6⟩ | ⟨h3, h4, h5⟩
  · exact .inl ⟨k, len, n0, g, u, h1 _ h3, h4, h2 _ h5, h6⟩
  · exact .inr ⟨h1 _ h3, h2 _ h4, h5⟩
theorem app_l {a b : Tk} : (∀ y ∈ a.ps, y ∈ (a.app b).ps) ∧ (∀ y ∈ a.rw, y ∈ (a.app b).rw) ∧ (∀ y ∈ a.fz, y ∈ (a.app b).fz) := ⟨fun _ h => List.mem_append.2 (.inl h), fun _ h => List.mem_append.2 (.inl h), fun _ h => List.mem_append.2 (.inl h)⟩
theorem app_r {a b : Tk} : (∀ y ∈ b.ps, y ∈ (a.app b).ps) ∧ (∀ y ∈ b.rw, y ∈ (a.app b).rw) ∧ (∀ y ∈ b.fz, y ∈ (a.app b).fz) := ⟨fun _ h => List.mem_append.2 (.inr h), fun _ h => List.mem_append.2 (.inr h), fun _ h => List.mem_append.2 (.inr h)⟩
theorem takeL_cons {kk : List (Nat × Nat)} {as : List TA} {cs : List AV} {a : TA} {c : AV} {tk : Tk} (h : TA.takeL P M kk (a :: as) (c :: cs) = some tk) : ∃ x y, TA.take P M kk a c = some x ∧ TA.takeL P M kk as cs = some y ∧ tk = x.app y := by
  simp only [TA.takeL] at h
  split at h
  · rename_i x y hx hy
    cases h
    exact ⟨x, y, hx, hy, rfl⟩
  · cases h
mutual
theorem take_rows {kk : List (Nat × Nat)} : ∀ (a : TA) (v : AV) (u : Value) (tk : Tk), TA.take P M kk a v = some tk → RA P w M β hd v u → ∀ x ∈ TA.rows a, RowFact P M hd tk x
  | .row K e n, v, u, tk, h, hr, x, hx => by
    obtain rfl : x = (K, e, n) := by simpa [TA.rows] using hx
    cases v with
    | row k off len =>
      cases off with
      | succ off => simp [TA.take] at h
      | zero =>
        simp only [TA.take] at h
        split at h
        · rename_i e' n0 g hm
          obtain ⟨he, h1⟩ := bif_inv h
          obtain rfl : e = e' := eq_of_beq he
          cases h1
          have hrr := hr.row_inv
          cases hrr with
          | row h0 h1 h2 => exact .inl ⟨k, len, n0, g, u, by simp, hm, by simp, h2 e n0 g hm⟩
        · cases h
    | nl =>
      simp only [TA.take] at h
      obtain ⟨he, h1⟩ := bif_inv h
      cases h1
      exact .inr ⟨by simp, by simp, by simpa using he⟩
    | _ => simp [TA.take] at h
  | .clo f as, v, u, tk, h, hr, x, hx => by
    cases v with
    | clo f' cs =>
      simp only [TA.take] at h
      obtain ⟨_, h1⟩ := bif_inv h
      obtain ⟨vs, _, _, hcs⟩ := hr.clo_inv
      exact take_rowsL as cs tk (fun j => vs.getD j undef) h1 (fun j c hj => .c (hcs j c hj)) x (by simpa [TA.rows] using hx)
    | _ => simp [TA.take] at h
  | .ag as, v, u, tk, h, hr, x, hx => by
    cases v with
    | ag cs =>
      simp only [TA.take] at h
      obtain ⟨vs, _, _, hcs⟩ := hr.ag_inv
      exact take_rowsL as cs tk (fun j => vs.getD j undef) h (fun j c hj => .c (hcs j c hj)) x (by simpa [TA.rows] using hx)
    | _ => simp [TA.take] at h
  | .b _, _, _, _, _, _, _, hx => by simp [TA.rows] at hx
  | .i .., _, _, _, _, _, _, hx => by simp [TA.rows] at hx
  | .s _, _, _, _, _, _, _, hx => by simp [TA.rows] at hx
  | .sl .., _, _, _, _, _, _, hx => by simp [TA.rows] at hx
  | .rp .., _, _, _, _, _, _, hx => by simp [TA.rows] at hx
  | .ptr .., _, _, _, _, _, _, hx => by simp [TA.rows] at hx
  | .nl, _, _, _, _, _, _, hx => by simp [TA.rows] at hx
  | .und, _, _, _, _, _, _, hx => by simp [TA.rows] at hx
theorem take_rowsL {kk : List (Nat × Nat)} : ∀ (as : List TA) (cs : List AV) (tk : Tk) (us : Nat → Value), TA.takeL P M kk as cs = some tk → (∀ j c, cs[j]? = some c → RA P w M β hd c (us j)) → ∀ x ∈ TA.rowsL as, RowFact P M hd tk x
  | [], _, _, _, _, _, x, hx => by simp [TA.rowsL] at hx
  | _ :: _, [], _, _, h, _, _, _ => by simp [TA.takeL] at h
  | a :: as, c :: cs, tk, us, h, hr, x, hx => by
    obtain ⟨t1, t2, h1, h2, rfl⟩ := takeL_cons h
    simp only [TA.rowsL, List.mem_append] at hx
    rcases hx with hx | hx
    · exact (take_rows a c (us 0) t1 h1 (hr 0 c rfl) x hx).sub app_l.2.1 app_l.1
    · exact (take_rowsL as cs t2 (fun j => us (j + 1)) h2 (fun j c' hj => hr (j + 1) c' (by simpa using hj)) x hx).sub app_r.2.1 app_r.1
end
theorem takeL_len {kk : List (Nat × Nat)} : ∀ {as : List TA} {cs : List AV} {tk : Tk}, TA.takeL P M kk as cs = some tk → as.length = cs.length
  | [], [], _, _ => rfl
  | [], _ :: _, _, h => by simp [TA.takeL] at h
  | _ :: _, [], _, h => by simp [TA.takeL] at h
  | a :: as, c :: cs, tk, h => by
    obtain ⟨t1, t2, h1, h2, rfl⟩ := takeL_cons h
    simp [takeL_len h2]
theorem takeBs_at {kk : List (Nat × Nat)} : ∀ {bs : List TB} {tk : Tk}, takeBs P M kk bs = some tk → ∀ b ∈ bs, ∃ cs t1, M.get b.k = some (.box b.t cs) ∧ TA.takeL P M kk b.cs cs = some t1 ∧ (∀ y ∈ t1.ps, y ∈ tk.ps) ∧ (∀ y ∈ t1.rw, y ∈ tk.rw) ∧ (∀ y ∈ t1.fz, y ∈ tk.fz)
  | [], _, _, b, hb => by cases hb
  | c :: bs, tk, h, b, hb => by
    simp only [takeBs] at h
    split at h
    · rename_i t cs hm
      obtain ⟨ht, h1⟩ := bif_inv h
      obtain rfl := eq_of_beq ht
      split at h1
      · rename_i x y hx hy
        cases h1
        rcases List.mem_cons.1 hb with rfl | hb
        · exact ⟨cs, x, hm, hx, app_l.1, app_l.2.1, app_l.2.2⟩
        · obtain ⟨cs', t1, h2, h3, h4, h5, h6⟩ := takeBs_at hy b hb
          exact ⟨cs', t1, h2, h3, fun z hz => app_r.1 z (h4 z hz), fun z hz => app_r.2.1 z (h5 z hz), fun z hz => app_r.2.2 z (h6 z hz)⟩
      · cases h1
    · cases h
theorem takeRs_at : ∀ {rs : List (Nat × TypeId × Nat)} {tk : Tk}, takeRs M rs = some tk → (∀ x ∈ rs, ∃ m g, M.get x.1 = some (.row x.2.1 m g) ∧ (x.2.2, T.l m fun i j => g i j) ∈ tk.ps) ∧ tk.rw = [] ∧ tk.fz = []
  | [], _, h => by cases h; exact ⟨(fun x hx => by cases hx), rfl, rfl⟩
  | (K, e, n) :: rs, tk, h => by
    simp only [takeRs] at h
    split at h
    · rename_i e' m g y hm hy
      obtain ⟨he, h1⟩ := bif_inv h
      obtain rfl : e = e' := eq_of_beq he
      cases h1
      obtain ⟨h2, h3, h4⟩ := takeRs_at hy
      refine ⟨fun x hx => ?_, by simp [Tk.app, h3], by simp [Tk.app, h4]⟩
      rcases List.mem_cons.1 hx with rfl | hx
      · exact ⟨m, g, hm, by simp [Tk.app]⟩
      · obtain ⟨m', g', h5, h6⟩ := h2 x hx
        exact ⟨m', g', h5, app_r.1 _ h6⟩
    · cases h
theorem lookR_of : ∀ {ps : List (Nat × T)} {n : Nat} {x : T}, (ps.map (·.1)).Nodup → (n, x) ∈ ps → lookR ps n = x
  | [], _, _, _, h => by cases h
  | (q, y) :: r, n, x, hn, h => by
    simp only [List.map_cons, List.nodup_cons] at hn
    simp only [lookR]
    rcases List.mem_cons.1 h with h | h
    · cases h; simp
    · have : (q == n) = false := by
        cases hq : q == n with
        | false => rfl
        | true => rw [eq_of_beq hq] at hn; exact absurd (List.mem_map_of_mem (f := (·.1)) h) hn.1
      rw [this]
      exact lookR_of hn.2 h
theorem allOf_lk {k : Nat} {ob : Ob} (h : lk (allOf M) k = some ob) : M.get k = some ob := by
  unfold allOf at h
  induction M with
  | nil => simp [lk] at h
  | cons x r ih =>
    obtain ⟨q, o⟩ := x
    unfold lk at h
    rw [List.map_cons, List.find?_cons] at h
    simp only [Store.get]
    cases hq : q == k with
    | true =>
      simp only [hq] at h
      exact h
    | false =>
      simp only [hq] at h
      exact ih h
theorem nodup_filterMap_inj {α : Type} {f : α → Option Nat} : ∀ {l : List α}, (l.filterMap f).Nodup → ∀ {a b : α} {c : Nat}, a ∈ l → b ∈ l → f a = some c → f b = some c → a = b
  | [], _, _, _, _, h, _, _, _ => by cases h
  | x :: l, hn, a, b, c, ha, hb, h1, h2 => by
    have hn' : (l.filterMap f).Nodup := by
      rw [List.filterMap_cons] at hn
      split at hn
      · exact hn
      · exact (List.nodup_cons.1 hn).2
    have key : ∀ y, y ∈ l → f y = some c → f x = some c → False := by
      intro y hy h3 h4
      rw [List.filterMap_cons, h4] at hn
      exact (List.nodup_cons.1 hn).1 (List.mem_filterMap.2 ⟨y, hy, h3⟩)
    rcases List.mem_cons.1 ha with ha | ha <;> rcases List.mem_cons.1 hb with hb | hb
    · rw [ha, hb]
    · exact (key b hb h2 (ha ▸ h1)).elim
    · exact (key a ha h1 (hb ▸ h2)).elim
    · exact nodup_filterMap_inj hn' ha hb h1 h2

/-- All that is known where a template is filled. -/
structure Fill (P : Program) (w : World) (M : Store) (β : Bn) (hd : Nat → Value) (M1 : Store) (β1 : Bn) (hd1 : Nat → Value) (kk : List (Nat × Nat)) (r : R) (tk : Tk) : Prop where
  ps : ∀ x ∈ tk.ps, r x.1 = x.2
  own : ∀ b, Own M1 β1 hd1 b → Own M β hd b
  fz : ∀ k b, k ∈ tk.fz → Owns M β hd k b → ¬ Own M1 β1 hd1 b
  row : ∀ K k len, (K, some (k, len)) ∈ tk.rw → hd1 K = cutHd (hd k) len
  nil : ∀ K, (K, none) ∈ tk.rw → hd1 K = .slice none 0 0
  ptr : ∀ K k, inv? kk K = some k → M1.get K ≠ none ∧ (∃ t cs, M.get k = some (.box t cs)) ∧ β1 K = β k
theorem Fill.sub {M1 : Store} {β1 : Bn} {hd1 : Nat → Value} {kk : List (Nat × Nat)} {r : R} {tk tk' : Tk} (F : Fill P w M β hd M1 β1 hd1 kk r tk') (h1 : ∀ y ∈ tk.ps, y ∈ tk'.ps) (h2 : ∀ y ∈ tk.rw, y ∈ tk'.rw) (h3 : ∀ y ∈ tk.fz, y ∈ tk'.fz) : Fill P w M β hd M1 β1 hd1 kk r tk :=
  ⟨fun x hx => F.ps x (h1 x hx), F.own, fun k b hk => F.fz k b (h3 k hk), fun K k len hx => F.row K k len (h2 _ hx), fun K hx => F.nil K (h2 _ hx), F.ptr⟩
theorem RowV.cut {e : TypeId} {h v : Value} {n len : Nat} (hv : RowV P e h n 0 len v) : RowV P e (cutHd h len) len 0 len v := by
  rcases hv with ⟨h1, h2, _, h4⟩ | ⟨g, cap, a, h1, h2, h3, h4, h5⟩
  · exact .inl ⟨by rw [h1]; rfl, h2, rfl, h4⟩
  · exact .inr ⟨g, cap, a, by rw [h1]; rfl, by omega, by omega, h4, h5⟩
mutual
theorem take_RC {M1 : Store} {β1 : Bn} {hd1 : Nat → Value} {kk : List (Nat × Nat)} {r : R} (hs : Sim P w0 w M β hd) : ∀ (a : TA) (v : AV) (u : Value) (tk : Tk), TA.take P M kk a v = some tk → Fill P w M β hd M1 β1 hd1 kk r tk →
    (∀ x ∈ TA.rows a, M1.get x.1 = some (.row x.2.1 (r x.2.2).len fun i j => (r x.2.2).el i j)) → RC P w M β hd v u → RC P w M1 β1 hd1 (TA.inst r a) u
  | .b n, v, u, tk, h, F, _, hr => by
    cases v with
    | b x =>
      simp only [TA.take, Option.some.injEq] at h
      subst h
      have h1 := F.ps (n, .b x) (by simp)
      cases hr
      simp only [TA.inst, h1]
      exact .b _
    | _ => simp [TA.take] at h
  | .i k n, v, u, tk, h, F, _, hr => by
    cases v with
    | i k' x =>
      simp only [TA.take] at h
      obtain ⟨hk, h0⟩ := bif_inv h
      obtain rfl := eq_of_beq hk
      cases h0
      have h1 := F.ps (n, .i x) (by simp)
      cases hr
      simp only [TA.inst, h1]
      exact .i ..
    | _ => simp [TA.take] at h
  | .s n, v, u, tk, h, F, _, hr => by
    cases v with
    | s x =>
      simp only [TA.take, Option.some.injEq] at h
      subst h
      have h1 := F.ps (n, .s x) (by simp)
      cases hr
      simp only [TA.inst, h1]
      exact .s _
    | _ => simp [TA.take] at h
  | .sl t e n, v, u, tk, h, F, _, hr => by
    have h' : (bif conf P (allOf M) t v && elemT P t == some e then (match frz (allOf M) v with
        | some x => some (⟨[(n, x)], [], rowKeys [v]⟩ : Tk)
        | none => none) else none) = some tk := by
      cases v <;> exact h
    obtain ⟨hc, h1⟩ := bif_inv h'
    rw [Bool.and_eq_true] at hc
    have hu := elemT_inv (eq_of_beq hc.2)
    split at h1
    · rename_i x hx
      cases h1
      have h2 := F.ps (n, x) (by simp)
      simp only at h2
      simp only [TA.inst, h2]
      exact .sl hu (frz_rel hs (fun k ob => allOf_lk) F.own (fun k b hk ho => F.fz k b hk ho) hc.1 hx hr)
    · cases h1
  | .rp t off ns, v, u, tk, h, F, _, hr => by
    cases v with
    | rp e c off' =>
      simp only [TA.take] at h
      obtain ⟨hc, h0⟩ := bif_inv h
      rw [Bool.and_eq_true, Bool.and_eq_true] at hc
      obtain rfl : t = e := eq_of_beq hc.1.1
      obtain rfl : off = off' := eq_of_beq hc.1.2
      have hlen : ns.length = (lv P t).length := eq_of_beq hc.2
      cases h0
      have h1 : ∀ j, j < ns.length → r (ns.getD j 0) = c j := by
        intro j hj
        refine F.ps (ns.getD j 0, c j) ?_
        rw [List.mem_iff_getElem?]
        exact ⟨j, by simp [List.getD_eq_getElem?_getD, List.getElem?_eq_getElem hj]⟩
      simp only [TA.inst]
      cases hr with
      | rp _ b o vs hb ho hv hrr =>
        refine .rp off b o vs hb (fun hq => ho (F.own b hq)) hv (fun j τ hj => ?_)
        have hj2 : j < (lv P t).length := (List.getElem?_eq_some_iff.1 hj).1
        rw [h1 j (by omega)]
        exact (hrr j τ hj).keep ⟨Nat.le_refl _, fun b _ hbo => ⟨rfl, fun hq => hbo (F.own b hq)⟩⟩
    | _ => simp [TA.take] at h
  | .row K e n, v, u, tk, h, F, hM, hr => by
    have hM := hM (K, e, n) (by simp [TA.rows])
    cases v with
    | row k off len =>
      cases off with
      | succ off => simp [TA.take] at h
      | zero =>
        simp only [TA.take] at h
        split at h
        · rename_i e' n0 g hm
          obtain ⟨he, h1⟩ := bif_inv h
          obtain rfl : e = e' := eq_of_beq he
          cases h1
          have h2 := F.ps (n, _) (List.mem_singleton.2 rfl)
          have h3 := F.row K k len (by simp)
          simp only at h2 hM
          rw [h2] at hM
          simp only [TA.inst, h2]
          cases hr with
          | row h0 h1 hv =>
            refine .row (by rw [hM]; simp) h1 fun e' n' g' hq => ?_
            rw [hM] at hq
            cases hq
            rw [h3]
            exact (hv e n0 g hm).cut
        · cases h
    | nl =>
      simp only [TA.take] at h
      obtain ⟨he, h1⟩ := bif_inv h
      cases h1
      have h2 := F.ps (n, _) (List.mem_singleton.2 rfl)
      have h3 := F.nil K (by simp)
      simp only at h2 hM
      rw [h2] at hM
      simp only [TA.inst, h2]
      cases hr
      refine .row (by rw [hM]; simp) rfl fun e' n' g' hq => ?_
      rw [h3]
      exact .inl ⟨rfl, rfl, rfl, rfl⟩
    | _ => simp [TA.take] at h
  | .ptr K off, v, u, tk, h, F, _, hr => by
    cases v with
    | ptr k off' =>
      simp only [TA.take] at h
      obtain ⟨hc, _⟩ := bif_inv h
      rw [Bool.and_eq_true] at hc
      obtain rfl := eq_of_beq hc.1
      have hc2 := hc.2
      split at hc2
      · rename_i k' hk
        obtain rfl := eq_of_beq hc2
        obtain ⟨h1, ⟨t, cs, h2⟩, h3⟩ := F.ptr K k' hk
        cases hr with
        | ptr h0 h4 h5 =>
          refine .ptr h1 h4 fun t' cs' _ => ?_
          rw [h3]
          exact h5 t cs h2
      · cases hc2
    | _ => simp [TA.take] at h
  | .nl, v, u, tk, h, F, _, hr => by
    cases v with
    | nl => cases hr; exact .nl
    | _ => simp [TA.take] at h
  | .und, v, u, tk, h, F, _, hr => .und hr.one
  | .clo f as, v, u, tk, h, F, hM, hr => by
    cases v with
    | clo f' cs =>
      simp only [TA.take] at h
      obtain ⟨hf, h1⟩ := bif_inv h
      obtain rfl := eq_of_beq hf
      cases hr with
      | @clo _ _ vs hl hcs =>
        have h2 := take_RCL hs as cs (fun j => vs.getD j undef) tk h1 F (fun x hx => hM x (by simpa [TA.rows] using hx)) hcs
        simp only [TA.inst]
        refine .clo ?_ h2
        rw [← hl, ← takeL_len h1, instL_map, List.length_map]
    | _ => simp [TA.take] at h
  | .ag as, v, u, tk, h, F, _, hr => by
    cases v with
    | ag cs => cases hr
    | _ => simp [TA.take] at h
theorem take_RCL {M1 : Store} {β1 : Bn} {hd1 : Nat → Value} {kk : List (Nat × Nat)} {r : R} (hs : Sim P w0 w M β hd) : ∀ (as : List TA) (cs : List AV) (us : Nat → Value) (tk : Tk), TA.takeL P M kk as cs = some tk → Fill P w M β hd M1 β1 hd1 kk r tk →
    (∀ x ∈ TA.rowsL as, M1.get x.1 = some (.row x.2.1 (r x.2.2).len fun i j => (r x.2.2).el i j)) → (∀ j c, cs[j]? = some c → RC P w M β hd c (us j)) → ∀ j c, (TA.instL r as)[j]? = some c → RC P w M1 β1 hd1 c (us j)
  | [], [], us, tk, _, _, _, _, j, c, hj => by simp [TA.instL] at hj
  | [], _ :: _, _, _, h, _, _, _, _, _, _ => by simp [TA.takeL] at h
  | _ :: _, [], _, _, h, _, _, _, _, _, _ => by simp [TA.takeL] at h
  | a :: as, c :: cs, us, tk, h, F, hM, hr, j, y, hj => by
    obtain ⟨t1, t2, h1, h2, rfl⟩ := takeL_cons h
    simp only [TA.instL] at hj
    cases j with
    | zero =>
      obtain rfl : TA.inst r a = y := by simpa using hj
      exact take_RC hs a c (us 0) t1 h1 (F.sub app_l.1 app_l.2.1 app_l.2.2) (fun x hx => hM x (by simp only [TA.rowsL, List.mem_append]; exact .inl hx)) (hr 0 c rfl)
    | succ j =>
      exact take_RCL hs as cs (fun j => us (j + 1)) t2 h2 (F.sub app_r.1 app_r.2.1 app_r.2.2) (fun x hx => hM x (by simp only [TA.rowsL, List.mem_append]; exact .inr hx)) (fun j c' hj' => hr (j + 1) c' (by simpa using hj')) j y (by simpa using hj)
end
theorem take_RA {M1 : Store} {β1 : Bn} {hd1 : Nat → Value} {kk : List (Nat × Nat)} {r : R} (hs : Sim P w0 w M β hd) (a : TA) (v : AV) (u : Value) (tk : Tk) (h : TA.take P M kk a v = some tk) (F : Fill P w M β hd M1 β1 hd1 kk r tk)
    (hM : ∀ x ∈ TA.rows a, M1.get x.1 = some (.row x.2.1 (r x.2.2).len fun i j => (r x.2.2).el i j)) (hr : RA P w M β hd v u) : RA P w M1 β1 hd1 (TA.inst r a) u := by
  by_cases hc : isCell v = true
  · exact .c (take_RC hs a v u tk h F hM (hr.cell hc))
  · cases v with
    | ag cs =>
      cases a with
      | ag as =>
        obtain ⟨vs, rfl, hl, hcs⟩ := hr.ag_inv
        simp only [TA.take] at h
        have h2 := take_RCL hs as cs (fun j => vs.getD j undef) tk h F (fun x hx => hM x (by simpa [TA.rows] using hx)) hcs
        simp only [TA.inst]
        refine .ag ?_ h2
        rw [← hl, ← takeL_len h, instL_map, List.length_map]
      | und => exact .und _
      | sl t e n =>
        exfalso
        simp only [TA.take] at h
        obtain ⟨h1, _⟩ := bif_inv h
        rw [Bool.and_eq_true] at h1
        have := h1.1
        unfold conf at this
        split at this <;> simp_all
      | _ => simp [TA.take] at h
    | tup cs =>
      cases a with
      | und => exact .und _
      | sl t e n =>
        exfalso
        simp only [TA.take] at h
        obtain ⟨h1, _⟩ := bif_inv h
        rw [Bool.and_eq_true] at h1
        have := h1.1
        unfold conf at this
        split at this <;> simp_all
      | _ => simp [TA.take] at h
    | und =>
      cases a with
      | und => exact .und _
      | sl t e n =>
        exfalso
        simp only [TA.take] at h
        obtain ⟨h1, _⟩ := bif_inv h
        rw [Bool.and_eq_true] at h1
        have := h1.1
        unfold conf at this
        split at this <;> simp_all
      | _ => simp [TA.take] at h
    | _ => simp [isCell] at hc
end
end Go.AM
