/- The engine, part 13: results; functions; all calls. -/
import Derived.Test.YtljfhfgbpcaadaaDoorEng12
set_option linter.unusedSimpArgs false
set_option linter.unusedVariables false
namespace Go.AM
open Go.RowKit (Below)
section
variable {P : Program} {w0 : Fr0} {w : World} {M : Store} {β : Bn} {hd : Nat → Value} {s : St} {a : Act}
theorem resVal_ok (C : Ctx P w0 w s.M β hd s.slots a) {rv : ResultVar} {v : AV} (h : resVal P s rv = some v) :
    ∃ u, ((match rv with | .tmp t => pure (a.tmps.getD t undef) | .cell b t => do loadVar t (← asAddr (a.tmps.getD b undef)) : Sem Value)).run P w = .ok u w ∧ RA P w s.M β hd v u := by
  cases rv with
  | tmp t =>
    cases h
    exact ⟨_, rfl, evO_rel C.slots (.tmp t)⟩
  | cell b t =>
    simp only [resVal] at h
    split at h
    · rename_i k off hsl
      split at h
      · rename_i bt cs hm
        obtain ⟨hb, h1⟩ := bif_inv h
        clear h
        rw [Bool.and_eq_true, Bool.and_eq_true] at hb
        obtain ⟨hnm, ht, hle⟩ := hb
        have hnm : isMapT bt = false := by simpa using hnm
        have hv := (slot_rel C.slots hsl).ptr_inv hm hnm
        obtain ⟨c, el, hheap, hsz, hcs⟩ := (C.sim.box k bt cs hm).cells hnm
        have hle : off + sizeT P t ≤ cs.length := Nat.le_of_ble_eq_true hle
        have hcell : ∀ j, off + j < c.size → w.cell? ((⟨β k, off, none⟩ : Addr).add j) = some (c.getD (off + j) undef) := by
          intro j hj
          rw [add_eq]
          simp [World.cell?, hheap, Array.getD_eq_getD_getElem?, hj]
        simp only [hv]
        cases hag : isAg P t with
        | true =>
          rw [hag] at h1
          cases h1
          refine ⟨.agg ((List.range (sizeT P t)).map fun j => c.getD (off + j) undef).toArray, ?_, .ag (by simp; omega) fun j y hj => ?_⟩
          · unfold loadVar
            simp only [asAddr, Sem.run_bind, Sem.run_pure, Result.andThen_ok, run_isAg ht, hag, if_true, run_sizeT ht]
            rw [run_loadCells w _ _ (fun j => c.getD (off + j) undef) (fun j hj => hcell j (by omega))]
            rfl
          · rw [List.getElem?_take] at hj
            split at hj
            · rename_i hjs
              rw [List.getElem?_drop] at hj
              have h3 : (((List.range (sizeT P t)).map fun j => c.getD (off + j) undef).toArray).getD j undef = c.getD (off + j) undef := by
                simp [Array.getD_eq_getD_getElem?, hjs]
              rw [h3]
              exact hcs _ _ hj
            · cases hj
        | false =>
          rw [hag] at h1
          simp only [cond_false] at h1
          have hlt : off < c.size := by rw [hsz]; exact (List.getElem?_eq_some_iff.1 h1).1
          have h0 := hcell 0 (by omega)
          rw [add_eq] at h0
          simp only [Nat.add_zero] at h0
          refine ⟨c.getD off undef, ?_, .c (hcs off v h1)⟩
          simp [asAddr, loadVar, run_isAg ht, hag, h0]
      · cases h
    · cases h
theorem resVals_ok (C : Ctx P w0 w s.M β hd s.slots a) : ∀ {rs : List ResultVar} {vs : List AV}, resVals P s rs = some vs →
    ∃ us : List Value, (rs.mapM (fun | .tmp t => pure (a.tmps.getD t undef) | .cell b t => do loadVar t (← asAddr (a.tmps.getD b undef)) : ResultVar → Sem Value)).run P w = .ok us w ∧ us.length = vs.length ∧ vs.length = rs.length ∧ ∀ (j : Nat) (v : AV) (u : Value), vs[j]? = some v → us[j]? = some u → RA P w s.M β hd v u
  | [], _, h => by
    cases h
    exact ⟨[], rfl, rfl, rfl, fun j v u h => by simp at h⟩
  | r :: rs, _, h => by
    simp only [resVals] at h
    split at h
    · rename_i v vs hv hvs
      cases h
      obtain ⟨u, h1, h2⟩ := resVal_ok C hv
      obtain ⟨us, h3, h4, h5, h6⟩ := resVals_ok C hvs
      refine ⟨u :: us, ?_, by simp [h4], by simp [h5], fun j v' u' hj hj' => ?_⟩
      · rw [List.mapM_cons, Sem.run_bind, h1, Result.andThen_ok, Sem.run_bind, h3]
        rfl
      · cases j with
        | zero =>
          obtain rfl : v = v' := by simpa using hj
          obtain rfl : u = u' := by simpa using hj'
          exact h2
        | succ j => exact h6 j v' u' hj hj'
    · cases h
theorem results_run {fn : Func} {us : List Value} (h : (fn.results.toList.mapM (fun | .tmp t => pure (a.tmps.getD t undef) | .cell b t => do loadVar t (← asAddr (a.tmps.getD b undef)) : ResultVar → Sem Value)).run P w = .ok us w) :
    (results fn a.tmps).run P w = .ok (outV us) w := by
  have key : ∀ (m : Sem (List Value)), m.run P w = .ok us w → ((List.toArray <$> m) >>= fun vs => pure (if h : vs.size = 1 then vs[0] else .tuple vs) : Sem Value).run P w = .ok (outV us) w := by
    intro m hm
    simp only [Sem.run_bind, map_eq_pure_bind]
    rw [hm]
    simp only [Result.andThen_ok, Sem.run_pure]
    congr 1
    match us with
    | [] => rfl
    | [u] => rfl
    | u :: u' :: l => rfl
  unfold results
  rw [Array.mapM_eq_mapM_toList]
  exact key _ h
def cutHd (v : Value) (len : Nat) : Value := match v with
  | .slice (some a) _ cap => .slice (some a) len cap
  | v => v
theorem ownBlock_cutHd (v : Value) (len : Nat) : (cutHd v len).ownBlock = v.ownBlock := by
  unfold cutHd
  split <;> rfl
def RowFact (P : Program) (M : Store) (hd : Nat → Value) (tk : Tk) (x : Nat × TypeId × Nat) : Prop :=
  (∃ k len n0 g u, (x.1, some (k, len)) ∈ tk.rw ∧ M.get k = some (.row x.2.1 n0 g) ∧ (x.2.2, T.l len fun i j => g i j) ∈ tk.ps ∧ RowV P x.2.1 (hd k) n0 0 len u) ∨
  ((x.1, none) ∈ tk.rw ∧ (x.2.2, noT) ∈ tk.ps ∧ 0 < (lv P x.2.1).length)
theorem RowFact.sub {M : Store} {hd : Nat → Value} {tk tk' : Tk} {x : Nat × TypeId × Nat} (h : RowFact P M hd tk x) (h1 : ∀ y ∈ tk.rw, y ∈ tk'.rw) (h2 : ∀ y ∈ tk.ps, y ∈ tk'.ps) : RowFact P M hd tk' x := by
  rcases h with ⟨k, len, n0, g, u, h3, h4, h5, h6⟩ | ⟨h3, h4, h5⟩
  · exact .inl ⟨k, len, n0, g, u, h1 _ h3, h4, h2 _ h5, h6⟩
  · exact .inr ⟨h1 _ h3, h2 _ h4, h5⟩
theorem app_l {a b : Tk} : (∀ y ∈ a.ps, y ∈ (a.app b).ps) ∧ (∀ y ∈ a.rw, y ∈ (a.app b).rw) ∧ (∀ y ∈ a.fz, y ∈ (a.app b).fz) := ⟨fun _ h => List.mem_append.2 (.inl h), fun _ h => List.mem_append.2 (.inl h), fun _ h => List.mem_append.2 (.inl h)⟩
theorem app_r {a b : Tk} : (∀ y ∈ b.ps, y ∈ (a.app b).ps) ∧ (∀ y ∈ b.rw, y ∈ (a.app b).rw) ∧ (∀ y ∈ b.fz, y ∈ (a.app b).fz) := ⟨fun _ h => List.mem_append.2 (.inr h), fun _ h => List.mem_append.2 (.inr h), fun _ h => List.mem_append.2 (.inr h)⟩
theorem takeL_cons {kk : List (Nat × Nat)} {as : List TA} {cs : List AV} {a : TA} {c : AV} {tk : Tk} (h : TA.takeL P M kk (a :: as) (c :: cs) = some tk) : ∃ x y, TA.take P M kk a c = some x ∧ TA.takeL P M kk as cs = some y ∧ tk = x.app y := by
  simp only [TA.takeL] at h
  split at h
  · rename_i x y hx hy
    cases h
    exact ⟨x, y, hx, hy, rfl⟩
  · cases h
mutual
theorem take_rows {kk : List (Nat × Nat)} : ∀ (a : TA) (v : AV) (u : Value) (tk : Tk), TA.take P M kk a v = some tk → RA P w M β hd v u → ∀ x ∈ TA.rows a, RowFact P M hd tk x
  | .row K e n, v, u, tk, h, hr, x, hx => by
    obtain rfl : x = (K, e, n) := by simpa [TA.rows] using hx
    cases v with
    | row k off len =>
      cases off with
      | succ off => simp [TA.take] at h
      | zero =>
        simp only [TA.take] at h
        split at h
        · rename_i e' n0 g hm
          obtain ⟨he, h1⟩ := bif_inv h
          obtain rfl : e = e' := eq_of_beq he
          cases h1
          have hrr := hr.row_inv
          cases hrr with
          | row h0 h1 h2 => exact .inl ⟨k, len, n0, g, u, by simp, hm, by simp, h2 e n0 g hm⟩
        · cases h
    | nl =>
      simp only [TA.take] at h
      obtain ⟨he, h1⟩ := bif_inv h
      cases h1
      exact .inr ⟨by simp, by simp, by simpa using he⟩
    | _ => simp [TA.take] at h
  | .clo f as, v, u, tk, h, hr, x, hx => by
    cases v with
    | clo f' cs =>
      simp only [TA.take] at h
      obtain ⟨hc, h1⟩ := bif_inv h
      simp only [Bool.and_eq_true, beq_iff_eq, Bool.not_eq_true'] at hc
      obtain ⟨vs, _, _, hcs⟩ := hr.clo_inv (hc.1 ▸ hc.2)
      exact take_rowsL as cs tk (fun j => vs.getD j undef) h1 (fun j c hj => .c (hcs j c hj)) x (by simpa [TA.rows] using hx)
    | _ => simp [TA.take] at h
  | .ag as, v, u, tk, h, hr, x, hx => by
    cases v with
    | ag cs =>
      simp only [TA.take] at h
      obtain ⟨vs, _, _, hcs⟩ := hr.ag_inv
      exact take_rowsL as cs tk (fun j => vs.getD j undef) h (fun j c hj => .c (hcs j c hj)) x (by simpa [TA.rows] using hx)
    | _ => simp [TA.take] at h
  | .b _, _, _, _, _, _, _, hx => by simp [TA.rows] at hx
  | .i .., _, _, _, _, _, _, hx => by simp [TA.rows] at hx
  | .s _, _, _, _, _, _, _, hx => by simp [TA.rows] at hx
  | .sl .., _, _, _, _, _, _, hx => by simp [TA.rows] at hx
  | .rp .., _, _, _, _, _, _, hx => by simp [TA.rows] at hx
  | .ptr .., _, _, _, _, _, _, hx => by simp [TA.rows] at hx
  | .nl, _, _, _, _, _, _, hx => by simp [TA.rows] at hx
  | .und, _, _, _, _, _, _, hx => by simp [TA.rows] at hx
theorem take_rowsL {kk : List (Nat × Nat)} : ∀ (as : List TA) (cs : List AV) (tk : Tk) (us : Nat → Value), TA.takeL P M kk as cs = some tk → (∀ j c, cs[j]? = some c → RA P w M β hd c (us j)) → ∀ x ∈ TA.rowsL as, RowFact P M hd tk x
  | [], _, _, _, _, _, x, hx => by simp [TA.rowsL] at hx
  | _ :: _, [], _, _, h, _, _, _ => by simp [TA.takeL] at h
  | a :: as, c :: cs, tk, us, h, hr, x, hx => by
    obtain ⟨t1, t2, h1, h2, rfl⟩ := takeL_cons h
    simp only [TA.rowsL, List.mem_append] at hx
    rcases hx with hx | hx
    · exact (take_rows a c (us 0) t1 h1 (hr 0 c rfl) x hx).sub app_l.2.1 app_l.1
    · exact (take_rowsL as cs t2 (fun j => us (j + 1)) h2 (fun j c' hj => hr (j + 1) c' (by simpa using hj)) x hx).sub app_r.2.1 app_r.1
end
theorem takeL_len {kk : List (Nat × Nat)} : ∀ {as : List TA} {cs : List AV} {tk : Tk}, TA.takeL P M kk as cs = some tk → as.length = cs.length
  | [], [], _, _ => rfl
  | [], _ :: _, _, h => by simp [TA.takeL] at h
  | _ :: _, [], _, h => by simp [TA.takeL] at h
  | a :: as, c :: cs, tk, h => by
    obtain ⟨t1, t2, h1, h2, rfl⟩ := takeL_cons h
    simp [takeL_len h2]
theorem takeMap_inv {t : TypeId} {as : List TA} {cs : List AV} {tk : Tk} (h : takeMap t as cs = some tk) : ∃ n x, as = [.sl t t n] ∧ cs = [.sl t x] ∧ tk = ⟨[(n, x)], [], []⟩ := by
  unfold takeMap at h
  split at h
  · rename_i t' e n e' x
    obtain ⟨hc, h1⟩ := bif_inv h
    rw [Bool.and_eq_true, Bool.and_eq_true] at hc
    obtain rfl := eq_of_beq hc.1.1
    obtain rfl := eq_of_beq hc.1.2
    obtain rfl := eq_of_beq hc.2
    cases h1
    exact ⟨n, x, rfl, rfl, rfl⟩
  · cases h
theorem takeBs_at {kk : List (Nat × Nat)} : ∀ {bs : List TB} {tk : Tk}, takeBs P M kk bs = some tk → ∀ b ∈ bs, ∃ cs t1, M.get b.k = some (.box b.t cs) ∧ (bif isMapT b.t then takeMap b.t b.cs cs else TA.takeL P M kk b.cs cs) = some t1 ∧ (∀ y ∈ t1.ps, y ∈ tk.ps) ∧ (∀ y ∈ t1.rw, y ∈ tk.rw) ∧ (∀ y ∈ t1.fz, y ∈ tk.fz)
  | [], _, _, b, hb => by cases hb
  | c :: bs, tk, h, b, hb => by
    simp only [takeBs] at h
    split at h
    · rename_i t cs hm
      obtain ⟨ht, h1⟩ := bif_inv h
      obtain rfl := eq_of_beq ht
      split at h1
      · rename_i x y hx hy
        cases h1
        rcases List.mem_cons.1 hb with rfl | hb
        · exact ⟨cs, x, hm, hx, app_l.1, app_l.2.1, app_l.2.2⟩
        · obtain ⟨cs', t1, h2, h3, h4, h5, h6⟩ := takeBs_at hy b hb
          exact ⟨cs', t1, h2, h3, fun z hz => app_r.1 z (h4 z hz), fun z hz => app_r.2.1 z (h5 z hz), fun z hz => app_r.2.2 z (h6 z hz)⟩
      · cases h1
    · cases h
theorem takeRs_at : ∀ {rs : List (Nat × TypeId × Nat)} {tk : Tk}, takeRs M rs = some tk → (∀ x ∈ rs, ∃ m g, M.get x.1 = some (.row x.2.1 m g) ∧ (x.2.2, T.l m fun i j => g i j) ∈ tk.ps) ∧ tk.rw = [] ∧ tk.fz = []
  | [], _, h => by cases h; exact ⟨(fun x hx => by cases hx), rfl, rfl⟩
  | (K, e, n) :: rs, tk, h => by
    simp only [takeRs] at h
    split at h
    · rename_i e' m g y hm hy
      obtain ⟨he, h1⟩ := bif_inv h
      obtain rfl : e = e' := eq_of_beq he
      cases h1
      obtain ⟨h2, h3, h4⟩ := takeRs_at hy
      refine ⟨fun x hx => ?_, by simp [Tk.app, h3], by simp [Tk.app, h4]⟩
      rcases List.mem_cons.1 hx with rfl | hx
      · exact ⟨m, g, hm, by simp [Tk.app]⟩
      · obtain ⟨m', g', h5, h6⟩ := h2 x hx
        exact ⟨m', g', h5, app_r.1 _ h6⟩
    · cases h
theorem lookR_of : ∀ {ps : List (Nat × T)} {n : Nat} {x : T}, (ps.map (·.1)).Nodup → (n, x) ∈ ps → lookR ps n = x
  | [], _, _, _, h => by cases h
  | (q, y) :: r, n, x, hn, h => by
    simp only [List.map_cons, List.nodup_cons] at hn
    simp only [lookR]
    rcases List.mem_cons.1 h with h | h
    · cases h; simp
    · have : (q == n) = false := by
        cases hq : q == n with
        | false => rfl
        | true => rw [eq_of_beq hq] at hn; exact absurd (List.mem_map_of_mem (f := (·.1)) h) hn.1
      rw [this]
      exact lookR_of hn.2 h
theorem allOf_lk {k : Nat} {ob : Ob} (h : lk (allOf M) k = some ob) : M.get k = some ob := by
  unfold allOf at h
  induction M with
  | nil => simp [lk] at h
  | cons x r ih =>
    obtain ⟨q, o⟩ := x
    unfold lk at h
    rw [List.map_cons, List.find?_cons] at h
    simp only [Store.get]
    cases hq : q == k with
    | true =>
      simp only [hq] at h
      exact h
    | false =>
      simp only [hq] at h
      exact ih h
theorem nodup_filterMap_inj {α : Type} {f : α → Option Nat} : ∀ {l : List α}, (l.filterMap f).Nodup → ∀ {a b : α} {c : Nat}, a ∈ l → b ∈ l → f a = some c → f b = some c → a = b
  | [], _, _, _, _, h, _, _, _ => by cases h
  | x :: l, hn, a, b, c, ha, hb, h1, h2 => by
    have hn' : (l.filterMap f).Nodup := by
      rw [List.filterMap_cons] at hn
      split at hn
      · exact hn
      · exact (List.nodup_cons.1 hn).2
    have key : ∀ y, y ∈ l → f y = some c → f x = some c → False := by
      intro y hy h3 h4
      rw [List.filterMap_cons, h4] at hn
      exact (List.nodup_cons.1 hn).1 (List.mem_filterMap.2 ⟨y, hy, h3⟩)
    rcases List.mem_cons.1 ha with ha | ha <;> rcases List.mem_cons.1 hb with hb | hb
    · rw [ha, hb]
    · exact (key b hb h2 (ha ▸ h1)).elim
    · exact (key a ha h1 (hb ▸ h2)).elim
    · exact nodup_filterMap_inj hn' ha hb h1 h2
structure Fill (P : Program) (w : World) (M : Store) (β : Bn) (hd : Nat → Value) (M1 : Store) (β1 : Bn) (hd1 : Nat → Value) (kk : List (Nat × Nat)) (r : R) (tk : Tk) : Prop where
  ps : ∀ x ∈ tk.ps, r x.1 = x.2
  own : ∀ b, Own M1 β1 hd1 b → Own M β hd b
  fz : ∀ k b, k ∈ tk.fz → Owns M β hd k b → ¬ Own M1 β1 hd1 b
  row : ∀ K k len, (K, some (k, len)) ∈ tk.rw → hd1 K = cutHd (hd k) len
  nil : ∀ K, (K, none) ∈ tk.rw → hd1 K = .slice none 0 0
  ptr : ∀ K k, inv? kk K = some k → (∃ t cs cs', M.get k = some (.box t cs) ∧ M1.get K = some (.box t cs')) ∧ β1 K = β k
theorem Fill.sub {M1 : Store} {β1 : Bn} {hd1 : Nat → Value} {kk : List (Nat × Nat)} {r : R} {tk tk' : Tk} (F : Fill P w M β hd M1 β1 hd1 kk r tk') (h1 : ∀ y ∈ tk.ps, y ∈ tk'.ps) (h2 : ∀ y ∈ tk.rw, y ∈ tk'.rw) (h3 : ∀ y ∈ tk.fz, y ∈ tk'.fz) : Fill P w M β hd M1 β1 hd1 kk r tk :=
  ⟨fun x hx => F.ps x (h1 x hx), F.own, fun k b hk => F.fz k b (h3 k hk), fun K k len hx => F.row K k len (h2 _ hx), fun K hx => F.nil K (h2 _ hx), F.ptr⟩
theorem RowV.cut {e : TypeId} {h v : Value} {n len : Nat} (hv : RowV P e h n 0 len v) : RowV P e (cutHd h len) len 0 len v := by
  rcases hv with ⟨h1, h2, _, h4⟩ | ⟨g, cap, a, h1, h2, h3, h4, h5⟩
  · exact .inl ⟨by rw [h1]; rfl, h2, rfl, h4⟩
  · exact .inr ⟨g, cap, a, by rw [h1]; rfl, by omega, by omega, h4, h5⟩
mutual
theorem take_RC {M1 : Store} {β1 : Bn} {hd1 : Nat → Value} {kk : List (Nat × Nat)} {r : R} (hs : Sim P w0 w M β hd) : ∀ (a : TA) (v : AV) (u : Value) (tk : Tk), TA.take P M kk a v = some tk → Fill P w M β hd M1 β1 hd1 kk r tk →
    (∀ x ∈ TA.rows a, M1.get x.1 = some (.row x.2.1 (r x.2.2).len fun i j => (r x.2.2).el i j)) → RC P w M β hd v u → RC P w M1 β1 hd1 (TA.inst r a) u
  | .b n, v, u, tk, h, F, _, hr => by
    cases v with
    | b x =>
      simp only [TA.take, Option.some.injEq] at h
      subst h
      have h1 := F.ps (n, .b x) (by simp)
      cases hr
      simp only [TA.inst, h1]
      exact .b _
    | _ => simp [TA.take] at h
  | .i k n, v, u, tk, h, F, _, hr => by
    cases v with
    | i k' x =>
      simp only [TA.take] at h
      obtain ⟨hk, h0⟩ := bif_inv h
      obtain rfl := eq_of_beq hk
      cases h0
      have h1 := F.ps (n, .i x) (by simp)
      cases hr
      simp only [TA.inst, h1]
      exact .i ..
    | _ => simp [TA.take] at h
  | .s n, v, u, tk, h, F, _, hr => by
    cases v with
    | s x =>
      simp only [TA.take, Option.some.injEq] at h
      subst h
      have h1 := F.ps (n, .s x) (by simp)
      cases hr
      simp only [TA.inst, h1]
      exact .s _
    | _ => simp [TA.take] at h
  | .sl t e n, v, u, tk, h, F, _, hr => by
    have h' : (bif conf P (allOf M) t v && elemT P t == some e then (match frz (allOf M) v with
        | some x => some (⟨[(n, x)], [], rowKeys [v]⟩ : Tk)
        | none => none) else none) = some tk := by
      cases v <;> exact h
    obtain ⟨hc, h1⟩ := bif_inv h'
    rw [Bool.and_eq_true] at hc
    have hu := elemT_inv (eq_of_beq hc.2)
    split at h1
    · rename_i x hx
      cases h1
      have h2 := F.ps (n, x) (by simp)
      simp only at h2
      simp only [TA.inst, h2]
      exact .sl hu (frz_rel hs (fun k ob => allOf_lk) F.own (fun k b hk ho => F.fz k b hk ho) hc.1 hx hr)
    · cases h1
  | .rp t off ns, v, u, tk, h, F, _, hr => by
    cases v with
    | rp e c off' =>
      simp only [TA.take] at h
      obtain ⟨hc, h0⟩ := bif_inv h
      rw [Bool.and_eq_true, Bool.and_eq_true] at hc
      obtain rfl : t = e := eq_of_beq hc.1.1
      obtain rfl : off = off' := eq_of_beq hc.1.2
      have hlen : ns.length = (lv P t).length := eq_of_beq hc.2
      cases h0
      have h1 : ∀ j, j < ns.length → r (ns.getD j 0) = c j := by
        intro j hj
        refine F.ps (ns.getD j 0, c j) ?_
        rw [List.mem_iff_getElem?]
        exact ⟨j, by simp [List.getD_eq_getElem?_getD, List.getElem?_eq_getElem hj]⟩
      simp only [TA.inst]
      cases hr with
      | rp _ b o vs hb ho hv hrr =>
        refine .rp off b o vs hb (fun hq => ho (F.own b hq)) hv (fun j τ hj => ?_)
        have hj2 : j < (lv P t).length := (List.getElem?_eq_some_iff.1 hj).1
        rw [h1 j (by omega)]
        exact (hrr j τ hj).keep ⟨Nat.le_refl _, fun b _ hbo => ⟨rfl, fun hq => hbo (F.own b hq)⟩⟩
    | _ => simp [TA.take] at h
  | .row K e n, v, u, tk, h, F, hM, hr => by
    have hM := hM (K, e, n) (by simp [TA.rows])
    cases v with
    | row k off len =>
      cases off with
      | succ off => simp [TA.take] at h
      | zero =>
        simp only [TA.take] at h
        split at h
        · rename_i e' n0 g hm
          obtain ⟨he, h1⟩ := bif_inv h
          obtain rfl : e = e' := eq_of_beq he
          cases h1
          have h2 := F.ps (n, _) (List.mem_singleton.2 rfl)
          have h3 := F.row K k len (by simp)
          simp only at h2 hM
          rw [h2] at hM
          simp only [TA.inst, h2]
          cases hr with
          | row h0 h1 hv =>
            refine .row (by rw [hM]; simp) h1 fun e' n' g' hq => ?_
            rw [hM] at hq
            cases hq
            rw [h3]
            exact (hv e n0 g hm).cut
        · cases h
    | nl =>
      simp only [TA.take] at h
      obtain ⟨he, h1⟩ := bif_inv h
      cases h1
      have h2 := F.ps (n, _) (List.mem_singleton.2 rfl)
      have h3 := F.nil K (by simp)
      simp only at h2 hM
      rw [h2] at hM
      simp only [TA.inst, h2]
      cases hr
      refine .row (by rw [hM]; simp) rfl fun e' n' g' hq => ?_
      rw [h3]
      exact .inl ⟨rfl, ⟨_, rfl⟩, rfl, rfl⟩
    | _ => simp [TA.take] at h
  | .ptr K off, v, u, tk, h, F, _, hr => by
    cases v with
    | ptr k off' =>
      simp only [TA.take] at h
      obtain ⟨hc, _⟩ := bif_inv h
      rw [Bool.and_eq_true] at hc
      obtain rfl := eq_of_beq hc.1
      have hc2 := hc.2
      split at hc2
      · rename_i k' hk
        obtain rfl := eq_of_beq hc2
        obtain ⟨⟨t, cs, cs', h2, h1⟩, h3⟩ := F.ptr K k' hk
        cases hr with
        | ptr h0 h4 h5 =>
          refine .ptr (by rw [h1]; simp) h4 fun t' cs'' hq => ?_
          rw [h1] at hq
          cases hq
          rw [h3]
          exact h5 t cs h2
      · cases hc2
    | _ => simp [TA.take] at h
  | .nl, v, u, tk, h, F, _, hr => by
    cases v with
    | nl => cases hr; exact .nl
    | _ => simp [TA.take] at h
  | .und, v, u, tk, h, F, _, hr => .und hr.one
  | .clo f as, v, u, tk, h, F, hM, hr => by
    cases v with
    | clo f' cs =>
      simp only [TA.take] at h
      obtain ⟨hf, h1⟩ := bif_inv h
      simp only [Bool.and_eq_true, beq_iff_eq, Bool.not_eq_true'] at hf
      obtain ⟨rfl, hnp⟩ := hf
      cases hr with
      | np => exact absurd hnp (by decide)
      | ni => exact absurd hnp (by decide)
      | @clo _ _ vs _ hl hcs =>
        have h2 := take_RCL hs as cs (fun j => vs.getD j undef) tk h1 F (fun x hx => hM x (by simpa [TA.rows] using hx)) hcs
        simp only [TA.inst]
        refine .clo hnp ?_ h2
        rw [← hl, ← takeL_len h1, instL_map, List.length_map]
    | _ => simp [TA.take] at h
  | .ag as, v, u, tk, h, F, _, hr => by
    cases v with
    | ag cs => cases hr
    | _ => simp [TA.take] at h
theorem take_RCL {M1 : Store} {β1 : Bn} {hd1 : Nat → Value} {kk : List (Nat × Nat)} {r : R} (hs : Sim P w0 w M β hd) : ∀ (as : List TA) (cs : List AV) (us : Nat → Value) (tk : Tk), TA.takeL P M kk as cs = some tk → Fill P w M β hd M1 β1 hd1 kk r tk →
    (∀ x ∈ TA.rowsL as, M1.get x.1 = some (.row x.2.1 (r x.2.2).len fun i j => (r x.2.2).el i j)) → (∀ j c, cs[j]? = some c → RC P w M β hd c (us j)) → ∀ j c, (TA.instL r as)[j]? = some c → RC P w M1 β1 hd1 c (us j)
  | [], [], us, tk, _, _, _, _, j, c, hj => by simp [TA.instL] at hj
  | [], _ :: _, _, _, h, _, _, _, _, _, _ => by simp [TA.takeL] at h
  | _ :: _, [], _, _, h, _, _, _, _, _, _ => by simp [TA.takeL] at h
  | a :: as, c :: cs, us, tk, h, F, hM, hr, j, y, hj => by
    obtain ⟨t1, t2, h1, h2, rfl⟩ := takeL_cons h
    simp only [TA.instL] at hj
    cases j with
    | zero =>
      obtain rfl : TA.inst r a = y := by simpa using hj
      exact take_RC hs a c (us 0) t1 h1 (F.sub app_l.1 app_l.2.1 app_l.2.2) (fun x hx => hM x (by simp only [TA.rowsL, List.mem_append]; exact .inl hx)) (hr 0 c rfl)
    | succ j =>
      exact take_RCL hs as cs (fun j => us (j + 1)) t2 h2 (F.sub app_r.1 app_r.2.1 app_r.2.2) (fun x hx => hM x (by simp only [TA.rowsL, List.mem_append]; exact .inr hx)) (fun j c' hj' => hr (j + 1) c' (by simpa using hj')) j y (by simpa using hj)
end
theorem take_RA {M1 : Store} {β1 : Bn} {hd1 : Nat → Value} {kk : List (Nat × Nat)} {r : R} (hs : Sim P w0 w M β hd) (a : TA) (v : AV) (u : Value) (tk : Tk) (h : TA.take P M kk a v = some tk) (F : Fill P w M β hd M1 β1 hd1 kk r tk)
    (hM : ∀ x ∈ TA.rows a, M1.get x.1 = some (.row x.2.1 (r x.2.2).len fun i j => (r x.2.2).el i j)) (hr : RA P w M β hd v u) : RA P w M1 β1 hd1 (TA.inst r a) u := by
  by_cases hc : isCell v = true
  · exact .c (take_RC hs a v u tk h F hM (hr.cell hc))
  · cases v with
    | ag cs =>
      cases a with
      | ag as =>
        obtain ⟨vs, rfl, hl, hcs⟩ := hr.ag_inv
        simp only [TA.take] at h
        have h2 := take_RCL hs as cs (fun j => vs.getD j undef) tk h F (fun x hx => hM x (by simpa [TA.rows] using hx)) hcs
        simp only [TA.inst]
        refine .ag ?_ h2
        rw [← hl, ← takeL_len h, instL_map, List.length_map]
      | und => exact .und _
      | sl t e n =>
        exfalso
        simp only [TA.take] at h
        obtain ⟨h1, _⟩ := bif_inv h
        rw [Bool.and_eq_true] at h1
        have := h1.1
        unfold conf at this
        split at this <;> simp_all
      | _ => simp [TA.take] at h
    | tup cs =>
      cases a with
      | und => exact .und _
      | sl t e n =>
        exfalso
        simp only [TA.take] at h
        obtain ⟨h1, _⟩ := bif_inv h
        rw [Bool.and_eq_true] at h1
        have := h1.1
        unfold conf at this
        split at this <;> simp_all
      | _ => simp [TA.take] at h
    | und =>
      cases a with
      | und => exact .und _
      | sl t e n =>
        exfalso
        simp only [TA.take] at h
        obtain ⟨h1, _⟩ := bif_inv h
        rw [Bool.and_eq_true] at h1
        have := h1.1
        unfold conf at this
        split at this <;> simp_all
      | _ => simp [TA.take] at h
    | _ => simp [isCell] at hc
end
end Go.AM
set_option linter.unusedSimpArgs false
set_option linter.unusedVariables false
namespace Go.AM
open Go.RowKit (Below)
section
variable {P : Program} {w0 : Fr0} {w : World} {s : St} {a : Act}
mutual
theorem take_fz {M : Store} {kk : List (Nat × Nat)} : ∀ (a : TA) (v : AV) (tk : Tk), TA.take P M kk a v = some tk → ∀ k ∈ tk.fz, ∃ e n g, M.get k = some (.row e n g)
  | .sl t e n, v, tk, h, k, hk => by
    have h' : (bif conf P (allOf M) t v && elemT P t == some e then (match frz (allOf M) v with
        | some x => some (⟨[(n, x)], [], rowKeys [v]⟩ : Tk)
        | none => none) else none) = some tk := by
      cases v <;> exact h
    obtain ⟨_, h1⟩ := bif_inv h'
    split at h1
    · rename_i x hx
      cases h1
      cases v with
      | row q off len =>
        obtain rfl : k = q := by simpa [rowKeys] using hk
        simp only [frz] at hx
        split at hx
        · rename_i q' e n g hq
          exact ⟨e, n, g, allOf_lk (by simp only [lk, hq])⟩
        · cases hx
      | _ => simp [rowKeys] at hk
    · cases h1
  | .rp t off ns, v, tk, h, k, hk => by
    cases v with
    | rp e c off' =>
      simp only [TA.take] at h
      obtain ⟨_, h0⟩ := bif_inv h
      cases h0
      simp at hk
    | _ => simp [TA.take] at h
  | .row K e n, v, tk, h, k, hk => by
    cases v with
    | row q off len =>
      cases off with
      | succ off => simp [TA.take] at h
      | zero =>
        simp only [TA.take] at h
        split at h
        · obtain ⟨_, h1⟩ := bif_inv h
          cases h1
          simp at hk
        · cases h
    | nl =>
      simp only [TA.take] at h
      obtain ⟨_, h1⟩ := bif_inv h
      cases h1
      simp at hk
    | _ => simp [TA.take] at h
  | .clo f as, v, tk, h, k, hk => by
    cases v with
    | clo f' cs =>
      simp only [TA.take] at h
      obtain ⟨_, h1⟩ := bif_inv h
      exact takeL_fz as cs tk h1 k hk
    | _ => simp [TA.take] at h
  | .ag as, v, tk, h, k, hk => by
    cases v with
    | ag cs => exact takeL_fz as cs tk (by simpa [TA.take] using h) k hk
    | _ => simp [TA.take] at h
  | .b n, v, tk, h, k, hk => by
    cases v with
    | b x => simp only [TA.take, Option.some.injEq] at h; subst h; simp at hk
    | _ => simp [TA.take] at h
  | .i k' n, v, tk, h, k, hk => by
    cases v with
    | i k2 x =>
      simp only [TA.take] at h
      obtain ⟨_, h1⟩ := bif_inv h
      cases h1
      simp at hk
    | _ => simp [TA.take] at h
  | .s n, v, tk, h, k, hk => by
    cases v with
    | s x => simp only [TA.take, Option.some.injEq] at h; subst h; simp at hk
    | _ => simp [TA.take] at h
  | .ptr K off, v, tk, h, k, hk => by
    cases v with
    | ptr q off' =>
      simp only [TA.take] at h
      obtain ⟨_, h1⟩ := bif_inv h
      cases h1
      simp [Tk.no] at hk
    | _ => simp [TA.take] at h
  | .nl, v, tk, h, k, hk => by
    cases v with
    | nl => simp only [TA.take, Option.some.injEq] at h; subst h; simp [Tk.no] at hk
    | _ => simp [TA.take] at h
  | .und, v, tk, h, k, hk => by
    have h' : (bif isCell v then some Tk.no else none) = some tk := by cases v <;> exact h
    obtain ⟨_, h1⟩ := bif_inv h'
    cases h1
    simp [Tk.no] at hk
theorem takeL_fz {M : Store} {kk : List (Nat × Nat)} : ∀ (as : List TA) (cs : List AV) (tk : Tk), TA.takeL P M kk as cs = some tk → ∀ k ∈ tk.fz, ∃ e n g, M.get k = some (.row e n g)
  | [], [], tk, h, k, hk => by simp only [TA.takeL, Option.some.injEq] at h; subst h; simp [Tk.no] at hk
  | [], _ :: _, _, h, _, _ => by simp [TA.takeL] at h
  | _ :: _, [], _, h, _, _ => by simp [TA.takeL] at h
  | a :: as, c :: cs, tk, h, k, hk => by
    obtain ⟨t1, t2, h1, h2, rfl⟩ := takeL_cons h
    rcases List.mem_append.1 hk with hk | hk
    · exact take_fz a c t1 h1 k hk
    · exact takeL_fz as cs t2 h2 k hk
end
theorem takeBs_fz {M : Store} {kk : List (Nat × Nat)} : ∀ {bs : List TB} {tk : Tk}, takeBs P M kk bs = some tk → ∀ k ∈ tk.fz, ∃ e n g, M.get k = some (.row e n g)
  | [], tk, h, k, hk => by simp only [takeBs, Option.some.injEq] at h; subst h; simp [Tk.no] at hk
  | c :: bs, tk, h, k, hk => by
    simp only [takeBs] at h
    split at h
    · rename_i bt cs hm
      obtain ⟨hbt, h1⟩ := bif_inv h
      split at h1
      · rename_i x y hx hy
        cases h1
        rcases List.mem_append.1 hk with hk | hk
        · cases hnm : isMapT bt with
          | true =>
            rw [hnm, cond_true] at hx
            obtain ⟨n, x', _, _, rfl⟩ := takeMap_inv hx
            cases hk
          | false =>
            rw [hnm, cond_false] at hx
            exact takeL_fz _ _ _ hx k hk
        · exact takeBs_fz hy k hk
      · cases h1
    · cases h
theorem finish_ok (hst : StOk P w0 w0.β.O s a w) {tp : Tpl} {fn : Func} {r : R} (h : finish P tp fn s = some r) : a.defers = [] ∧ ∃ us, (results fn a.tmps).run P w = .ok (outV us) w ∧ ResOk P w0 tp r w us := by
  obtain ⟨β, hd, ⟨hO, hX⟩, C⟩ := hst
  refine ⟨C.slots.defers, ?_⟩
  unfold finish at h
  split at h
  · rename_i vs hvs
    split at h
    · rename_i x y z hx hy hz
      obtain ⟨hg, h1⟩ := bif_inv h
      clear h
      cases h1
      obtain ⟨us, hrun, hul, hvl, hrel⟩ := resVals_ok C hvs
      generalize hkk : (tp.bs.map fun b => (b.k, b.K)) = kk at hx hy
      generalize htk : x.app (y.app z) = tk at hg
      generalize hr : lookR tk.ps = r
      unfold tplOk at hg
      simp only [Bool.and_eq_true] at hg
      obtain ⟨⟨⟨⟨⟨⟨⟨⟨g1, g2⟩, g3⟩, g4⟩, g5⟩, g6⟩, g7⟩, g8⟩, g9⟩ := hg
      have g1 := nodup_iff.1 g1
      have g2 := nodup_iff.1 g2
      have g3 := nodup_iff.1 g3
      have g4 := nodup_iff.1 g4
      have g5 := nodup_iff.1 g5
      have hps : ∀ q ∈ tk.ps, r q.1 = q.2 := fun q hq => by rw [← hr]; exact lookR_of g1 hq
      have bs := takeBs_at hy
      obtain ⟨rs, rsw, rsf⟩ := takeRs_at hz
      have sx : (∀ q ∈ x.ps, q ∈ tk.ps) ∧ (∀ q ∈ x.rw, q ∈ tk.rw) ∧ (∀ q ∈ x.fz, q ∈ tk.fz) := by rw [← htk]; exact app_l
      have sy : (∀ q ∈ y.ps, q ∈ tk.ps) ∧ (∀ q ∈ y.rw, q ∈ tk.rw) ∧ (∀ q ∈ y.fz, q ∈ tk.fz) := by
        rw [← htk]
        exact ⟨fun q hq => app_r.1 _ (app_l.1 q hq), fun q hq => app_r.2.1 _ (app_l.2.1 q hq), fun q hq => app_r.2.2 _ (app_l.2.2 q hq)⟩
      have sz : ∀ q ∈ z.ps, q ∈ tk.ps := by
        rw [← htk]
        exact fun q hq => app_r.1 _ (app_r.1 q hq)
      have rel : ∀ j v, vs[j]? = some v → RA P w s.M β hd v (us.getD j undef) := by
        intro j v hj
        have hlt : j < us.length := by rw [hul]; exact (List.getElem?_eq_some_iff.1 hj).1
        have h2 := hrel j v us[j] hj (List.getElem?_eq_getElem hlt)
        rw [List.getD_eq_getElem?_getD, List.getElem?_eq_getElem hlt]
        exact h2
      have hinv : ∀ K k, inv? kk K = some k → ∃ b ∈ tp.bs, b.K = K ∧ b.k = k := by
        intro K k hi
        have := inv_mem hi
        rw [← hkk] at this
        obtain ⟨b, hb, he⟩ := List.mem_map.1 this
        cases he
        exact ⟨b, hb, rfl, rfl⟩
      have hbK : (tp.bs.map TB.K).Nodup := by
        unfold Tpl.keys at g2
        rw [List.nodup_append] at g2
        exact g2.1
      have hinv2 : ∀ b ∈ tp.bs, inv? kk b.K = some b.k := by
        intro b hb
        refine inv_of ?_ ?_
        · rw [← hkk, List.map_map]; exact hbK
        · rw [← hkk]; exact List.mem_map.2 ⟨b, hb, rfl⟩
      have facts : ∀ q ∈ tp.rows, RowFact P s.M hd tk q ∨ (q ∈ tp.rs) := by
        intro q hq
        unfold Tpl.rows at hq
        rcases List.mem_append.1 hq with hq | hq
        · exact .inl ((take_rowsL tp.vs vs x (fun j => us.getD j undef) hx rel q hq).sub sx.2.1 sx.1)
        · rcases List.mem_append.1 hq with hq | hq
          · left
            have key : ∀ l : List TB, (∀ b ∈ l, b ∈ tp.bs) → q ∈ TA.rowsL (l.flatMap TB.cs) → ∃ b ∈ tp.bs, q ∈ TA.rowsL b.cs := by
              have app : ∀ (l l' : List TA), TA.rowsL (l ++ l') = TA.rowsL l ++ TA.rowsL l' := by
                intro l l'
                induction l with
                | nil => rfl
                | cons a l ih => simp only [List.cons_append, TA.rowsL, ih, List.append_assoc]
              intro l
              induction l with
              | nil => intro _ h; simp [TA.rowsL] at h
              | cons b l ih =>
                intro hl h
                rw [List.flatMap_cons, app] at h
                rcases List.mem_append.1 h with h | h
                · exact ⟨b, hl b (List.mem_cons_self ..), h⟩
                · exact ih (fun c hc => hl c (List.mem_cons_of_mem _ hc)) h
            obtain ⟨b, hb, hq⟩ := key tp.bs (fun b hb => hb) hq
            obtain ⟨cs, t1, h2, h3, h4, h5, h6⟩ := bs b hb
            cases hnm : isMapT b.t with
            | true =>
              rw [hnm, cond_true] at h3
              obtain ⟨n, x', h7, _, _⟩ := takeMap_inv h3
              rw [h7] at hq
              simp [TA.rowsL, TA.rows] at hq
            | false =>
            rw [hnm, cond_false] at h3
            obtain ⟨c, el, h7, h8, h9⟩ := (C.sim.box b.k b.t cs h2).cells hnm
            exact (take_rowsL b.cs cs t1 (fun j => c.getD j undef) h3 (fun j v hj => .c (h9 j v hj)) q hq).sub (fun q hq => sy.2.1 q (h5 q hq)) (fun q hq => sy.1 q (h4 q hq))
          · exact .inr hq
      let β1 : Bn := ⟨fun K => match inv? kk K with | some k => β k | none => β K, β.O⟩
      let hd1 : Nat → Value := fun K => match tk.rw.find? (fun q => q.1 == K) with
        | some (_, some (k, len)) => cutHd (hd k) len
        | some (_, none) => .slice none 0 0
        | none => hd K
      have hfind : ∀ K o, (K, o) ∈ tk.rw → tk.rw.find? (fun q => q.1 == K) = some (K, o) := by
        intro K o hm
        cases hf : tk.rw.find? (fun q => q.1 == K) with
        | none =>
          rw [List.find?_eq_none] at hf
          have := hf _ hm
          simp at this
        | some q =>
          have h1 := List.find?_some hf
          have h2 := List.mem_of_find?_eq_some hf
          have h3 : q.1 = K := eq_of_beq h1
          rw [nodup_map_inj g3 h2 hm h3]
      have hd1row : ∀ K k len, (K, some (k, len)) ∈ tk.rw → hd1 K = cutHd (hd k) len := fun K k len hm => by
        show (match tk.rw.find? (fun q => q.1 == K) with | some (_, some (k, len)) => cutHd (hd k) len | some (_, none) => .slice none 0 0 | none => hd K) = _
        rw [hfind K _ hm]
      have hd1nil : ∀ K, (K, none) ∈ tk.rw → hd1 K = .slice none 0 0 := fun K hm => by
        show (match tk.rw.find? (fun q => q.1 == K) with | some (_, some (k, len)) => cutHd (hd k) len | some (_, none) => .slice none 0 0 | none => hd K) = _
        rw [hfind K _ hm]
      have hd1rs : ∀ q ∈ tp.rs, hd1 q.1 = hd q.1 := fun q hq => by
        show (match tk.rw.find? (fun p => p.1 == q.1) with | some (_, some (k, len)) => cutHd (hd k) len | some (_, none) => .slice none 0 0 | none => hd q.1) = _
        cases hf : tk.rw.find? (fun p => p.1 == q.1) with
        | none => rfl
        | some p =>
          exfalso
          have h1 := List.find?_some hf
          have h2 := List.mem_of_find?_eq_some hf
          have h3 : p.1 = q.1 := eq_of_beq h1
          have h4 := List.all_eq_true.1 g7 p h2
          have h5 := List.all_eq_true.1 g9 q hq
          rw [Nat.blt_eq] at h4
          rw [Nat.ble_eq] at h5
          omega
      have hβ1 : ∀ b ∈ tp.bs, β1 b.K = β b.k := fun b hb => by
        show (match inv? kk b.K with | some k => β k | none => β b.K) = _
        rw [hinv2 b hb]
      have ents : ∀ K ob, (tp.M r).get K = some ob → (∃ b ∈ tp.bs, K = b.K ∧ ob = .box b.t (TA.instL r b.cs)) ∨ (∃ q ∈ tp.rows, K = q.1 ∧ ob = .row q.2.1 (r q.2.2).len fun i j => (r q.2.2).el i j) := by
        intro K ob hm
        rcases List.mem_append.1 (Tpl.get_inv g2 hm) with h2 | h2
        · obtain ⟨b, hb, he⟩ := List.mem_map.1 h2
          cases he
          exact .inl ⟨b, hb, rfl, rfl⟩
        · obtain ⟨q, hq, he⟩ := List.mem_map.1 h2
          cases he
          exact .inr ⟨q, hq, rfl, rfl⟩
      have getb : ∀ b ∈ tp.bs, (tp.M r).get b.K = some (.box b.t (TA.instL r b.cs)) := fun b hb => Tpl.get_in g2 (List.mem_append.2 (.inl (List.mem_map.2 ⟨b, hb, rfl⟩)))
      have getr : ∀ q ∈ tp.rows, (tp.M r).get q.1 = some (.row q.2.1 (r q.2.2).len fun i j => (r q.2.2).el i j) := fun q hq => Tpl.get_in g2 (List.mem_append.2 (.inr (List.mem_map.2 ⟨q, hq, rfl⟩)))
      have owns : ∀ K b, Owns (tp.M r) β1 hd1 K b → (∃ c ∈ tp.bs, c.K = K ∧ Owns s.M β hd c.k b) ∨ (∃ k len, (K, some (k, len)) ∈ tk.rw ∧ Owns s.M β hd k b ∧ ∃ e n g, s.M.get k = some (.row e n g)) ∨ (∃ q ∈ tp.rs, q.1 = K ∧ Owns s.M β hd K b ∧ ∃ e n g, s.M.get K = some (.row e n g)) := by
        intro K b ho
        rcases ho with ⟨t, cs, h2, h3⟩ | ⟨e, n, g, h2, h3⟩
        · rcases ents K _ h2 with ⟨c, hc, rfl, h4⟩ | ⟨q, _, _, h4⟩
          · left
            obtain ⟨cs', _, h5, _⟩ := bs c hc
            exact ⟨c, hc, rfl, .inl ⟨_, _, h5, by rw [← hβ1 c hc]; exact h3⟩⟩
          · cases h4
        · rcases ents K _ h2 with ⟨c, _, _, h4⟩ | ⟨q, hq, rfl, h4⟩
          · cases h4
          · right
            rcases facts q hq with (⟨k, len, n0, g0, u, h5, h6, h7, h8⟩ | ⟨h5, _, _⟩) | hq2
            · left
              refine ⟨k, len, h5, .inr ⟨_, n0, g0, h6, ?_⟩, _, n0, g0, h6⟩
              rw [hd1row _ _ _ h5, ownBlock_cutHd] at h3
              exact h3
            · rw [hd1nil _ h5] at h3
              simp [Value.ownBlock] at h3
            · right
              obtain ⟨m, g0, h5, _⟩ := rs q hq2
              refine ⟨q, hq2, rfl, .inr ⟨_, m, g0, h5, ?_⟩, _, m, g0, h5⟩
              rw [hd1rs q hq2] at h3
              exact h3
      have hown : ∀ b, Own (tp.M r) β1 hd1 b → Own s.M β hd b := by
        rintro b (⟨K, hK⟩ | hb)
        · rcases owns K b hK with ⟨c, _, _, h2⟩ | ⟨k, _, _, h2, _⟩ | ⟨q, _, _, h2, _⟩
          · exact .inl ⟨_, h2⟩
          · exact .inl ⟨_, h2⟩
          · exact .inl ⟨_, h2⟩
        · exact .inr hb
      have hkp : Keeps w (Own s.M β hd) w (Own (tp.M r) β1 hd1) := ⟨Nat.le_refl _, fun b _ ho => ⟨rfl, fun h => ho (hown b h)⟩⟩
      have boxrow : ∀ c ∈ tp.bs, ∀ e n g, s.M.get c.k = some (.row e n g) → False := by
        intro c hc e n g hm
        obtain ⟨cs', _, h5, _⟩ := bs c hc
        rw [h5] at hm
        cases hm
      have ownmem : ∀ K k len, (K, some (k, len)) ∈ tk.rw → k ∈ tk.own := fun K k len hm => List.mem_filterMap.2 ⟨_, hm, rfl⟩
      rw [List.nodup_append] at g4
      obtain ⟨g4a, g4b, g4c⟩ := g4
      have g4a : (tk.rw.filterMap fun x : Nat × Option (Nat × Nat) => x.2.map Prod.fst).Nodup := g4a
      have hfz : ∀ k b, k ∈ tk.fz → Owns s.M β hd k b → ∀ (hm : ∃ e n g, s.M.get k = some (.row e n g)), ¬ Own (tp.M r) β1 hd1 b := by
        rintro k b hk ho ⟨e, n, g, hm⟩ (⟨K, hK⟩ | hb)
        · have h9 := List.all_eq_true.1 g6 k hk
          rcases owns K b hK with ⟨c, hc, _, h2⟩ | ⟨k', len, h2, h3, _⟩ | ⟨q, hq, rfl, h3, _⟩
          · obtain rfl := C.sim.inj _ _ b ho h2
            exact boxrow c hc e n g hm
          · obtain rfl := C.sim.inj _ _ b ho h3
            rw [List.contains_iff_mem.2 (List.mem_append.2 (.inl (ownmem _ _ _ h2)))] at h9
            cases h9
          · obtain rfl := C.sim.inj _ _ b ho h3
            rw [List.contains_iff_mem.2 (List.mem_append.2 (.inr (List.mem_map_of_mem (f := (·.1)) hq)))] at h9
            cases h9
        · exact C.sim.far b hb (C.sim.ge k b ho).1
      have F : Fill P w s.M β hd (tp.M r) β1 hd1 kk r tk := by
        refine ⟨hps, hown, fun k b hk ho => ?_, hd1row, hd1nil, fun K k hi => ?_⟩
        · rcases ho with ⟨t, cs, h2, h3⟩ | ⟨e, n, g, h2, h3⟩
          · -- a box is never frozen by take, but its block is not a row's
            rintro (⟨K, hK⟩ | hb)
            · have h9 := List.all_eq_true.1 g6 k hk
              rcases owns K b hK with ⟨c, hc, _, h4⟩ | ⟨k', len, h4, h5, h6⟩ | ⟨q, hq, rfl, h5, h6⟩
              · obtain ⟨e, n, g, h9⟩ : ∃ e n g, s.M.get k = some (.row e n g) := by
                  rw [← htk] at hk
                  rcases List.mem_append.1 hk with hk | hk
                  · exact takeL_fz _ _ _ hx k hk
                  · rcases List.mem_append.1 hk with hk | hk
                    · exact takeBs_fz hy k hk
                    · rw [rsf] at hk; cases hk
                rw [h2] at h9; cases h9
              · obtain ⟨e, n, g, h6⟩ := h6
                obtain rfl := C.sim.inj _ _ b (.inl ⟨t, cs, h2, h3⟩) h5
                rw [h2] at h6; cases h6
              · obtain ⟨e, n, g, h6⟩ := h6
                obtain rfl := C.sim.inj _ _ b (.inl ⟨t, cs, h2, h3⟩) h5
                rw [h2] at h6; cases h6
            · exact C.sim.far b hb (C.sim.ge k b (.inl ⟨t, cs, h2, h3⟩)).1
          · exact hfz k b hk (.inr ⟨e, n, g, h2, h3⟩) ⟨e, n, g, h2⟩
        · obtain ⟨b, hb, rfl, rfl⟩ := hinv K k hi
          obtain ⟨cs', _, h5, _⟩ := bs b hb
          exact ⟨⟨_, _, _, h5, getb b hb⟩, hβ1 b hb⟩
      have hsim : Sim P w0 w (tp.M r) β1 hd1 := by
        refine ⟨C.sim.below, fun K b ho => ?_, fun K K' b ho ho' => ?_, C.sim.far, fun K t cs hm => ?_, fun K e n g hm => ?_, C.sim.tab⟩
        · rcases owns K b ho with ⟨c, _, _, h2⟩ | ⟨k, _, _, h2, _⟩ | ⟨q, _, _, h2, _⟩ <;> exact C.sim.ge _ b h2
        · rcases owns K b ho with ⟨c, hc, rfl, h2⟩ | ⟨k, len, h1, h2, e, n, g, h3⟩ | ⟨q, hq, rfl, h2, e, n, g, h3⟩ <;> rcases owns K' b ho' with ⟨c', hc', rfl, h2'⟩ | ⟨k', len', h1', h2', e', n', g', h3'⟩ | ⟨q', hq', rfl, h2', e', n', g', h3'⟩
          · rw [nodup_map_inj g5 hc hc' (C.sim.inj _ _ b h2 h2')]
          · obtain rfl := C.sim.inj _ _ b h2 h2'
            exact (boxrow c hc _ _ _ h3').elim
          · have := C.sim.inj _ _ b h2 h2'
            rw [← this] at h3'
            exact (boxrow c hc _ _ _ h3').elim
          · obtain rfl := C.sim.inj _ _ b h2' h2
            exact (boxrow c' hc' _ _ _ h3).elim
          · obtain rfl := C.sim.inj _ _ b h2 h2'
            have := nodup_filterMap_inj g4a h1 h1' (c := k) rfl rfl
            exact congrArg (·.1) this
          · have := C.sim.inj _ _ b h2 h2'
            exact absurd this (g4c k (ownmem _ _ _ h1) q'.1 (List.mem_map_of_mem (f := (·.1)) hq'))
          · have := C.sim.inj _ _ b h2 h2'
            rw [this] at h3
            exact (boxrow c' hc' _ _ _ h3).elim
          · have := C.sim.inj _ _ b h2' h2
            exact absurd this (g4c k' (ownmem _ _ _ h1') q.1 (List.mem_map_of_mem (f := (·.1)) hq))
          · exact C.sim.inj _ _ b h2 h2'
        · rcases ents K _ hm with ⟨c, hc, rfl, h4⟩ | ⟨q, _, _, h4⟩
          · cases h4
            obtain ⟨cs', t1, h5, h6, h7, h8, h9⟩ := bs c hc
            cases hnm : isMapT c.t with
            | true =>
              rw [hnm, cond_true] at h6
              obtain ⟨n, x', h10, h11, rfl⟩ := takeMap_inv h6
              have h12 := hps (n, x') (sy.1 _ (h7 _ (List.mem_singleton.2 rfl)))
              have h13 : TA.instL r c.cs = cs' := by rw [h10, h11]; simp only [TA.instL, TA.inst]; rw [h12]
              rw [h13]
              exact .inr ⟨hnm, ((C.sim.box c.k _ cs' h5).map hnm).keep hkp (by rw [hβ1 c hc])⟩
            | false =>
            rw [hnm, cond_false] at h6
            obtain ⟨arr, h10, h11, h12⟩ := (C.sim.box c.k _ cs' h5).cellsT hnm
            have hl := takeL_len h6
            refine .inl ⟨hnm, arr, by rw [hβ1 c hc]; exact h10, by rw [instL_map, List.length_map, h11, hl], ?_⟩
            refine take_RCL C.sim c.cs cs' (fun j => arr.getD j undef) t1 h6 (F.sub (fun q hq => sy.1 q (h7 q hq)) (fun q hq => sy.2.1 q (h8 q hq)) (fun q hq => sy.2.2 q (h9 q hq))) (fun q hq => getr q ?_) h12
            unfold Tpl.rows
            refine List.mem_append.2 (.inr (List.mem_append.2 (.inl ?_)))
            have app : ∀ (l l' : List TA), TA.rowsL (l ++ l') = TA.rowsL l ++ TA.rowsL l' := by
              intro l l'
              induction l with
              | nil => rfl
              | cons a l ih => simp only [List.cons_append, TA.rowsL, ih, List.append_assoc]
            have key : ∀ l : List TB, c ∈ l → q ∈ TA.rowsL (l.flatMap TB.cs) := by
              intro l
              induction l with
              | nil => intro h; cases h
              | cons b l ih =>
                intro h
                rw [List.flatMap_cons, app]
                rcases List.mem_cons.1 h with rfl | h
                · exact List.mem_append.2 (.inl hq)
                · exact List.mem_append.2 (.inr (ih h))
            exact key tp.bs hc
          · cases h4
        · rcases ents K _ hm with ⟨c, _, _, h4⟩ | ⟨q, hq, rfl, h4⟩
          · cases h4
          · cases h4
            rcases facts q hq with (⟨k, len, n0, g0, u, h5, h6, h7, h8⟩ | ⟨h5, h6, h7⟩) | hq2
            · have hrn := hps _ h7
              simp only at hrn
              obtain ⟨hpos, xs, h9, h10⟩ := C.sim.row k _ n0 g0 h6
              rw [hrn, hd1row _ _ _ h5]
              rcases h8 with ⟨h11, _, _, h12⟩ | ⟨gb, cap, ad, h11, h12, h13, h14, h15⟩
              · subst h12
                refine ⟨hpos, [], ?_, fun i j τ hi _ => absurd hi (Nat.not_lt_zero _)⟩
                rw [h11]
                exact World.ownsRow_nil w 0 _ _
              · refine ⟨hpos, xs.take (len * (lv P q.2.1).length), ?_, fun i j τ hi hj => ?_⟩
                · rw [h11] at h9 ⊢
                  exact ownsRow_shorter h9 (show len ≤ n0 by omega)
                · have hi : i < len := hi
                  obtain ⟨v, h16, h17⟩ := h10 i j τ (by omega) hj
                  have hql : j < (lv P q.2.1).length := (List.getElem?_eq_some_iff.1 hj).1
                  have : i * (lv P q.2.1).length + (lv P q.2.1).length ≤ len * (lv P q.2.1).length := by rw [← Nat.succ_mul]; exact Nat.mul_le_mul_right _ hi
                  exact ⟨v, by rw [List.getElem?_take, if_pos (by omega)]; exact h16, h17.keep hkp⟩
            · have hrn := hps _ h6
              simp only at hrn
              rw [hrn, hd1nil _ h5]
              exact ⟨h7, [], World.ownsRow_nil w 0 _ _, fun i j τ hi _ => absurd hi (Nat.not_lt_zero _)⟩
            · obtain ⟨m, g0, h5, h6⟩ := rs q hq2
              have hrn := hps _ (sz _ h6)
              simp only at hrn
              obtain ⟨hpos, xs, h9, h10⟩ := C.sim.row _ _ m g0 h5
              rw [hrn, hd1rs q hq2]
              refine ⟨hpos, xs, h9, fun i j τ hi hj => ?_⟩
              obtain ⟨v, h11, h12⟩ := h10 i j τ hi hj
              exact ⟨v, h11, h12.keep hkp⟩
      refine ⟨us, results_run hrun, ?_, β1, hd1, hO, hsim, fun K hK => ⟨fun t cs hm => ?_, fun e n g hm => ?_⟩, fun j v hj => ?_⟩
      · rw [hul]; exact (takeL_len hx).symm
      · obtain ⟨hb, hne⟩ := hX.1 K hK
        rcases ents K _ hm with ⟨c, hc, rfl, h4⟩ | ⟨q, _, _, h4⟩
        · cases h4
          obtain ⟨cs', _, h5, _⟩ := bs c hc
          have h6 := List.all_eq_true.1 g8 c hc
          rw [Bool.or_eq_true, Nat.blt_eq] at h6
          rcases h6 with h6 | h6
          · omega
          · have h6 : c.K = c.k := eq_of_beq h6
            obtain ⟨h7, h8⟩ := (hX.2 c.K hK).1 c.t cs' (by rw [h6]; exact h5)
            exact ⟨h7, by rw [hβ1 c hc, ← h6]; exact h8⟩
        · cases h4
      · obtain ⟨hb, hne⟩ := hX.1 K hK
        rcases ents K _ hm with ⟨c, _, _, h4⟩ | ⟨q, hq, rfl, h4⟩
        · cases h4
        · cases h4
          have low : ∀ o, (q.1, o) ∈ tk.rw → False := by
            intro o hm
            have := List.all_eq_true.1 g7 _ hm
            rw [Nat.blt_eq] at this
            simp only at this
            omega
          rcases facts q hq with (⟨k, len, n0, g0, u, h5, _⟩ | ⟨h5, _, _⟩) | hq2
          · exact (low _ h5).elim
          · exact (low _ h5).elim
          · obtain ⟨m, g0, h5, h6⟩ := rs q hq2
            have hrn := hps _ (sz _ h6)
            simp only at hrn
            obtain ⟨h7, h8⟩ := (hX.2 q.1 hK).2 _ m g0 h5
            rw [hrn, hd1rs q hq2]
            exact ⟨h7, h8⟩
      · have hlen := takeL_len hx
        have key : ∀ (as : List TA) (cs : List AV) (t : Tk) (j0 : Nat), TA.takeL P s.M kk as cs = some t → (∀ q ∈ t.ps, q ∈ tk.ps) → (∀ q ∈ t.rw, q ∈ tk.rw) → (∀ q ∈ t.fz, q ∈ tk.fz) → (∀ q ∈ TA.rowsL as, q ∈ tp.rows) →
            (∀ j c, cs[j]? = some c → RA P w s.M β hd c (us.getD (j0 + j) undef)) → ∀ j v, (TA.instL r as)[j]? = some v → RA P w (tp.M r) β1 hd1 v (us.getD (j0 + j) undef) := by
          intro as
          induction as with
          | nil => intro cs t j0 _ _ _ _ _ _ j v hj; simp [TA.instL] at hj
          | cons a as ih =>
            intro cs t j0 h h1 h2 h3 h4 h5 j v hj
            cases cs with
            | nil => simp [TA.takeL] at h
            | cons c cs =>
              obtain ⟨t1, t2, h6, h7, rfl⟩ := takeL_cons h
              simp only [TA.instL] at hj
              cases j with
              | zero =>
                obtain rfl : TA.inst r a = v := by simpa using hj
                exact take_RA C.sim a c _ t1 h6 (F.sub (fun q hq => h1 q (app_l.1 q hq)) (fun q hq => h2 q (app_l.2.1 q hq)) (fun q hq => h3 q (app_l.2.2 q hq))) (fun q hq => getr q (h4 q (by simp only [TA.rowsL, List.mem_append]; exact .inl hq))) (h5 0 c rfl)
              | succ j =>
                have := ih cs t2 (j0 + 1) h7 (fun q hq => h1 q (app_r.1 q hq)) (fun q hq => h2 q (app_r.2.1 q hq)) (fun q hq => h3 q (app_r.2.2 q hq)) (fun q hq => h4 q (by simp only [TA.rowsL, List.mem_append]; exact .inr hq))
                  (fun j c' hj' => by have := h5 (j + 1) c' (by simpa using hj'); rwa [show j0 + (j + 1) = j0 + 1 + j by omega] at this) j v (by simpa using hj)
                rwa [show j0 + (j + 1) = j0 + 1 + j by omega]
        have := key tp.vs vs x 0 hx sx.1 sx.2.1 sx.2.2 (fun q hq => by unfold Tpl.rows; exact List.mem_append.2 (.inl hq)) (fun j c hj => by rw [Nat.zero_add]; exact rel j c hj) j v hj
        rwa [Nat.zero_add] at this
    · cases h
  · cases h
end
theorem start_ok {P : Program} {F : Fr0} {fn : Func} {args : List AV} {vals : Array Value} (ha : ArgsOk P F args vals) :
    StOk P F F.β.O (start fn args F.M) { tmps := vals ++ Array.replicate (fn.ntmps - vals.size) undef, defers := [] } F.w := by
  refine ⟨F.β, F.hd, ⟨rfl, fun q hq => ⟨ha.high q hq, hq⟩, fun q hq => ⟨fun t cs hm => ⟨⟨cs, hm⟩, rfl⟩, fun e n g hm => ⟨⟨g, hm⟩, rfl⟩⟩⟩, ha.sim, ⟨?_, fun t x hx => ?_, rfl⟩⟩
  · simp [start, ha.len]
  · simp only [start] at hx
    rw [List.getElem?_append] at hx
    have hl := ha.len
    by_cases h1 : t < args.length
    · rw [if_pos h1] at hx
      have h2 := ha.val t x hx
      have h3 : (vals ++ Array.replicate (fn.ntmps - vals.size) undef).getD t undef = vals.getD t undef := by
        have : t < vals.size := by omega
        simp [Array.getD_eq_getD_getElem?, Array.getElem?_append, this]
      show RA P F.w F.M F.β F.hd x ((vals ++ Array.replicate (fn.ntmps - vals.size) undef).getD t undef)
      rw [h3]
      exact h2
    · rw [if_neg h1] at hx
      have := List.mem_of_getElem? hx
      obtain ⟨_, rfl⟩ := List.mem_replicate.1 this
      exact .und _
theorem runF_ok {P : Program} {fr : Fr} {h : H} (hs : HSound P fr h) (hdr : DrawSound P fr h) {n : Nat} {pl : Nat → Option LP} {f : FuncId} {fn : Func} {args : List AV} {M : Store} {r : R} (hf : P.funcs[f]? = some fn) (hr : runF P fr h pl n (fr.tpl f) fn args M = some r) :
    FSound P fr f args M r := by
  intro F vals hM ha fn' hf'
  rw [hf] at hf'
  cases hf'
  unfold runF at hr
  split at hr
  · rename_i c hc
    have hbase : ∀ e s a w', kEnd P (fr.tpl f) fn e s = some r → StOk P F F.β.O s a w' → bodyPost P fn (fun e w' => ∃ us, e = .returned (outV us) ∧ ResOk P F (fr.tpl f) r w' us) (ex e) a w' := by
      intro e s' a' w' hk hst
      cases e with
      | normal =>
        obtain ⟨h1, us, h2, h3⟩ := finish_ok hst hk
        exact ⟨h1, outV us, h2, us, rfl, h3⟩
      | ret =>
        obtain ⟨h1, us, h2, h3⟩ := finish_ok hst hk
        exact ⟨h1, outV us, h2, us, rfl, h3⟩
      | exit id => cases hk
    rw [← hM] at hr
    exact calls_of_wp hf hc ((go_ok hs hdr hbase n (blk_ok hs hdr hbase n) deep).1 c .normal [] _ _ _ (fun x hx => by cases hx) hr (start_ok ha))
  · cases hr
theorem call_ok {P : Program} {pl : Plan} {fr : Fr} {ext : FuncId → Option (List AV → Store → Option R)} (hdr : ∀ h, HSound P fr h → DrawSound P fr h) (hext : ∀ f F args M r, ext f = some F → F args M = some r → FSound P fr f args M r) : ∀ n, HSound P fr (call P pl fr ext n)
  | 0 => fun f args M r h => by cases h
  | n + 1 => by
    have ih := call_ok (pl := pl) hdr hext n
    intro f args M r h
    simp only [call] at h
    split at h
    · rename_i F hF
      exact hext f F args M r hF h
    · split at h
      · rename_i fn hfn
        obtain ⟨_, h1⟩ := bif_inv h
        exact runF_ok ih (hdr _ ih) hfn h1
      · cases h
end Go.AM
