/- What is trimmed: the plain law. -/
import Derived.Test.YtljfhfgbpcaadaaDoorMc5
set_option linter.unusedVariables false
set_option linter.unusedSimpArgs false
namespace Go.AM
open Go.Proofs.YtljfhfgbpcaadaaDoor
structure Rw where
  s : Int
  i : Int
  o : Int
  t : Int
def rwAt (x : T) (j : Nat) : Rw := ⟨(x.el j 0).int, (x.el j 1).int, (x.el j 2).int, (x.el j 3).int⟩
def rwsOf (x : T) : List Rw := (List.range x.len).map (rwAt x)
theorem rws_len (x : T) : (rwsOf x).length = x.len := by simp [rwsOf]
theorem rws_get (x : T) {j : Nat} (h : j < (rwsOf x).length) : (rwsOf x)[j] = rwAt x j := by simp [rwsOf]
theorem rws_mem {x : T} {rw : Rw} : rw ∈ rwsOf x ↔ ∃ j, j < x.len ∧ rwAt x j = rw := by
  unfold rwsOf
  rw [List.mem_map]
  exact ⟨fun ⟨j, h, e⟩ => ⟨j, List.mem_range.1 h, e⟩, fun ⟨j, h, e⟩ => ⟨j, List.mem_range.2 h, e⟩⟩
def ltR (a b : Rw) : Prop := a.s < b.s ∨ a.s = b.s ∧ a.i < b.i
structure okR (first : Bool) (l : List Rw) : Prop where
  num : ∀ r ∈ l, numOk r.s = true ∧ numOk r.i = true ∧ numOk r.o = true ∧ numOk r.t = true ∧ (first = true → r.s = 0)
  ord : l.Pairwise ltR
theorem ord_lt {a b c d : Int} : ordI a b c d < 0 ↔ a < c ∨ a = c ∧ b < d := by
  have := ord_neg a b c d
  rw [Bool.eq_iff_iff] at this
  simpa using this
theorem ord_eq {a b c d : Int} : ordI a b c d = 0 ↔ a = c ∧ b = d := by
  unfold ordI cmpI
  repeat' split
  all_goals first | omega | (constructor <;> intro h <;> omega)
theorem ltR_trans {a b c : Rw} (h : ltR a b) (k : ltR b c) : ltR a c := by
  unfold ltR at *
  omega
theorem rows_ok {t : T} {first : Bool} : rowsOk t first = true ↔ okR first (rwsOf t) := by
  unfold rowsOk
  rw [List.all_eq_true]
  have hget : ∀ j, j < t.len → (rowOk t first j = true ↔ (numOk (rwAt t j).s = true ∧ numOk (rwAt t j).i = true ∧ numOk (rwAt t j).o = true ∧ numOk (rwAt t j).t = true ∧ (first = true → (rwAt t j).s = 0) ∧ (j = 0 ∨ ltR (rwAt t (j - 1)) (rwAt t j)))) := by
    intro j hj
    unfold rowOk
    simp only [Bool.and_eq_true, Bool.or_eq_true, decide_eq_true_eq, beq_iff_eq, Bool.not_eq_true', ord_lt]
    show (_ ∧ _ ∧ _ ∧ _ ∧ (first = false ∨ (rwAt t j).s = 0) ∧ (j = 0 ∨ ltR (rwAt t (j - 1)) (rwAt t j))) ↔ _
    constructor
    · rintro ⟨h1, h2, h3, h4, h5, h6⟩
      exact ⟨h1, h2, h3, h4, fun hf => h5.resolve_left (by rw [hf]; simp), h6⟩
    · rintro ⟨h1, h2, h3, h4, h5, h6⟩
      refine ⟨h1, h2, h3, h4, ?_, h6⟩
      cases first with
      | true => exact .inr (h5 rfl)
      | false => exact .inl rfl
  constructor
  · intro h
    have hj : ∀ j, j < t.len → _ := fun j hj => (hget j hj).1 (h j (by simp [List.mem_range']; omega))
    refine ⟨fun r hr => ?_, ?_⟩
    · obtain ⟨j, hl, rfl⟩ := rws_mem.1 hr
      obtain ⟨h1, h2, h3, h4, h5, _⟩ := hj j hl
      exact ⟨h1, h2, h3, h4, h5⟩
    · rw [List.pairwise_iff_getElem]
      intro i j hi hk hij
      rw [rws_get, rws_get]
      rw [rws_len] at hk
      have step : ∀ d, i + d + 1 < t.len → ltR (rwAt t i) (rwAt t (i + d + 1)) := by
        intro d
        induction d with
        | zero =>
          intro hd
          have := (hj (i + 1) (by omega)).2.2.2.2.2
          exact this.resolve_left (by omega)
        | succ d ih =>
          intro hd
          have := (hj (i + (d + 1) + 1) hd).2.2.2.2.2
          exact ltR_trans (ih (by omega)) (this.resolve_left (by omega))
      have := step (j - i - 1) (by omega)
      rwa [show i + (j - i - 1) + 1 = j by omega] at this
  · intro h j hj
    have hj : j < t.len := by
      rw [List.mem_range'] at hj
      obtain ⟨q, hq, e⟩ := hj
      omega
    obtain ⟨h1, h2, h3, h4, h5⟩ := h.num _ (rws_mem.2 ⟨j, hj, rfl⟩)
    refine (hget j hj).2 ⟨h1, h2, h3, h4, h5, ?_⟩
    by_cases c : j = 0
    · exact .inl c
    · have := List.pairwise_iff_getElem.1 h.ord (j - 1) j (by rw [rws_len]; omega) (by rw [rws_len]; omega) (by omega)
      rw [rws_get, rws_get] at this
      exact .inr this
theorem bsF_lb {c : Nat → Int} {n : Nat} (mono : ∀ h h', h ≤ h' → h' < n → c h' < 0 → c h < 0) : ∀ f i j, i ≤ j → j ≤ n → j - i < f → (∀ h, h < i → c h < 0) → (∀ h, j ≤ h → h < n → ¬ c h < 0) →
    (∀ h, h < bsF c f i j → c h < 0) ∧ (∀ h, bsF c f i j ≤ h → h < n → ¬ c h < 0)
  | 0, i, j, h1, h2, h3, h4, h5 => by omega
  | f + 1, i, j, h1, h2, h3, h4, h5 => by
    unfold bsF
    by_cases d : i < j
    · rw [if_pos d]
      by_cases e : c ((i + j) / 2) < 0
      · rw [if_pos e]
        exact bsF_lb mono f _ _ (by omega) h2 (by omega) (fun h hh => mono h ((i + j) / 2) (by omega) (by omega) e) h5
      · rw [if_neg e]
        exact bsF_lb mono f _ _ (by omega) (by omega) (by omega) h4 (fun h hh hn e2 => e (mono ((i + j) / 2) h hh hn e2))
    · rw [if_neg d]
      exact ⟨h4, fun h hh hn => h5 h (by omega) hn⟩
theorem ltR_of {t : T} (ok : (rwsOf t).Pairwise ltR) {h h' : Nat} (hh : h < h') (hn : h' < t.len) : ltR (rwAt t h) (rwAt t h') := by
  have := List.pairwise_iff_getElem.1 ok h h' (by rw [rws_len]; omega) (by rw [rws_len]; omega) hh
  rwa [rws_get, rws_get] at this
theorem ordAt_neg {t : T} {s x : Int} {h : Nat} : ordAt t s x h < 0 ↔ (rwAt t h).s < s ∨ (rwAt t h).s = s ∧ (rwAt t h).i < x := ord_lt
theorem bsM_lb {t : T} (ok : (rwsOf t).Pairwise ltR) (s x : Int) : (∀ h, h < bsM t s x → ordAt t s x h < 0) ∧ (∀ h, bsM t s x ≤ h → h < t.len → ¬ ordAt t s x h < 0) := by
  refine bsF_lb (n := t.len) (fun h h' hh hn e => ?_) (t.len + 1) 0 t.len (Nat.zero_le _) (Nat.le_refl _) (by omega) (fun h hh => absurd hh (Nat.not_lt_zero _)) (fun h hh hn => by omega)
  rcases Nat.lt_or_eq_of_le hh with c | rfl
  · have := ltR_of ok c hn
    rw [ordAt_neg] at e ⊢
    unfold ltR at this
    omega
  · exact e
theorem findM_mem {t : T} (ok : (rwsOf t).Pairwise ltR) {rw : Rw} (h : rw ∈ rwsOf t) : findM t rw.s rw.i = some (rw.o, rw.t) := by
  obtain ⟨j, hj, rfl⟩ := rws_mem.1 h
  obtain ⟨l1, l2⟩ := bsM_lb ok (rwAt t j).s (rwAt t j).i
  have e0 : ordAt t (rwAt t j).s (rwAt t j).i j = 0 := ord_eq.2 ⟨rfl, rfl⟩
  have q : bsM t (rwAt t j).s (rwAt t j).i = j := by
    rcases Nat.lt_trichotomy (bsM t (rwAt t j).s (rwAt t j).i) j with c | c | c
    · have a := l2 _ (Nat.le_refl _) (by omega)
      have b := ltR_of ok c hj
      rw [ordAt_neg] at a
      exact absurd b a
    · exact c
    · have a := l1 _ c
      omega
  unfold findM
  rw [q, if_pos ⟨hj, e0⟩]
  rfl
theorem findM_non {t : T} {s x : Int} (h : ∀ rw ∈ rwsOf t, ¬ (rw.s = s ∧ rw.i = x)) : findM t s x = none := by
  unfold findM
  rw [if_neg]
  rintro ⟨h1, h2⟩
  exact h _ (rws_mem.2 ⟨_, h1, rfl⟩) (ord_eq.1 h2)
def anew (S : List Int) (x : Int) : Int := ((S.filter fun z => decide (z < x)).length : Int)
theorem anew_nonneg (S : List Int) (x : Int) : 0 ≤ anew S x := by unfold anew; omega
theorem anew_le (S : List Int) (x : Int) : anew S x ≤ (S.length : Int) := by
  unfold anew
  have := List.length_filter_le (fun z => decide (z < x)) S
  omega
theorem anew_cons (z : Int) (S : List Int) (x : Int) : anew (z :: S) x = anew S x + (if z < x then 1 else 0) := by
  unfold anew
  by_cases c : z < x
  · rw [List.filter_cons_of_pos (by simpa using c), if_pos c, List.length_cons]; omega
  · rw [List.filter_cons_of_neg (by simpa using c), if_neg c]; omega
theorem anew_mono : ∀ (S : List Int) {x y : Int}, x ≤ y → anew S x ≤ anew S y
  | [], x, y, h => Int.le_refl _
  | z :: S, x, y, h => by
    rw [anew_cons, anew_cons]
    have := anew_mono S h
    split <;> split <;> omega
theorem anew_lt : ∀ {S : List Int} {x y : Int}, x ∈ S → x < y → anew S x < anew S y
  | [], x, y, h, _ => absurd h List.not_mem_nil
  | z :: S, x, y, h, hxy => by
    rw [anew_cons, anew_cons]
    rcases List.mem_cons.1 h with rfl | h
    · have := anew_mono S (Int.le_of_lt hxy)
      rw [if_neg (Int.lt_irrefl _), if_pos hxy]
      omega
    · have := anew_lt h hxy
      split <;> split <;> omega
theorem anew_inj {S : List Int} {x y : Int} (hx : x ∈ S) (hy : y ∈ S) (h : anew S x = anew S y) : x = y := by
  rcases Int.lt_trichotomy x y with c | c | c
  · have := anew_lt hx c; omega
  · exact c
  · have := anew_lt hy c; omega
theorem anew_lt_iff {S : List Int} {x y : Int} (hx : x ∈ S) (hy : y ∈ S) : anew S x < anew S y ↔ x < y := by
  constructor
  · intro h
    rcases Int.lt_or_le x y with c | c
    · exact c
    · have := anew_mono S c; omega
  · exact anew_lt hx
theorem anew_perm {S S' : List Int} (h : S.Perm S') (x : Int) : anew S x = anew S' x := by
  unfold anew
  rw [(h.filter _).length_eq]
theorem anew_map {S : List Int} {s : Int} (hs : s ∈ S) : anew (S.map (anew S)) (anew S s) = anew S s := by
  have key : ∀ l : List Int, (∀ z ∈ l, z ∈ S) → anew (l.map (anew S)) (anew S s) = anew l s := by
    intro l
    induction l with
    | nil => intro _; rfl
    | cons z l ih =>
      intro h
      rw [List.map_cons, anew_cons, anew_cons, ih fun q hq => h q (List.mem_cons_of_mem _ hq)]
      have := anew_lt_iff (h z (List.mem_cons_self ..)) hs
      by_cases c : z < s
      · rw [if_pos c, if_pos (this.2 c)]
      · rw [if_neg c, if_neg (fun e => c (this.1 e))]
  exact key S fun z hz => hz
structure ReachS (B R : List Rw) (S : List Int) : Prop where
  nd : S.Nodup
  beg : ∀ r ∈ B, r.t ∈ S
  step : ∀ r ∈ R, r.s ∈ S → r.t ∈ S
  least : ∀ Q : Int → Prop, (∀ r ∈ B, Q r.t) → (∀ r ∈ R, Q r.s → Q r.t) → ∀ s ∈ S, Q s
def trB (S : List Int) (B : List Rw) : List Rw := B.map fun r => ⟨r.s, r.i, r.o, anew S r.t⟩
def trR (S : List Int) (R : List Rw) : List Rw := (R.filter fun r => decide (r.s ∈ S)).map fun r => ⟨anew S r.s, r.i, r.o, anew S r.t⟩
theorem trR_mem {S : List Int} {R : List Rw} {q : Rw} : q ∈ trR S R ↔ ∃ r ∈ R, r.s ∈ S ∧ q = ⟨anew S r.s, r.i, r.o, anew S r.t⟩ := by
  unfold trR
  simp only [List.mem_map, List.mem_filter, decide_eq_true_eq]
  exact ⟨fun ⟨r, ⟨a, b⟩, c⟩ => ⟨r, a, b, c.symm⟩, fun ⟨r, a, b, c⟩ => ⟨r, ⟨a, b⟩, c.symm⟩⟩
theorem trB_mem {S : List Int} {B : List Rw} {q : Rw} : q ∈ trB S B ↔ ∃ r ∈ B, q = ⟨r.s, r.i, r.o, anew S r.t⟩ := by
  unfold trB
  rw [List.mem_map]
  exact ⟨fun ⟨r, a, b⟩ => ⟨r, a, b.symm⟩, fun ⟨r, a, b⟩ => ⟨r, a, b.symm⟩⟩
theorem nodup_sub : ∀ {S L : List Int}, S.Nodup → (∀ s ∈ S, s ∈ L) → S.length ≤ L.length
  | [], L, _, _ => Nat.zero_le _
  | x :: S, L, hn, hs => by
    have hx := hs x (List.mem_cons_self ..)
    have h1 : S.length ≤ (L.erase x).length := nodup_sub (List.nodup_cons.1 hn).2 fun s h => (List.mem_erase_of_ne (by rintro rfl; exact (List.nodup_cons.1 hn).1 h)).2 (hs s (List.mem_cons_of_mem _ h))
    have h2 := List.length_erase_of_mem hx
    have h3 : 0 < L.length := List.length_pos_of_mem hx
    rw [List.length_cons]
    omega
theorem ReachS.count {B R : List Rw} {S : List Int} (h : ReachS B R S) : S.length ≤ (trB S B).length + (trR S R).length := by
  have hl : S.length ≤ (B.map Rw.t ++ (R.filter fun r => decide (r.s ∈ S)).map Rw.t).length := by
    refine nodup_sub h.nd fun s hs => (h.least (fun x => x ∈ S ∧ x ∈ B.map Rw.t ++ (R.filter fun r => decide (r.s ∈ S)).map Rw.t) (fun r hr => ⟨h.beg r hr, List.mem_append.2 (.inl (List.mem_map.2 ⟨r, hr, rfl⟩))⟩) (fun r hr hq => ⟨h.step r hr hq.1, List.mem_append.2 (.inr (List.mem_map.2 ⟨r, List.mem_filter.2 ⟨hr, by simpa using hq.1⟩, rfl⟩))⟩) s hs).2
  unfold trB trR
  rw [List.length_map, List.length_map]
  simpa using hl
theorem trR_len (S : List Int) (R : List Rw) : (trR S R).length ≤ R.length := by
  unfold trR
  rw [List.length_map]
  exact List.length_filter_le _ _
theorem trB_len (S : List Int) (B : List Rw) : (trB S B).length = B.length := by simp [trB]
theorem trB_ok {B R : List Rw} {S : List Int} (h : ReachS B R S) (ok : okR true B) (hn : S.length ≤ 100000) : okR true (trB S B) := by
  refine ⟨fun q hq => ?_, ?_⟩
  · obtain ⟨r, hr, rfl⟩ := trB_mem.1 hq
    obtain ⟨h1, h2, h3, h4, h5⟩ := ok.num r hr
    have a := anew_nonneg S r.t
    have b := anew_le S r.t
    exact ⟨h1, h2, h3, by unfold numOk; simp; omega, h5⟩
  · unfold trB
    rw [List.pairwise_map]
    exact ok.ord.imp fun h => h
theorem trR_ok {B R : List Rw} {S : List Int} (h : ReachS B R S) (ok : okR false R) (hn : S.length ≤ 100000) : okR false (trR S R) := by
  have num : ∀ x, numOk (anew S x) = true := fun x => by
    have a := anew_nonneg S x
    have b := anew_le S x
    unfold numOk; simp; omega
  refine ⟨fun q hq => ?_, ?_⟩
  · obtain ⟨r, hr, hs, rfl⟩ := trR_mem.1 hq
    obtain ⟨h1, h2, h3, h4, h5⟩ := ok.num r hr
    exact ⟨num _, h2, h3, num _, fun e => by cases e⟩
  · unfold trR
    rw [List.pairwise_map]
    refine (ok.ord.filter _).imp_of_mem fun {a b} ha hb hab => ?_
    have ha := of_decide_eq_true (List.mem_filter.1 ha).2
    unfold ltR at hab ⊢
    rcases hab with c | ⟨c, d⟩
    · exact .inl (anew_lt ha c)
    · exact .inr ⟨by rw [c], d⟩
theorem run_sim {b r b' r' : T} {S : List Int} (h : ReachS (rwsOf b) (rwsOf r) S) (okb : (rwsOf b).Pairwise ltR) (okr : (rwsOf r).Pairwise ltR) (okb' : (rwsOf b').Pairwise ltR) (okr' : (rwsOf r').Pairwise ltR) (eb : rwsOf b' = trB S (rwsOf b)) (er : rwsOf r' = trR S (rwsOf r)) (xs : List Int) : runL r' b' 0 xs = runL r b 0 xs := by
  have step : ∀ (xs : List Int) (s : Int), s ∈ S → runL r' r' (anew S s) xs = runL r r s xs := by
    intro xs
    induction xs with
    | nil => intro s _; rfl
    | cons x xs ih =>
      intro s hs
      simp only [runL]
      by_cases c : ∃ q ∈ rwsOf r, q.s = s ∧ q.i = x
      · obtain ⟨q, hq, rfl, rfl⟩ := c
        have hq' : (⟨anew S q.s, q.i, q.o, anew S q.t⟩ : Rw) ∈ rwsOf r' := by rw [er]; exact trR_mem.2 ⟨q, hq, hs, rfl⟩
        have e1 := findM_mem okr' hq'
        simp only at e1
        rw [findM_mem okr hq, e1]
        simp only
        rw [ih _ (h.step q hq hs)]
      · rw [findM_non (t := r) (fun q hq e => c ⟨q, hq, e⟩), findM_non (t := r') (fun q' hq' e => by
          rw [er] at hq'
          obtain ⟨q, hq, hqs, rfl⟩ := trR_mem.1 hq'
          exact c ⟨q, hq, anew_inj hqs hs e.1, e.2⟩)]
  cases xs with
  | nil => rfl
  | cons x xs =>
    simp only [runL]
    by_cases c : ∃ q ∈ rwsOf b, q.s = 0 ∧ q.i = x
    · obtain ⟨q, hq, hq0, rfl⟩ := c
      have hq' : (⟨q.s, q.i, q.o, anew S q.t⟩ : Rw) ∈ rwsOf b' := by rw [eb]; exact trB_mem.2 ⟨q, hq, rfl⟩
      have e1 := findM_mem okb' hq'
      have e2 := findM_mem okb hq
      simp only at e1
      rw [hq0] at e1 e2
      rw [e1, e2]
      simp only
      rw [step _ _ (h.beg q hq)]
    · rw [findM_non (t := b) (fun q hq e => c ⟨q, hq, e⟩), findM_non (t := b') (fun q' hq' e => by
        rw [eb] at hq'
        obtain ⟨q, hq, rfl⟩ := trB_mem.1 hq'
        exact c ⟨q, hq, e.1, e.2⟩)]
theorem trim_twice {B R : List Rw} {S S' : List Int} (h : ReachS B R S) (h' : ReachS (trB S B) (trR S R) S') : trB S' (trB S B) = trB S B ∧ trR S' (trR S R) = trR S R := by
  have sub : ∀ x ∈ S', ∃ s ∈ S, x = anew S s := by
    refine h'.least (fun x => ∃ s ∈ S, x = anew S s) (fun q hq => ?_) (fun q hq _ => ?_)
    · obtain ⟨r, hr, rfl⟩ := trB_mem.1 hq
      exact ⟨r.t, h.beg r hr, rfl⟩
    · obtain ⟨r, hr, hs, rfl⟩ := trR_mem.1 hq
      exact ⟨r.t, h.step r hr hs, rfl⟩
  have sup : ∀ s ∈ S, anew S s ∈ S' ∧ s ∈ S := by
    refine h.least (fun s => anew S s ∈ S' ∧ s ∈ S) (fun r hr => ?_) (fun r hr hq => ?_)
    · exact ⟨h'.beg _ (trB_mem.2 ⟨r, hr, rfl⟩), h.beg r hr⟩
    · exact ⟨h'.step _ (trR_mem.2 ⟨r, hr, hq.2, rfl⟩) hq.1, h.step r hr hq.2⟩
  have hnd : (S.map (anew S)).Nodup := by
    unfold List.Nodup
    rw [List.pairwise_map]
    exact h.nd.imp_of_mem fun {a b} ha hb hab e => hab (anew_inj ha hb e)
  have perm : S'.Perm (S.map (anew S)) := by
    rw [List.perm_ext_iff_of_nodup h'.nd hnd]
    intro x
    rw [List.mem_map]
    constructor
    · intro hx
      obtain ⟨s, hs, rfl⟩ := sub x hx
      exact ⟨s, hs, rfl⟩
    · rintro ⟨s, hs, rfl⟩
      exact (sup s hs).1
  have same : ∀ s ∈ S, anew S' (anew S s) = anew S s := fun s hs => by rw [anew_perm perm, anew_map hs]
  constructor
  · unfold trB
    rw [List.map_map]
    refine List.map_congr_left fun r hr => ?_
    show (⟨r.s, r.i, r.o, anew S' (anew S r.t)⟩ : Rw) = _
    rw [same _ (h.beg r hr)]
  · have all : (trR S R).filter (fun r => decide (r.s ∈ S')) = trR S R := by
      rw [List.filter_eq_self]
      intro q hq
      obtain ⟨r, hr, hs, rfl⟩ := trR_mem.1 hq
      simpa using (sup _ hs).1
    have e : trR S' (trR S R) = (trR S R).map fun r => ⟨anew S' r.s, r.i, r.o, anew S' r.t⟩ := by
      rw [show trR S' (trR S R) = ((trR S R).filter fun r => decide (r.s ∈ S')).map fun r => ⟨anew S' r.s, r.i, r.o, anew S' r.t⟩ from rfl, all]
    rw [e]
    refine (List.map_congr_left fun q hq => ?_).trans (List.map_id _)
    obtain ⟨r, hr, hs, rfl⟩ := trR_mem.1 hq
    show (⟨anew S' (anew S r.s), r.i, r.o, anew S' (anew S r.t)⟩ : Rw) = ⟨anew S r.s, r.i, r.o, anew S r.t⟩
    rw [same _ hs, same _ (h.step r hr hs)]
theorem trim_most {B R : List Rw} {S : List Int} (h : ReachS B R S) (ok : okR true B) : (∀ q ∈ trB S B, q.s ≤ ((trB S B).length + (trR S R).length : Int) ∧ q.t ≤ ((trB S B).length + (trR S R).length : Int)) ∧ (∀ q ∈ trR S R, q.s ≤ ((trB S B).length + (trR S R).length : Int) ∧ q.t ≤ ((trB S B).length + (trR S R).length : Int)) := by
  have hc := h.count
  constructor
  · intro q hq
    obtain ⟨r, hr, rfl⟩ := trB_mem.1 hq
    have h0 := (ok.num r hr).2.2.2.2 rfl
    have := anew_le S r.t
    simp only
    omega
  · intro q hq
    obtain ⟨r, hr, hs, rfl⟩ := trR_mem.1 hq
    have := anew_le S r.t
    have := anew_le S r.s
    simp only
    omega
theorem rows_eq {s t : T} (h : rwsOf s = rwsOf t) : rowsEq s t = true := by
  have hl : s.len = t.len := by rw [← rws_len s, h, rws_len]
  unfold rowsEq
  rw [hl, beq_self_eq_true, Bool.true_and, List.all_eq_true]
  intro j hj
  have hj : j < t.len := by
    rw [List.mem_range'] at hj
    obtain ⟨q, hq, e⟩ := hj
    omega
  have e : rwAt s j = rwAt t j := by
    have h1 := rws_get s (j := j) (by rw [rws_len]; omega)
    have h2 := rws_get t (j := j) (by rw [rws_len]; omega)
    rw [← h1, ← h2]
    simp only [h]
  unfold rowEq
  have e0 : (s.el j 0).int = (t.el j 0).int := congrArg Rw.s e
  have e1 : (s.el j 1).int = (t.el j 1).int := congrArg Rw.i e
  have e2 : (s.el j 2).int = (t.el j 2).int := congrArg Rw.o e
  have e3 : (s.el j 3).int = (t.el j 3).int := congrArg Rw.t e
  rw [e0, e1, e2, e3]
  simp
end Go.AM
