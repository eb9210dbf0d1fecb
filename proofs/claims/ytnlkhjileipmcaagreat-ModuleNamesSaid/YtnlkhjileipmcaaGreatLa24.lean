/- The plain laws of folding. -/
import Derived.Test.YtnlkhjileipmcaaGreatLa23
set_option linter.unusedVariables false
set_option linter.unusedSimpArgs false
namespace Go.AM
mutual
/-- What reads nothing is its value. -/
def foldE (l : List Va) : Ex → Ex
  | .mk op n ks => if rdE 3 (.mk op n ks) = [] ∧ rdE 4 (.mk op n ks) = [] ∧ (valE [] [] (.mk op n ks)).2 = 0 then .mk (if (ofE l (.mk op n ks)).1 = 2 then 1 else 2) (valE [] [] (.mk op n ks)).1 [] else .mk op n (foldL l ks)
def foldL (l : List Va) : List Ex → List Ex
  | [] => []
  | k :: ks => foldE l k :: foldL l ks
end
theorem foldL_map (l : List Va) : ∀ ks, foldL l ks = ks.map (foldE l)
  | [] => rfl
  | k :: ks => by simp [foldL, foldL_map l ks]
mutual
/-- What reads nothing has one value. -/
theorem valE_closed (a b c d : List Int) : ∀ e : Ex, rdE 3 e = [] → rdE 4 e = [] → valE a b e = valE c d e
  | .mk op n ks, h3, h4 => by
    simp only [rdE, List.append_eq_nil_iff] at h3 h4
    have n3 : op ≠ 3 := by intro h; rw [if_pos h] at h3; cases h3.1
    have n4 : op ≠ 4 := by intro h; rw [if_pos h] at h4; cases h4.1
    simp only [valE, nodeV]
    rw [if_neg n3, if_neg n3, if_neg n4, if_neg n4, valL_closed a b c d ks h3.2 h4.2]
theorem valL_closed (a b c d : List Int) : ∀ ks : List Ex, rdL 3 ks = [] → rdL 4 ks = [] → valL a b ks = valL c d ks
  | [], _, _ => rfl
  | k :: ks, h3, h4 => by
    simp only [rdL, List.append_eq_nil_iff] at h3 h4
    simp only [valL]
    rw [valE_closed a b c d k h3.1 h4.1, valL_closed a b c d ks h3.2 h4.2]
end
mutual
theorem rdOk_closed (l : List Va) (a b : List Int) : ∀ e : Ex, rdE 3 e = [] → rdE 4 e = [] → rdOk l a b e
  | .mk op n ks, h3, h4 => by
    simp only [rdE, List.append_eq_nil_iff] at h3 h4
    have n3 : op ≠ 3 := by intro h; rw [if_pos h] at h3; cases h3.1
    have n4 : op ≠ 4 := by intro h; rw [if_pos h] at h4; cases h4.1
    simp only [rdOk]
    exact ⟨fun h => absurd h n3, fun h => absurd h n4, rdOkL_closed l a b ks h3.2 h4.2⟩
theorem rdOkL_closed (l : List Va) (a b : List Int) : ∀ ks : List Ex, rdL 3 ks = [] → rdL 4 ks = [] → rdOkL l a b ks
  | [], _, _ => trivial
  | k :: ks, h3, h4 => by
    simp only [rdL, List.append_eq_nil_iff] at h3 h4
    exact ⟨rdOk_closed l a b k h3.1 h4.1, rdOkL_closed l a b ks h3.2 h4.2⟩
end
/-- What folding keeps. -/
structure Folds (l : List Va) (e : Ex) : Prop where
  rd : ∀ t, t = 3 ∨ t = 4 → rdE t (foldE l e) = rdE t e
  cnt : cntE (foldE l e) ≤ cntE e
  fit : ∀ d, fitD e d = true → fitD (foldE l e) d = true
  val : ∀ a b, rdOk l a b e → valE a b (foldE l e) = valE a b e
  idem : foldE l (foldE l e) = foldE l e
theorem foldL_rd {l : List Va} {t : Int} (ht : t = 3 ∨ t = 4) : ∀ {ks : List Ex}, (∀ k ∈ ks, Folds l k) → rdL t (foldL l ks) = rdL t ks
  | [], _ => rfl
  | k :: ks, h => by
    simp only [foldL, rdL]
    rw [(h k (List.mem_cons_self ..)).rd t ht, foldL_rd ht fun q hq => h q (List.mem_cons_of_mem _ hq)]
theorem foldL_cnt {l : List Va} : ∀ {ks : List Ex}, (∀ k ∈ ks, Folds l k) → cntL (foldL l ks) ≤ cntL ks
  | [], _ => Int.le_refl _
  | k :: ks, h => by
    have h1 := (h k (List.mem_cons_self ..)).cnt
    have h2 := foldL_cnt fun q hq => h q (List.mem_cons_of_mem _ hq)
    simp only [foldL, cntL]
    omega
theorem foldL_fit {l : List Va} {d : Int} : ∀ {ks : List Ex}, (∀ k ∈ ks, Folds l k) → fitL ks d = true → fitL (foldL l ks) d = true
  | [], _, _ => rfl
  | k :: ks, h, hf => by
    simp only [fitL, Bool.and_eq_true] at hf
    simp only [foldL, fitL, Bool.and_eq_true]
    exact ⟨(h k (List.mem_cons_self ..)).fit d hf.1, foldL_fit (fun q hq => h q (List.mem_cons_of_mem _ hq)) hf.2⟩
theorem foldL_val {l : List Va} {a b : List Int} : ∀ {ks : List Ex}, (∀ k ∈ ks, Folds l k) → rdOkL l a b ks → valL a b (foldL l ks) = valL a b ks
  | [], _, _ => rfl
  | k :: ks, h, hr => by
    simp only [rdOkL] at hr
    simp only [foldL, valL]
    rw [(h k (List.mem_cons_self ..)).val a b hr.1, foldL_val (fun q hq => h q (List.mem_cons_of_mem _ hq)) hr.2]
theorem foldL_idem {l : List Va} : ∀ {ks : List Ex}, (∀ k ∈ ks, Folds l k) → foldL l (foldL l ks) = foldL l ks
  | [], _ => rfl
  | k :: ks, h => by
    simp only [foldL]
    rw [(h k (List.mem_cons_self ..)).idem, foldL_idem fun q hq => h q (List.mem_cons_of_mem _ hq)]
/-- A number of a sort, as an expression. -/
theorem lit_typed {l : List Va} {s v : Int} (hs : s = 1 ∨ s = 2) (h1 : -1000 ≤ v) (h2 : v ≤ 1000) (h3 : s = 1 → v = 0 ∨ v = 1) : Typed l (.mk (if s = 2 then 1 else 2) v []) s := by
  rcases hs with rfl | rfl
  · exact .bool (h3 rfl)
  · exact .num h1 h2
theorem fold_step {l : List Va} (hs : Sorts l) {op n s : Int} {ks : List Ex} (ht : Typed l (.mk op n ks) s) (hsd : soundE (.mk op n ks) = true) (hk : ∀ k ∈ ks, Folds l k) (hT : Typed l (.mk op n (foldL l ks)) s) : Folds l (.mk op n ks) ∧ Typed l (foldE l (.mk op n ks)) s := by
  have hof : ofE l (.mk op n ks) = (s, 0) := (ofE_typed hs _ hsd).2 s ht
  have hs12 := ht.sort hs
  by_cases c : rdE 3 (.mk op n ks) = [] ∧ rdE 4 (.mk op n ks) = [] ∧ (valE [] [] (.mk op n ks)).2 = 0
  · have ef : foldE l (.mk op n ks) = .mk (if s = 2 then 1 else 2) (valE [] [] (.mk op n ks)).1 [] := by
      simp only [foldE]
      rw [if_pos c, hof]
    obtain ⟨c3, c4, c0⟩ := c
    obtain ⟨v1, v2, v3⟩ := valE_typed ht (rdOk_closed l [] [] _ c3 c4) c0
    have hl := lit_typed (l := l) hs12 v1 v2 v3
    have ho : (if s = 2 then (1 : Int) else 2) = 1 ∨ (if s = 2 then (1 : Int) else 2) = 2 := by split <;> simp
    have hrd : ∀ t, t = 3 ∨ t = 4 → rdE t (.mk (if s = 2 then 1 else 2) (valE [] [] (.mk op n ks)).1 []) = [] := by
      intro t h
      simp only [rdE, rdL, List.append_nil]
      rw [if_neg (by omega)]
    have hval : ∀ a b, valE a b (.mk (if s = 2 then 1 else 2) (valE [] [] (.mk op n ks)).1 []) = ((valE [] [] (.mk op n ks)).1, 0) := fun a b => valE_num a b ho []
    have hsl : soundE (.mk (if s = 2 then 1 else 2) (valE [] [] (.mk op n ks)).1 []) = true := by
      rcases hs12 with rfl | rfl
      · rw [if_neg (by omega)]; simp [soundE, soundL, numberE, show kidsN 2 = 0 from rfl, v3 rfl]
      · rw [if_pos rfl]; simp [soundE, soundL, numberE, show kidsN 1 = 0 from rfl, v1, v2]
    refine ⟨⟨fun t h => ?_, ?_, fun d h => ?_, fun a b _ => ?_, ?_⟩, ?_⟩
    · rw [ef, hrd t h]
      rcases h with rfl | rfl
      · exact c3.symm
      · exact c4.symm
    · have := cntL_nonneg ks
      rw [ef]
      simp only [cntE, cntL]
      omega
    · rw [ef]
      simp only [fitD, fitL, Bool.and_eq_true, Bool.and_true] at h ⊢
      exact h.1
    · rw [ef, hval, valE_closed a b [] [] _ c3 c4]
      exact Prod.ext rfl c0.symm
    · rw [ef]
      simp only [foldE]
      rw [if_pos ⟨hrd 3 (.inl rfl), hrd 4 (.inr rfl), by rw [hval]⟩, hval, (ofE_typed hs _ hsl).2 s hl]
    · rw [ef]; exact hl
  · have ef : foldE l (.mk op n ks) = .mk op n (foldL l ks) := by
      simp only [foldE]
      rw [if_neg c]
    have hrd : ∀ t, t = 3 ∨ t = 4 → rdE t (.mk op n (foldL l ks)) = rdE t (.mk op n ks) := by
      intro t h
      simp only [rdE]
      rw [foldL_rd h hk]
    have hval : ∀ a b, rdOk l a b (.mk op n ks) → valE a b (.mk op n (foldL l ks)) = valE a b (.mk op n ks) := by
      intro a b hr
      simp only [rdOk] at hr
      simp only [valE]
      rw [foldL_val hk hr.2.2]
    refine ⟨⟨fun t h => ?_, ?_, fun d h => ?_, fun a b hr => ?_, ?_⟩, ?_⟩
    · rw [ef, hrd t h]
    · have := foldL_cnt hk
      rw [ef]
      simp only [cntE]
      omega
    · rw [ef]
      simp only [fitD, Bool.and_eq_true] at h ⊢
      exact ⟨h.1, foldL_fit hk h.2⟩
    · rw [ef, hval a b hr]
    · rw [ef]
      simp only [foldE]
      rw [if_neg, foldL_idem hk]
      rw [hrd 3 (.inl rfl), hrd 4 (.inr rfl)]
      rintro ⟨d3, d4, d0⟩
      rw [hval [] [] (rdOk_closed l [] [] _ d3 d4)] at d0
      exact c ⟨d3, d4, d0⟩
    · rw [ef]; exact hT
end Go.AM
namespace Go.Proofs.YtnlkhjileipmcaaGreat
open Go.AM
theorem fold_ok {l : List Va} (hs : Sorts l) {e : Ex} {s : Int} (h : Typed l e s) : Folds l e ∧ Typed l (foldE l e) s := by
  induction h with
  | num h1 h2 => exact fold_step hs (.num h1 h2) (typed_sound (l := l) (.num h1 h2)) (fun k hk => by cases hk) (.num h1 h2)
  | bool h => exact fold_step hs (.bool h) (typed_sound (l := l) (.bool h)) (fun k hk => by cases hk) (.bool h)
  | var ho h hi => exact fold_step hs (.var ho h hi) (typed_sound (l := l) (.var ho h hi)) (fun k hk => by cases hk) (.var ho h hi)
  | @not a ha ih =>
    refine fold_step hs (.not ha) (typed_sound (.not ha)) (fun k hk => ?_) (.not ih.2)
    obtain rfl : k = a := by simpa using hk
    exact ih.1
  | @logic op a b ho ha hb iha ihb =>
    refine fold_step hs (.logic ho ha hb) (typed_sound (.logic ho ha hb)) (fun k hk => ?_) (.logic ho iha.2 ihb.2)
    have : k = a ∨ k = b := by simpa using hk
    rcases this with rfl | rfl
    · exact iha.1
    · exact ihb.1
  | @same s' a b ha hb iha ihb =>
    refine fold_step hs (.same ha hb) (typed_sound (.same ha hb)) (fun k hk => ?_) (.same iha.2 ihb.2)
    have : k = a ∨ k = b := by simpa using hk
    rcases this with rfl | rfl
    · exact iha.1
    · exact ihb.1
  | @less op a b ho ha hb iha ihb =>
    refine fold_step hs (.less ho ha hb) (typed_sound (.less ho ha hb)) (fun k hk => ?_) (.less ho iha.2 ihb.2)
    have : k = a ∨ k = b := by simpa using hk
    rcases this with rfl | rfl
    · exact iha.1
    · exact ihb.1
  | @sum op a b ho ha hb iha ihb =>
    refine fold_step hs (.sum ho ha hb) (typed_sound (.sum ho ha hb)) (fun k hk => ?_) (.sum ho iha.2 ihb.2)
    have : k = a ∨ k = b := by simpa using hk
    rcases this with rfl | rfl
    · exact iha.1
    · exact ihb.1
  | @ite s' a b c ha hb hc iha ihb ihc =>
    refine fold_step hs (.ite ha hb hc) (typed_sound (.ite ha hb hc)) (fun k hk => ?_) (.ite iha.2 ihb.2 ihc.2)
    have : k = a ∨ k = b ∨ k = c := by simpa using hk
    rcases this with rfl | rfl | rfl
    · exact iha.1
    · exact ihb.1
    · exact ihc.1
/-- Folded, or as it was. -/
def foldV (l : List Va) (e : Ex) : Ex := if (sortE l e).2 = 0 then foldE l e else e
theorem fold_light {l : List Va} {e : Ex} (h : Folds l e) (hl : lightE e = true) : lightE (foldE l e) = true := by
  obtain ⟨h1, h2⟩ := (light_iff e).1 hl
  have := h.cnt
  exact (light_iff _).2 ⟨h.fit 1 h1, by omega⟩
theorem fold_sort {l : List Va} {e : Ex} (h : (sortE l e).2 = 0) : Folds l e ∧ mayE (foldE l e) = 0 ∧ sortE l (foldE l e) = sortE l e ∧ Typed l (foldE l e) (sortE l e).1 := by
  obtain ⟨h1, h2, h3, h4, h5, h6⟩ := sortE_ok h
  obtain ⟨f1, f2⟩ := fold_ok (mayV_sorts h1) h6
  have hm := mayE_of f2 (fold_light f1 h4)
  refine ⟨f1, hm, ?_, f2⟩
  rw [sort_of h1 hm f2]
  exact Prod.ext rfl h.symm
theorem foldV_value (l : List Va) (e : Ex) (now next : Int) : valueE l (foldV l e) now next = valueE l e now next := by
  unfold foldV
  by_cases c : (sortE l e).2 = 0
  · rw [if_pos c]
    obtain ⟨f1, f2, f3, f4⟩ := fold_sort c
    unfold valueE
    rw [f3]
    rw [if_neg (show ¬ (sortE l e).2 ≠ 0 from fun h => h c), if_neg (show ¬ (sortE l e).2 ≠ 0 from fun h => h c)]
    by_cases c2 : valuesOk l now = false ∨ valuesOk l next = false
    · rw [if_pos c2, if_pos c2]
    · rw [if_neg c2, if_neg c2]
      simp only [not_or, Bool.not_eq_false] at c2
      exact f1.val _ _ (Vals.rdOk (valuesOk_vals c2.1) (valuesOk_vals c2.2) e)
  · rw [if_neg c]
theorem foldV_idem (l : List Va) (e : Ex) : foldV l (foldV l e) = foldV l e := by
  unfold foldV
  by_cases c : (sortE l e).2 = 0
  · obtain ⟨f1, f2, f3, f4⟩ := fold_sort c
    rw [if_pos c, if_pos (by rw [f3]; exact c), f1.idem]
  · rw [if_neg c, if_neg c]
theorem foldV_light {l : List Va} {e : Ex} (h : lightE e = true) : lightE (foldV l e) = true := by
  unfold foldV
  by_cases c : (sortE l e).2 = 0
  · rw [if_pos c]; exact fold_light (fold_sort c).1 h
  · rw [if_neg c]; exact h
theorem foldV_nodes {l : List Va} {e : Ex} (h : lightE e = true) : nodesE (foldV l e) ≤ nodesE e := by
  have h1 := light_cnt (foldV_light (l := l) h)
  have h2 := light_cnt h
  rw [h1.1, h2.1]
  unfold foldV
  by_cases c : (sortE l e).2 = 0
  · rw [if_pos c]; exact (fold_sort c).1.cnt
  · rw [if_neg c]; exact Int.le_refl _
end Go.Proofs.YtnlkhjileipmcaaGreat
