/- The document's own answers on expressions: they may be just if the program lets them be. -/
import Derived.Test.YtnjandhaeojieaaGreatLa7
set_option linter.unusedVariables false
set_option linter.unusedSimpArgs false
namespace Go.AM
mutual
def fitD : Ex → Int → Bool
  | .mk _ _ ks, d => decide (d ≤ 12) && fitL ks (d + 1)
def fitL : List Ex → Int → Bool
  | [], _ => true
  | k :: ks, d => fitD k d && fitL ks d
end
mutual
theorem goesE_fit : ∀ (e : Ex) (d n : Int) (b : Bool), fitD e d = true → n + cntE e ≤ 60 → goesE e d n b = (n + cntE e, b)
  | .mk o m ks, d, n, b, h, hn => by
    simp only [fitD, Bool.and_eq_true, decide_eq_true_eq] at h
    have hc := cntL_nonneg ks
    simp only [cntE] at hn ⊢
    simp only [goesE]
    rw [if_neg (by omega), if_neg (by omega), goesL_fit ks d (n + 1) b h.2 (by omega)]
    exact Prod.ext (by show n + 1 + cntL ks = n + (1 + cntL ks); omega) rfl
theorem goesL_fit : ∀ (l : List Ex) (d n : Int) (b : Bool), fitL l (d + 1) = true → n + cntL l ≤ 60 → goesL l d n b = (n + cntL l, b)
  | [], d, n, b, h, hn => by simp [goesL, cntL]
  | k :: ks, d, n, b, h, hn => by
    simp only [fitL, Bool.and_eq_true] at h
    have hc := cntL_nonneg ks
    have hk := cntE_nonneg k
    simp only [cntL] at hn ⊢
    simp only [goesL]
    rw [if_neg (by omega), goesE_fit k (d + 1) n b h.1 (by omega)]
    simp only
    rw [goesL_fit ks d (n + cntE k) b h.2 (by omega)]
    exact Prod.ext (by show n + cntE k + cntL ks = n + (cntE k + cntL ks); omega) rfl
end
mutual
theorem goesE_fits : ∀ (e : Ex) (d n m : Int) (b : Bool), goesE e d n b = (m, false) → m ≤ 60 → fitD e d = true
  | .mk _ _ ks, d, n, m, b, h, hm => by
    simp only [goesE] at h
    split at h
    · cases h
    · split at h
      · cases h; omega
      · simp only [fitD, Bool.and_eq_true, decide_eq_true_eq]
        exact ⟨by omega, goesL_fits ks d (n + 1) m b h hm⟩
theorem goesL_fits : ∀ (l : List Ex) (d n m : Int) (b : Bool), goesL l d n b = (m, false) → m ≤ 60 → fitL l (d + 1) = true
  | [], d, n, m, b, h, hm => rfl
  | k :: ks, d, n, m, b, h, hm => by
    simp only [goesL] at h
    split at h
    · cases h; omega
    · have h1 := goesL_cnt ks d _ m _ h hm
      have h2 := goesL_fits ks d _ m _ h hm
      have h3 := cntL_nonneg ks
      simp only [fitL, Bool.and_eq_true]
      exact ⟨goesE_fits k (d + 1) n (goesE k (d + 1) n b).1 b (Prod.ext rfl h1.1) (by omega), h2⟩
end
theorem light_iff (e : Ex) : lightE e = true ↔ fitD e 1 = true ∧ cntE e ≤ 60 := by
  constructor
  · intro h
    have h1 := light_cnt h
    refine ⟨?_, by omega⟩
    unfold lightE at h
    rw [Bool.and_eq_true] at h
    have h2 : (goesE e 1 0 false).2 = false := by simpa using h.2
    exact goesE_fits e 1 0 (nodesE e) false (Prod.ext rfl h2) h1.2
  · rintro ⟨h1, h2⟩
    have h3 := goesE_fit e 1 0 false h1 (by omega)
    unfold lightE nodesE
    rw [h3]
    simp
    omega
mutual
def rcE : Ex → Int → Int → Int × Bool
  | .mk _ _ ks, d, r => if d = 12 then (1, decide ((0 : Int) < ks.length)) else rcL ks d r 1 false
def rcL : List Ex → Int → Int → Int → Bool → Int × Bool
  | [], _, r, n, o => (if r + 1 < n then r + 1 else n, o)
  | k :: ks, d, r, n, o => if r < n then (r + 1, o) else rcL ks d r (n + (rcE k (d + 1) (r - n)).1) (o || (rcE k (d + 1) (r - n)).2)
end
mutual
theorem rcE_range : ∀ (e : Ex) (d r : Int), 0 ≤ r → 1 ≤ (rcE e d r).1 ∧ (rcE e d r).1 ≤ r + 1
  | .mk _ _ ks, d, r, h => by
    simp only [rcE]
    split
    · exact ⟨Int.le_refl _, by show (1 : Int) ≤ r + 1; omega⟩
    · exact rcL_range ks d r 1 false h (by omega) (by omega)
theorem rcL_range : ∀ (l : List Ex) (d r n : Int) (o : Bool), 0 ≤ r → 1 ≤ n → n ≤ r + 1 → 1 ≤ (rcL l d r n o).1 ∧ (rcL l d r n o).1 ≤ r + 1
  | [], d, r, n, o, h, h1, h2 => by
    simp only [rcL]
    split <;> omega
  | k :: ks, d, r, n, o, h, h1, h2 => by
    simp only [rcL]
    split
    · exact ⟨by show 1 ≤ r + 1; omega, Int.le_refl _⟩
    · have h3 := rcE_range k (d + 1) (r - n) (by omega)
      exact rcL_range ks d r _ _ h (by omega) (by omega)
end
mutual
theorem rcE_fit : ∀ (e : Ex) (d r : Int), d ≤ 12 → fitD e d = true → cntE e ≤ r → rcE e d r = (cntE e, false)
  | .mk _ _ ks, d, r, hd, h, hr => by
    simp only [fitD, Bool.and_eq_true, decide_eq_true_eq] at h
    simp only [cntE] at hr ⊢
    simp only [rcE]
    split
    · rename_i hd12
      subst hd12
      cases ks with
      | nil => simp [cntL]
      | cons k ks =>
        exfalso
        have h2 := h.2
        cases k with
        | mk a b c =>
          simp only [fitL, fitD, Bool.and_eq_true, decide_eq_true_eq] at h2
          omega
    · rw [rcL_fit ks d r 1 (by omega) h.2 (by omega)]
theorem rcL_fit : ∀ (l : List Ex) (d r n : Int), d + 1 ≤ 12 → fitL l (d + 1) = true → n + cntL l ≤ r → rcL l d r n false = (n + cntL l, false)
  | [], d, r, n, hd, h, hr => by
    simp only [rcL, cntL] at hr ⊢
    rw [if_neg (by omega)]
    simp
  | k :: ks, d, r, n, hd, h, hr => by
    simp only [fitL, Bool.and_eq_true] at h
    have hc := cntL_nonneg ks
    have hk := cntE_nonneg k
    simp only [cntL] at hr ⊢
    simp only [rcL]
    rw [if_neg (by omega), rcE_fit k (d + 1) (r - n) hd h.1 (by omega)]
    simp only [Bool.or_false]
    rw [rcL_fit ks d r (n + cntE k) hd h.2 (by omega)]
    exact Prod.ext (by show n + cntE k + cntL ks = n + (cntE k + cntL ks); omega) rfl
end
mutual
theorem rcE_fits : ∀ (e : Ex) (d r m : Int), d ≤ 12 → rcE e d r = (m, false) → m ≤ r → fitD e d = true ∧ m = cntE e
  | .mk _ _ ks, d, r, m, hd, h, hm => by
    simp only [rcE] at h
    split at h
    · rename_i hd12
      cases ks with
      | nil =>
        cases h
        subst hd12
        exact ⟨rfl, by simp [cntE, cntL]⟩
      | cons k ks =>
        have h2 := congrArg Prod.snd h
        simp at h2
    · obtain ⟨_, h2, h3⟩ := rcL_fits ks d r 1 m false (by omega) h hm
      simp only [fitD, Bool.and_eq_true, decide_eq_true_eq, cntE]
      exact ⟨⟨hd, h2⟩, h3⟩
theorem rcL_fits : ∀ (l : List Ex) (d r n m : Int) (o : Bool), d + 1 ≤ 12 → rcL l d r n o = (m, false) → m ≤ r → o = false ∧ fitL l (d + 1) = true ∧ m = n + cntL l
  | [], d, r, n, m, o, hd, h, hm => by
    simp only [rcL] at h
    have h1 := congrArg Prod.fst h
    have h2 := congrArg Prod.snd h
    simp only at h1 h2
    refine ⟨h2, rfl, ?_⟩
    simp only [cntL]
    split at h1 <;> omega
  | k :: ks, d, r, n, m, o, hd, h, hm => by
    simp only [rcL] at h
    split at h
    · cases h; omega
    · obtain ⟨h1, h2, h3⟩ := rcL_fits ks d r _ m _ hd h hm
      rw [Bool.or_eq_false_iff] at h1
      have h4 := cntL_nonneg ks
      obtain ⟨h5, h6⟩ := rcE_fits k (d + 1) (r - n) (rcE k (d + 1) (r - n)).1 hd (Prod.ext rfl h1.2) (by omega)
      simp only [fitL, Bool.and_eq_true, cntL]
      exact ⟨h1.1, ⟨h5, h2⟩, by omega⟩
end
theorem fits_light (e : Ex) : (decide ((rcE e 1 60).1 ≤ 60) && !(rcE e 1 60).2) = lightE e := by
  rw [Bool.eq_iff_iff, light_iff, Bool.and_eq_true, decide_eq_true_eq]
  constructor
  · rintro ⟨h1, h2⟩
    have h2 : (rcE e 1 60).2 = false := by simpa using h2
    obtain ⟨h3, h4⟩ := rcE_fits e 1 60 (rcE e 1 60).1 (by omega) (Prod.ext rfl h2) h1
    exact ⟨h3, by omega⟩
  · rintro ⟨h1, h2⟩
    rw [rcE_fit e 1 60 (by omega) h1 h2]
    exact ⟨h2, rfl⟩
end Go.AM
namespace Go.Proofs.YtnjandhaeojieaaGreat
open Go.AM
theorem countB {h : H} {k : T} (hk : KW k) {d r : Int} (hd : 0 ≤ d ∧ d ≤ 12) (hr : 0 ≤ r ∧ r ≤ 60)
    (hc : ∀ i, i < k.len → ∀ op m r, 0 ≤ r → r ≤ 60 → C_parryref1_count h op m (k.el i 2) (d + 1) r = rib (rcE (.mk op m (kidsOf (k.el i 2))) (d + 1) r).1 (rcE (.mk op m (kidsOf (k.el i 2))) (d + 1) r).2) :
    ∀ (m i : Nat), i + m = k.len → ∀ (N : Nat) (n : Int) (o : Bool), 2 * m < N → 1 ≤ n → n ≤ r + 1 → parryref1_count.B0 h N d r n o k (k.len : Int) (i : Int) = rib (rcL ((kidsOf k).drop i) d r n o).1 (rcL ((kidsOf k).drop i) d r n o).2
  | 0, i, hi, N, n, o, hN, hn0, hn1 => by
    obtain ⟨N, rfl⟩ : ∃ M, N = M + 1 := ⟨N - 1, by omega⟩
    rw [parryref1_count.B0_eq, List.drop_of_length_le (by rw [kidsOf_len]; omega), wrap_eq (a := r + 1) (by omega) (by omega)]
    exact if_not (decide_eq_false (by omega)) rfl
  | m + 1, i, hi, N, n, o, hN, hn0, hn1 => by
    obtain ⟨N, rfl⟩ : ∃ M, N = M + 2 := ⟨N - 2, by omega⟩
    have hlen := hk.len
    rw [parryref1_count.B0_eq, kidsOf_from k i (by omega), Int.toNat_natCast, wrap_eq (a := r + 1) (by omega) (by omega), wrap_eq (a := d + 1) (by omega) (by omega), wrap_eq (a := r - n) (by omega) (by omega)]
    simp only [rcL]
    refine if_of (decide_eq_true (by omega)) (if_of (by simp; omega) ?_)
    by_cases c : r < n
    · rw [if_pos c]
      exact if_of (decide_eq_true c) rfl
    · rw [if_neg c]
      have e1 := hc i (by omega) (k.el i 0).int (k.el i 1).int (r - n) (by omega) (by omega)
      have x1 : Ex.mk (k.el i 0).int (k.el i 1).int (kidsOf (k.el i 2)) = exAt k i := rfl
      rw [x1] at e1
      have hx := rcE_range (exAt k i) (d + 1) (r - n) (by omega)
      refine if_not (decide_eq_false c) (bind_of e1 ?_)
      have ih := fun o => countB hk hd hr hc m (i + 1) (by omega) N (n + (rcE (exAt k i) (d + 1) (r - n)).1) o (by omega) (by omega) (by omega)
      have ew : ∀ p : Bool, parryref1_count.B1 h (N + 1) d r (IntKind.wrap .i64 (n + (rcE (exAt k i) (d + 1) (r - n)).1)) p k (k.len : Int) (i : Int) = rib (rcL ((kidsOf k).drop (i + 1)) d r (n + (rcE (exAt k i) (d + 1) (r - n)).1) p).1 (rcL ((kidsOf k).drop (i + 1)) d r (n + (rcE (exAt k i) (d + 1) (r - n)).1) p).2 := by
        intro p
        rw [parryref1_count.B1_eq, wrap_eq (a := n + (rcE (exAt k i) (d + 1) (r - n)).1) (by omega) (by omega), wrap_eq (a := (i : Int) + 1) (by omega) (by omega)]
        exact ih p
      cases o with
      | true => exact if_of rfl (ew true)
      | false => exact if_not rfl (ew _)
theorem count_sp : ∀ k, KW k → ∀ d : Int, 1 ≤ d → d ≤ 12 → Ev fun N => ∀ op m r, 0 ≤ r → r ≤ 60 → C_parryref1_count (K N) op m k d r = rib (rcE (.mk op m (kidsOf k)) d r).1 (rcE (.mk op m (kidsOf k)) d r).2 := by
  refine kids_ind fun k ih hk d h0 h1 => ?_
  by_cases hd : d = 12
  · refine Ev.step (Ev.of fun N op m r _ _ => ?_)
    rw [C_parryref1_count_K]
    simp only [rcE, if_pos hd, kidsOf_len]
    exact if_of (by simpa using hd) rfl
  · refine Ev.step ((Ev.all (k := k.len) fun i hi => ih i hi (hk.el hi) (d + 1) (by omega) (by omega)).imp2 (Ev.ge (2 * k.len + 2)) fun N hc hN op m r hr0 hr1 => ?_)
    rw [C_parryref1_count_K]
    simp only [rcE, if_neg hd]
    refine if_not (by simpa using hd) ?_
    have := countB (h := K N) hk (d := d) (r := r) ⟨by omega, h1⟩ ⟨hr0, hr1⟩ hc k.len 0 (by omega) N 1 false (by omega) (by omega) (by omega)
    simpa using this
theorem refFits_sp (k : T) (hk : KW k) : Ev fun N => ∀ op m, C_parryref1_fits (K N) op m k = rb (lightE (.mk op m (kidsOf k))) := by
  refine Ev.step ((count_sp k hk 1 (by omega) (by omega)).imp fun N h op m => ?_)
  rw [C_parryref1_fits_K, ← fits_light]
  refine bind_of (h op m 60 (by omega) (by omega)) ?_
  by_cases c : (rcE (.mk op m (kidsOf k)) 1 60).1 ≤ 60
  · rw [decide_eq_true c]
    exact if_of (decide_eq_true c) rfl
  · rw [decide_eq_false c]
    exact if_not (decide_eq_false c) rfl
theorem refKids_sp : Ev fun N => ∀ op, C_parryref1_Kids (K N) op = ri (kidsN op) := by
  refine ⟨2, fun N hN op => ?_⟩
  obtain ⟨N, rfl⟩ : ∃ M, N = M + 2 := ⟨N - 2, by omega⟩
  rw [C_parryref1_Kids_K, parryref1_Kids.B0_eq]
  unfold kidsN ri
  simp only [Bool.cond_eq_ite, decide_eq_true_eq, beq_iff_eq]
  repeat' split
  all_goals first | rfl | (exfalso; omega)
theorem refNode_sp : Ev fun N => ∀ op n k, C_parryref1_node (K N) op n k = rb (decide (0 ≤ kidsN op) && decide ((k.len : Int) = kidsN op) && numberE op n) := by
  refine Ev.step (refKids_sp.imp2 (Ev.ge 3) fun N h hN op n k => ?_)
  obtain ⟨N, rfl⟩ : ∃ M, N = M + 1 := ⟨N - 1, by omega⟩
  rw [C_parryref1_node_K]
  refine bind_of (h op) ?_
  by_cases c1 : kidsN op < 0
  · rw [decide_eq_false (show ¬ 0 ≤ kidsN op by omega)]
    exact if_of (decide_eq_true c1) rfl
  · rw [decide_eq_true (show 0 ≤ kidsN op by omega)]
    refine if_not (decide_eq_false c1) (bind_of (h op) ?_)
    by_cases c2 : (k.len : Int) = kidsN op
    · rw [decide_eq_true c2]
      refine if_not (by simpa [lookR_0, int_i] using c2) ?_
      rw [parryref1_node.B0_eq, parryref1_node.B0_eq]
      unfold numberE
      simp only [Bool.cond_eq_ite, decide_eq_true_eq, beq_iff_eq, Bool.true_and]
      by_cases d1 : op = 1
      · subst d1
        by_cases e1 : n ≥ -1000
        · simp [e1]; rfl
        · simp [e1]; rfl
      · by_cases d2 : op = 2
        · subst d2
          by_cases e1 : n = 0
          · simp [e1]; rfl
          · simp [e1]; rfl
        · by_cases d3 : op = 3
          · subst d3
            by_cases e1 : n ≥ 0
            · simp [e1]; rfl
            · simp [e1]; rfl
          · by_cases d4 : op = 4
            · subst d4
              by_cases e1 : n ≥ 0
              · simp [e1]; rfl
              · simp [e1]; rfl
            · simp [d1, d2, d3, d4]; rfl
    · rw [decide_eq_false c2]
      exact if_of (by simpa [lookR_0, int_i] using c2) rfl
theorem soundB {h : H} {k : T} (hk : KW k) (hc : ∀ i, i < k.len → ∀ op m, C_parryref1_sound h op m (k.el i 2) = rb (soundE (.mk op m (kidsOf (k.el i 2))))) :
    ∀ (m i : Nat), i + m = k.len → ∀ N, m < N → parryref1_sound.B0 h N k (k.len : Int) (i : Int) = rb (soundL ((kidsOf k).drop i))
  | 0, i, hi, N, hN => by
    obtain ⟨N, rfl⟩ : ∃ M, N = M + 1 := ⟨N - 1, by omega⟩
    rw [parryref1_sound.B0_eq, List.drop_of_length_le (by rw [kidsOf_len]; omega)]
    exact if_not (decide_eq_false (by omega)) rfl
  | m + 1, i, hi, N, hN => by
    obtain ⟨N, rfl⟩ : ∃ M, N = M + 1 := ⟨N - 1, by omega⟩
    have hlen := hk.len
    have ih := soundB hk hc m (i + 1) (by omega) N (by omega)
    have e1 := hc i (by omega) (k.el i 0).int (k.el i 1).int
    have x1 : Ex.mk (k.el i 0).int (k.el i 1).int (kidsOf (k.el i 2)) = exAt k i := rfl
    rw [x1] at e1
    rw [parryref1_sound.B0_eq, kidsOf_from k i (by omega), wrap_eq (by omega) (by omega), Int.toNat_natCast]
    refine if_of (decide_eq_true (by omega)) (if_of (by simp; omega) (bind_of e1 ?_))
    simp only [soundL]
    cases hs : soundE (exAt k i) with
    | false => exact if_of rfl rfl
    | true => exact if_not rfl ih
theorem refSound_sp : ∀ k, KW k → Ev fun N => ∀ op m, C_parryref1_sound (K N) op m k = rb (soundE (.mk op m (kidsOf k))) := by
  refine kids_ind fun k ih hk => ?_
  refine Ev.step (Ev.imp3 (Ev.all (k := k.len) fun i hi => ih i hi (hk.el hi)) refNode_sp (Ev.ge (k.len + 1)) fun N hc hn hN op m => ?_)
  rw [C_parryref1_sound_K]
  refine bind_of (hn op m k) ?_
  simp only [soundE, kidsOf_len]
  cases hq : (decide (0 ≤ kidsN op) && decide ((k.len : Int) = kidsN op) && numberE op m) with
  | false => exact if_of rfl rfl
  | true =>
    refine if_not rfl ?_
    have := soundB (h := K N) hk hc k.len 0 (by omega) N (by omega)
    simpa using this
theorem refMayE_sp (k : T) (hk : KW k) : Ev fun N => ∀ op m, C_parryref1_MayExpr (K N) op m k = ri (mayE (.mk op m (kidsOf k))) := by
  refine Ev.step (Ev.imp2 (refFits_sp k hk) (refSound_sp k hk) fun N h1 h2 op m => ?_)
  rw [C_parryref1_MayExpr_K]
  refine bind_of (h1 op m) ?_
  unfold mayE
  cases c1 : lightE (.mk op m (kidsOf k)) with
  | false => exact if_of rfl rfl
  | true =>
    refine if_not rfl (bind_of (h2 op m) ?_)
    cases c2 : soundE (.mk op m (kidsOf k)) with
    | false => exact if_of rfl rfl
    | true => exact if_not rfl rfl
end Go.Proofs.YtnjandhaeojieaaGreat
