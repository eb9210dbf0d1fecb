/- The laws EvalSame and EvalForms. -/
import Derived.Test.YtfejbgnbganolaaLa27
set_option linter.unusedVariables false
set_option linter.unusedSimpArgs false
namespace Go.AM
mutual
/-- What reads no next value has one value, whatever the next state is. -/
theorem valE_next4 (a b c : List Int) : ∀ e : Ex, rdE 4 e = [] → valE a b e = valE a c e
  | .mk op n ks, h4 => by
    simp only [rdE, List.append_eq_nil_iff] at h4
    have n4 : op ≠ 4 := by intro h; rw [if_pos h] at h4; cases h4.1
    simp only [valE, nodeV]
    rw [if_neg n4, if_neg n4, valL_next4 a b c ks h4.2]
theorem valL_next4 (a b c : List Int) : ∀ ks : List Ex, rdL 4 ks = [] → valL a b ks = valL a c ks
  | [], _ => rfl
  | k :: ks, h4 => by
    simp only [rdL, List.append_eq_nil_iff] at h4
    simp only [valL]
    rw [valE_next4 a b c k h4.1, valL_next4 a b c ks h4.2]
end
end Go.AM
namespace Go.Proofs.Ytfejbgnbganolaa
open Go.AM
theorem refCopied_sp : ∀ k, KW k → ∀ op m, soundE (.mk op m (kidsOf k)) = true → MapsTo (fun N => C_parryref1_copied (K N) op m k) (.mk op m (kidsOf k)) := by
  refine kids_ind fun k ih hk op m hs => ?_
  obtain ⟨h1, h2, h3⟩ := soundE_inv hs
  have h4 := kidsN_le op
  obtain ⟨g, e1, e2, e3⟩ := grow (k := k) (F := id) (by omega) (B := fun N M i g => parryref1_copied.B0 (K N) M i k (k.len : Int) (i : Int) 0 0 op m g) (fun i hi => by
    obtain ⟨o, n, t, q1, q2, q3⟩ := ih i hi (hk.el hi) (k.el i 0).int (k.el i 1).int (soundE_kid h3 hi)
    refine ⟨o, n, t, q2, q3, q1.imp fun N q1 M g => ?_⟩
    show parryref1_copied.B0 (K N) (M + 1) i k (k.len : Int) (i : Int) 0 0 op m g = parryref1_copied.B0 (K N) M (i + 1) k (k.len : Int) ((i + 1 : Nat) : Int) 0 0 op m (pushX i g o n t)
    rw [parryref1_copied.B0_eq, Int.toNat_natCast, wrap_eq (a := (i : Int) + 1) (by omega) (by omega)]
    exact if_of (decide_eq_true (by omega)) (if_of (by simp; omega) (bind_of q1 (if_of (decide_eq_true (by omega)) rfl)))) k.len (Nat.le_refl _)
  refine ⟨op, m, T.l k.len fun i j => g (0 + i) j, Ev.step (e3.imp2 (Ev.ge (k.len + 3)) fun N e3 hN => ?_), ?_, ?_⟩
  · obtain ⟨M, rfl⟩ : ∃ M, N = (M + 1) + k.len := ⟨N - 1 - k.len, by omega⟩
    have e4 := e3 (M + 1)
    show C_parryref1_copied (K ((M + 1) + k.len + 1)) op m k = _
    rw [C_parryref1_copied_K]
    refine e4.trans ?_
    rw [parryref1_copied.B0_eq]
    exact if_not (decide_eq_false (by omega)) rfl
  · rw [shift0, kidsOf_l, e1, List.take_of_length_le (by rw [kidsOf_len]; omega), List.map_id]
  · rw [shift0]; exact KW_l (by omega) e2
theorem reads_sum {op m : Int} {k : T} (he : mayE (.mk op m (kidsOf k)) = 0) {t3 t4 : T} (i3 : Ints t3 (readsE 3 (.mk op m (kidsOf k)))) (i4 : Ints t4 (readsE 4 (.mk op m (kidsOf k)))) : (IntKind.wrap .i64 ((t3.len : Int) + (t4.len : Int)) == 0) = decide (rdE 3 (.mk op m (kidsOf k)) = [] ∧ rdE 4 (.mk op m (kidsOf k)) = []) := by
  have l3 := readsE_len 3 (.mk op m (kidsOf k))
  have l4 := readsE_len 4 (.mk op m (kidsOf k))
  have z3 := i3.1
  have z4 := i4.1
  rw [wrap_eq (by omega) (by omega), Bool.eq_iff_iff, beq_iff_eq, decide_eq_true_eq, ← readsE_nil he, ← readsE_nil he, ← len_nil i3, ← len_nil i4]
  omega
theorem refFold1_sp (l : T) (hl : l.len ≤ 9223372036854775807) (hm : mayV (varsOf l) = 0) : ∀ k, KW k → ∀ op m s, mayE (.mk op m (kidsOf k)) = 0 → Typed (varsOf l) (.mk op m (kidsOf k)) s → MapsTo (fun N => C_parryref1_fold (K N) l op m k) (foldE (varsOf l) (.mk op m (kidsOf k))) := by
  refine kids_ind fun k ih hk op m s he ht => ?_
  have hsd := (mayE_inv he).1
  obtain ⟨h1, h2, h3⟩ := soundE_inv hsd
  have h4 := kidsN_le op
  have hof2 : ofE (varsOf l) (.mk op m (kidsOf k)) = (s, 0) := (ofE_typed (mayV_sorts hm) _ hsd).2 s ht
  have hs12 := ht.sort (mayV_sorts hm)
  obtain ⟨ss, k1, k2, _, _⟩ := kids_typed ht
  have hs := mayV_sorts hm
  by_cases c : rdE 3 (.mk op m (kidsOf k)) = [] ∧ rdE 4 (.mk op m (kidsOf k)) = [] ∧ (valE [] [] (.mk op m (kidsOf k))).2 = 0
  · have ef : foldE (varsOf l) (.mk op m (kidsOf k)) = .mk (if s = 2 then 1 else 2) (valE [] [] (.mk op m (kidsOf k))).1 [] := by
      simp only [foldE]; rw [if_pos c, hof2]
    rw [ef]
    refine ⟨if s = 2 then 1 else 2, (valE [] [] (.mk op m (kidsOf k))).1, T.l 0 (fun i j => (fun _ _ => T.b false) (0 + i) j), Ev.step (Ev.imp4 (refReads_sp k hk) (refValue1_sp (l := varsOf l) hs k hk) (typed_sp l hs k hk) (Ev.ge 5) fun N q1 q2 q3 hN => ?_), rfl, ⟨by omega, fun i hi => absurd hi (Nat.not_lt_zero _)⟩⟩
    obtain ⟨t3, a3, b3⟩ := q1 op m false
    obtain ⟨t4, a4, b4⟩ := q1 op m true
    obtain ⟨N, rfl⟩ : ∃ M, N = M + 1 := ⟨N - 1, by omega⟩
    show C_parryref1_fold (K (N + 1 + 1)) l op m k = _
    have hv := (q2 noT noT [] [] op m s Ints_noT Ints_noT ht (rdOk_closed _ _ _ _ c.1 c.2.1)).ok c.2.2
    rw [C_parryref1_fold_K]
    refine bind_of a3 (bind_of a4 (if_of ?_ (bind_of hv (if_of rfl (bind_of (q3 op m hsd) ?_)))))
    · exact (reads_sum he b3 b4).trans (decide_eq_true ⟨c.1, c.2.1⟩)
    · rw [lookR_0, int_i, hof2]
      by_cases cs : s = 2
      · rw [if_pos cs]
        exact if_not (by simp [cs]) rfl
      · rw [if_neg cs]
        exact if_of (by simp; omega) rfl
  · have ef : foldE (varsOf l) (.mk op m (kidsOf k)) = .mk op m ((kidsOf k).map (foldE (varsOf l))) := by
      simp only [foldE]; rw [if_neg c, foldL_map]
    rw [ef]
    obtain ⟨g, e1, e2, e3⟩ := grow (k := k) (F := foldE (varsOf l)) (by omega) (B := fun N M i g => parryref1_fold.B1 (K N) M i l k (k.len : Int) (i : Int) 0 0 op m g) (fun i hi => by
      obtain ⟨t, t1, t2⟩ := k2 i _ (kidsOf_get k hi)
      have hmk : mayE (exAt k i) = 0 := mayE_kid he (List.mem_of_getElem? (kidsOf_get k hi))
      obtain ⟨o, n, t, q1, q2, q3⟩ := ih i hi (hk.el hi) (k.el i 0).int (k.el i 1).int t hmk t2
      refine ⟨o, n, t, q2, q3, q1.imp fun N q1 M g => ?_⟩
      show parryref1_fold.B1 (K N) (M + 1) i l k (k.len : Int) (i : Int) 0 0 op m g = parryref1_fold.B1 (K N) M (i + 1) l k (k.len : Int) ((i + 1 : Nat) : Int) 0 0 op m (pushX i g o n t)
      rw [parryref1_fold.B1_eq, Int.toNat_natCast, wrap_eq (a := (i : Int) + 1) (by omega) (by omega)]
      exact if_of (decide_eq_true (by omega)) (if_of (by simp; omega) (bind_of q1 (if_of (decide_eq_true (by omega)) rfl)))) k.len (Nat.le_refl _)
    refine ⟨op, m, T.l k.len fun i j => g (0 + i) j, Ev.step (Ev.imp4 (refReads_sp k hk) (refValue1_sp (l := varsOf l) hs k hk) e3 (Ev.ge (k.len + 9)) fun N q1 q2 e3 hN => ?_), ?_, ?_⟩
    · obtain ⟨t3, a3, b3⟩ := q1 op m false
      obtain ⟨t4, a4, b4⟩ := q1 op m true
      have go : parryref1_fold.B0 (K N) N l op m k 0 0 = some (lookR [(0, .i op), (1, .i m), (2, T.l k.len fun i j => g (0 + i) j)]) := by
        obtain ⟨M, hM⟩ : ∃ M, N = (M + 1) + k.len + 1 := ⟨N - 2 - k.len, by omega⟩
        have e4 := e3 (M + 1)
        have : parryref1_fold.B0 (K N) ((M + 1) + k.len + 1) l op m k 0 0 = some (lookR [(0, .i op), (1, .i m), (2, T.l k.len fun i j => g (0 + i) j)]) := by
          rw [parryref1_fold.B0_eq]
          refine e4.trans ?_
          rw [parryref1_fold.B1_eq]
          exact if_not (decide_eq_false (by omega)) rfl
        rwa [← hM] at this
      show C_parryref1_fold (K (N + 1)) l op m k = _
      rw [C_parryref1_fold_K]
      refine bind_of a3 (bind_of a4 (if_both (fun d => ?_) fun _ => go))
      have d := of_decide_eq_true ((reads_sum he b3 b4).symm.trans d)
      obtain ⟨x, hx⟩ := (q2 noT noT [] [] op m s Ints_noT Ints_noT ht (rdOk_closed _ _ _ _ d.1 d.2)).no (fun h => c ⟨d.1, d.2, h⟩)
      exact bind_of hx (if_not rfl go)
    · rw [shift0, kidsOf_l, e1, List.take_of_length_le (by rw [kidsOf_len]; omega)]
    · rw [shift0]; exact KW_l (by omega) e2
theorem refFold_sp (l : T) (hl : l.len ≤ 9223372036854775807) (k : T) (hk : KW k) (op m : Int) : MapsTo (fun N => C_parryref1_Fold (K N) l op m k) (foldV (varsOf l) (.mk op m (kidsOf k))) := by
  unfold foldV
  by_cases c : (sortE (varsOf l) (.mk op m (kidsOf k))).2 = 0
  · rw [if_pos c]
    obtain ⟨c1, c2, c3, _, _, ht⟩ := sortE_ok c
    obtain ⟨o, n, t, q1, q2, q3⟩ := refCopied_sp k hk op m c3
    obtain ⟨o2, n2, t2, p1, p2, p3⟩ := refFold1_sp l hl c1 t q3 o n _ (by rw [q2]; exact c2) (by rw [q2]; exact ht)
    rw [q2] at p2
    refine ⟨o2, n2, t2, Ev.step (Ev.imp3 (refSort_sp l hl k hk) q1 p1 fun N h1 q1 p1 => ?_), p2, p3⟩
    show C_parryref1_Fold (K (N + 1)) l op m k = _
    rw [C_parryref1_Fold_K]
    exact bind_of (h1 op m) (if_not (by simp [lookR_1, int_i, c]) (bind_of q1 (bind_of p1 rfl)))
  · rw [if_neg c]
    refine ⟨op, m, k, Ev.step ((refSort_sp l hl k hk).imp fun N h1 => ?_), rfl, hk⟩
    show C_parryref1_Fold (K (N + 1)) l op m k = _
    rw [C_parryref1_Fold_K]
    exact bind_of (h1 op m) (if_of (by simpa [lookR_1, int_i] using c) rfl)
theorem EvalForms_sp (l : T) (a0 a1 : Int) (ak : T) (now next : Int) (hw : WT Try.prog 36 l) (ha : WT Try.prog 28 ak) : Ev fun N => C_parrylaw4_EvalForms (K N) l a0 a1 ak now next = rb true := by
  have hl := WT_len hw
  have hk := WT_KW ha
  have base := Ev.imp4 (Ev.and (heavyV_sp l hl) (heavyE_sp ak hk)) (Ev.and (Value_sp l hl ak hk) (refValue_sp l hl ak hk)) (Ev.and (True_sp l hl ak hk) (refTrue_sp l hl ak hk)) (Ev.and (refMayE_sp ak hk) awake_sp) fun N a b c d => (⟨a, b, c, d⟩ : _ ∧ _ ∧ _ ∧ _)
  by_cases he : mayE (.mk a0 a1 (kidsOf ak)) = 0
  · obtain ⟨o, n, t, q1, q2, q3⟩ := Fold_sp l hl ak hk a0 a1 he
    obtain ⟨o2, n2, t2, p1, p2, p3⟩ := refFold_sp l hl ak hk a0 a1
    have hlf := foldV_light (l := varsOf l) (mayE_inv he).2
    refine Ev.step (Ev.imp4 base q1 p1 (Same_sp t t2 q3 p3) fun N h q1 p1 hsm => ?_)
    obtain ⟨⟨⟨y, hy⟩, hz⟩, ⟨hv1, hv2⟩, ⟨ht1, ht2⟩, hme, haw⟩ := h
    obtain ⟨z, hz⟩ := hz a0 a1
    have aw : ((C_parrylaw4_awake (K N)).bind fun r => some (lookR [(0, T.b (r 0).bool)])) = rb true := by rw [haw]; rfl
    rw [C_parrylaw4_EvalForms_K]
    refine bind_of hy (bind_of hz (if_both (fun _ => aw) fun _ => bind_of (hv1 ..) (bind_of (hv2 ..) (if_of (beq_self_eq_true _) (if_of (beq_self_eq_true _) (bind_of (ht1 ..) (bind_of (ht2 ..) (if_of (beq_self_eq_true _) (bind_of (hme a0 a1) (if_not (by simp [lookR_0, int_i, he]) (bind_of q1 (bind_of p1 (bind_of (hsm o n o2 n2) ?_))))))))))))) 
    rw [q2, p2, hlf, (sameE_iff _ _).2 rfl]
    exact if_of rfl aw
  · refine Ev.step (base.imp fun N h => ?_)
    obtain ⟨⟨⟨y, hy⟩, hz⟩, ⟨hv1, hv2⟩, ⟨ht1, ht2⟩, hme, haw⟩ := h
    obtain ⟨z, hz⟩ := hz a0 a1
    have aw : ((C_parrylaw4_awake (K N)).bind fun r => some (lookR [(0, T.b (r 0).bool)])) = rb true := by rw [haw]; rfl
    rw [C_parrylaw4_EvalForms_K]
    exact bind_of hy (bind_of hz (if_both (fun _ => aw) fun _ => bind_of (hv1 ..) (bind_of (hv2 ..) (if_of (beq_self_eq_true _) (if_of (beq_self_eq_true _) (bind_of (ht1 ..) (bind_of (ht2 ..) (if_of (beq_self_eq_true _) (bind_of (hme a0 a1) (if_of (by simpa [lookR_0, int_i] using he) aw)))))))))) 
theorem EvalSame_sp (l : T) (a0 a1 : Int) (ak : T) (now next other : Int) (hw : WT Try.prog 36 l) (ha : WT Try.prog 28 ak) : Ev fun N => C_parrylaw4_EvalSame (K N) l a0 a1 ak now next other = rb true := by
  have hl := WT_len hw
  have hk := WT_KW ha
  have base := Ev.imp4 (Ev.and (heavyV_sp l hl) (heavyE_sp ak hk)) (refMay_sp l hl) (refSort_sp l hl ak hk) (Ev.and (Ev.ge 5) awake_sp) fun N a b c d => (⟨a, b, c, d⟩ : _ ∧ _ ∧ _ ∧ _)
  by_cases c0 : mayV (varsOf l) = 0
  · have htot := mayV_total c0
    have htr := totalE_range (varsOf l)
    by_cases c1 : (sortE (varsOf l) (.mk a0 a1 (kidsOf ak))).2 = 0
    · obtain ⟨_, he, hsd, hli, _, ht⟩ := sortE_ok c1
      obtain ⟨o, n, t, q1, q2, q3⟩ := Fold_sp l hl ak hk a0 a1 he
      refine Ev.step (Ev.imp4 base q1 (refTotal_sp l hl c0) (Ev.and (Value_sp l hl ak hk) (Reads_sp ak hk)) fun N h q1 hT hvr => ?_)
      obtain ⟨⟨⟨y, hy⟩, hz⟩, hm, hso, _, haw⟩ := h
      obtain ⟨z, hz⟩ := hz a0 a1
      obtain ⟨hv, hr⟩ := hvr
      have aw : ((C_parrylaw4_awake (K N)).bind fun r => some (lookR [(0, T.b (r 0).bool)])) = rb true := by rw [haw]; rfl
      obtain ⟨t4, a4, b4⟩ := hr a0 a1 true
      obtain ⟨t3, a3, b3⟩ := hr a0 a1 false
      have b4 : Ints t4 (readsE 4 (.mk a0 a1 (kidsOf ak))) := b4
      have b3 : Ints t3 (readsE 3 (.mk a0 a1 (kidsOf ak))) := b3
      have m1 := mod_range now (n := totalE (varsOf l)) (by omega) (by omega)
      have m2 := mod_range next (n := totalE (varsOf l)) (by omega) (by omega)
      have m3 := mod_range other (n := totalE (varsOf l)) (by omega) (by omega)
      have hu : (!(IntKind.wrap .u64 (totalE (varsOf l)) == 0)) = true := by rw [wrapu_eq (by omega) (by omega)]; simp; omega
      have e1 := value_of c0 he ht m1 m2
      have e2 := value_of c0 he ht m1 m3
      rw [C_parrylaw4_EvalSame_K]
      refine bind_of hy (bind_of hz (if_both (fun _ => aw) fun _ => bind_of hm (if_not (by simp [lookR_0, int_i, c0]) (bind_of hT (if_not (decide_eq_false (by rw [lookR_0, int_i]; omega)) (bind_of (hso a0 a1) (if_not (by simp [lookR_1, int_i, c1]) (bind_of hT ?_)))))))) 
      refine if_of hu (if_of hu (if_of hu (bind_of (hv a0 a1 (IntKind.wrap .i64 (Int.tmod (IntKind.wrap .u64 now) (IntKind.wrap .u64 (totalE (varsOf l))))) (IntKind.wrap .i64 (Int.tmod (IntKind.wrap .u64 next) (IntKind.wrap .u64 (totalE (varsOf l)))))) (bind_of (hv a0 a1 (IntKind.wrap .i64 (Int.tmod (IntKind.wrap .u64 now) (IntKind.wrap .u64 (totalE (varsOf l))))) (IntKind.wrap .i64 (Int.tmod (IntKind.wrap .u64 other) (IntKind.wrap .u64 (totalE (varsOf l)))))) (bind_of a4 (if_both (fun _ => aw) fun d => ?_))))))
      have d4 : rdE 4 (.mk a0 a1 (kidsOf ak)) = [] := by
        rw [← readsE_nil he, ← len_nil b4]
        have d := of_decide_eq_false d
        rw [lookR_0] at d
        omega
      have e12 : valueE (varsOf l) (.mk a0 a1 (kidsOf ak)) (IntKind.wrap .i64 (Int.tmod (IntKind.wrap .u64 now) (IntKind.wrap .u64 (totalE (varsOf l))))) (IntKind.wrap .i64 (Int.tmod (IntKind.wrap .u64 other) (IntKind.wrap .u64 (totalE (varsOf l))))) = valueE (varsOf l) (.mk a0 a1 (kidsOf ak)) (IntKind.wrap .i64 (Int.tmod (IntKind.wrap .u64 now) (IntKind.wrap .u64 (totalE (varsOf l))))) (IntKind.wrap .i64 (Int.tmod (IntKind.wrap .u64 next) (IntKind.wrap .u64 (totalE (varsOf l))))) := by
        rw [e1, e2]; exact valE_next4 _ _ _ _ d4
      rw [e12]
      refine if_not (by simp [lookR_0, lookR_1, int_i]) (if_not (by simp [lookR_0, lookR_1, int_i]) (bind_of q1 (bind_of a3 (if_both (fun _ => aw) fun d => if_both (fun _ => aw) fun d0 => ?_))))
      have d3 : rdE 3 (.mk a0 a1 (kidsOf ak)) = [] := by
        rw [← readsE_nil he, ← len_nil b3]
        have d := of_decide_eq_false d
        rw [lookR_0] at d
        omega
      have d0 : (valueE (varsOf l) (.mk a0 a1 (kidsOf ak)) (IntKind.wrap .i64 (Int.tmod (IntKind.wrap .u64 now) (IntKind.wrap .u64 (totalE (varsOf l))))) (IntKind.wrap .i64 (Int.tmod (IntKind.wrap .u64 next) (IntKind.wrap .u64 (totalE (varsOf l)))))).2 = 0 := by simpa [lookR_1, int_i] using d0
      rw [e1] at d0 ⊢
      rw [valE_closed _ _ [] [] _ d3 d4] at d0 ⊢
      have hof2 : ofE (varsOf l) (.mk a0 a1 (kidsOf ak)) = ((sortE (varsOf l) (.mk a0 a1 (kidsOf ak))).1, 0) := (ofE_typed (mayV_sorts c0) _ hsd).2 _ ht
      have ef : foldV (varsOf l) (.mk a0 a1 (kidsOf ak)) = .mk (if (sortE (varsOf l) (.mk a0 a1 (kidsOf ak))).1 = 2 then 1 else 2) (valE [] [] (.mk a0 a1 (kidsOf ak))).1 [] := by
        unfold foldV
        rw [if_pos c1]
        simp only [foldE]
        rw [if_pos ⟨d3, d4, d0⟩, hof2]
      rw [ef] at q2
      injection q2 with x1 x2 x3
      have x3 : t.len = 0 := by have := congrArg List.length x3; rwa [kidsOf_len] at this
      refine if_of (by simp [lookR_0, lookR_1, int_i, x2]) (if_of (by show ((t.len : Int) == 0) = true; rw [x3]; rfl) ?_)
      by_cases cs : (sortE (varsOf l) (.mk a0 a1 (kidsOf ak))).1 = 2
      · rw [if_pos cs] at x1
        exact if_of (by simpa [lookR_0, int_i] using x1) aw
      · rw [if_neg cs] at x1
        exact if_not (by simp [lookR_0, int_i, x1]) (if_of (by simpa [lookR_0, int_i] using x1) aw)
    · refine Ev.step (Ev.imp2 base (refTotal_sp l hl c0) fun N h hT => ?_)
      obtain ⟨⟨⟨y, hy⟩, hz⟩, hm, hso, _, haw⟩ := h
      obtain ⟨z, hz⟩ := hz a0 a1
      have aw : ((C_parrylaw4_awake (K N)).bind fun r => some (lookR [(0, T.b (r 0).bool)])) = rb true := by rw [haw]; rfl
      rw [C_parrylaw4_EvalSame_K]
      exact bind_of hy (bind_of hz (if_both (fun _ => aw) fun _ => bind_of hm (if_not (by simp [lookR_0, int_i, c0]) (bind_of hT (if_both (fun _ => aw) fun _ => bind_of (hso a0 a1) (if_of (by simpa [lookR_1, int_i] using c1) aw)))))) 
  · refine Ev.step (base.imp fun N h => ?_)
    obtain ⟨⟨⟨y, hy⟩, hz⟩, hm, hso, _, haw⟩ := h
    obtain ⟨z, hz⟩ := hz a0 a1
    have aw : ((C_parrylaw4_awake (K N)).bind fun r => some (lookR [(0, T.b (r 0).bool)])) = rb true := by rw [haw]; rfl
    rw [C_parrylaw4_EvalSame_K]
    exact bind_of hy (bind_of hz (if_both (fun _ => aw) fun _ => bind_of hm (if_of (by simpa [lookR_0, int_i] using c0) aw)))
end Go.Proofs.Ytfejbgnbganolaa
