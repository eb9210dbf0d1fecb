/- Folding: eval.Fold, and the laws EvalFolds and EvalSame. -/
import Derived.Test.YtfejbgnbganolaaLa24
import Derived.Test.YtfejbgnbganolaaLa25
set_option linter.unusedVariables false
set_option linter.unusedSimpArgs false
namespace Go.Proofs.Ytfejbgnbganolaa
open Go.AM
/-- Rows of expressions. -/
def exsR (n : Nat) (g : Nat → Nat → T) : List Ex := (List.range n).map fun i => Ex.mk (g i 0).int (g i 1).int (kidsOf (g i 2))
theorem kidsOf_l (n : Nat) (g : Nat → Nat → T) : kidsOf (T.l n g) = exsR n g := by rw [kidsOf_eq]; rfl
theorem shift0 (g : Nat → Nat → T) : (fun i j => g (0 + i) j) = g := by funext i j; rw [Nat.zero_add]
def pushX (n : Nat) (g : Nat → Nat → T) (a b : Int) (c : T) : Nat → Nat → T := fun i j => (bif Nat.blt i n then (g i j) else (([[T.i a, T.i b, c]] : List (List T)).getD (0 + (i - n)) []).getD j (.b false))
theorem pushX_lt {n : Nat} {g : Nat → Nat → T} {a b : Int} {c : T} {i j : Nat} (h : i < n) : pushX n g a b c i j = g i j := by
  unfold pushX
  rw [show Nat.blt i n = true from by rw [Nat.blt_eq]; exact h]; rfl
theorem blt_self (n : Nat) : Nat.blt n n = false := by
  cases hc : Nat.blt n n with
  | false => rfl
  | true => rw [Nat.blt_eq] at hc; omega
theorem pushX_at (n : Nat) (g : Nat → Nat → T) (a b : Int) (c : T) : pushX n g a b c n 0 = .i a ∧ pushX n g a b c n 1 = .i b ∧ pushX n g a b c n 2 = c := by
  unfold pushX
  rw [blt_self, Nat.sub_self]
  exact ⟨rfl, rfl, rfl⟩
theorem exsR_pushX (n : Nat) (g : Nat → Nat → T) (a b : Int) (c : T) : exsR (n + 1) (pushX n g a b c) = exsR n g ++ [Ex.mk a b (kidsOf c)] := by
  unfold exsR
  rw [List.range_succ, List.map_append]
  obtain ⟨h0, h1, h2⟩ := pushX_at n g a b c
  congr 1
  · refine List.map_congr_left fun i hi => ?_
    have hi := List.mem_range.1 hi
    rw [pushX_lt hi, pushX_lt hi, pushX_lt hi]
  · simp [h0, h1, h2, int_i]
/-- What a call hands back is an expression. -/
def MapsTo (c : Nat → Option R) (e : Ex) : Prop := ∃ o n t, (Ev fun N => c N = some (lookR [(0, .i o), (1, .i n), (2, t)])) ∧ Ex.mk o n (kidsOf t) = e ∧ KW t
/-- Rows that grow by expressions that calls hand back. -/
theorem grow {k : T} {F : Ex → Ex} (hk3 : k.len ≤ 3) {B : Nat → Nat → Nat → (Nat → Nat → T) → Option R} (hc : ∀ i, i < k.len → ∃ o n t, Ex.mk o n (kidsOf t) = F (exAt k i) ∧ KW t ∧ Ev fun N => ∀ M g, B N (M + 1) i g = B N M (i + 1) (pushX i g o n t)) :
    ∀ m, m ≤ k.len → ∃ g, exsR m g = ((kidsOf k).take m).map F ∧ (∀ i, i < m → KW (g i 2)) ∧ Ev fun N => ∀ M, B N (M + m) 0 (fun _ _ => .b false) = B N M m g
  | 0, _ => ⟨fun _ _ => .b false, rfl, fun i hi => absurd hi (Nat.not_lt_zero _), Ev.of fun N M => rfl⟩
  | m + 1, hm => by
    obtain ⟨g, h1, h2, h3⟩ := grow hk3 hc m (by omega)
    obtain ⟨o, n, t, e1, e2, e3⟩ := hc m (by omega)
    refine ⟨pushX m g o n t, ?_, fun i hi => ?_, h3.imp2 e3 fun N h3 e3 M => ?_⟩
    · rw [exsR_pushX, h1, e1, List.take_add_one, kidsOf_get k (by omega), List.map_append]; rfl
    · by_cases c : i < m
      · rw [pushX_lt c]; exact h2 i c
      · obtain rfl : i = m := by omega
        rw [(pushX_at i g o n t).2.2]; exact e2
    · rw [show M + (m + 1) = (M + 1) + m by omega, h3, e3]
theorem KW_l {n : Nat} {g : Nat → Nat → T} (hn : n ≤ 9223372036854775807) (h : ∀ i, i < n → KW (g i 2)) : KW (T.l n g) := ⟨hn, h⟩
theorem copied_sp : ∀ k, KW k → ∀ op m, soundE (.mk op m (kidsOf k)) = true → MapsTo (fun N => C_eval_copied (K N) op m k) (.mk op m (kidsOf k)) := by
  refine kids_ind fun k ih hk op m hs => ?_
  obtain ⟨h1, h2, h3⟩ := soundE_inv hs
  have h4 := kidsN_le op
  obtain ⟨g, e1, e2, e3⟩ := grow (k := k) (F := id) (by omega) (B := fun N M i g => eval_copied.B0 (K N) M i k (k.len : Int) (i : Int) 0 0 op m g) (fun i hi => by
    obtain ⟨o, n, t, q1, q2, q3⟩ := ih i hi (hk.el hi) (k.el i 0).int (k.el i 1).int (soundE_kid h3 hi)
    refine ⟨o, n, t, q2, q3, q1.imp fun N q1 M g => ?_⟩
    show eval_copied.B0 (K N) (M + 1) i k (k.len : Int) (i : Int) 0 0 op m g = eval_copied.B0 (K N) M (i + 1) k (k.len : Int) ((i + 1 : Nat) : Int) 0 0 op m (pushX i g o n t)
    rw [eval_copied.B0_eq, Int.toNat_natCast, wrap_eq (a := (i : Int) + 1) (by omega) (by omega)]
    exact if_of (decide_eq_true (by omega)) (if_of (by simp; omega) (bind_of q1 (if_of (decide_eq_true (by omega)) rfl)))) k.len (Nat.le_refl _)
  refine ⟨op, m, T.l k.len fun i j => g (0 + i) j, Ev.step (e3.imp2 (Ev.ge (k.len + 3)) fun N e3 hN => ?_), ?_, ?_⟩
  · obtain ⟨M, rfl⟩ : ∃ M, N = (M + 1) + k.len := ⟨N - 1 - k.len, by omega⟩
    have e4 := e3 (M + 1)
    show C_eval_copied (K ((M + 1) + k.len + 1)) op m k = _
    rw [C_eval_copied_K]
    refine e4.trans ?_
    rw [eval_copied.B0_eq]
    exact if_not (decide_eq_false (by omega)) rfl
  · rw [shift0, kidsOf_l, e1, List.take_of_length_le (by rw [kidsOf_len]; omega), List.map_id]
  · rw [shift0]; exact KW_l (by omega) e2
theorem readsE_nil {t : Int} {e : Ex} (h : mayE e = 0) : readsE t e = [] ↔ rdE t e = [] := by
  rw [List.eq_nil_iff_forall_not_mem, List.eq_nil_iff_forall_not_mem]
  exact ⟨fun q x hx => q x ((readsE_mem h x).2 hx), fun q x hx => q x ((readsE_mem h x).1 hx)⟩
theorem Ints_noT : Ints noT [] := ⟨rfl, fun i v h => by simp at h⟩
theorem len_nil {t : T} {l : List Int} (h : Ints t l) : (t.len : Int) = 0 ↔ l = [] := by
  rw [h.1]
  constructor
  · intro q; exact List.eq_nil_of_length_eq_zero (by omega)
  · intro q; rw [q]; rfl
theorem fold_sp (l : T) (hl : l.len ≤ 9223372036854775807) (hm : mayV (varsOf l) = 0) : ∀ k, KW k → ∀ op m s, mayE (.mk op m (kidsOf k)) = 0 → Typed (varsOf l) (.mk op m (kidsOf k)) s → MapsTo (fun N => C_eval_fold (K N) l op m k) (foldE (varsOf l) (.mk op m (kidsOf k))) := by
  refine kids_ind fun k ih hk op m s he ht => ?_
  have hsd := (mayE_inv he).1
  obtain ⟨h1, h2, h3⟩ := soundE_inv hsd
  have h4 := kidsN_le op
  have hof := sort_of hm he ht
  have hof2 : ofE (varsOf l) (.mk op m (kidsOf k)) = (s, 0) := (ofE_typed (mayV_sorts hm) _ hsd).2 s ht
  have hs12 := ht.sort (mayV_sorts hm)
  obtain ⟨ss, k1, k2, _, _⟩ := kids_typed ht
  have r34 : ∀ {a b : Nat}, IntKind.wrap .i64 ((a : Int) + (b : Int)) = (a : Int) + (b : Int) ∨ True := fun {a b} => .inr trivial
  -- what the reads say
  have hsum : ∀ t3 t4, Ints t3 (readsE 3 (.mk op m (kidsOf k))) → Ints t4 (readsE 4 (.mk op m (kidsOf k))) → (IntKind.wrap .i64 ((t3.len : Int) + (t4.len : Int)) == 0) = decide (rdE 3 (.mk op m (kidsOf k)) = [] ∧ rdE 4 (.mk op m (kidsOf k)) = []) := by
    intro t3 t4 i3 i4
    have l3 := readsE_len 3 (.mk op m (kidsOf k))
    have l4 := readsE_len 4 (.mk op m (kidsOf k))
    have z3 := i3.1
    have z4 := i4.1
    rw [wrap_eq (by omega) (by omega), Bool.eq_iff_iff, beq_iff_eq, decide_eq_true_eq, ← readsE_nil he, ← readsE_nil he, ← len_nil i3, ← len_nil i4]
    omega
  by_cases c : rdE 3 (.mk op m (kidsOf k)) = [] ∧ rdE 4 (.mk op m (kidsOf k)) = [] ∧ (valE [] [] (.mk op m (kidsOf k))).2 = 0
  · have ef : foldE (varsOf l) (.mk op m (kidsOf k)) = .mk (if s = 2 then 1 else 2) (valE [] [] (.mk op m (kidsOf k))).1 [] := by
      simp only [foldE]; rw [if_pos c, hof2]
    rw [ef]
    refine ⟨if s = 2 then 1 else 2, (valE [] [] (.mk op m (kidsOf k))).1, T.l 0 (fun i j => (fun _ _ => T.b false) (0 + i) j), Ev.step (Ev.imp4 (Reads_sp k hk) (value_sp (l := varsOf l) k hk) (Of_sp l hl k hk) (Ev.ge 5) fun N q1 q2 q3 hN => ?_), rfl, ⟨by omega, fun i hi => absurd hi (Nat.not_lt_zero _)⟩⟩
    obtain ⟨t3, a3, b3⟩ := q1 op m false
    obtain ⟨t4, a4, b4⟩ := q1 op m true
    obtain ⟨N, rfl⟩ : ∃ M, N = M + 1 := ⟨N - 1, by omega⟩
    show C_eval_fold (K (N + 1 + 1)) l op m k = _
    rw [C_eval_fold_K]
    refine bind_of a3 (bind_of a4 (if_of ?_ (bind_of (q2 noT noT [] [] op m s Ints_noT Ints_noT ht (rdOk_closed _ _ _ _ c.1 c.2.1)) (if_of ?_ (bind_of (q3 op m) ?_)))))
    · exact (hsum t3 t4 b3 b4).trans (decide_eq_true ⟨c.1, c.2.1⟩)
    · rw [lookR_1, int_i, c.2.2]; rfl
    · rw [lookR_0, int_i, hof]
      by_cases cs : s = 2
      · rw [if_pos cs]
        refine if_of (by simpa using cs) ?_
        rw [eval_fold.B0_eq]; rfl
      · rw [if_neg cs]
        refine if_not (by simpa using cs) ?_
        rw [eval_fold.B0_eq]; rfl
  · have ef : foldE (varsOf l) (.mk op m (kidsOf k)) = .mk op m ((kidsOf k).map (foldE (varsOf l))) := by
      simp only [foldE]; rw [if_neg c, foldL_map]
    rw [ef]
    obtain ⟨g, e1, e2, e3⟩ := grow (k := k) (F := foldE (varsOf l)) (by omega) (B := fun N M i g => eval_fold.B2 (K N) M i l k (k.len : Int) (i : Int) 0 0 op m g) (fun i hi => by
      obtain ⟨t, t1, t2⟩ := k2 i _ (kidsOf_get k hi)
      have hmk : mayE (exAt k i) = 0 := mayE_kid he (List.mem_of_getElem? (kidsOf_get k hi))
      obtain ⟨o, n, t, q1, q2, q3⟩ := ih i hi (hk.el hi) (k.el i 0).int (k.el i 1).int t hmk t2
      refine ⟨o, n, t, q2, q3, q1.imp fun N q1 M g => ?_⟩
      show eval_fold.B2 (K N) (M + 1) i l k (k.len : Int) (i : Int) 0 0 op m g = eval_fold.B2 (K N) M (i + 1) l k (k.len : Int) ((i + 1 : Nat) : Int) 0 0 op m (pushX i g o n t)
      rw [eval_fold.B2_eq, Int.toNat_natCast, wrap_eq (a := (i : Int) + 1) (by omega) (by omega)]
      exact if_of (decide_eq_true (by omega)) (if_of (by simp; omega) (bind_of q1 (if_of (decide_eq_true (by omega)) rfl)))) k.len (Nat.le_refl _)
    refine ⟨op, m, T.l k.len fun i j => g (0 + i) j, Ev.step (Ev.imp4 (Reads_sp k hk) (value_sp (l := varsOf l) k hk) e3 (Ev.ge (k.len + 9)) fun N q1 q2 e3 hN => ?_), ?_, ?_⟩
    · obtain ⟨t3, a3, b3⟩ := q1 op m false
      obtain ⟨t4, a4, b4⟩ := q1 op m true
      have go : eval_fold.B1 (K N) N l op m k 0 0 = some (lookR [(0, .i op), (1, .i m), (2, T.l k.len fun i j => g (0 + i) j)]) := by
        obtain ⟨M, hM⟩ : ∃ M, N = (M + 1) + k.len + 1 := ⟨N - 2 - k.len, by omega⟩
        have e4 := e3 (M + 1)
        have : eval_fold.B1 (K N) ((M + 1) + k.len + 1) l op m k 0 0 = some (lookR [(0, .i op), (1, .i m), (2, T.l k.len fun i j => g (0 + i) j)]) := by
          rw [eval_fold.B1_eq]
          refine e4.trans ?_
          rw [eval_fold.B2_eq]
          exact if_not (decide_eq_false (by omega)) rfl
        rwa [← hM] at this
      show C_eval_fold (K (N + 1)) l op m k = _
      rw [C_eval_fold_K]
      refine bind_of a3 (bind_of a4 (if_both (fun d => ?_) fun _ => go))
      have d := of_decide_eq_true ((hsum t3 t4 b3 b4).symm.trans d)
      refine bind_of (q2 noT noT [] [] op m s Ints_noT Ints_noT ht (rdOk_closed _ _ _ _ d.1 d.2)) (if_not ?_ go)
      rw [lookR_1, int_i]
      have : (valE [] [] (.mk op m (kidsOf k))).2 ≠ 0 := fun h => c ⟨d.1, d.2, h⟩
      simpa using this
    · rw [shift0, kidsOf_l, e1, List.take_of_length_le (by rw [kidsOf_len]; omega)]
    · rw [shift0]; exact KW_l (by omega) e2
theorem Fold_sp (l : T) (hl : l.len ≤ 9223372036854775807) (k : T) (hk : KW k) (op m : Int) (he : mayE (.mk op m (kidsOf k)) = 0) : MapsTo (fun N => C_eval_Fold (K N) l op m k) (foldV (varsOf l) (.mk op m (kidsOf k))) := by
  unfold foldV
  by_cases c : (sortE (varsOf l) (.mk op m (kidsOf k))).2 = 0
  · rw [if_pos c]
    obtain ⟨c1, _, _, _, _, ht⟩ := sortE_ok c
    obtain ⟨o, n, t, q1, q2, q3⟩ := fold_sp l hl c1 k hk op m _ he ht
    refine ⟨o, n, t, Ev.step (Ev.imp2 (Of_sp l hl k hk) q1 fun N h1 q1 => ?_), q2, q3⟩
    show C_eval_Fold (K (N + 1)) l op m k = _
    rw [C_eval_Fold_K]
    exact bind_of (h1 op m) (if_of (by simp [lookR_1, int_i, c]) (bind_of q1 rfl))
  · rw [if_neg c]
    obtain ⟨o, n, t, q1, q2, q3⟩ := copied_sp k hk op m (mayE_inv he).1
    refine ⟨o, n, t, Ev.step (Ev.imp2 (Of_sp l hl k hk) q1 fun N h1 q1 => ?_), q2, q3⟩
    show C_eval_Fold (K (N + 1)) l op m k = _
    rw [C_eval_Fold_K]
    exact bind_of (h1 op m) (if_not (by simpa [lookR_1, int_i] using c) (bind_of q1 rfl))
theorem EvalFolds_sp (l : T) (a0 a1 : Int) (ak : T) (now next : Int) (hw : WT Try.prog 36 l) (ha : WT Try.prog 28 ak) : Ev fun N => C_parrylaw4_EvalFolds (K N) l a0 a1 ak now next = rb true := by
  have hl := WT_len hw
  have hk := WT_KW ha
  by_cases he : mayE (.mk a0 a1 (kidsOf ak)) = 0
  · obtain ⟨o, n, t, q1, q2, q3⟩ := Fold_sp l hl ak hk a0 a1 he
    have hlf := foldV_light (l := varsOf l) (mayE_inv he).2
    have hef : mayE (foldV (varsOf l) (.mk a0 a1 (kidsOf ak))) = 0 := by
      unfold foldV
      split
      · rename_i c; exact (fold_sort c).2.1
      · exact he
    have hef' : mayE (.mk o n (kidsOf t)) = 0 := by rw [q2]; exact hef
    obtain ⟨o2, n2, t2, p1, p2, p3⟩ := Fold_sp l hl t q3 o n hef'
    rw [q2, foldV_idem] at p2
    refine Ev.step (Ev.imp4 (Ev.and (heavyV_sp l hl) (heavyE_sp ak hk)) (Ev.and (Ev.and (refMayE_sp ak hk) awake_sp) (Ev.and q1 p1)) (Ev.and (Value_sp l hl ak hk) (Value_sp l hl t q3)) (Ev.and (Same_sp t2 t p3 q3) (Ev.and (Nodes_sp t q3) (Nodes_sp ak hk))) fun N h1 h2 h3 h4 => ?_)
    obtain ⟨⟨y, hy⟩, hz⟩ := h1
    obtain ⟨z, hz⟩ := hz a0 a1
    obtain ⟨⟨hme, haw⟩, hf1, hf2⟩ := h2
    obtain ⟨hv1, hv2⟩ := h3
    obtain ⟨hsm, hn1, hn2⟩ := h4
    have aw : ((C_parrylaw4_awake (K N)).bind fun r => some (lookR [(0, T.b (r 0).bool)])) = rb true := by rw [haw]; rfl
    have ev := foldV_value (varsOf l) (.mk a0 a1 (kidsOf ak)) now next
    have en := foldV_nodes (l := varsOf l) (mayE_inv he).2
    rw [C_parrylaw4_EvalFolds_K]
    refine bind_of hy (bind_of hz (if_both (fun _ => aw) fun _ => bind_of (hme a0 a1) (if_not (by simp [lookR_0, int_i, he]) (bind_of hf1 (bind_of (hv1 a0 a1 now next) (bind_of (hv2 o n now next) ?_))))))
    rw [q2, ev]
    refine if_of (beq_self_eq_true _) (if_of (beq_self_eq_true _) (bind_of hf2 (bind_of (hsm o2 n2 o n) ?_)))
    rw [p2, q2, hlf, (sameE_iff _ _).2 rfl]
    refine if_of rfl (bind_of (hn1 o n) (bind_of (hn2 a0 a1) ?_))
    rw [q2]
    exact if_of (decide_eq_true en) aw
  · refine Ev.step (Ev.imp4 (heavyV_sp l hl) (heavyE_sp ak hk) (refMayE_sp ak hk) awake_sp fun N h1 h2 h3 h4 => ?_)
    obtain ⟨y, hy⟩ := h1
    obtain ⟨z, hz⟩ := h2 a0 a1
    have aw : ((C_parrylaw4_awake (K N)).bind fun r => some (lookR [(0, T.b (r 0).bool)])) = rb true := by rw [h4]; rfl
    rw [C_parrylaw4_EvalFolds_K]
    exact bind_of hy (bind_of hz (if_both (fun _ => aw) fun _ => bind_of (h3 a0 a1) (if_of (by simpa [lookR_0, int_i] using he) aw)))
end Go.Proofs.Ytfejbgnbganolaa
