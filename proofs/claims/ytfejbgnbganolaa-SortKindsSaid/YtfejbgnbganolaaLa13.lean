/- SortKinds: of two expressions: which of them may stand side by side under which operation. -/
import Derived.Test.YtfejbgnbganolaaLa12
set_option linter.unusedVariables false
set_option linter.unusedSimpArgs false
namespace Go.Proofs.Ytfejbgnbganolaa
open Go.AM
/-- Do two sorts fit an operation? -/
def fitsK (op s t : Int) : Bool := if op ≤ 8 then decide (s = 1 ∧ t = 1) else if op = 9 then decide (s = t) else decide (s = 2 ∧ t = 2)
def wantK (op : Int) : Int := if 12 ≤ op then 2 else 1
theorem sort_kinds {l : List Va} {a b : Ex} {op s t : Int} (ho : 6 ≤ op ∧ op ≤ 14) (hm : mayV l = 0) (hc : mayE (.mk op 0 [a, b]) = 0) (ta : Typed l a s) (tb : Typed l b t) :
    sortE l (.mk op 0 [a, b]) = if fitsK op s t = true then (wantK op, 0) else (0, 4) := by
  have hs := mayV_sorts hm
  have sa := ta.sort hs
  have sb := tb.sort hs
  obtain ⟨hsd, _⟩ := mayE_inv hc
  have hk2 := hsd
  simp only [soundE, soundL, Bool.and_eq_true] at hk2
  have oa := (ofE_typed hs a hk2.2.1).2 s ta
  have ob := (ofE_typed hs b hk2.2.2.1).2 t tb
  by_cases hf : fitsK op s t = true
  · rw [if_pos hf]
    refine sort_of hm hc ?_
    unfold fitsK at hf
    unfold wantK
    by_cases h8 : op ≤ 8
    · rw [if_pos h8] at hf
      obtain ⟨rfl, rfl⟩ := of_decide_eq_true hf
      rw [if_neg (by omega)]
      exact .logic ⟨ho.1, h8⟩ ta tb
    · rw [if_neg h8] at hf
      by_cases h9 : op = 9
      · rw [if_pos h9] at hf
        have hf := of_decide_eq_true hf
        subst hf h9
        rw [if_neg (by omega)]
        exact .same ta tb
      · rw [if_neg h9] at hf
        obtain ⟨rfl, rfl⟩ := of_decide_eq_true hf
        by_cases h12 : 12 ≤ op
        · rw [if_pos h12]; exact .sum ⟨h12, ho.2⟩ ta tb
        · rw [if_neg h12]; exact .less ⟨by omega, by omega⟩ ta tb
  · rw [if_neg hf]
    unfold sortE
    rw [if_neg (by simp [hm]), if_neg (by simp [hc])]
    simp only [ofE, ofL, oa, ob]
    simp only [ne_eq, not_true_eq_false, if_false]
    unfold nodeE
    rw [if_neg (by omega)]
    have hfit : fitsFrom (needsL op) [s, t] 0 = false := by
      unfold fitsK at hf
      unfold needsL
      rw [if_neg (by omega)]
      by_cases h8 : op ≤ 8
      · rw [if_pos h8] at hf
        rw [if_pos ⟨ho.1, h8⟩, fits2 1 s t (by omega)]
        simpa using hf
      · rw [if_neg h8] at hf
        rw [if_neg (by omega)]
        by_cases h9 : op = 9
        · rw [if_pos h9] at hf
          rw [if_neg (by omega), if_pos h9, fits00 s t (by omega)]
          have hf : ¬ s = t := by simpa using hf
          exact decide_eq_false fun h => hf h.symm
        · rw [if_neg h9] at hf
          rw [if_pos (by omega), fits2 2 s t (by omega)]
          simpa using hf
    rw [if_pos hfit]
theorem Kinds_sp (l : T) (a0 a1 : Int) (ak : T) (b0 b1 : Int) (bk : T) (op : Int) (hw : WT Try.prog 36 l) (ha : WT Try.prog 28 ak) (hb : WT Try.prog 28 bk) : Ev fun N => C_parrylaw3_SortKinds (K N) l a0 a1 ak b0 b1 bk op = rb true := by
  have hl := WT_len hw
  have hka := WT_KW ha
  have hkb := WT_KW hb
  have k2 : KW (kid2 (a0, a1, ak) (b0, b1, bk)) := KW_kid2 hka hkb
  refine Ev.step (Ev.imp4 (Ev.and (heavyV_sp l hl) (Ev.and (heavyE_sp ak hka) (heavyE_sp bk hkb))) (Ev.and (Of_sp l hl ak hka) (Ev.and (Of_sp l hl bk hkb) (Of_sp l hl _ k2))) (refMayE_sp _ k2) (Ev.and awake3_sp (Ev.ge 5)) fun N h1 h2 h3 h4 => ?_)
  obtain ⟨⟨x, hx⟩, hy, hz⟩ := h1
  obtain ⟨hoa, hob, hoc⟩ := h2
  obtain ⟨haw, hN⟩ := h4
  obtain ⟨y, hy⟩ := hy a0 a1
  obtain ⟨z, hz⟩ := hz b0 b1
  obtain ⟨N, rfl⟩ : ∃ M, N = M + 1 := ⟨N - 1, by omega⟩
  have aw : ((C_parrylaw3_awake (K (N + 1))).bind fun r => some (lookR [(0, T.b (r 0).bool)])) = rb true := by rw [haw]; rfl
  have oa := hoa a0 a1
  have ob := hob b0 b1
  have oc := hoc op 0
  have mc := h3 op 0
  have xa : exOf (a0, a1, ak) = Ex.mk a0 a1 (kidsOf ak) := rfl
  have xb : exOf (b0, b1, bk) = Ex.mk b0 b1 (kidsOf bk) := rfl
  rw [kidsOf_kid2, xa, xb] at oc mc
  obtain ⟨A, eA⟩ : ∃ A, Ex.mk a0 a1 (kidsOf ak) = A := ⟨_, rfl⟩
  obtain ⟨B, eB⟩ : ∃ B, Ex.mk b0 b1 (kidsOf bk) = B := ⟨_, rfl⟩
  rw [eA] at oa
  rw [eB] at ob
  rw [eA, eB] at oc mc
  rw [C_parrylaw3_SortKinds_K]
  refine bind_of hx (bind_of hy (bind_of hz (if_both (fun _ => aw) fun _ => if_both (fun _ => aw) fun c1 => if_both (fun _ => aw) fun c2 => bind_of oa (bind_of ob (bind_of oc (if_both (fun _ => aw) fun c3 => if_both (fun _ => aw) fun c4 => bind_of mc (if_both (fun _ => aw) fun c5 => ?_)))))))
  have c1 := of_decide_eq_false c1
  have c2 := of_decide_eq_false c2
  have c3 : (sortE (varsOf l) A).2 = 0 := by simpa [lookR_1, int_i] using c3
  have c4 : (sortE (varsOf l) B).2 = 0 := by simpa [lookR_1, int_i] using c4
  have c5 : mayE (.mk op 0 [A, B]) = 0 := by simpa [lookR_0, int_i] using c5
  have ta := (sortE_ok c3).2.2.2.2.2
  have tb := (sortE_ok c4).2.2.2.2.2
  have hm := (sortE_ok c3).1
  have hk := sort_kinds (op := op) ⟨by omega, by omega⟩ hm c5 ta tb
  revert hk
  generalize (sortE (varsOf l) A).1 = s
  generalize (sortE (varsOf l) B).1 = t
  generalize sortE (varsOf l) (.mk op 0 [A, B]) = u
  obtain ⟨u, v⟩ := u
  intro hk
  have last : ∀ (f : Bool) (w : Int), f = fitsK op s t → (f = true → w = wantK op) → parrylaw3_SortKinds.B0 (K (N + 1)) (N + 1) u v f w = rb true := by
    intro f w hf hwt
    rw [parrylaw3_SortKinds.B0_eq]
    rw [← hf] at hk
    cases hc : f with
    | false =>
      rw [hc] at hk
      have hk : (u, v) = (0, 4) := by simpa using hk
      rw [Prod.mk.injEq] at hk
      obtain ⟨rfl, rfl⟩ := hk
      exact if_of rfl (if_of rfl (if_of rfl aw))
    | true =>
      rw [hc] at hk
      have hk : (u, v) = (wantK op, 0) := by simpa using hk
      rw [Prod.mk.injEq] at hk
      obtain ⟨h1, rfl⟩ := hk
      exact if_not rfl (if_of (by rw [beq_iff_eq, h1, hwt hc]) (if_of rfl aw))
  have f8 : op ≤ 8 → fitsK op s t = decide (s = 1 ∧ t = 1) := fun h => by unfold fitsK; rw [if_pos h]
  have f9 : op = 9 → fitsK op s t = decide (s = t) := fun h => by unfold fitsK; rw [if_neg (by omega), if_pos h]
  have f10 : 9 < op → fitsK op s t = decide (s = 2 ∧ t = 2) := fun h => by unfold fitsK; rw [if_neg (by omega), if_neg (by omega)]
  by_cases d8 : op ≤ 8
  · refine if_of (decide_eq_true d8) (if_both (fun c => ?_) fun c => ?_)
    · have c : s = 1 := by simpa [lookR_0, int_i] using c
      refine last _ _ ?_ fun _ => by unfold wantK; rw [if_neg (by omega)]
      rw [f8 d8, lookR_0, int_i, Bool.eq_iff_iff, beq_iff_eq, decide_eq_true_eq]
      simp [c]
    · have c : ¬ s = 1 := by simpa [lookR_0, int_i] using c
      refine last _ _ ?_ fun h => by cases h
      rw [f8 d8, decide_eq_false fun h => c h.1]
  · refine if_not (decide_eq_false d8) ?_
    by_cases d9 : op > 9
    · refine if_of (decide_eq_true d9) (if_both (fun c => ?_) fun c => ?_)
      · have c : s = 2 := by simpa [lookR_0, int_i] using c
        have hf : ((lookR [(0, T.i t), (1, T.i (sortE (varsOf l) B).2)] 0).int == 2) = fitsK op s t := by
          rw [f10 d9, lookR_0, int_i, Bool.eq_iff_iff, beq_iff_eq, decide_eq_true_eq]
          simp [c]
        refine if_both (fun c6 => last _ _ hf fun _ => ?_) fun c6 => last _ _ hf fun _ => ?_
        · unfold wantK; rw [if_pos (of_decide_eq_true c6)]
        · unfold wantK; rw [if_neg (of_decide_eq_false c6)]
      · have c : ¬ s = 2 := by simpa [lookR_0, int_i] using c
        have hf : false = fitsK op s t := by rw [f10 d9, decide_eq_false fun h => c h.1]
        exact if_both (fun _ => last _ _ hf fun h => by cases h) fun _ => last _ _ hf fun h => by cases h
    · refine if_not (decide_eq_false d9) (last _ _ ?_ fun _ => by unfold wantK; rw [if_neg (by omega)])
      rw [f9 (by omega), lookR_0, lookR_0, int_i, int_i, Bool.eq_iff_iff, beq_iff_eq, decide_eq_true_eq]
end Go.Proofs.Ytfejbgnbganolaa
