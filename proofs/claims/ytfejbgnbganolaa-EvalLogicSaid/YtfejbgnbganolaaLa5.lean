/- EvalLogic: not, and, or, then, if, as ever. -/
import Derived.Test.YtfejbgnbganolaaLa4
set_option linter.unusedVariables false
set_option linter.unusedSimpArgs false
namespace Go.Proofs.Ytfejbgnbganolaa
open Go.AM

def kid1 (a : Int × Int × T) : T := T.l 1 fun i j => (([[.i a.1, .i a.2.1, a.2.2]] : List (List T)).getD (0 + i) []).getD j (.b false)
def kid2 (a b : Int × Int × T) : T := T.l 2 fun i j => (([[.i a.1, .i a.2.1, a.2.2], [.i b.1, .i b.2.1, b.2.2]] : List (List T)).getD (0 + i) []).getD j (.b false)
def kid3 (a b c : Int × Int × T) : T := T.l 3 fun i j => (([[.i a.1, .i a.2.1, a.2.2], [.i b.1, .i b.2.1, b.2.2], [.i c.1, .i c.2.1, c.2.2]] : List (List T)).getD (0 + i) []).getD j (.b false)
/-- An expression of an argument's parts. -/
def exOf (a : Int × Int × T) : Ex := .mk a.1 a.2.1 (kidsOf a.2.2)
theorem KW_kid1 {a : Int × Int × T} (h : KW a.2.2) : KW (kid1 a) := by
  refine ⟨by omega, fun i hi => ?_⟩
  match i, hi with
  | 0, _ => exact h
theorem KW_kid2 {a b : Int × Int × T} (h : KW a.2.2) (k : KW b.2.2) : KW (kid2 a b) := KW_two h k
theorem KW_kid3 {a b c : Int × Int × T} (h : KW a.2.2) (k : KW b.2.2) (q : KW c.2.2) : KW (kid3 a b c) := by
  refine ⟨by omega, fun i hi => ?_⟩
  match i, hi with
  | 0, _ => exact h
  | 1, _ => exact k
  | 2, _ => exact q
theorem kidsOf_kid1 (a : Int × Int × T) : kidsOf (kid1 a) = [exOf a] := by simp only [kid1, kidsOf]; rfl
theorem kidsOf_kid2 (a b : Int × Int × T) : kidsOf (kid2 a b) = [exOf a, exOf b] := by simp only [kid2, kidsOf]; rfl
theorem kidsOf_kid3 (a b c : Int × Int × T) : kidsOf (kid3 a b c) = [exOf a, exOf b, exOf c] := by simp only [kid3, kidsOf]; rfl
/-- The five expressions. -/
def five (a b : Int × Int × T) : Nat → Nat → T := fun i j => (([[.i 5, .i 0, kid1 a], [.i 6, .i 0, kid2 a b], [.i 7, .i 0, kid2 a b], [.i 8, .i 0, kid2 a b], [.i 15, .i 0, kid3 a b a]] : List (List T)).getD i []).getD j (.b false)

theorem Logic_sp (l : T) (a0 a1 : Int) (ak : T) (b0 b1 : Int) (bk : T) (now next : Int) (hw : WT Try.prog 36 l) (ha : WT Try.prog 28 ak) (hb : WT Try.prog 28 bk) : Ev fun N => C_parrylaw4_EvalLogic (K N) l a0 a1 ak b0 b1 bk now next = rb true := by
  have hl := WT_len hw
  have hka := WT_KW ha
  have hkb := WT_KW hb
  obtain ⟨a, ea⟩ : ∃ a : Int × Int × T, (a0, a1, ak) = a := ⟨_, rfl⟩
  obtain ⟨b, eb⟩ : ∃ b : Int × Int × T, (b0, b1, bk) = b := ⟨_, rfl⟩
  have k1 : KW (kid1 a) := KW_kid1 (by rw [← ea]; exact hka)
  have k2 : KW (kid2 a b) := KW_kid2 (by rw [← ea]; exact hka) (by rw [← eb]; exact hkb)
  have k3 : KW (kid3 a b a) := KW_kid3 (by rw [← ea]; exact hka) (by rw [← eb]; exact hkb) (by rw [← ea]; exact hka)
  have fs := Ev.and (Ev.and (heavyV_sp l hl) (Ev.and (heavyE_sp ak hka) (heavyE_sp bk hkb))) (Ev.and (Ev.and (Nodes_sp ak hka) (Nodes_sp bk hkb)) (Ev.and (Of_sp l hl ak hka) (Of_sp l hl bk hkb)))
  have gs := Ev.and (Ev.and awake_sp (Total_sp l hl)) (Ev.and op_sp (Ev.and (May_sp _ k1) (Ev.and (May_sp _ k2) (May_sp _ k3))))
  have vs := Ev.and (Ev.and (Value_sp l hl ak hka) (Value_sp l hl bk hkb)) (Ev.and (Value_sp l hl _ k1) (Ev.and (Value_sp l hl _ k2) (Value_sp l hl _ k3)))
  refine Ev.step (Ev.imp4 fs gs vs (Ev.ge 10) fun N h1 h2 h3 hN => ?_)
  obtain ⟨⟨⟨x, hx⟩, hy, hz⟩, ⟨hna, hnb⟩, hoa, hob⟩ := h1
  obtain ⟨⟨haw, ht⟩, hop, hm1, hm2, hm3⟩ := h2
  obtain ⟨⟨hva, hvb⟩, hv1, hv2, hv3⟩ := h3
  obtain ⟨y, hy⟩ := hy a0 a1
  obtain ⟨z, hz⟩ := hz b0 b1
  obtain ⟨N, rfl⟩ : ∃ M, N = M + 10 := ⟨N - 10, by omega⟩
  have aw : ((C_parrylaw4_awake (K (N + 10))).bind fun r => some (lookR [(0, T.b (r 0).bool)])) = rb true := by rw [haw]; rfl
  rw [C_parrylaw4_EvalLogic_K]
  refine bind_of hx (bind_of hy (bind_of hz (if_both (fun _ => aw) fun _ => bind_of (hna _ _) (bind_of (hnb _ _) (if_both (fun _ => aw) fun _ => bind_of (hoa _ _) (bind_of (hob _ _) ?_))))))
  have xa : Ex.mk a0 a1 (kidsOf ak) = exOf a := by rw [← ea]; rfl
  have xb : Ex.mk b0 b1 (kidsOf bk) = exOf b := by rw [← eb]; rfl
  rw [xa, xb]
  refine if_both (fun _ => aw) fun c1 => if_both (fun _ => aw) fun c2 => if_both (fun _ => aw) fun c3 => if_both (fun _ => aw) fun c4 => if_both (fun _ => aw) fun c5 => if_both (fun _ => aw) fun c6 => bind_of ht (if_both (fun _ => aw) fun c7 => bind_of ht (if_both (fun _ => aw) fun c8 => ?_))
  simp only [lookR_0, lookR_1, int_i, bne_eq_false_iff_eq] at c1 c2 c3 c4
  simp only [lookR_0, int_i, decide_eq_false_iff_not] at c5 c6 c7 c8
  have c7 := of_decide_eq_false c7
  have c8 := of_decide_eq_false c8
  have ta := (sortE_ok c1).2.2.2.2.2
  have tb := (sortE_ok c2).2.2.2.2.2
  have hm := (sortE_ok c1).1
  rw [c3] at ta
  rw [c4] at tb
  have n0 : 0 ≤ now ∧ now < totalE (varsOf l) := by omega
  have n1 : 0 ≤ next ∧ next < totalE (varsOf l) := by omega
  have oka : valuesOk (varsOf l) now = true := by unfold valuesOk; exact decide_eq_true ⟨hm, n0⟩
  have okb : valuesOk (varsOf l) next = true := by unfold valuesOk; exact decide_eq_true ⟨hm, n1⟩
  have vva := value_of hm (sortE_ok c1).2.1 ta n0 n1
  have vvb := value_of hm (sortE_ok c2).2.1 tb n0 n1
  have rda := Vals.rdOk (valuesOk_vals oka) (valuesOk_vals okb) (exOf a)
  have ra := valE_typed ta rda
  have hva' := hva a0 a1 now next
  have hvb' := hvb b0 b1 now next
  rw [xa, vva] at hva'
  rw [xb, vvb] at hvb'
  have tnot : Typed (varsOf l) (.mk 5 0 (kidsOf (kid1 a))) 1 := by rw [kidsOf_kid1]; exact .not ta
  have tlog : ∀ o, 6 ≤ o → o ≤ 8 → Typed (varsOf l) (.mk o 0 (kidsOf (kid2 a b))) 1 := fun o h1 h2 => by rw [kidsOf_kid2]; exact .logic ⟨h1, h2⟩ ta tb
  have tite : Typed (varsOf l) (.mk 15 0 (kidsOf (kid3 a b a))) 1 := by rw [kidsOf_kid3]; exact .ite ta tb ta
  refine bind_of (hop _ _) (bind_of (hop _ _) (bind_of (hop _ _) (bind_of (hop _ _) (bind_of (hop _ _) ?_))))
  have loop : ∀ M i op k, (i : Nat) < 5 → (five a b i 0).int = op → five a b i 2 = k → (five a b i 1).int = 0 → C_expr_May (K (N + 10)) op 0 k = ri (mayE (.mk op 0 (kidsOf k))) →
      (mayE (.mk op 0 (kidsOf k)) = 0 → parrylaw4_EvalLogic.B0 (K (N + 10)) M 5 l now next 5 ((i + 1 : Nat) : Int) a.1 a.2.1 a.2.2 b.1 b.2.1 b.2.2 (five a b) = rb true) →
      parrylaw4_EvalLogic.B0 (K (N + 10)) (M + 1) 5 l now next 5 (i : Int) a.1 a.2.1 a.2.2 b.1 b.2.1 b.2.2 (five a b) = rb true := by
    intro M i op k hi h0 h2 h1 hmay hrest
    rw [parrylaw4_EvalLogic.B0_eq]
    refine if_of (decide_eq_true (by omega)) (if_of (by simp; omega) (if_of (decide_eq_true (by omega)) ?_))
    rw [Nat.zero_add, Int.toNat_natCast, h0, h1, h2, wrap_eq (a := (i : Int) + 1) (by omega) (by omega)]
    refine bind_of hmay (if_both (fun _ => aw) fun c => hrest ?_)
    simpa [lookR_0, int_i] using c
  have start : parrylaw4_EvalLogic.B0 (K (N + 10)) (N + 9 + 1) 5 l now next 5 ((0 : Nat) : Int) a.1 a.2.1 a.2.2 b.1 b.2.1 b.2.2 (five a b) = rb true := by
    refine loop _ 0 5 (kid1 a) (by omega) rfl rfl rfl (hm1 _ _) fun m5 => ?_
    refine loop (N + 8) 1 6 (kid2 a b) (by omega) rfl rfl rfl (hm2 _ _) fun m6 => ?_
    refine loop (N + 7) 2 7 (kid2 a b) (by omega) rfl rfl rfl (hm2 _ _) fun m7 => ?_
    refine loop (N + 6) 3 8 (kid2 a b) (by omega) rfl rfl rfl (hm2 _ _) fun m8 => ?_
    refine loop (N + 5) 4 15 (kid3 a b a) (by omega) rfl rfl rfl (hm3 _ _) fun m15 => ?_
    have w5 := hv1 5 0 now next
    have w6 := hv2 6 0 now next
    have w7 := hv2 7 0 now next
    have w8 := hv2 8 0 now next
    have w15 := hv3 15 0 now next
    rw [value_of hm m5 tnot n0 n1, kidsOf_kid1, valE_not] at w5
    rw [value_of hm m6 (tlog 6 (by omega) (by omega)) n0 n1, kidsOf_kid2, valE_logic _ _ ⟨by omega, by omega⟩] at w6
    rw [value_of hm m7 (tlog 7 (by omega) (by omega)) n0 n1, kidsOf_kid2, valE_logic _ _ ⟨by omega, by omega⟩] at w7
    rw [value_of hm m8 (tlog 8 (by omega) (by omega)) n0 n1, kidsOf_kid2, valE_logic _ _ ⟨by omega, by omega⟩] at w8
    rw [value_of hm m15 tite n0 n1, kidsOf_kid3, valE_ite] at w15
    have ea0 : a.1 = a0 ∧ a.2.1 = a1 ∧ a.2.2 = ak := by rw [← ea]; exact ⟨rfl, rfl, rfl⟩
    have eb0 : b.1 = b0 ∧ b.2.1 = b1 ∧ b.2.2 = bk := by rw [← eb]; exact ⟨rfl, rfl, rfl⟩
    rw [parrylaw4_EvalLogic.B0_eq]
    refine if_not rfl ?_
    revert ra hva' hvb' w5 w6 w7 w8 w15
    rw [← ea0.1, ← ea0.2.1, ← ea0.2.2, ← eb0.1, ← eb0.2.1, ← eb0.2.2]
    generalize valE (valuesFrom (varsOf l) now) (valuesFrom (varsOf l) next) (exOf a) = p
    generalize valE (valuesFrom (varsOf l) now) (valuesFrom (varsOf l) next) (exOf b) = q
    obtain ⟨p, x⟩ := p
    obtain ⟨q, y⟩ := q
    intro ra hva' hvb' w5 w6 w7 w8 w15
    simp only at ra hva' hvb' w5 w6 w7 w8 w15
    by_cases hx0 : x = 0
    · subst hx0
      obtain ⟨_, _, r3⟩ := ra rfl
      rcases r3 trivial with rfl | rfl
      · simp [rii] at w5 w6 w7 w8 w15
        refine bind_of hva' (bind_of hvb' (bind_of (hop _ _) (bind_of w5 (bind_of (hop _ _) (bind_of w6 (bind_of (hop _ _) (bind_of w7 (bind_of (hop _ _) (bind_of w8 (bind_of (hop _ _) (bind_of w15 ?_)))))))))))
        simp only [lookR_0, lookR_1, int_i]
        refine if_not rfl (if_not rfl (if_not rfl (if_of rfl (if_of rfl (if_of rfl (if_of (by simp) (if_of (by simp) (if_of rfl (if_of rfl (if_of rfl (if_of rfl aw)))))))))))
      · simp [rii] at w5 w6 w7 w8 w15
        refine bind_of hva' (bind_of hvb' (bind_of (hop _ _) (bind_of w5 (bind_of (hop _ _) (bind_of w6 (bind_of (hop _ _) (bind_of w7 (bind_of (hop _ _) (bind_of w8 (bind_of (hop _ _) (bind_of w15 ?_)))))))))))
        simp only [lookR_0, lookR_1, int_i]
        refine if_not rfl (if_not rfl (if_not rfl (if_not rfl (if_of rfl (if_of (by simp) (if_of (by simp) (if_of rfl (if_of rfl (if_of (by simp) (if_of (by simp) (if_of (by simp) (if_of (by simp) aw))))))))))))
    · simp only [hx0, ne_eq, not_false_eq_true, if_true] at w5 w6 w7 w8 w15
      refine bind_of hva' (bind_of hvb' (bind_of (hop _ _) (bind_of w5 (bind_of (hop _ _) (bind_of w6 (bind_of (hop _ _) (bind_of w7 (bind_of (hop _ _) (bind_of w8 (bind_of (hop _ _) (bind_of w15 ?_)))))))))))
      simp only [lookR_0, lookR_1, int_i]
      refine if_of (by simpa using hx0) (if_of (by simp) (if_of (by simp) (if_of (by simp) (if_of (by simp) (if_of (by simp) aw)))))
  subst ea
  subst eb
  exact start
end Go.Proofs.Ytfejbgnbganolaa
