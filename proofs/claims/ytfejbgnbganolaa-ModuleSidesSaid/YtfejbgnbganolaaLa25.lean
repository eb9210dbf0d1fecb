/- The law SortOne: an expression is of one sort, as its kids are each of one. -/
import Derived.Test.YtfejbgnbganolaaLa23
set_option linter.unusedVariables false
set_option linter.unusedSimpArgs false
namespace Go.AM
theorem nodeE_err (l : List Va) (op n : Int) (ss : List Int) : (nodeE l op n ss).2 = 0 ∨ (nodeE l op n ss).1 = 0 ∧ ((nodeE l op n ss).2 = 3 ∨ (nodeE l op n ss).2 = 4) := by
  unfold nodeE
  split
  · exact .inr ⟨rfl, .inl rfl⟩
  · split
    · exact .inr ⟨rfl, .inr rfl⟩
    · exact .inl rfl
mutual
theorem ofE_err (l : List Va) : ∀ e : Ex, (ofE l e).2 = 0 ∨ (ofE l e).1 = 0 ∧ ((ofE l e).2 = 3 ∨ (ofE l e).2 = 4)
  | .mk op n ks => by
    simp only [ofE]
    split
    · rename_i c
      rcases ofL_err l ks with h | h
      · exact absurd h c
      · exact .inr ⟨rfl, h⟩
    · exact nodeE_err l op n _
theorem ofL_err (l : List Va) : ∀ ks : List Ex, (ofL l ks).1 = 0 ∨ ((ofL l ks).1 = 3 ∨ (ofL l ks).1 = 4)
  | [] => .inl rfl
  | k :: ks => by
    simp only [ofL]
    split
    · rename_i c
      rcases ofE_err l k with h | h
      · exact absurd h c
      · exact .inr h.2
    · split
      · rename_i c
        rcases ofL_err l ks with h | h
        · exact absurd h c
        · exact .inr h
      · exact .inl rfl
end
/-- Of what is of a sort the kids are each of one. -/
theorem kids_typed {l : List Va} {op n s : Int} {ks : List Ex} (h : Typed l (.mk op n ks) s) : ∃ ss : List Int, ss.length = ks.length ∧ (∀ (i : Nat) (k : Ex), ks[i]? = some k → ∃ t, ss[i]? = some t ∧ Typed l k t) ∧ (op = 15 → ss = [1, s, s]) ∧ (op = 9 → s = 1 ∧ ∃ t, ss = [t, t]) := by
  have two : ∀ {a b : Ex} {x y : Int}, Typed l a x → Typed l b y → ∀ (i : Nat) (k : Ex), [a, b][i]? = some k → ∃ t, [x, y][i]? = some t ∧ Typed l k t := by
    intro a b x y ha hb i k hi
    match i, hi with
    | 0, hi => obtain rfl := Option.some.inj hi; exact ⟨x, rfl, ha⟩
    | 1, hi => obtain rfl := Option.some.inj hi; exact ⟨y, rfl, hb⟩
  cases h with
  | num => exact ⟨[], rfl, fun i k hi => by simp at hi, fun h => by omega, fun h => by omega⟩
  | bool => exact ⟨[], rfl, fun i k hi => by simp at hi, fun h => by omega, fun h => by omega⟩
  | var ho => exact ⟨[], rfl, fun i k hi => by simp at hi, fun h => by omega, fun h => by omega⟩
  | not ha =>
    refine ⟨[1], rfl, fun i k hi => ?_, fun h => by omega, fun h => by omega⟩
    match i, hi with
    | 0, hi => obtain rfl := Option.some.inj hi; exact ⟨1, rfl, ha⟩
  | logic ho ha hb => exact ⟨[1, 1], rfl, two ha hb, fun h => by omega, fun h => by omega⟩
  | @same s' _ _ ha hb => exact ⟨[s', s'], rfl, two ha hb, fun h => by omega, fun _ => ⟨rfl, s', rfl⟩⟩
  | less ho ha hb => exact ⟨[2, 2], rfl, two ha hb, fun h => by omega, fun h => by omega⟩
  | sum ho ha hb => exact ⟨[2, 2], rfl, two ha hb, fun h => by omega, fun h => by omega⟩
  | ite ha hb hc =>
    refine ⟨[1, s, s], rfl, fun i k hi => ?_, fun _ => rfl, fun h => by omega⟩
    match i, hi with
    | 0, hi => obtain rfl := Option.some.inj hi; exact ⟨1, rfl, ha⟩
    | 1, hi => obtain rfl := Option.some.inj hi; exact ⟨s, rfl, hb⟩
    | 2, hi => obtain rfl := Option.some.inj hi; exact ⟨s, rfl, hc⟩
end Go.AM
namespace Go.Proofs.Ytfejbgnbganolaa
open Go.AM
theorem needsE_open {l : List Va} {e : Ex} (h : (sortE l e).2 = 0) (want : Int) : needsE l e want true true true = if (sortE l e).1 = want then 0 else 4 := by
  by_cases c : (sortE l e).1 = want
  · rw [if_pos c]; exact needsE_of h c (fun x _ => nextBad_all _ x) (fun x _ => hidBad_all _ x)
  · rw [if_neg c]; unfold needsE; rw [if_neg (by simpa using h), if_pos c]
theorem soB1 {h : H} {l k : T} {op n s : Int} {ss : List Int} (hl : (sortE (varsOf l) (.mk op n (kidsOf k))).2 = 0) (hs : (sortE (varsOf l) (.mk op n (kidsOf k))).1 = s) (hs12 : s = 1 ∨ s = 2) (hq : (k.len : Int) = kidsN op) (hlen : ss.length = k.len) (h15 : op = 15 → ss = [1, s, s]) (h9 : op = 9 → s = 1 ∧ ∃ t, ss = [t, t])
    (hc : ∀ (i : Nat), i < k.len → ∃ t, ss[i]? = some t ∧ C_sort_Of h l (k.el i 0).int (k.el i 1).int (k.el i 2) = rii t 0)
    (hn : ∀ want, C_sort_Needs h l op n k want true true true = ri (needsE (varsOf l) (.mk op n (kidsOf k)) want true true true)) (hK : C_expr_Kids h op = ri (kidsN op)) (ha : C_parrylaw3_awake h = rb true) :
    ∀ (m i : Nat), i + m = k.len → ∀ N g, m < N → intsR i g = ss.take i → parrylaw3_SortOne.B1 h N i l s k (k.len : Int) (i : Int) op n k g = rb true
  | 0, i, hi, N, g, hN, hg => by
    obtain ⟨N, rfl⟩ : ∃ M, N = M + 1 := ⟨N - 1, by omega⟩
    rw [List.take_of_length_le (by omega)] at hg
    rw [parrylaw3_SortOne.B1_eq]
    have aw : ((C_parrylaw3_awake h).bind fun r => some (lookR [(0, T.b (r 0).bool)])) = rb true := by rw [ha]; rfl
    refine if_not (decide_eq_false (by omega)) (bind_of (hn 2) (bind_of (hn 1) ?_))
    rw [needsE_open hl, needsE_open hl, hs]
    refine if_not ?_ (if_not ?_ (bind_of hK (if_not ?_ ?_)))
    · rcases hs12 with rfl | rfl <;> rfl
    · rcases hs12 with rfl | rfl <;> rfl
    · simp [lookR_0, int_i]; omega
    · by_cases c15 : op = 15
      · have e := h15 c15
        subst c15
        obtain rfl : i = 3 := by rw [e] at hlen; simp at hlen; omega
        rw [e] at hg
        have g0 : (g 0 0).int = 1 := by have := congrArg (fun l : List Int => l[0]?) hg; exact Option.some.inj this
        have g1 : (g 1 0).int = s := by have := congrArg (fun l : List Int => l[1]?) hg; exact Option.some.inj this
        have g2 : (g 2 0).int = s := by have := congrArg (fun l : List Int => l[2]?) hg; exact Option.some.inj this
        refine if_of rfl (if_of (by decide) (if_of (by decide) (if_of (by rw [g0]; rfl) (if_of (by decide) (if_of (by decide) (if_of (by rw [g1]; exact beq_self_eq_true _) (if_of (by decide) (if_of (by decide) (if_of (by rw [g2]; exact beq_self_eq_true _) aw)))))))))
      · refine if_not (by simpa using c15) ?_
        by_cases c9 : op = 9
        · obtain ⟨e1, t, e⟩ := h9 c9
          subst c9
          obtain rfl : i = 2 := by rw [e] at hlen; simp at hlen; omega
          rw [e] at hg
          have g0 : (g 0 0).int = t := by have := congrArg (fun l : List Int => l[0]?) hg; exact Option.some.inj this
          have g1 : (g 1 0).int = t := by have := congrArg (fun l : List Int => l[1]?) hg; exact Option.some.inj this
          exact if_of rfl (if_of (by decide) (if_of (by decide) (if_of (by decide) (if_of (by decide) (if_of (by rw [g0, g1]; exact beq_self_eq_true _) (if_of (by rw [e1]; rfl) aw))))))
        · exact if_not (by simpa using c9) aw
  | m + 1, i, hi, N, g, hN, hg => by
    obtain ⟨N, rfl⟩ : ∃ M, N = M + 1 := ⟨N - 1, by omega⟩
    have h3 := kidsN_le op
    obtain ⟨t, e1, e2⟩ := hc i (by omega)
    have ih := soB1 hl hs hs12 hq hlen h15 h9 hc hn hK ha m (i + 1) (by omega) N (pushG i g t) (by omega) (by
      rw [intsR_pushG, hg, List.take_add_one, e1]; rfl)
    rw [parrylaw3_SortOne.B1_eq, Int.toNat_natCast, wrap_eq (a := (i : Int) + 1) (by omega) (by omega)]
    refine if_of (decide_eq_true (by omega)) (if_of (by simp; omega) (bind_of e2 (if_not rfl (if_of (decide_eq_true (by omega)) ih))))
theorem SortOne_sp (l : T) (a0 a1 : Int) (ak : T) (hw : WT Try.prog 36 l) (ha : WT Try.prog 28 ak) : Ev fun N => C_parrylaw3_SortOne (K N) l a0 a1 ak = rb true := by
  have hl := WT_len hw
  have hk := WT_KW ha
  refine Ev.step (Ev.imp4 (Ev.and (heavyV_sp l hl) (heavyE_sp ak hk)) (Ev.and (refMay_sp l hl) (refMayE_sp ak hk)) (Ev.and (Ev.and (Of_sp l hl ak hk) (Needs_sp l hl ak hk)) (Ev.and Kids_sp awake3_sp)) (Ev.and (Ev.ge 20) (Ev.all (k := ak.len) fun i hi => Of_sp l hl (ak.el i 2) (hk.el hi))) fun N h1 h2 h3 h4 => ?_)
  obtain ⟨⟨y, hy⟩, hz⟩ := h1
  obtain ⟨z, hz⟩ := hz a0 a1
  obtain ⟨hm, hme⟩ := h2
  obtain ⟨⟨ho, hn⟩, hK, haw⟩ := h3
  obtain ⟨hN, hok⟩ := h4
  have aw : ((C_parrylaw3_awake (K N)).bind fun r => some (lookR [(0, T.b (r 0).bool)])) = rb true := by rw [haw]; rfl
  rw [C_parrylaw3_SortOne_K]
  refine bind_of hy (bind_of hz (if_both (fun _ => aw) fun _ => bind_of hm ?_))
  by_cases c1 : mayV (varsOf l) = 0
  · refine if_not (by simp [lookR_0, int_i, c1]) (bind_of (hme a0 a1) ?_)
    by_cases c2 : mayE (.mk a0 a1 (kidsOf ak)) = 0
    · refine if_not (by simp [lookR_0, int_i, c2]) (bind_of (ho a0 a1) ?_)
      have es : sortE (varsOf l) (.mk a0 a1 (kidsOf ak)) = ofE (varsOf l) (.mk a0 a1 (kidsOf ak)) := by unfold sortE; rw [if_neg (by simpa using c1), if_neg (by simpa using c2)]
      by_cases c3 : (sortE (varsOf l) (.mk a0 a1 (kidsOf ak))).2 = 0
      · refine if_not (by simp [lookR_1, int_i, c3]) ?_
        obtain ⟨_, _, hsd, hli, _, ht⟩ := sortE_ok c3
        have hs12 := ht.sort (mayV_sorts c1)
        obtain ⟨ss, k1, k2, k3, k4⟩ := kids_typed ht
        rw [kidsOf_len] at k1
        have hq := (soundE_inv hsd).1
        have go : ∀ M, 10 ≤ M → parrylaw3_SortOne.B0 (K N) M l (sortE (varsOf l) (.mk a0 a1 (kidsOf ak))).1 a0 a1 ak = rb true := by
          intro M hM
          obtain ⟨M, rfl⟩ : ∃ M', M = M' + 1 := ⟨M - 1, by omega⟩
          have h3 := kidsN_le a0
          rw [parrylaw3_SortOne.B0_eq]
          refine soB1 c3 rfl hs12 hq k1 k3 k4 (fun i hi => ?_) (fun want => hn a0 a1 want true true true) (hK a0) haw ak.len 0 (by omega) M (fun _ _ => .b false) (by omega) rfl
          obtain ⟨t, t1, t2⟩ := k2 i _ (kidsOf_get ak hi)
          have hmk : mayE (exAt ak i) = 0 := mayE_kid c2 (List.mem_of_getElem? (kidsOf_get ak hi))
          have := hok i hi (ak.el i 0).int (ak.el i 1).int
          rw [show Ex.mk (ak.el i 0).int (ak.el i 1).int (kidsOf (ak.el i 2)) = exAt ak i from rfl, sort_of c1 hmk t2] at this
          exact ⟨t, t1, this⟩
        have g2 := go N (by omega)
        refine if_both (fun c => if_not ?_ g2) fun _ => g2
        rcases hs12 with h | h
        · rw [lookR_0, int_i, h] at c; cases c
        · rw [lookR_0, int_i, h]; rfl
      · refine if_of (by simpa [lookR_1, int_i] using c3) ?_
        have he := ofE_err (varsOf l) (.mk a0 a1 (kidsOf ak))
        rw [← es] at he
        rcases he with he | ⟨he1, he2⟩
        · exact absurd he c3
        · refine if_of (by simpa [lookR_0, int_i] using he1) ?_
          rcases he2 with he2 | he2
          · exact if_of (by simpa [lookR_1, int_i] using he2) aw
          · exact if_not (by simp [lookR_1, int_i, he2]) (if_of (by simpa [lookR_1, int_i] using he2) aw)
    · exact if_of (by simpa [lookR_0, int_i] using c2) aw
  · exact if_of (by simpa [lookR_0, int_i] using c1) aw
end Go.Proofs.Ytfejbgnbganolaa
