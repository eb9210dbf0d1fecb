/- The law ChoiceAny: a command that sets all to any leads everywhere on its side. -/
import Derived.Test.YtnlkhjileipmcaaGreatLa50
set_option linter.unusedVariables false
set_option linter.unusedSimpArgs false
namespace Go.AM
open Go.Proofs.YtnlkhjileipmcaaGreat
theorem true_yes {l : List Va} {s t : Int} (hs : valuesOk l s = true) (ht : valuesOk l t = true) : trueE l yesE s t = true := by
  have hm := (valuesOk_iff.1 hs).1
  have e1 := sort_of (l := l) (e := yesE) (s := 1) hm (by decide +kernel) (.bool (.inr rfl))
  have e2 : valueE l yesE s t = (1, 0) := by
    unfold valueE
    rw [e1, if_neg (by simp), if_neg (by simp [hs, ht])]
    simp [yesE, valE, nodeV]
  unfold trueE
  rw [e1, e2]
  decide
theorem mayM_seven {m : Md} (h : mayM m = 0) : ¬ (0 < m.prio.length ∧ 0 < m.assume.length + m.ensure.length) := by
  obtain ⟨c1, c2, c3, c5, c6, _⟩ := mayM_zero h
  have c4 := mayM_full h
  unfold mayM at h
  rw [if_neg (by simpa using c1), if_neg (by simpa using c2), if_neg (by simpa using c3), if_neg (by simp [c4]), if_neg (by simpa using c5), if_neg (by simpa using c6)] at h
  intro q
  rw [if_pos q] at h
  exact absurd h (by omega)
theorem mayM_change {l : List Va} {ie is ie' is' : Ex} {te ts te' ts' : List Cm} {A E P : List Ex} (h : mayM ⟨l, ie, is, te, ts, A, E, P⟩ = 0) (h2 : needsE l ie' 1 false false false = 0) (h3 : needsE l is' 1 true false false = 0) (n1 : te'.length ≤ 12) (n2 : ts'.length ≤ 12) (h5 : firstE (mayCmd l true) te' = 0) (h6 : firstE (mayCmd l false) ts' = 0) : mayM ⟨l, ie', is', te', ts', A, E, P⟩ = 0 := by
  obtain ⟨c1, _, _, _, _, c8⟩ := mayM_zero h
  have c4 := mayM_full h
  have c7 := mayM_seven h
  refine mayM_of c1 h2 h3 ?_ h5 h6 c7 c8
  unfold fullM at c4 ⊢
  simp only [Bool.or_eq_false_iff, decide_eq_false_iff_not] at c4 ⊢
  exact ⟨⟨by omega, c4.1.2⟩, c4.2⟩
theorem firstE_one {α : Type} {f : α → Int} {x : α} (h : f x = 0) : firstE f [x] = 0 := firstE_zero.2 fun y hy => by rw [List.mem_singleton.1 hy]; exact h
theorem pick_PA {l : List Va} {x : Int} (hm : mayV l = 0) (h0 : 0 ≤ x) (h1 : x < prodV l) : pickE l x = PA l x := by
  obtain ⟨ht, hp, hP⟩ := total_prod hm
  have okx : valuesOk l x = true := valuesOk_iff.2 ⟨hm, h0, by rw [ht]; exact h1⟩
  have hr := InR_values hp h0
  have hq := InR_mask (env := true) hp hr
  rw [Bool.eq_iff_iff, PA_iff hp h0]
  unfold pickE
  rw [decide_eq_true h0, Bool.true_and, beq_iff_eq, part_of okx]
  constructor
  · intro h
    have := congrArg (valuesFrom l) h
    rw [values_state hp hq] at this
    exact this
  · intro h
    rw [h]; exact state_values hp h0 h1
theorem part_PB {l : List Va} {x P : Int} (hm : mayV l = 0) (hP : valuesOk l P = true) (h0 : 0 ≤ x) (h1 : x < prodV l) : (partE l x true == partE l P true) = PB l P x := by
  obtain ⟨ht, hp, _⟩ := total_prod hm
  have okx : valuesOk l x = true := valuesOk_iff.2 ⟨hm, h0, by rw [ht]; exact h1⟩
  have hq := InR_mask (env := true) hp (InR_values hp h0)
  have hqP := InR_mask (env := true) hp (InR_values hp (valuesOk_iff.1 hP).2.1)
  rw [Bool.eq_iff_iff, PB_iff hp (valuesOk_iff.1 hP).2.1 h0, beq_iff_eq, part_of okx, part_of hP]
  constructor
  · intro h
    have := congrArg (valuesFrom l) h
    rw [values_state hp hq, values_state hp hqP] at this
    exact this
  · intro h
    rw [h]
/-- The states of a pick, and the picks, are as many as all states. -/
theorem picks_count {l : List Va} {P : Int} (hm : mayV l = 0) (hP : valuesOk l P = true) : ((upFrom 0 (prodV l).toNat).filter (pickE l)).length * ((upFrom 0 (prodV l).toNat).filter fun x => partE l x true == partE l P true).length = (prodV l).toNat := by
  obtain ⟨ht, hp, _⟩ := total_prod hm
  have h0 := prodV_pos hp
  rw [List.filter_congr (q := PA l) fun x hx => by
      have := upFrom_mem.1 hx
      exact pick_PA hm this.1 (by omega), List.filter_congr (p := fun x => partE l x true == partE l P true) (q := PB l P) fun x hx => by
      have := upFrom_mem.1 hx
      exact part_PB hm hP this.1 (by omega)]
  exact cnt_two hp
theorem sides_app : ∀ (a : List Va) (v : Va) (i : Int) (b : Bool), sidesFrom (a ++ [v]) i b = sidesFrom a i b ++ (if v.env = b then [⟨i + (a.length : Int), true, .mk 0 0 []⟩] else [])
  | [], v, i, b => by
    simp only [List.nil_append, sidesFrom, List.length_nil]
    split <;> simp
  | u :: a, v, i, b => by
    have ih := sides_app a v (i + 1) b
    simp only [List.cons_append, sidesFrom, List.length_cons]
    rw [ih, show i + ((a.length + 1 : Nat) : Int) = i + 1 + (a.length : Int) by omega]
    split <;> simp
end Go.AM
namespace Go.Proofs.YtnlkhjileipmcaaGreat
open Go.AM
def pushS (n : Nat) (g : Nat → Nat → T) (i : Int) : Nat → Nat → T := fun a c => (bif Nat.blt a n then (g a c) else ((([[(T.i i), (T.b true), (T.i 0), (T.i 0), noT]] : List (List T)).getD (0 + (a - n)) []).getD c (.b false)))
def sideN (l : T) (b : Bool) : Nat → Nat
  | 0 => 0
  | i + 1 => if (l.el i 1).bool = b then sideN l b i + 1 else sideN l b i
def sideG (l : T) (b : Bool) : Nat → Nat → Nat → T
  | 0 => fun _ _ => .b false
  | i + 1 => if (l.el i 1).bool = b then pushS (sideN l b i) (sideG l b i) (i : Int) else sideG l b i
def seG (g : Nat → Nat → T) (a : Nat) : Se := ⟨(g a 0).int, (g a 1).bool, .mk (g a 2).int (g a 3).int (kidsOf (g a 4))⟩
theorem pushS_lt {n : Nat} {g : Nat → Nat → T} {i : Int} {a c : Nat} (h : a < n) : pushS n g i a c = g a c := by
  unfold pushS
  rw [show Nat.blt a n = true by rw [Nat.blt_eq]; exact h]; rfl
theorem pushS_at (n : Nat) (g : Nat → Nat → T) (i : Int) (c : Nat) : pushS n g i n c = ([(T.i i), (T.b true), (T.i 0), (T.i 0), noT] : List T).getD c (.b false) := by
  have hb : Nat.blt n n = false := by
    cases hc : Nat.blt n n with
    | false => rfl
    | true => rw [Nat.blt_eq] at hc; omega
  unfold pushS
  rw [hb, Nat.sub_self]; rfl
theorem sideN_le (l : T) (b : Bool) : ∀ i, sideN l b i ≤ i
  | 0 => Nat.le_refl _
  | i + 1 => by
    have := sideN_le l b i
    unfold sideN
    split <;> omega
theorem side_sets (l : T) (b : Bool) : ∀ i, i ≤ l.len → (List.range (sideN l b i)).map (seG (sideG l b i)) = sidesFrom ((varsOf l).take i) 0 b
  | 0, _ => rfl
  | i + 1, hi => by
    have ih := side_sets l b i (by omega)
    have hi1 : i < (varsOf l).length := by rw [varsOf_len]; omega
    have ev : (varsOf l)[i] = vaAt l i := by
      have := varsOf_get l (i := i) (by omega)
      rw [List.getElem?_eq_getElem hi1] at this
      exact Option.some.inj this
    rw [List.take_succ_eq_append_getElem hi1, sides_app, ← ih, ev, List.length_take, varsOf_len, Nat.min_eq_left (by omega)]
    have eN : sideN l b (i + 1) = if (l.el i 1).bool = b then sideN l b i + 1 else sideN l b i := rfl
    have eG : sideG l b (i + 1) = if (l.el i 1).bool = b then pushS (sideN l b i) (sideG l b i) (i : Int) else sideG l b i := rfl
    rw [eN, eG]
    show _ = _ ++ (if (l.el i 1).bool = b then _ else _)
    by_cases c : (l.el i 1).bool = b
    · rw [if_pos c, if_pos c, if_pos c, List.range_succ, List.map_append]
      congr 1
      · refine List.map_congr_left fun a ha => ?_
        have ha := List.mem_range.1 ha
        unfold seG
        rw [pushS_lt ha, pushS_lt ha, pushS_lt ha, pushS_lt ha, pushS_lt ha]
      · simp only [List.map_cons, List.map_nil]
        unfold seG
        rw [pushS_at, pushS_at, pushS_at, pushS_at, pushS_at, Int.zero_add]
        rfl
    · rw [if_neg c, if_neg c, if_neg c, List.append_nil]
theorem side_KW (l : T) (b : Bool) : ∀ i a, a < sideN l b i → KW (sideG l b i a 4)
  | 0, a, h => absurd h (Nat.not_lt_zero _)
  | i + 1, a, h => by
    unfold sideN at h
    unfold sideG
    by_cases c : (l.el i 1).bool = b
    · rw [if_pos c] at h ⊢
      by_cases d : a < sideN l b i
      · rw [pushS_lt d]; exact side_KW l b i a d
      · obtain rfl : a = sideN l b i := by omega
        rw [pushS_at]; exact KW_noT
    · rw [if_neg c] at h ⊢
      exact side_KW l b i a h
def sideT (l : T) (b : Bool) : T := T.l (sideN l b l.len) (fun i j => sideG l b l.len (0 + i) j)
theorem setsOf_side (l : T) (b : Bool) : setsOf (sideT l b) = sidesFrom (varsOf l) 0 b := by
  have := side_sets l b l.len (Nat.le_refl _)
  rw [List.take_of_length_le (by rw [varsOf_len]; omega)] at this
  rw [← this]
  unfold setsOf
  refine List.map_congr_left fun a _ => ?_
  unfold seAt seG
  show Se.mk (sideG l b l.len (0 + a) 0).int (sideG l b l.len (0 + a) 1).bool (.mk (sideG l b l.len (0 + a) 2).int (sideG l b l.len (0 + a) 3).int (kidsOf (sideG l b l.len (0 + a) 4))) = _
  rw [Nat.zero_add]
theorem KS_side {l : T} (hl : l.len ≤ 6) (b : Bool) : KS (sideT l b) := by
  have := sideN_le l b l.len
  refine ⟨by show sideN l b l.len ≤ _; omega, fun i hi => ?_⟩
  show KW (sideG l b l.len (0 + i) 4)
  rw [Nat.zero_add]
  exact side_KW l b l.len i hi
section
variable {h : H} {l k1 k2 te ts ta tn tp : T} {o1 n1 o2 n2 st v : Int}
theorem caB0 (hl : l.len ≤ 6) {c : Nat} {Q : Option R} (hk : ∀ M, c ≤ M → parrylaw6_ChoiceAny.B0 h M (sideN l true l.len) (sideN l false l.len) st v l (l.len : Int) (l.len : Int) l o1 n1 k1 o2 n2 k2 te ts ta tn tp 2 1 noT (sideG l true l.len) 2 1 noT (sideG l false l.len) = Q) :
    ∀ m i, i + m = l.len → ∀ M, c + 2 * m ≤ M → parrylaw6_ChoiceAny.B0 h M (sideN l true i) (sideN l false i) st v l (l.len : Int) (i : Int) l o1 n1 k1 o2 n2 k2 te ts ta tn tp 2 1 noT (sideG l true i) 2 1 noT (sideG l false i) = Q
  | 0, i, hi, M, hM => by
    obtain rfl : i = l.len := by omega
    exact hk M (by omega)
  | m + 1, i, hi, M, hM => by
    obtain ⟨M, rfl⟩ : ∃ M', M = M' + 1 + 1 := ⟨M - 2, by omega⟩
    have ih := caB0 hl hk m (i + 1) (by omega) M (by omega)
    have hn := sideN_le l true i
    have hn' := sideN_le l false i
    have hlt : i < l.len := by omega
    unfold sideN sideG at ih
    rw [parrylaw6_ChoiceAny.B0_eq, Int.toNat_natCast]
    refine if_of (decide_eq_true (by omega)) (if_of (by simp; omega) ?_)
    cases d : (l.el i 1).bool with
    | true =>
      rw [d, if_pos rfl, if_pos rfl, if_neg (by simp), if_neg (by simp)] at ih
      refine if_of rfl (if_of (decide_eq_true (by omega)) ?_)
      rw [parrylaw6_ChoiceAny.B1_eq, wrap_eq (a := (i : Int) + 1) (by omega) (by omega)]
      exact ih
    | false =>
      rw [d, if_pos rfl, if_pos rfl, if_neg (by simp), if_neg (by simp)] at ih
      refine if_not rfl (if_of (decide_eq_true (by omega)) ?_)
      rw [parrylaw6_ChoiceAny.B1_eq, wrap_eq (a := (i : Int) + 1) (by omega) (by omega)]
      exact ih
theorem caB3 {t : T} {xs : List Int} {g : Nat → Nat → T} (ht : Ints t xs) (hg : ∀ j (hj : j < xs.length), (g j 0).int = xs[j]) (hx : xs.length ≤ 1000) (aw : ((C_parrylaw6_awake h).bind fun r => some (lookR [(0, T.b (r 0).bool)])) = rb true) :
    ∀ m i, i + m = xs.length → ∀ M, m < M → parrylaw6_ChoiceAny.B3 h M xs.length t (t.len : Int) (i : Int) g = rb true
  | 0, i, hi, M, hM => by
    obtain ⟨M, rfl⟩ : ∃ M', M = M' + 1 := ⟨M - 1, by omega⟩
    have := ht.1
    rw [parrylaw6_ChoiceAny.B3_eq]
    exact if_not (decide_eq_false (by omega)) aw
  | m + 1, i, hi, M, hM => by
    obtain ⟨M, rfl⟩ : ∃ M', M = M' + 1 := ⟨M - 1, by omega⟩
    have := ht.1
    have ih := caB3 ht hg hx aw m (i + 1) (by omega) M (by omega)
    rw [parrylaw6_ChoiceAny.B3_eq, Int.toNat_natCast, Nat.zero_add, hg i (by omega), ht.el0 (by omega), wrap_eq (a := (i : Int) + 1) (by omega) (by omega)]
    exact if_of (decide_eq_true (by omega)) (if_of (by simp; omega) (if_of (by simp; omega) (if_of (decide_eq_true (by omega)) (if_not (by simp) ih))))
theorem caB2 {t t' : T} {xs : List Int} {n' : Nat} {g g' : Nat → Nat → T} (ht : Ints t xs) (hg : ∀ j (hj : j < xs.length), (g j 0).int = xs[j]) (hx : xs.length ≤ 1000) {c : Nat} (hk : ∀ M, c ≤ M → parrylaw6_ChoiceAny.B3 h M n' t' (t'.len : Int) 0 g' = rb true) :
    ∀ m i, i + m = xs.length → ∀ M, c + m < M → parrylaw6_ChoiceAny.B2 h M xs.length n' t t' (t.len : Int) (i : Int) g g' = rb true
  | 0, i, hi, M, hM => by
    obtain ⟨M, rfl⟩ : ∃ M', M = M' + 1 := ⟨M - 1, by omega⟩
    have := ht.1
    rw [parrylaw6_ChoiceAny.B2_eq]
    exact if_not (decide_eq_false (by omega)) (hk M (by omega))
  | m + 1, i, hi, M, hM => by
    obtain ⟨M, rfl⟩ : ∃ M', M = M' + 1 := ⟨M - 1, by omega⟩
    have := ht.1
    have ih := caB2 ht hg hx hk m (i + 1) (by omega) M (by omega)
    rw [parrylaw6_ChoiceAny.B2_eq, Int.toNat_natCast, Nat.zero_add, hg i (by omega), ht.el0 (by omega), wrap_eq (a := (i : Int) + 1) (by omega) (by omega)]
    exact if_of (decide_eq_true (by omega)) (if_of (by simp; omega) (if_of (by simp; omega) (if_of (decide_eq_true (by omega)) (if_not (by simp) ih))))
end
theorem ChoiceAny_sp (l : T) (o1 n1 : Int) (k1 : T) (o2 n2 : Int) (k2 te ts ta tn tp : T) (st v : Int) (wl : WT Tryz.prog 22 l) (w1 : WT Tryz.prog 23 k1) (w2 : WT Tryz.prog 23 k2) (we : WT Tryz.prog 26 te) (ws : WT Tryz.prog 26 ts) (wa : WT Tryz.prog 23 ta) (wn : WT Tryz.prog 23 tn) (wp : WT Tryz.prog 23 tp) :
    Ev fun N => C_parrylaw6_ChoiceAny (K N) l o1 n1 k1 o2 n2 k2 te ts ta tn tp st v = rb true := by
  have hl := WT_len wl
  have h1 := WT_KW w1
  have h2 := WT_KW w2
  have he := WT_KC we
  have hs := WT_KC ws
  have ha := WT_KW wa
  have hn := WT_KW wn
  have hp := WT_KW wp
  have base := Ev.imp4 (heavy6_sp l k1 k2 te ts ta tn tp hl h1 h2 he hs ha hn hp) (refMayM_sp l hl k1 k2 te ts ta tn tp h1 h2 he hs ha hn hp) (Total_sp l hl) awake6_sp fun N a b c d => (⟨a, b, c, d⟩ : _ ∧ _ ∧ _ ∧ _)
  by_cases good : mayM ⟨varsOf l, .mk o1 n1 (kidsOf k1), .mk o2 n2 (kidsOf k2), cmdsOf te, cmdsOf ts, kidsOf ta, kidsOf tn, kidsOf tp⟩ = 0 ∧ prodV (varsOf l) ≤ 24
  case neg =>
    refine Ev.step (base.imp fun N hb => ?_)
    obtain ⟨hh, hr, htot, haw⟩ := hb
    obtain ⟨y, hy, hy2⟩ := hh o1 n1 o2 n2
    have aw : ((C_parrylaw6_awake (K N)).bind fun r => some (lookR [(0, T.b (r 0).bool)])) = rb true := by rw [haw]; rfl
    rw [C_parrylaw6_ChoiceAny_K]
    refine bind_of hy (if_both (fun _ => aw) fun c0 => bind_of (hr o1 n1 o2 n2) (if_both (fun _ => aw) fun c1 => ?_))
    exfalso
    have c0 : ¬ 0 < y := of_decide_eq_false c0
    have c1 : mayM ⟨varsOf l, .mk o1 n1 (kidsOf k1), .mk o2 n2 (kidsOf k2), cmdsOf te, cmdsOf ts, kidsOf ta, kidsOf tn, kidsOf tp⟩ = 0 := by simpa [lookR_0, int_i] using c1
    exact good ⟨c1, hy2 c0 (mayM_zero c1).1⟩
  obtain ⟨c1, hP⟩ := good
  have cm := (mayM_zero c1).1
  simp only at cm
  obtain ⟨hto, hpos, hP5⟩ := total_prod cm
  have hpp := prodV_pos hpos
  have h6 := totalE_len (mayV_total cm)
  rw [varsOf_len] at h6
  obtain ⟨S, hS⟩ : ∃ S, S = IntKind.wrap .i64 (Int.tmod (IntKind.wrap .u64 st) (IntKind.wrap .u64 (totalE (varsOf l)))) := ⟨_, rfl⟩
  obtain ⟨P, hPq⟩ : ∃ P, P = IntKind.wrap .i64 (Int.tmod (IntKind.wrap .u64 v) (IntKind.wrap .u64 (totalE (varsOf l)))) := ⟨_, rfl⟩
  have sr := mod_range st (n := totalE (varsOf l)) (by omega) (by omega)
  have pr := mod_range v (n := totalE (varsOf l)) (by omega) (by omega)
  rw [← hS] at sr
  rw [← hPq] at pr
  have okS : valuesOk (varsOf l) S = true := valuesOk_iff.2 ⟨cm, sr⟩
  have okP : valuesOk (varsOf l) P = true := valuesOk_iff.2 ⟨cm, pr⟩
  obtain ⟨pk, pk2⟩ := part_pick okP
  have hPr := part_range (env := true) cm okS
  have hkS : 0 ≤ partE (varsOf l) S true ∧ partE (varsOf l) S true < prodV (varsOf l) := by rw [← hto]; exact hPr
  have hkM := mixed_range cm okS pk2
  have hT : KC (oneC 2 1 noT (sideT l true)) := KC_one rfl KW_noT (KS_side (by omega) true)
  have hF : KC (oneC 2 1 noT (sideT l false)) := KC_one rfl KW_noT (KS_side (by omega) false)
  have cT : cmdsOf (oneC 2 1 noT (sideT l true)) = [⟨yesE, sidesFrom (varsOf l) 0 true⟩] := by rw [cmdsOf_one, setsOf_side]; rfl
  have cF : cmdsOf (oneC 2 1 noT (sideT l false)) = [⟨yesE, sidesFrom (varsOf l) 0 false⟩] := by rw [cmdsOf_one, setsOf_side]; rfl
  have y := fun a b c => needs_yes cm a b c
  obtain ⟨_, n2', n3', _⟩ := mayM_zero c1
  simp only at n2' n3'
  have mm : ∀ ie is, needsE (varsOf l) ie 1 false false false = 0 → needsE (varsOf l) is 1 true false false = 0 → mayM ⟨varsOf l, ie, is, [⟨yesE, sidesFrom (varsOf l) 0 true⟩], [⟨yesE, sidesFrom (varsOf l) 0 false⟩], kidsOf ta, kidsOf tn, kidsOf tp⟩ = 0 := fun ie is a b =>
    mayM_change c1 a b (by simp) (by simp) (firstE_one (mayCmd_sides cm true)) (firstE_one (mayCmd_sides cm false))
  have mA := cEnv_sp l k1 k2 (oneC 2 1 noT (sideT l true)) (oneC 2 1 noT (sideT l false)) ta tn tp hl h1 h2 hT hF ha hn hp (fun _ => hP) o1 n1 o2 n2
  have mB := cSys_sp l k1 k2 (oneC 2 1 noT (sideT l true)) (oneC 2 1 noT (sideT l false)) ta tn tp hl h1 h2 hT hF ha hn hp (fun _ => hP) o1 n1 o2 n2
  have mX := InitEnv_sp l noT noT (oneC 2 1 noT (sideT l true)) (oneC 2 1 noT (sideT l false)) ta tn tp hl KW_noT KW_noT hT hF ha hn hp
  have mY := InitSys_sp l noT noT (oneC 2 1 noT (sideT l true)) (oneC 2 1 noT (sideT l false)) ta tn tp hl KW_noT KW_noT hT hF ha hn hp
  rw [cT, cF] at mA mB mX mY
  have LA : envE ⟨varsOf l, .mk o1 n1 (kidsOf k1), .mk o2 n2 (kidsOf k2), [⟨yesE, sidesFrom (varsOf l) 0 true⟩], [⟨yesE, sidesFrom (varsOf l) 0 false⟩], kidsOf ta, kidsOf tn, kidsOf tp⟩ S = (upFrom 0 (prodV (varsOf l)).toNat).filter (pickE (varsOf l)) := by
    unfold envE
    rw [if_neg (by rw [mm _ _ n2' n3']; decide), if_neg (by show ¬ partE (varsOf l) S true < 0; omega)]
    exact all_eq hpos hkS (true_yes okS okS) fun x a b => pick_iff cm okS a b
  have LB : sysE ⟨varsOf l, .mk o1 n1 (kidsOf k1), .mk o2 n2 (kidsOf k2), [⟨yesE, sidesFrom (varsOf l) 0 true⟩], [⟨yesE, sidesFrom (varsOf l) 0 false⟩], kidsOf ta, kidsOf tn, kidsOf tp⟩ S (partE (varsOf l) P true) = (upFrom 0 (prodV (varsOf l)).toNat).filter fun x => partE (varsOf l) x true == partE (varsOf l) P true := by
    unfold sysE
    rw [if_neg (by rw [mm _ _ n2' n3']; decide), if_neg (by show ¬ partE (varsOf l) S true < 0; omega), if_neg (by show ¬ pickE (varsOf l) (partE (varsOf l) P true) = false; rw [pk]; simp)]
    exact all_eq hpos hkM (true_yes okS pk2) fun x a b => of_pick_iff cm okS okP a b
  have inr : ∀ x ∈ upFrom 0 (prodV (varsOf l)).toNat, valuesOk (varsOf l) x = true := fun x hx => by
    have := upFrom_mem.1 hx
    exact valuesOk_iff.2 ⟨cm, this.1, by rw [hto]; omega⟩
  have LX : initEnvE ⟨varsOf l, yesE, yesE, [⟨yesE, sidesFrom (varsOf l) 0 true⟩], [⟨yesE, sidesFrom (varsOf l) 0 false⟩], kidsOf ta, kidsOf tn, kidsOf tp⟩ = (upFrom 0 (prodV (varsOf l)).toNat).filter (pickE (varsOf l)) := by
    unfold initEnvE
    rw [if_neg (by rw [mm _ _ (y _ _ _) (y _ _ _)]; decide)]
    simp only [hto]
    exact List.filter_congr fun x hx => by rw [true_yes (inr x hx) (inr x hx), Bool.and_true]
  have LY : initSysE ⟨varsOf l, yesE, yesE, [⟨yesE, sidesFrom (varsOf l) 0 true⟩], [⟨yesE, sidesFrom (varsOf l) 0 false⟩], kidsOf ta, kidsOf tn, kidsOf tp⟩ (partE (varsOf l) P true) = (upFrom 0 (prodV (varsOf l)).toNat).filter fun x => partE (varsOf l) x true == partE (varsOf l) P true := by
    unfold initSysE
    rw [if_neg (by rw [mm _ _ (y _ _ _) (y _ _ _)]; decide), if_neg (by show ¬ pickE (varsOf l) (partE (varsOf l) P true) = false; rw [pk]; simp)]
    simp only [hto]
    exact List.filter_congr fun x hx => by rw [true_yes (inr x hx) (inr x hx), Bool.and_true]
  have cnt := picks_count cm okP
  obtain ⟨XA, hXA⟩ : ∃ X, X = (upFrom 0 (prodV (varsOf l)).toNat).filter (pickE (varsOf l)) := ⟨_, rfl⟩
  obtain ⟨XB, hXB⟩ : ∃ X, X = (upFrom 0 (prodV (varsOf l)).toNat).filter fun x => partE (varsOf l) x true == partE (varsOf l) P true := ⟨_, rfl⟩
  have lenA : XA.length ≤ 24 := by
    rw [hXA]
    refine Nat.le_trans (List.length_filter_le _ _) ?_
    rw [upFrom_len]; omega
  have lenB : XB.length ≤ 24 := by
    rw [hXB]
    refine Nat.le_trans (List.length_filter_le _ _) ?_
    rw [upFrom_len]; omega
  rw [← hXA] at LA LX cnt
  rw [← hXB] at LB LY cnt
  refine Ev.step (Ev.imp4 base (Ev.and mA mB) (Ev.and mX (Ev.and mY (Part_sp l hl))) (Ev.ge 200) fun N hb hAB hXY hN => ?_)
  obtain ⟨hh, hr, htot, haw⟩ := hb
  obtain ⟨hA, hB⟩ := hAB
  obtain ⟨hX, hY, hPart⟩ := hXY
  obtain ⟨yy, hy, hy2⟩ := hh o1 n1 o2 n2
  have aw : ((C_parrylaw6_awake (K N)).bind fun r => some (lookR [(0, T.b (r 0).bool)])) = rb true := by rw [haw]; rfl
  have hA := hA S
  have hB := hB S (partE (varsOf l) P true)
  have hX := hX 2 1 2 1
  have hY := hY 2 1 2 1 (partE (varsOf l) P true)
  rw [LA] at hA
  rw [LB] at hB
  have hX : Gives XA (C_choice_InitEnv (K N) l 2 1 noT 2 1 noT (oneC 2 1 noT (sideT l true)) (oneC 2 1 noT (sideT l false)) ta tn tp) := by rw [← LX]; exact hX
  have hY : Gives XB (C_choice_InitSys (K N) l 2 1 noT 2 1 noT (oneC 2 1 noT (sideT l true)) (oneC 2 1 noT (sideT l false)) ta tn tp (partE (varsOf l) P true)) := by rw [← LY]; exact hY
  obtain ⟨tA, eA, iA⟩ := hA
  obtain ⟨tB, eB, iB⟩ := hB
  obtain ⟨tX, eX, iX⟩ := hX
  obtain ⟨tY, eY, iY⟩ := hY
  obtain ⟨N, rfl⟩ : ∃ M, N = M + 1 := ⟨N - 1, by omega⟩
  have yes : C_parrylaw6_yes (K (N + 1)) = some (lookR [(0, .i 2), (1, .i 1), (2, noT)]) := by rw [C_parrylaw6_yes_K]
  have hu : (!(IntKind.wrap .u64 ((lookR [(0, T.i (totalE (varsOf l)))] 0).int) == 0)) = true := by
    rw [lookR_0, int_i, wrapu_eq (by omega) (by omega)]; simp; omega
  rw [C_parrylaw6_ChoiceAny_K]
  refine bind_of hy (if_both (fun _ => aw) fun c0 => bind_of (hr o1 n1 o2 n2) (if_not (by simp [lookR_0, int_i, c1]) (bind_of htot (if_both (fun _ => aw) fun _ => bind_of yes (bind_of yes ?_)))))
  refine caB0 (by omega) (c := 100) (fun M hM => ?_) l.len 0 (by omega) (N + 1) (by omega)
  obtain ⟨M, rfl⟩ : ∃ M', M = M' + 1 := ⟨M - 1, by omega⟩
  rw [parrylaw6_ChoiceAny.B0_eq]
  refine if_not (decide_eq_false (by omega)) (bind_of htot (if_of hu (if_of hu ?_)))
  rw [lookR_0, int_i, ← hS, ← hPq]
  refine bind_of (hPart P true) ?_
  rw [lookR_0, int_i]
  refine bind_of eA (bind_of eB (if_not ?_ (bind_of yes (bind_of yes (bind_of eX (bind_of eY (if_not ?_ (if_not ?_ ?_))))))))
  · show (IntKind.wrap .i64 ((tA.len : Int) * (tB.len : Int)) != totalE (varsOf l)) = false
    have e : (tA.len : Int) * (tB.len : Int) = totalE (varsOf l) := by
      rw [iA.1, iB.1, hto, ← Int.natCast_mul, cnt]; omega
    rw [e, wrap_eq (by omega) (by omega)]
    simp
  · show ((tX.len : Int) != (tA.len : Int)) = false
    rw [iX.1, iA.1]; simp
  · show ((tY.len : Int) != (tB.len : Int)) = false
    rw [iY.1, iB.1]; simp
  · show parrylaw6_ChoiceAny.B2 (K (N + 1)) M tX.len tY.len tA tB (tA.len : Int) 0 (fun i j => tX.el i j) (fun i j => tY.el i j) = rb true
    rw [iX.1, iY.1]
    exact caB2 iA (fun j hj => iX.el0 hj) (by omega) (c := 50) (fun M hM => caB3 iB (fun j hj => iY.el0 hj) (by omega) aw XB.length 0 (by omega) M (by omega)) XA.length 0 (by omega) M (by omega)
end Go.Proofs.YtnlkhjileipmcaaGreat
