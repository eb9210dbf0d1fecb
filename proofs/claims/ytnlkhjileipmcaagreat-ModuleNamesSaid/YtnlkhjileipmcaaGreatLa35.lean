/- The document's own answers: MayCommand, MayModule. -/
import Derived.Test.YtnlkhjileipmcaaGreatLa33
set_option linter.unusedVariables false
set_option linter.unusedSimpArgs false
namespace Go.AM
theorem firstE_c0 {α : Type} {f : α → Int} {x : α} {r : List α} (h : f x = 0) : firstE f (x :: r) = firstE f r := if_neg (by simpa using h)
theorem firstE_c1 {α : Type} {f : α → Int} {x : α} {r : List α} (h : f x ≠ 0) : firstE f (x :: r) = f x := if_pos h
theorem firstE_app {α : Type} {f : α → Int} : ∀ {l r : List α}, firstE f (l ++ r) = if firstE f l ≠ 0 then firstE f l else firstE f r
  | [], r => by simp [firstE]
  | x :: l, r => by
    by_cases c : f x = 0
    · have e : ∀ q, firstE f (x :: q) = firstE f q := fun q => if_neg (by simpa using c)
      rw [List.cons_append, e, e]; exact firstE_app
    · have e : ∀ q, firstE f (x :: q) = f x := fun q => if_pos c
      rw [List.cons_append, e, e, if_pos c]
end Go.AM
namespace Go.Proofs.YtnlkhjileipmcaaGreat
open Go.AM
theorem rzero_sp (N : Nat) (o n : Int) (k : T) : C_parryref1_zero (K (N + 1)) o n k = rb (bareE (.mk o n (kidsOf k))) := by
  rw [C_parryref1_zero_K]
  simp only [bareE, kidsOf_len]
  by_cases c1 : o = 0
  · refine if_of (by simpa using c1) ?_
    by_cases c2 : n = 0
    · refine if_of (by simpa using c2) ?_
      have : (((k.len : Nat) : Int) == 0) = (decide (o = 0) && decide (n = 0) && decide (k.len = 0)) := by rw [Bool.eq_iff_iff]; simp [c1, c2]
      rw [this]; rfl
    · refine if_not (by simpa using c2) ?_
      rw [decide_eq_false c2, Bool.and_false, Bool.false_and]; rfl
  · refine if_not (by simpa using c1) ?_
    rw [decide_eq_false c1, Bool.false_and, Bool.false_and]; rfl
section
variable {h : H} {l t : T} {env : Bool}
theorem refMC0 (hl : l.len ≤ 6) (ht : t.len ≤ 6) {i : Nat} (hi : i < t.len) {was : List Int} (h0 : 0 ≤ (t.el i 0).int) (h1 : (t.el i 0).int < (l.len : Int)) (he : (l.el (t.el i 0).int.toNat 1).bool = env) (M : Nat) :
    parryref1_MayCommand.B0 h (M + 1) l env t (t.len : Int) (i : Int) (decide ((0 : Int) ∈ was)) (decide ((1 : Int) ∈ was)) (decide ((2 : Int) ∈ was)) (decide ((3 : Int) ∈ was)) (decide ((4 : Int) ∈ was)) (decide ((5 : Int) ∈ was)) =
    bif decide ((t.el i 0).int ∈ was) then ri 3 else parryref1_MayCommand.B1 h M l env t (t.len : Int) (i : Int) (decide ((0 : Int) ∈ was)) (decide ((1 : Int) ∈ was)) (decide ((2 : Int) ∈ was)) (decide ((3 : Int) ∈ was)) (decide ((4 : Int) ∈ was)) (decide ((5 : Int) ∈ was)) (t.el i 0).int (t.el i 1).bool (t.el i 2).int (t.el i 3).int (t.el i 4) := by
  rw [parryref1_MayCommand.B0_eq, Int.toNat_natCast]
  refine if_of (decide_eq_true (by omega)) (if_of (by simp; omega) (if_not (decide_eq_false (by omega)) (if_not (decide_eq_false (by omega)) (if_of (by simp; omega) (if_not (by rw [he]; simp) ?_)))))
  have hv : (t.el i 0).int = 0 ∨ (t.el i 0).int = 1 ∨ (t.el i 0).int = 2 ∨ (t.el i 0).int = 3 ∨ (t.el i 0).int = 4 ∨ (t.el i 0).int = 5 := by omega
  rcases hv with hv | hv | hv | hv | hv | hv
  all_goals
    rw [hv]
    repeat refine if_not (by decide) ?_
    refine if_of (by decide) ?_
    rfl
theorem refMC1 (hl : l.len ≤ 6) (ht : t.len ≤ 6) {i : Nat} (hi : i < t.len) {was : List Int} (h0 : 0 ≤ (t.el i 0).int) (h1 : (t.el i 0).int < (l.len : Int))
    (hn : ∀ op m want now env sys, C_parryref1_Needs h l op m (t.el i 4) want now env sys = ri (needsE (varsOf l) (.mk op m (kidsOf (t.el i 4))) want now env sys)) (hz : ∀ o n, C_parryref1_zero h o n (t.el i 4) = rb (bareE (.mk o n (kidsOf (t.el i 4))))) {Q : Option R} {M : Nat}
    (next : parryref1_MayCommand.B0 h M l env t (t.len : Int) ((i + 1 : Nat) : Int) (decide ((0 : Int) ∈ was ++ [(t.el i 0).int])) (decide ((1 : Int) ∈ was ++ [(t.el i 0).int])) (decide ((2 : Int) ∈ was ++ [(t.el i 0).int])) (decide ((3 : Int) ∈ was ++ [(t.el i 0).int])) (decide ((4 : Int) ∈ was ++ [(t.el i 0).int])) (decide ((5 : Int) ∈ was ++ [(t.el i 0).int])) = Q) :
    parryref1_MayCommand.B1 h (M + 1 + 1) l env t (t.len : Int) (i : Int) (decide ((0 : Int) ∈ was)) (decide ((1 : Int) ∈ was)) (decide ((2 : Int) ∈ was)) (decide ((3 : Int) ∈ was)) (decide ((4 : Int) ∈ was)) (decide ((5 : Int) ∈ was)) (t.el i 0).int (t.el i 1).bool (t.el i 2).int (t.el i 3).int (t.el i 4) =
    if (t.el i 1).bool = true ∧ bareE (.mk (t.el i 2).int (t.el i 3).int (kidsOf (t.el i 4))) = false then ri 1 else if (t.el i 1).bool = true then Q else
      if needsE (varsOf l) (.mk (t.el i 2).int (t.el i 3).int (kidsOf (t.el i 4))) (l.el (t.el i 0).int.toNat 2).int true (!env) false ≠ 0 then ri (needsE (varsOf l) (.mk (t.el i 2).int (t.el i 3).int (kidsOf (t.el i 4))) (l.el (t.el i 0).int.toNat 2).int true (!env) false) else Q := by
  have hv : (t.el i 0).int = 0 ∨ (t.el i 0).int = 1 ∨ (t.el i 0).int = 2 ∨ (t.el i 0).int = 3 ∨ (t.el i 0).int = 4 ∨ (t.el i 0).int = 5 := by omega
  have core : ∀ {x : Option R}, x = Q → (bif (t.el i 1).bool then (C_parryref1_zero h (t.el i 2).int (t.el i 3).int (t.el i 4)).bind fun r => (bif (!((r 0).bool)) then some (lookR [(0, (T.i 1))]) else x) else (bif decide ((0 : Int) ≤ (t.el i 0).int) && decide ((t.el i 0).int < ((l.len : Nat) : Int)) then (C_parryref1_Needs h l (t.el i 2).int (t.el i 3).int (t.el i 4) ((l.el (t.el i 0).int.toNat 2).int) true (!env) false).bind fun r => (bif (((r 0).int) != (0 : Int)) then some (lookR [(0, (T.i ((r 0).int)))]) else x) else none)) =
      if (t.el i 1).bool = true ∧ bareE (.mk (t.el i 2).int (t.el i 3).int (kidsOf (t.el i 4))) = false then ri 1 else if (t.el i 1).bool = true then Q else
      if needsE (varsOf l) (.mk (t.el i 2).int (t.el i 3).int (kidsOf (t.el i 4))) (l.el (t.el i 0).int.toNat 2).int true (!env) false ≠ 0 then ri (needsE (varsOf l) (.mk (t.el i 2).int (t.el i 3).int (kidsOf (t.el i 4))) (l.el (t.el i 0).int.toNat 2).int true (!env) false) else Q := by
    intro x hx
    cases c : (t.el i 1).bool with
    | true =>
      refine if_of rfl (bind_of (hz _ _) ?_)
      cases d : bareE (.mk (t.el i 2).int (t.el i 3).int (kidsOf (t.el i 4))) with
      | true => rw [if_neg (by simp), if_pos rfl]; exact if_not rfl hx
      | false => rw [if_pos (by simp)]; exact if_of rfl rfl
    | false =>
      refine if_not rfl (if_of (by simp; omega) (bind_of (hn _ _ _ _ _ _) ?_))
      rw [if_neg (by simp), if_neg (by simp)]
      by_cases d : needsE (varsOf l) (.mk (t.el i 2).int (t.el i 3).int (kidsOf (t.el i 4))) (l.el (t.el i 0).int.toNat 2).int true (!env) false = 0
      · rw [if_neg (by simpa using d)]
        exact if_not (by simp [lookR_0, int_i, d]) hx
      · rw [if_pos d]
        exact if_of (by simp [lookR_0, int_i, d]) rfl
  rw [parryref1_MayCommand.B1_eq]
  rcases hv with hv | hv | hv | hv | hv | hv
  all_goals
    rw [hv] at core next ⊢
    repeat refine if_not (by decide) ?_
    refine if_of (by decide) ?_
    refine core ?_
    rw [parryref1_MayCommand.B2_eq, wrap_eq (a := (i : Int) + 1) (by omega) (by omega)]
    rw [← next]
    simp
theorem refMC (hl : l.len ≤ 6) (ht : t.len ≤ 6) (hn : ∀ i, i < t.len → ∀ op m want now env sys, C_parryref1_Needs h l op m (t.el i 4) want now env sys = ri (needsE (varsOf l) (.mk op m (kidsOf (t.el i 4))) want now env sys)) (hz : ∀ o n k, C_parryref1_zero h o n k = rb (bareE (.mk o n (kidsOf k)))) :
    ∀ m i, i + m = t.len → ∀ was N, 3 * m + 1 ≤ N → parryref1_MayCommand.B0 h N l env t (t.len : Int) (i : Int) (decide ((0 : Int) ∈ was)) (decide ((1 : Int) ∈ was)) (decide ((2 : Int) ∈ was)) (decide ((3 : Int) ∈ was)) (decide ((4 : Int) ∈ was)) (decide ((5 : Int) ∈ was)) = ri (setsGo (varsOf l) env ((setsOf t).drop i) was)
  | 0, i, hi, was, N, hN => by
    obtain ⟨N, rfl⟩ : ∃ M, N = M + 1 := ⟨N - 1, by omega⟩
    rw [parryref1_MayCommand.B0_eq, List.drop_of_length_le (by rw [setsOf_len]; omega)]
    exact if_not (decide_eq_false (by omega)) rfl
  | m + 1, i, hi, was, N, hN => by
    obtain ⟨N, rfl⟩ : ∃ M, N = M + 1 + 1 + 1 := ⟨N - 3, by omega⟩
    have hlt : i < t.len := by omega
    have ih := refMC hl ht hn hz m (i + 1) (by omega) (was ++ [(t.el i 0).int]) N (by omega)
    rw [setsOf_from t hlt]
    simp only [setsGo]
    by_cases c1 : (t.el i 0).int < 0
    · have e : setE (varsOf l) env was (seAt t i) = 3 := by unfold setE; rw [if_pos (.inl c1)]
      rw [e, if_pos (by omega), parryref1_MayCommand.B0_eq, Int.toNat_natCast]
      exact if_of (decide_eq_true (by omega)) (if_of (by simp; omega) (if_of (decide_eq_true c1) rfl))
    by_cases c2 : (l.len : Int) ≤ (t.el i 0).int
    · have e : setE (varsOf l) env was (seAt t i) = 3 := by unfold setE; rw [if_pos (.inr (.inl (by rw [varsOf_len]; exact c2)))]
      rw [e, if_pos (by omega), parryref1_MayCommand.B0_eq, Int.toNat_natCast]
      exact if_of (decide_eq_true (by omega)) (if_of (by simp; omega) (if_not (decide_eq_false c1) (if_of (decide_eq_true (by omega)) rfl)))
    have ee := envAt_of (l := l) (v := (t.el i 0).int) (by omega) (by omega)
    by_cases c3 : (l.el (t.el i 0).int.toNat 1).bool = env
    case neg =>
      have e : setE (varsOf l) env was (seAt t i) = 3 := by unfold setE; rw [if_pos (.inr (.inr (.inl (by show envAt _ (t.el i 0).int ≠ _; rw [ee]; exact c3))))]
      rw [e, if_pos (by omega), parryref1_MayCommand.B0_eq, Int.toNat_natCast]
      exact if_of (decide_eq_true (by omega)) (if_of (by simp; omega) (if_not (decide_eq_false c1) (if_not (decide_eq_false (by omega)) (if_of (by simp; omega) (if_of (by simpa using c3) rfl)))))
    rw [refMC0 hl ht hlt (by omega) (by omega) c3]
    by_cases c4 : (t.el i 0).int ∈ was
    · have e : setE (varsOf l) env was (seAt t i) = 3 := by unfold setE; rw [if_pos (.inr (.inr (.inr c4)))]
      rw [e, if_pos (by omega)]
      exact if_of (decide_eq_true c4) rfl
    refine if_not (decide_eq_false c4) ?_
    have so : sortAt (varsOf l) (t.el i 0).int = (l.el (t.el i 0).int.toNat 2).int := by
      unfold sortAt
      rw [varsOf_get l (by omega)]; rfl
    have e : setE (varsOf l) env was (seAt t i) = if (t.el i 1).bool = true ∧ bareE (.mk (t.el i 2).int (t.el i 3).int (kidsOf (t.el i 4))) = false then 1 else if (t.el i 1).bool = true then 0 else needsE (varsOf l) (.mk (t.el i 2).int (t.el i 3).int (kidsOf (t.el i 4))) (l.el (t.el i 0).int.toNat 2).int true (!env) false := by
      rw [← so]
      unfold setE
      rw [if_neg]
      · rfl
      · rw [varsOf_len]
        rintro (q | q | q | q)
        · exact c1 q
        · exact c2 q
        · exact q (by show envAt _ (t.el i 0).int = _; rw [ee]; exact c3)
        · exact c4 q
    rw [refMC1 hl ht hlt (by omega) (by omega) (hn i hlt) (fun o n => hz o n _) ih, e]
    split
    · rw [if_pos (by omega)]
    · split
      · rw [if_neg (by simp)]; rfl
      · split
        · rfl
        · rfl
end
theorem refMayCmd_sp (l : T) (hl : l.len ≤ 9223372036854775807) (k t : T) (hk : KW k) (ht : KS t) : Ev fun N => ∀ o n env, C_parryref1_MayCommand (K N) l o n k t env = ri (mayCmd (varsOf l) env ⟨.mk o n (kidsOf k), setsOf t⟩) := by
  refine Ev.step (Ev.imp4 (refMay_sp l hl) (refNeeds_sp l hl k hk) (Ev.all (k := t.len) fun i hi => refNeeds_sp l hl (t.el i 4) (ht.2 i hi)) (Ev.ge 100) fun N h1 h2 h3 hN o n env => ?_)
  rw [C_parryref1_MayCommand_K]
  unfold mayCmd
  simp only [setsOf_len]
  refine bind_of h1 ?_
  by_cases c1 : mayV (varsOf l) = 0
  case neg => rw [if_pos c1]; exact if_of (by simpa [lookR_0, int_i] using c1) rfl
  rw [if_neg (by simpa using c1)]
  refine if_not (by simp [lookR_0, int_i, c1]) (bind_of (h2 o n 1 true (!env) false) ?_)
  by_cases c2 : needsE (varsOf l) (.mk o n (kidsOf k)) 1 true (!env) false = 0
  case neg => rw [if_pos c2]; exact if_of (by simpa [lookR_0, int_i] using c2) rfl
  rw [if_neg (by simpa using c2)]
  refine if_not (by simp [lookR_0, int_i, c2]) ?_
  have h6 := totalE_len (mayV_total c1)
  rw [varsOf_len] at h6
  by_cases c3 : 6 < (t.len : Int)
  · rw [if_pos c3]
    exact if_of (decide_eq_true c3) rfl
  · rw [if_neg c3]
    refine if_not (decide_eq_false c3) ?_
    obtain ⟨N, rfl⟩ : ∃ M, N = M + 1 := ⟨N - 1, by omega⟩
    exact refMC (h := K (N + 1)) (env := env) h6 (by omega) h3 (fun o n k => rzero_sp N o n k) t.len 0 (by omega) [] (N + 1) (by omega)
section
variable {h : H} {l k1 k2 te ts ta tn tp : T} {o1 n1 o2 n2 : Int}
theorem rmX {t : T} (ht : t.len ≤ 100) (hn : ∀ i, i < t.len → ∀ op m want now env sys, C_parryref1_Needs h l op m (t.el i 2) want now env sys = ri (needsE (varsOf l) (.mk op m (kidsOf (t.el i 2))) want now env sys)) {q : Int} (hq : q ≤ 2) {c : Nat} {x : Int} (hk : ∀ M, c ≤ M → parryref1_MayModule.B3 h M l ta tn tp (IntKind.wrap .i64 (q + 1)) = ri x) :
    ∀ m i, i + m = t.len → ∀ M, c + m + 1 ≤ M → parryref1_MayModule.B4 h M l ta tn tp q t (t.len : Int) (i : Int) = ri (if firstE (fun e => needsE (varsOf l) e 1 true false false) ((kidsOf t).drop i) ≠ 0 then firstE (fun e => needsE (varsOf l) e 1 true false false) ((kidsOf t).drop i) else x)
  | 0, i, hi, M, hM => by
    obtain ⟨M, rfl⟩ : ∃ M', M = M' + 1 := ⟨M - 1, by omega⟩
    rw [parryref1_MayModule.B4_eq, List.drop_of_length_le (by rw [kidsOf_len]; omega)]
    exact if_not (decide_eq_false (by omega)) (by rw [hk M (by omega)]; rfl)
  | m + 1, i, hi, M, hM => by
    obtain ⟨M, rfl⟩ : ∃ M', M = M' + 1 := ⟨M - 1, by omega⟩
    have hlt : i < t.len := by omega
    have ih := rmX ht hn hq hk m (i + 1) (by omega) M (by omega)
    rw [parryref1_MayModule.B4_eq, kidsOf_from t i hlt, Int.toNat_natCast, wrap_eq (a := (i : Int) + 1) (by omega) (by omega)]
    refine if_of (decide_eq_true (by omega)) (if_of (by simp; omega) (bind_of (hn i hlt _ _ 1 true false false) ?_))
    by_cases d : needsE (varsOf l) (exAt t i) 1 true false false = 0
    · rw [firstE_c0 (f := fun e => needsE (varsOf l) e 1 true false false) d]
      exact if_not (by simp only [lookR_0, int_i]; show (needsE (varsOf l) (exAt t i) 1 true false false != 0) = false; rw [d]; rfl) ih
    · rw [firstE_c1 (f := fun e => needsE (varsOf l) e 1 true false false) d, if_pos d]
      exact if_of (by simp only [lookR_0, int_i]; show (needsE (varsOf l) (exAt t i) 1 true false false != 0) = true; simpa using d) rfl
theorem rmC {t : T} {env : Bool} (ht : t.len ≤ 100) (hn : ∀ i, i < t.len → ∀ o n env, C_parryref1_MayCommand h l o n (t.el i 2) (t.el i 3) env = ri (mayCmd (varsOf l) env ⟨.mk o n (kidsOf (t.el i 2)), setsOf (t.el i 3)⟩)) {B : Nat → Int → Option R} {E : Nat → Option R} {c : Nat} {x : Int}
    (hB : ∀ M i, B (M + 1) i = (bif decide (i < (t.len : Int)) then (bif decide ((0 : Int) ≤ i) && decide (i < ((t.len : Nat) : Int)) then (C_parryref1_MayCommand h l ((t.el i.toNat 0).int) ((t.el i.toNat 1).int) (t.el i.toNat 2) (t.el i.toNat 3) env).bind fun r => (bif (((r 0).int) != (0 : Int)) then some (lookR [(0, (T.i ((r 0).int)))]) else B M (IntKind.wrap .i64 (i + (1 : Int)))) else none) else E M))
    (hk : ∀ M, c ≤ M → E M = ri x) :
    ∀ m i, i + m = t.len → ∀ M, c + m + 1 ≤ M → B M (i : Int) = ri (if firstE (mayCmd (varsOf l) env) ((cmdsOf t).drop i) ≠ 0 then firstE (mayCmd (varsOf l) env) ((cmdsOf t).drop i) else x)
  | 0, i, hi, M, hM => by
    obtain ⟨M, rfl⟩ : ∃ M', M = M' + 1 := ⟨M - 1, by omega⟩
    rw [hB, List.drop_of_length_le (by rw [cmdsOf_len]; omega)]
    exact if_not (decide_eq_false (by omega)) (by rw [hk M (by omega)]; rfl)
  | m + 1, i, hi, M, hM => by
    obtain ⟨M, rfl⟩ : ∃ M', M = M' + 1 := ⟨M - 1, by omega⟩
    have hlt : i < t.len := by omega
    have ih := rmC ht hn hB hk m (i + 1) (by omega) M (by omega)
    rw [hB, cmdsOf_from t hlt, Int.toNat_natCast, wrap_eq (a := (i : Int) + 1) (by omega) (by omega)]
    refine if_of (decide_eq_true (by omega)) (if_of (by simp; omega) (bind_of (hn i hlt _ _ env) ?_))
    by_cases d : mayCmd (varsOf l) env (cmAt t i) = 0
    · rw [firstE_c0 d]
      exact if_not (by simp only [lookR_0, int_i]; show (mayCmd (varsOf l) env (cmAt t i) != 0) = false; rw [d]; rfl) ih
    · rw [firstE_c1 d, if_pos d]
      exact if_of (by simp only [lookR_0, int_i]; show (mayCmd (varsOf l) env (cmAt t i) != 0) = true; simpa using d) rfl
end
theorem refMayM_sp (l : T) (hl : l.len ≤ 9223372036854775807) (k1 k2 te ts ta tn tp : T) (h1 : KW k1) (h2 : KW k2) (he : KC te) (hs : KC ts) (ha : KW ta) (hn : KW tn) (hp : KW tp) :
    Ev fun N => ∀ o1 n1 o2 n2, C_parryref1_MayModule (K N) l o1 n1 k1 o2 n2 k2 te ts ta tn tp = ri (mayM ⟨varsOf l, .mk o1 n1 (kidsOf k1), .mk o2 n2 (kidsOf k2), cmdsOf te, cmdsOf ts, kidsOf ta, kidsOf tn, kidsOf tp⟩) := by
  have base := Ev.imp4 (refMay_sp l hl) (Ev.and (refNeeds_sp l hl k1 h1) (refNeeds_sp l hl k2 h2)) (Ev.and (Ev.all (k := te.len) fun i hi => refMayCmd_sp l hl _ _ (he.2 i hi).1 (he.2 i hi).2) (Ev.all (k := ts.len) fun i hi => refMayCmd_sp l hl _ _ (hs.2 i hi).1 (hs.2 i hi).2)) (Ev.and (Ev.all (k := ta.len) fun i hi => refNeeds_sp l hl (ta.el i 2) (ha.el hi)) (Ev.and (Ev.all (k := tn.len) fun i hi => refNeeds_sp l hl (tn.el i 2) (hn.el hi)) (Ev.all (k := tp.len) fun i hi => refNeeds_sp l hl (tp.el i 2) (hp.el hi)))) fun N a b c d => (⟨a, b, c, d⟩ : _ ∧ _ ∧ _ ∧ _)
  refine Ev.step ((base.and (Ev.ge 1000)).imp fun N hb o1 n1 o2 n2 => ?_)
  obtain ⟨⟨b1, ⟨b2, b3⟩, ⟨b4, b5⟩, b6, b7, b8⟩, hN⟩ := hb
  rw [C_parryref1_MayModule_K]
  unfold mayM
  simp only
  refine bind_of b1 ?_
  by_cases c1 : mayV (varsOf l) = 0
  case neg => rw [if_pos c1]; exact if_of (by simpa [lookR_0, int_i] using c1) rfl
  rw [if_neg (by simpa using c1)]
  refine if_not (by simp [lookR_0, int_i, c1]) (bind_of (b2 o1 n1 1 false false false) ?_)
  by_cases c2 : needsE (varsOf l) (.mk o1 n1 (kidsOf k1)) 1 false false false = 0
  case neg => rw [if_pos c2]; exact if_of (by simpa [lookR_0, int_i] using c2) rfl
  rw [if_neg (by simpa using c2)]
  refine if_not (by simp [lookR_0, int_i, c2]) (bind_of (b3 o2 n2 1 true false false) ?_)
  by_cases c3 : needsE (varsOf l) (.mk o2 n2 (kidsOf k2)) 1 true false false = 0
  case neg => rw [if_pos c3]; exact if_of (by simpa [lookR_0, int_i] using c3) rfl
  rw [if_neg (by simpa using c3)]
  refine if_not (by simp [lookR_0, int_i, c3]) ?_
  have hf : (fullM ⟨varsOf l, .mk o1 n1 (kidsOf k1), .mk o2 n2 (kidsOf k2), cmdsOf te, cmdsOf ts, kidsOf ta, kidsOf tn, kidsOf tp⟩ = true) ↔ (12 < te.len ∨ 12 < ts.len ∨ 4 < ta.len ∨ 4 < tn.len ∨ 6 < tp.len) := by
    unfold fullM
    simp only [cmdsOf_len, kidsOf_len]
    rw [Bool.or_eq_true, Bool.or_eq_true, decide_eq_true_eq, decide_eq_true_eq, decide_eq_true_eq]
    omega
  by_cases c4 : 12 < te.len ∨ 12 < ts.len ∨ 4 < ta.len ∨ 4 < tn.len ∨ 6 < tp.len
  · rw [if_pos (hf.2 c4)]
    refine if_both (fun _ => rfl) fun d1 => if_both (fun _ => rfl) fun d2 => if_both (fun _ => rfl) fun d3 => if_both (fun _ => rfl) fun d4 => if_of (decide_eq_true ?_) rfl
    have d1 := of_decide_eq_false d1
    have d2 := of_decide_eq_false d2
    have d3 := of_decide_eq_false d3
    have d4 := of_decide_eq_false d4
    omega
  rw [if_neg fun q => c4 (hf.1 q)]
  refine if_not (decide_eq_false (by omega)) (if_not (decide_eq_false (by omega)) (if_not (decide_eq_false (by omega)) (if_not (decide_eq_false (by omega)) (if_not (decide_eq_false (by omega)) ?_))))
  have e3 : ∀ M, 1 ≤ M → parryref1_MayModule.B3 (K N) M l ta tn tp (IntKind.wrap .i64 (2 + 1)) = ri 0 := by
    intro M hM
    obtain ⟨M, rfl⟩ : ∃ M', M = M' + 1 := ⟨M - 1, by omega⟩
    rw [parryref1_MayModule.B3_eq]
    exact if_not (by decide) rfl
  have e2 : ∀ M, 20 ≤ M → parryref1_MayModule.B3 (K N) M l ta tn tp (IntKind.wrap .i64 (1 + 1)) = ri (firstE (fun e => needsE (varsOf l) e 1 true false false) (kidsOf tp)) := by
    intro M hM
    obtain ⟨M, rfl⟩ : ∃ M', M = M' + 1 := ⟨M - 1, by omega⟩
    rw [parryref1_MayModule.B3_eq]
    refine if_of (by decide) (if_not (by decide) (if_not (by decide) (if_of (by decide) ?_)))
    have := rmX (h := K N) (ta := ta) (tn := tn) (tp := tp) (t := tp) (by omega) b8 (q := 2) (by omega) e3 tp.len 0 (by omega) M (by omega)
    rw [List.drop_zero] at this
    refine this.trans (congrArg ri ?_)
    split <;> simp_all
  have e1 : ∀ M, 40 ≤ M → parryref1_MayModule.B3 (K N) M l ta tn tp (IntKind.wrap .i64 (0 + 1)) = ri (firstE (fun e => needsE (varsOf l) e 1 true false false) (kidsOf tn ++ kidsOf tp)) := by
    intro M hM
    obtain ⟨M, rfl⟩ : ∃ M', M = M' + 1 := ⟨M - 1, by omega⟩
    rw [parryref1_MayModule.B3_eq]
    refine if_of (by decide) (if_not (by decide) (if_of (by decide) ?_))
    have := rmX (h := K N) (ta := ta) (tn := tn) (tp := tp) (t := tn) (by omega) b7 (q := 1) (by omega) e2 tn.len 0 (by omega) M (by omega)
    rw [List.drop_zero] at this
    exact this.trans (congrArg ri firstE_app.symm)
  have e0 : ∀ M, 60 ≤ M → parryref1_MayModule.B3 (K N) M l ta tn tp 0 = ri (firstE (fun e => needsE (varsOf l) e 1 true false false) (kidsOf ta ++ kidsOf tn ++ kidsOf tp)) := by
    intro M hM
    obtain ⟨M, rfl⟩ : ∃ M', M = M' + 1 := ⟨M - 1, by omega⟩
    rw [parryref1_MayModule.B3_eq]
    refine if_of (by decide) (if_of (by decide) ?_)
    have := rmX (h := K N) (ta := ta) (tn := tn) (tp := tp) (t := ta) (by omega) b6 (q := 0) (by omega) e1 ta.len 0 (by omega) M (by omega)
    rw [List.drop_zero] at this
    refine this.trans (congrArg ri ?_)
    rw [List.append_assoc]
    exact firstE_app.symm
  have tail : ∀ M, 70 ≤ M → (bif decide (((tp.len : Nat) : Int) > (0 : Int)) then (bif decide ((IntKind.wrap .i64 (((ta.len : Nat) : Int) + ((tn.len : Nat) : Int))) > (0 : Int)) then some (lookR [(0, (T.i 1))]) else parryref1_MayModule.B2 (K N) M l l o1 n1 k1 o2 n2 k2 te ts ta tn tp) else parryref1_MayModule.B2 (K N) M l l o1 n1 k1 o2 n2 k2 te ts ta tn tp) = ri (if 0 < (kidsOf tp).length ∧ 0 < (kidsOf ta).length + (kidsOf tn).length then 1 else firstE (fun e => needsE (varsOf l) e 1 true false false) (kidsOf ta ++ kidsOf tn ++ kidsOf tp)) := by
    intro M hM
    obtain ⟨M, rfl⟩ : ∃ M', M = M' + 1 := ⟨M - 1, by omega⟩
    rw [parryref1_MayModule.B2_eq, wrap_eq (by omega) (by omega), kidsOf_len, kidsOf_len, kidsOf_len]
    by_cases d1 : 0 < tp.len
    · refine if_of (decide_eq_true (by omega)) ?_
      by_cases d2 : 0 < ta.len + tn.len
      · rw [if_pos ⟨d1, d2⟩]
        exact if_of (decide_eq_true (by omega)) rfl
      · rw [if_neg (fun q => d2 q.2)]
        exact if_not (decide_eq_false (by omega)) (e0 M (by omega))
    · rw [if_neg (fun q => d1 q.1)]
      exact if_not (decide_eq_false (by omega)) (e0 M (by omega))
  have sys : ∀ M, 70 + ts.len + 1 ≤ M → parryref1_MayModule.B1 (K N) M l ts (ts.len : Int) (0 : Int) l o1 n1 k1 o2 n2 k2 te ts ta tn tp = _ :=
    rmC (h := K N) (t := ts) (env := false) (by omega) b5 (B := fun M i => parryref1_MayModule.B1 (K N) M l ts (ts.len : Int) i l o1 n1 k1 o2 n2 k2 te ts ta tn tp) (fun M i => parryref1_MayModule.B1_eq (K N) M l ts (ts.len : Int) i l o1 n1 k1 o2 n2 k2 te ts ta tn tp) tail ts.len 0 (by omega)
  have envs : parryref1_MayModule.B0 (K N) N l te (te.len : Int) (0 : Int) l o1 n1 k1 o2 n2 k2 te ts ta tn tp = _ :=
    rmC (h := K N) (t := te) (env := true) (by omega) b4 (B := fun M i => parryref1_MayModule.B0 (K N) M l te (te.len : Int) i l o1 n1 k1 o2 n2 k2 te ts ta tn tp) (E := fun M => parryref1_MayModule.B1 (K N) M l ts (ts.len : Int) (0 : Int) l o1 n1 k1 o2 n2 k2 te ts ta tn tp) (fun M i => parryref1_MayModule.B0_eq (K N) M l te (te.len : Int) i l o1 n1 k1 o2 n2 k2 te ts ta tn tp) sys te.len 0 (by omega) N (by omega)
  rw [List.drop_zero, List.drop_zero] at envs
  exact envs
end Go.Proofs.YtnlkhjileipmcaaGreat

/- Renaming a variable, in plain words: what may be may be after it. -/
set_option linter.unusedVariables false
set_option linter.unusedSimpArgs false
namespace Go.AM
open Go.Proofs.YtnlkhjileipmcaaGreat
def stripV (v : Va) : Bool × Int × Int × Int := (v.env, v.sort, v.lo, v.hi)
theorem strip_len {l l' : List Va} (h : l.map stripV = l'.map stripV) : l.length = l'.length := by simpa using congrArg List.length h
theorem strip_get {l l' : List Va} (h : l.map stripV = l'.map stripV) (i : Nat) : (l[i]?).map stripV = (l'[i]?).map stripV := by
  have := congrArg (fun x => x[i]?) h
  simpa using this
theorem strip_of {l l' : List Va} (h : l.map stripV = l'.map stripV) {α : Type} {f : Va → α} (g : Bool × Int × Int × Int → α) (hf : ∀ v, f v = g (stripV v)) (i : Nat) : (l[i]?).map f = (l'[i]?).map f := by
  have e : f = g ∘ stripV := funext hf
  rw [e, ← Option.map_map, ← Option.map_map, strip_get h i]
theorem strip_size {v w : Va} (h : stripV v = stripV w) : sizeV v = sizeV w ∧ sortedV v = sortedV w := by
  cases v; cases w
  simp only [stripV, Prod.mk.injEq] at h
  obtain ⟨rfl, rfl, rfl, rfl⟩ := h
  exact ⟨rfl, rfl⟩
theorem strip_total : ∀ {l l' : List Va}, l.map stripV = l'.map stripV → ∀ n, totalFrom l n = totalFrom l' n
  | [], [], _, n => rfl
  | [], _ :: _, h, n => by simp at h
  | _ :: _, [], h, n => by simp at h
  | v :: l, w :: l', h, n => by
    simp only [List.map_cons, List.cons.injEq] at h
    obtain ⟨h1, h2⟩ := strip_size h.1
    simp only [totalFrom, h1, h2, strip_total h.2]
theorem strip_totalE {l l' : List Va} (h : l.map stripV = l'.map stripV) : totalE l = totalE l' := by
  unfold totalE
  rw [strip_len h, strip_total h]
theorem strip_env {l l' : List Va} (h : l.map stripV = l'.map stripV) (v : Int) : envAt l v = envAt l' v := by
  unfold envAt
  rw [strip_of h (f := Va.env) (fun p => p.1) (fun _ => rfl)]
theorem strip_sort {l l' : List Va} (h : l.map stripV = l'.map stripV) (v : Int) : ((l[v.toNat]?).map Va.sort).getD 0 = ((l'[v.toNat]?).map Va.sort).getD 0 := by
  rw [strip_of h (f := Va.sort) (fun p => p.2.1) (fun _ => rfl)]
theorem strip_node {l l' : List Va} (h : l.map stripV = l'.map stripV) (op n : Int) (ss : List Int) : nodeE l op n ss = nodeE l' op n ss := by
  unfold nodeE toldE
  rw [strip_len h, strip_sort h]
mutual
theorem strip_of1 {l l' : List Va} (h : l.map stripV = l'.map stripV) : ∀ e : Ex, ofE l e = ofE l' e
  | .mk op n ks => by simp only [ofE, strip_ofL h ks, strip_node h]
theorem strip_ofL {l l' : List Va} (h : l.map stripV = l'.map stripV) : ∀ ks : List Ex, ofL l ks = ofL l' ks
  | [] => rfl
  | k :: ks => by simp only [ofL, strip_of1 h k, strip_ofL h ks]
end
section
variable {l l' : List Va} (h : l.map stripV = l'.map stripV) (m : mayV l = 0) (m' : mayV l' = 0)
include h m m'
theorem strip_needs (e : Ex) (want : Int) (now env sys : Bool) : needsE l e want now env sys = needsE l' e want now env sys := by
  have e1 : sortE l e = sortE l' e := by unfold sortE; rw [m, m', strip_of1 h]
  have e2 : nextBad l env sys = nextBad l' env sys := by funext v; unfold nextBad; rw [strip_env h]
  have e3 : hidBad l now = hidBad l' now := by funext v; unfold hidBad; rw [strip_env h]
  unfold needsE
  rw [e1, e2, e3]
theorem strip_set (env : Bool) (was : List Int) (s : Se) : setE l env was s = setE l' env was s := by
  unfold setE sortAt
  rw [strip_len h, strip_env h, strip_sort h, strip_needs h m m']
theorem strip_sets (env : Bool) : ∀ (ss : List Se) (was : List Int), setsGo l env ss was = setsGo l' env ss was
  | [], _ => rfl
  | s :: r, was => by simp only [setsGo, strip_set h m m', strip_sets env r]
theorem strip_cmd (env : Bool) : mayCmd l env = mayCmd l' env := by
  funext c
  unfold mayCmd
  rw [m, m', strip_needs h m m', strip_sets h m m']
theorem strip_may (ie is : Ex) (te ts : List Cm) (ta tn tp : List Ex) : mayM ⟨l, ie, is, te, ts, ta, tn, tp⟩ = mayM ⟨l', ie, is, te, ts, ta, tn, tp⟩ := by
  have e : (fun e => needsE l e 1 true false false) = fun e => needsE l' e 1 true false false := by funext e; exact strip_needs h m m' ..
  unfold mayM
  simp only
  rw [m, m', strip_needs h m m', strip_needs h m m', strip_cmd h m m', strip_cmd h m m', e]
  rfl
end
/-! Which variables may be -/
theorem mayFrom_go {all : List Va} : ∀ (a : List Va) (b : List Va) (i : Int), (∀ j (hj : j < a.length), nameE a[j].name = true ∧ ¬ findE all a[j].name < i + (j : Int) ∧ sortedV a[j] = 0) → mayFrom all (a ++ b) i = mayFrom all b (i + a.length)
  | [], b, i, h => by simp
  | v :: a, b, i, h => by
    obtain ⟨h1, h2, h3⟩ := h 0 (by simp)
    simp only [List.getElem_cons_zero, Int.natCast_zero, Int.add_zero] at h1 h2 h3
    simp only [List.cons_append, mayFrom]
    rw [if_neg (by simp [h1]), if_neg h2, if_neg (by simpa using h3), mayFrom_go a b (i + 1) (fun j hj => ?_)]
    · congr 1
      simp only [List.length_cons]
      omega
    · have := h (j + 1) (by simpa using hj)
      simp only [List.getElem_cons_succ] at this
      refine ⟨this.1, ?_, this.2.2⟩
      have h4 := this.2.1
      rw [show i + ((j + 1 : Nat) : Int) = i + 1 + (j : Int) by omega] at h4
      exact h4
theorem mayFrom_ok {all : List Va} : ∀ (a : List Va) (i : Int), mayFrom all a i = 0 → ∀ j (hj : j < a.length), nameE a[j].name = true ∧ ¬ findE all a[j].name < i + (j : Int) ∧ sortedV a[j] = 0
  | [], i, h, j, hj => absurd hj (Nat.not_lt_zero _)
  | v :: a, i, h, j, hj => by
    simp only [mayFrom] at h
    by_cases c1 : nameE v.name = false
    · rw [if_pos c1] at h; exact absurd h (by omega)
    rw [if_neg c1] at h
    by_cases c2 : findE all v.name < i
    · rw [if_pos c2] at h; exact absurd h (by omega)
    rw [if_neg c2] at h
    by_cases c3 : sortedV v = 0
    case neg => rw [if_pos c3] at h; exact absurd h c3
    rw [if_neg (by simpa using c3)] at h
    cases j with
    | zero => exact ⟨by simpa using c1, by simpa using c2, c3⟩
    | succ j =>
      obtain ⟨h1, h2, h3⟩ := mayFrom_ok a (i + 1) h j (by simpa using hj)
      refine ⟨h1, ?_, h3⟩
      rw [show i + ((j + 1 : Nat) : Int) = i + 1 + (j : Int) by omega]
      exact h2
theorem find_at (a : List Va) (v : Va) (r : List Va) : findE (a ++ v :: r) v.name < (a.length : Int) ↔ ∃ w ∈ a, strEq w.name v.name = true := by
  have := findFrom_app a v r v.name 0 (strEq_self _)
  rw [Int.zero_add] at this
  unfold findE
  rw [this, List.any_eq_true]
theorem find_in {l : List Va} {j : Nat} (hj : j < l.length) (r : List Va) : findE (l ++ r) l[j].name < (j : Int) ↔ ∃ m, ∃ _ : m < l.length, m < j ∧ strEq l[m].name l[j].name = true := by
  have e : l ++ r = l.take j ++ l[j] :: (l.drop (j + 1) ++ r) := by
    rw [← List.cons_append, ← List.drop_eq_getElem_cons hj, ← List.append_assoc, List.take_append_drop]
  have := find_at (l.take j) l[j] (l.drop (j + 1) ++ r)
  rw [← e, List.length_take, Nat.min_eq_left (by omega)] at this
  rw [this]
  constructor
  · rintro ⟨w, hw, hs⟩
    obtain ⟨m, hm, rfl⟩ := List.getElem_of_mem hw
    rw [List.length_take] at hm
    rw [List.getElem_take] at hs
    exact ⟨m, by omega, by omega, hs⟩
  · rintro ⟨m, hm, hmj, hs⟩
    exact ⟨l[m], List.mem_of_getElem? (i := m) (by rw [List.getElem?_take_of_lt hmj, List.getElem?_eq_getElem hm]), hs⟩
theorem mayV_iff {l : List Va} : mayV l = 0 ↔ (∀ j (hj : j < l.length), nameE l[j].name = true ∧ (∀ m (hm : m < l.length), m < j → strEq l[m].name l[j].name = false) ∧ sortedV l[j] = 0) ∧ totalE l ≠ 0 := by
  constructor
  · intro h
    refine ⟨fun j hj => ?_, mayV_total h⟩
    obtain ⟨h1, h2, h3⟩ := mayFrom_ok l 0 h j hj
    refine ⟨h1, fun m hm hmj => ?_, h3⟩
    rw [Int.zero_add] at h2
    have := fun q => h2 (by have := (find_in hj []).2 q; rwa [List.append_nil] at this)
    cases c : strEq l[m].name l[j].name with
    | false => rfl
    | true => exact absurd ⟨m, hm, hmj, c⟩ this
  · rintro ⟨h, ht⟩
    unfold mayV
    have := mayFrom_go (all := l) l [] 0 fun j hj => ?_
    · rw [List.append_nil] at this
      rw [this]
      simp only [mayFrom]
      rw [if_neg ht]
    · obtain ⟨h1, h2, h3⟩ := h j hj
      refine ⟨h1, ?_, h3⟩
      rw [Int.zero_add]
      intro q
      obtain ⟨m, hm, hmj, c⟩ := (find_in hj []).1 (by rwa [List.append_nil])
      rw [h2 m hm hmj] at c
      cases c
/-- A variable twice. -/
theorem mayV_twice {l : List Va} (h : mayV l = 0) {q : Nat} (hq : q < l.length) : mayV (l ++ [l[q]]) = 3 := by
  obtain ⟨h1, _⟩ := mayV_iff.1 h
  unfold mayV
  rw [mayFrom_go (all := l ++ [l[q]]) l [l[q]] 0 fun j hj => ?_]
  · simp only [mayFrom]
    rw [if_neg (by simp [(h1 q hq).1]), Int.zero_add, if_pos ((find_at l l[q] []).2 ⟨l[q], List.getElem_mem hq, strEq_self _⟩)]
  · obtain ⟨a, b, c⟩ := h1 j hj
    refine ⟨a, ?_, c⟩
    rw [Int.zero_add]
    intro d
    obtain ⟨m, hm, hmj, e⟩ := (find_in hj [l[q]]).1 d
    rw [b m hm hmj] at e
    cases e
/-- A variable of another name. -/
def renV (v : Va) (s : ByteArray) : Va := ⟨s, v.env, v.sort, v.lo, v.hi⟩
theorem strip_set' {l : List Va} {q : Nat} (hq : q < l.length) (s : ByteArray) : l.map stripV = (l.set q (renV l[q] s)).map stripV := by
  rw [List.map_set]
  have : stripV (renV l[q] s) = (l.map stripV)[q]'(by simpa using hq) := by simp [stripV, renV]
  rw [this, List.set_getElem_self]
theorem mayV_ren {l : List Va} (h : mayV l = 0) {q : Nat} (hq : q < l.length) {s : ByteArray} (hs : nameE s = true) (fresh : ∀ m (hm : m < l.length), m ≠ q → strEq l[m].name s = false) : mayV (l.set q (renV l[q] s)) = 0 := by
  obtain ⟨h1, h2⟩ := mayV_iff.1 h
  refine mayV_iff.2 ⟨fun j hj => ?_, by rw [← strip_totalE (strip_set' hq s)]; exact h2⟩
  rw [List.length_set] at hj
  obtain ⟨a, b, c⟩ := h1 j hj
  simp only [List.length_set]
  by_cases d : q = j
  · subst d
    simp only [List.getElem_set_self]
    refine ⟨hs, fun m hm hmj => ?_, c⟩
    rw [List.getElem_set_ne (by omega)]
    exact fresh m hm (by omega)
  · simp only [List.getElem_set_ne d]
    refine ⟨a, fun m hm hmj => ?_, c⟩
    by_cases e : q = m
    · subst e
      simp only [List.getElem_set_self]
      rw [strEq_comm]
      exact fresh j hj (by omega)
    · rw [List.getElem_set_ne e]
      exact b m hm hmj
/-! The same -/
theorem needs_light {l : List Va} {e : Ex} {want : Int} {now env sys : Bool} (h : needsE l e want now env sys = 0) : sameX e e = true := by
  have e1 : (sortE l e).2 = 0 := by
    unfold needsE at h
    by_cases c : (sortE l e).2 = 0
    · exact c
    · rw [if_pos c] at h; exact h
  have e2 : mayE e = 0 := by
    unfold sortE at e1
    by_cases c : mayV l = 0
    · rw [if_neg (by simpa using c)] at e1
      by_cases d : mayE e = 0
      · exact d
      · rw [if_pos d] at e1; exact e1
    · rw [if_pos c] at e1; exact absurd e1 c
  have e3 : lightE e = true := by
    unfold mayE at e2
    cases c : lightE e with
    | true => rfl
    | false => rw [c] at e2; simp at e2
  unfold sameX
  rw [e3, sameE_self]
  rfl
theorem eqL_self {α : Type} {p : α → α → Bool} : ∀ {l : List α}, (∀ x ∈ l, p x x = true) → eqL p l l = true
  | [], _ => rfl
  | x :: l, h => by
    simp only [eqL]
    rw [h x (List.mem_cons_self ..), eqL_self fun y hy => h y (List.mem_cons_of_mem _ hy)]
    rfl
theorem sets_same {l : List Va} {env : Bool} : ∀ {ss : List Se} {was : List Int}, setsGo l env ss was = 0 → ∀ s ∈ ss, sameS s s = true
  | [], _, _, s, hs => absurd hs (List.not_mem_nil)
  | s :: r, was, h, x, hx => by
    simp only [setsGo] at h
    by_cases c : setE l env was s = 0
    case neg => rw [if_pos c] at h; exact absurd h c
    rw [if_neg (by simpa using c)] at h
    rcases List.mem_cons.1 hx with rfl | hx
    · unfold sameS
      rw [decide_eq_true rfl, beq_self_eq_true]
      unfold setE at c
      split at c
      · exact absurd c (by omega)
      · split at c
        · exact absurd c (by omega)
        · rename_i d1 d2
          split at c
          · rename_i d3
            have : bareE x.e = true := by
              cases d : bareE x.e with
              | true => rfl
              | false => exact absurd ⟨d3, d⟩ d2
            rw [this]; rfl
          · rw [needs_light c]
            simp
    · exact sets_same h x hx
theorem cmd_same {l : List Va} {env : Bool} {c : Cm} (h : mayCmd l env c = 0) : sameC c c = true := by
  obtain ⟨h1, h2, h3, h4⟩ := mayCmd_zero h
  unfold sameC
  rw [needs_light h2, eqL_self (sets_same h4)]
  rfl
theorem sameV_self (v : Va) : sameV v v = true := by
  unfold sameV
  simp [strEq_self]
theorem mayM_zero {m : Md} (h : mayM m = 0) : mayV m.vars = 0 ∧ needsE m.vars m.ie 1 false false false = 0 ∧ needsE m.vars m.is 1 true false false = 0 ∧ firstE (mayCmd m.vars true) m.env = 0 ∧ firstE (mayCmd m.vars false) m.sys = 0 ∧ firstE (fun e => needsE m.vars e 1 true false false) (m.assume ++ m.ensure ++ m.prio) = 0 := by
  unfold mayM at h
  by_cases c1 : mayV m.vars = 0
  case neg => rw [if_pos c1] at h; exact absurd h c1
  rw [if_neg (by simpa using c1)] at h
  by_cases c2 : needsE m.vars m.ie 1 false false false = 0
  case neg => rw [if_pos c2] at h; exact absurd h c2
  rw [if_neg (by simpa using c2)] at h
  by_cases c3 : needsE m.vars m.is 1 true false false = 0
  case neg => rw [if_pos c3] at h; exact absurd h c3
  rw [if_neg (by simpa using c3)] at h
  by_cases c4 : fullM m = true
  · rw [if_pos c4] at h; exact absurd h (by omega)
  rw [if_neg c4] at h
  by_cases c5 : firstE (mayCmd m.vars true) m.env = 0
  case neg => rw [if_pos c5] at h; exact absurd h c5
  rw [if_neg (by simpa using c5)] at h
  by_cases c6 : firstE (mayCmd m.vars false) m.sys = 0
  case neg => rw [if_pos c6] at h; exact absurd h c6
  rw [if_neg (by simpa using c6)] at h
  by_cases c7 : 0 < m.prio.length ∧ 0 < m.assume.length + m.ensure.length
  · rw [if_pos c7] at h; exact absurd h (by omega)
  rw [if_neg c7] at h
  exact ⟨c1, c2, c3, c5, c6, h⟩
/-- But for the variables it is the same as itself. -/
theorem sameM_vars {l l' : List Va} {ie is : Ex} {te ts : List Cm} {ta tn tp : List Ex} (h : mayM ⟨l, ie, is, te, ts, ta, tn, tp⟩ = 0) : sameM ⟨l, ie, is, te, ts, ta, tn, tp⟩ ⟨l', ie, is, te, ts, ta, tn, tp⟩ = eqL sameV l l' := by
  obtain ⟨h1, h2, h3, h4, h5, h6⟩ := mayM_zero h
  unfold sameM
  simp only at h1 h2 h3 h4 h5 h6 ⊢
  have h4 := firstE_zero.1 h4
  have h5 := firstE_zero.1 h5
  have h6 := firstE_zero.1 h6
  rw [needs_light h2, needs_light h3, eqL_self fun c hc => cmd_same (h4 c hc), eqL_self fun c hc => cmd_same (h5 c hc), eqL_self fun e he => needs_light (h6 e (by simp [he])), eqL_self fun e he => needs_light (h6 e (by simp [he])), eqL_self fun e he => needs_light (h6 e (by simp [he]))]
  simp
theorem eqL_at {α : Type} {p : α → α → Bool} : ∀ {l r : List α} {i : Nat} {a b : α}, l[i]? = some a → r[i]? = some b → p a b = false → eqL p l r = false
  | [], _, i, a, b, h, _, _ => by simp at h
  | _ :: _, [], i, a, b, _, h, _ => by simp at h
  | x :: l, y :: r, 0, a, b, h1, h2, h3 => by
    simp only [List.getElem?_cons_zero, Option.some.injEq] at h1 h2
    subst h1; subst h2
    simp only [eqL]; rw [h3]; rfl
  | x :: l, y :: r, i + 1, a, b, h1, h2, h3 => by
    simp only [List.getElem?_cons_succ] at h1 h2
    simp only [eqL]; rw [eqL_at h1 h2 h3, Bool.and_false]
theorem eqL_all {α : Type} {p : α → α → Bool} : ∀ {l r : List α}, l.length = r.length → (∀ i (h1 : i < l.length) (h2 : i < r.length), p l[i] r[i] = true) → eqL p l r = true
  | [], [], _, _ => rfl
  | [], _ :: _, h, _ => by simp at h
  | _ :: _, [], h, _ => by simp at h
  | x :: l, y :: r, h, k => by
    simp only [eqL]
    have k0 := k 0 (by simp) (by simp)
    simp only [List.getElem_cons_zero] at k0
    rw [k0, eqL_all (by simpa using h) fun i h1 h2 => by
      have := k (i + 1) (by simpa using h1) (by simpa using h2)
      simpa only [List.getElem_cons_succ] using this]
    rfl
theorem eqL_ren {l : List Va} {q : Nat} (hq : q < l.length) (s : ByteArray) : eqL sameV l (l.set q (renV l[q] s)) = strEq l[q].name s := by
  cases c : strEq l[q].name s with
  | false =>
    refine eqL_at (i := q) (a := l[q]) (b := renV l[q] s) (List.getElem?_eq_getElem hq) (by rw [List.getElem?_set_self hq]) ?_
    unfold sameV renV
    rw [c]; rfl
  | true =>
    refine eqL_all (by simp) fun i h1 h2 => ?_
    by_cases d : q = i
    · subst d
      simp only [List.getElem_set_self]
      unfold sameV renV
      simp [c]
    · rw [List.getElem_set_ne d]
      exact sameV_self _
theorem strEq_trans {a b c : ByteArray} (h1 : strEq a b = true) (h2 : strEq c b = true) : strEq a c = true := by
  unfold strEq at h1 h2 ⊢
  rw [beq_iff_eq] at h1 h2 ⊢
  rw [h1, h2]
end Go.AM

/- The law ModuleNames: a module whose variables are renamed may be. -/
set_option linter.unusedVariables false
set_option linter.unusedSimpArgs false
namespace Go.Proofs.YtnlkhjileipmcaaGreat
open Go.AM
def q7 : ByteArray := ByteArray.mk #[113, 95, 55]
theorem q7_name : nameE q7 = true := by decide +kernel
def renG (l : T) (q : Int) : Nat → Nat → T := fun i j => (bif i == (0 + q.toNat) && Nat.ble 0 j && Nat.blt j (0 + ([(T.s (ByteArray.mk #[113, 95, 55]))] : List T).length) then ([(T.s (ByteArray.mk #[113, 95, 55]))] : List T).getD (j - 0) (.b false) else (bif Nat.blt i 0 then ((([] : List (List T)).getD i []).getD j (.b false)) else (l.el i j)))
def renT (l : T) (q : Int) : T := T.l (0 + l.len) fun i j => renG l q (0 + i) j
def twoG (l : T) (q : Int) : Nat → Nat → T := fun i j => (bif Nat.blt i (0 + l.len) then (bif Nat.blt i 0 then ((([] : List (List T)).getD i []).getD j (.b false)) else (l.el i j)) else ((([[(T.s ((l.el (q).toNat 0).str)), (T.b ((l.el (q).toNat 1).bool)), (T.i ((l.el (q).toNat 2).int)), (T.i ((l.el (q).toNat 3).int)), (T.i ((l.el (q).toNat 4).int))]] : List (List T)).getD (0 + (i - (0 + l.len))) []).getD j (.b false)))
def twoT (l : T) (q : Int) : T := T.l ((0 + l.len) + 1) fun i j => twoG l q (0 + i) j
theorem renT_at (l : T) (q : Int) : vaAt (renT l q) q.toNat = renV (vaAt l q.toNat) q7 := by
  have e : ∀ j, (renT l q).el q.toNat j = renG l q q.toNat j := fun j => by unfold renT T.el; simp only; rw [Nat.zero_add]
  have c : (q.toNat == 0 + q.toNat) = true := by simp
  have e0 : renG l q q.toNat 0 = T.s q7 := by unfold renG; rw [c]; rfl
  have e1 : ∀ j, renG l q q.toNat (j + 1) = l.el q.toNat (j + 1) := fun j => by unfold renG; rw [c]; rfl
  unfold vaAt renV
  rw [e, e, e, e, e, e0, e1, e1, e1, e1]
  rfl
theorem renT_ne (l : T) (q : Int) {i : Nat} (h : i ≠ q.toNat) : vaAt (renT l q) i = vaAt l i := by
  have e : ∀ j, (renT l q).el i j = l.el i j := fun j => by
    show renG l q (0 + i) j = _
    rw [Nat.zero_add]
    unfold renG
    rw [show (i == 0 + q.toNat) = false by simpa using h]
    rfl
  unfold vaAt
  rw [e, e, e, e, e]
theorem varsOf_ren {l : T} {q : Int} (h0 : 0 ≤ q) (h1 : q < (l.len : Int)) : ∃ h : q.toNat < (varsOf l).length, varsOf (renT l q) = (varsOf l).set q.toNat (renV (varsOf l)[q.toNat] q7) := by
  have hq : q.toNat < l.len := by omega
  refine ⟨by rw [varsOf_len]; exact hq, ?_⟩
  have hl : (renT l q).len = l.len := Nat.zero_add _
  apply List.ext_getElem
  · rw [List.length_set, varsOf_len, varsOf_len, hl]
  · intro i a b
    rw [varsOf_len, hl] at a
    have g : ∀ {t : T} {i : Nat} (h : i < (varsOf t).length), (varsOf t)[i] = vaAt t i := fun {t i} h => by
      have := varsOf_get t (i := i) (by rwa [varsOf_len] at h)
      rw [List.getElem?_eq_getElem h] at this
      exact Option.some.inj this
    rw [g (t := renT l q)]
    by_cases c : q.toNat = i
    · subst c
      rw [List.getElem_set_self, g]; exact renT_at l q
    · rw [List.getElem_set_ne c, g]; exact renT_ne l q (Ne.symm c)
theorem varsOf_two {l : T} {q : Int} (h0 : 0 ≤ q) (h1 : q < (l.len : Int)) : ∃ h : q.toNat < (varsOf l).length, varsOf (twoT l q) = varsOf l ++ [(varsOf l)[q.toNat]] := by
  have hq : q.toNat < l.len := by omega
  refine ⟨by rw [varsOf_len]; exact hq, ?_⟩
  have g : ∀ {t : T} {i : Nat} (h : i < (varsOf t).length), (varsOf t)[i] = vaAt t i := fun {t i} h => by
    have := varsOf_get t (i := i) (by rwa [varsOf_len] at h)
    rw [List.getElem?_eq_getElem h] at this
    exact Option.some.inj this
  rw [g]
  have lt : ∀ i, i < l.len → vaAt (twoT l q) i = vaAt l i := by
    intro i hi
    have e : ∀ j, (twoT l q).el i j = l.el i j := fun j => by
      show twoG l q (0 + i) j = _
      rw [Nat.zero_add]
      unfold twoG
      rw [show Nat.blt i (0 + l.len) = true by simp [Nat.blt_eq]; omega]
      rfl
    unfold vaAt
    rw [e, e, e, e, e]
  have at' : vaAt (twoT l q) l.len = vaAt l q.toNat := by
    have e : ∀ j, (twoT l q).el l.len j = ([(T.s ((l.el (q).toNat 0).str)), (T.b ((l.el (q).toNat 1).bool)), (T.i ((l.el (q).toNat 2).int)), (T.i ((l.el (q).toNat 3).int)), (T.i ((l.el (q).toNat 4).int))] : List T).getD j (.b false) := fun j => by
      show twoG l q (0 + l.len) j = _
      unfold twoG
      rw [show Nat.blt (0 + l.len) (0 + l.len) = false by rw [Bool.eq_false_iff]; simp [Nat.blt_eq], show 0 + (0 + l.len - (0 + l.len)) = 0 by omega]
      rfl
    unfold vaAt
    rw [e, e, e, e, e]
    rfl
  have hl : (twoT l q).len = l.len + 1 := by show (0 + l.len) + 1 = _; omega
  unfold varsOf
  rw [hl, List.range_succ, List.map_append, List.map_cons, List.map_nil, at']
  congr 1
  exact List.map_congr_left fun i hi => lt i (List.mem_range.1 hi)
theorem ModuleNames_sp (l : T) (o1 n1 : Int) (k1 : T) (o2 n2 : Int) (k2 te ts ta tn tp : T) (v : Int) (wl : WT Tryz.prog 22 l) (w1 : WT Tryz.prog 23 k1) (w2 : WT Tryz.prog 23 k2) (we : WT Tryz.prog 26 te) (ws : WT Tryz.prog 26 ts) (wa : WT Tryz.prog 23 ta) (wn : WT Tryz.prog 23 tn) (wp : WT Tryz.prog 23 tp) :
    Ev fun N => C_parrylaw5_ModuleNames (K N) l o1 n1 k1 o2 n2 k2 te ts ta tn tp v = rb true := by
  have hl := WT_len wl
  have h1 := WT_KW w1
  have h2 := WT_KW w2
  have he := WT_KC we
  have hs := WT_KC ws
  have ha := WT_KW wa
  have hn := WT_KW wn
  have hp := WT_KW wp
  have base := Ev.imp4 (heavyM_sp l k1 k2 te ts ta tn tp hl h1 h2 he hs ha hn hp) (MayM_sp l hl k1 k2 te ts ta tn tp h1 h2 he hs ha hn hp) (refMayM_sp l hl k1 k2 te ts ta tn tp h1 h2 he hs ha hn hp) awake5_sp fun N a b c d => (⟨a, b, c, d⟩ : _ ∧ _ ∧ _ ∧ _)
  by_cases c0 : mayM ⟨varsOf l, .mk o1 n1 (kidsOf k1), .mk o2 n2 (kidsOf k2), cmdsOf te, cmdsOf ts, kidsOf ta, kidsOf tn, kidsOf tp⟩ = 0
  case neg =>
    refine Ev.step (base.imp fun N hb => ?_)
    obtain ⟨hh, hm, hr, haw⟩ := hb
    obtain ⟨y, hy⟩ := hh o1 n1 o2 n2
    have aw : ((C_parrylaw5_awake (K N)).bind fun r => some (lookR [(0, T.b (r 0).bool)])) = rb true := by rw [haw]; rfl
    rw [C_parrylaw5_ModuleNames_K]
    exact bind_of hy (if_both (fun _ => aw) fun _ => bind_of (hm o1 n1 o2 n2) (if_of (by simpa [lookR_0, int_i] using c0) aw))
  have c1 := (mayM_zero c0).1
  simp only at c1
  have h6 := totalE_len (mayV_total c1)
  rw [varsOf_len] at h6
  by_cases c2 : l.len = 0
  · refine Ev.step (base.imp fun N hb => ?_)
    obtain ⟨hh, hm, hr, haw⟩ := hb
    obtain ⟨y, hy⟩ := hh o1 n1 o2 n2
    have aw : ((C_parrylaw5_awake (K N)).bind fun r => some (lookR [(0, T.b (r 0).bool)])) = rb true := by rw [haw]; rfl
    rw [C_parrylaw5_ModuleNames_K]
    exact bind_of hy (if_both (fun _ => aw) fun _ => bind_of (hm o1 n1 o2 n2) (if_not (by simp [lookR_0, int_i, c0]) (bind_of (hr o1 n1 o2 n2) (if_not (by simp [lookR_0, int_i, c0]) (if_of (by rw [c2]; rfl) aw)))))
  obtain ⟨q, hq⟩ : ∃ q, q = IntKind.wrap .i64 (Int.tmod (IntKind.wrap .u64 v) (IntKind.wrap .u64 (l.len : Int))) := ⟨_, rfl⟩
  have hqr := mod_range v (n := (l.len : Int)) (by omega) (by omega)
  rw [← hq] at hqr
  obtain ⟨hv, er⟩ := varsOf_ren hqr.1 hqr.2
  obtain ⟨_, et⟩ := varsOf_two hqr.1 hqr.2
  have en : (varsOf l)[q.toNat] = vaAt l q.toNat := by
    have := varsOf_get l (i := q.toNat) (by omega)
    rw [List.getElem?_eq_getElem hv] at this
    exact Option.some.inj this
  have hrl : (renT l q).len = l.len := Nat.zero_add _
  have htl : (twoT l q).len = l.len + 1 := by show (0 + l.len) + 1 = _; omega
  have mt : mayM ⟨varsOf (twoT l q), .mk o1 n1 (kidsOf k1), .mk o2 n2 (kidsOf k2), cmdsOf te, cmdsOf ts, kidsOf ta, kidsOf tn, kidsOf tp⟩ = 3 := by
    unfold mayM
    simp only
    rw [et, mayV_twice c1 hv, if_pos (by omega)]
  have more := Ev.imp4 (refFind_sp l hl) (MayM_sp (renT l q) (by rw [hrl]; exact hl) k1 k2 te ts ta tn tp h1 h2 he hs ha hn hp) (MayM_sp (twoT l q) (by rw [htl]; omega) k1 k2 te ts ta tn tp h1 h2 he hs ha hn hp)
    (sameM_sp l k1 k2 te ts ta tn tp (renT l q) k1 k2 te ts ta tn tp hl h1 h2 he hs ha hn hp h1 h2 he hs ha hn hp) fun N a b c d => (⟨a, b, c, d⟩ : _ ∧ _ ∧ _ ∧ _)
  refine Ev.step (Ev.imp3 base more (Ev.ge 20) fun N hb hm' hN => ?_)
  obtain ⟨hh, hm, hr, haw⟩ := hb
  obtain ⟨hf, m1, m2, m3⟩ := hm'
  obtain ⟨y, hy⟩ := hh o1 n1 o2 n2
  have aw : ((C_parrylaw5_awake (K N)).bind fun r => some (lookR [(0, T.b (r 0).bool)])) = rb true := by rw [haw]; rfl
  have m1 := m1 o1 n1 o2 n2
  have m2 := m2 o1 n1 o2 n2
  have m3 := m3 o1 n1 o2 n2 o1 n1 o2 n2
  rw [mt] at m2
  rw [sameM_vars c0, er, eqL_ren hv, en] at m3
  rw [C_parrylaw5_ModuleNames_K]
  refine bind_of hy (if_both (fun _ => aw) fun _ => bind_of (hm o1 n1 o2 n2) (if_not (by simp [lookR_0, int_i, c0]) (bind_of (hr o1 n1 o2 n2) (if_not (by simp [lookR_0, int_i, c0]) (if_not (by simp; omega) ?_)))))
  rw [← hq]
  have hu : (!(IntKind.wrap .u64 (l.len : Int) == 0)) = true := by rw [wrapu_eq (by omega) (by omega)]; simp; omega
  refine if_of hu (if_of (decide_eq_true (by omega)) (if_of (decide_eq_true (by omega)) (if_of (by simp; omega) (if_of (decide_eq_true (by omega)) (if_of (by simp; omega) (if_of (decide_eq_true (by omega)) (if_of (by simp; omega) (bind_of (hf q7) ?_))))))))
  obtain ⟨N, rfl⟩ : ∃ M, N = M + 1 := ⟨N - 1, by omega⟩
  have fin : (∀ m (hm : m < (varsOf l).length), m ≠ q.toNat → strEq (varsOf l)[m].name q7 = false) →
      parrylaw5_ModuleNames.B0 (K (N + 1)) (N + 1) (0 + l.len) ((0 + l.len) + 1) (strEq (vaAt l q.toNat).name q7) l o1 n1 k1 o2 n2 k2 te ts ta tn tp o1 n1 k1 o2 n2 k2 te ts ta tn tp (renG l q) o1 n1 k1 o2 n2 k2 te ts ta tn tp (twoG l q) = rb true := by
    intro fresh
    have mr : mayV (varsOf (renT l q)) = 0 := by rw [er]; exact mayV_ren c1 hv q7_name fresh
    rw [← strip_may (l := varsOf l) (by rw [er]; exact strip_set' hv q7) c1 mr, c0] at m1
    rw [parrylaw5_ModuleNames.B0_eq]
    refine bind_of m1 (if_of (by simp [lookR_0, int_i]) (bind_of m3 (if_of ?_ (bind_of m2 (if_of (by simp [lookR_0, int_i]) aw)))))
    rw [lookR_0]
    exact beq_self_eq_true _
  by_cases c3 : 0 ≤ findE (varsOf l) q7
  · refine if_of (decide_eq_true c3) ?_
    cases c4 : strEq (vaAt l q.toNat).name q7 with
    | false => exact if_of (by rw [show (!(strEq (l.el q.toNat 0).str (ByteArray.mk #[113, 95, 55]))) = !(strEq (vaAt l q.toNat).name q7) from rfl, c4]; rfl) aw
    | true =>
      refine if_not (by rw [show (!(strEq (l.el q.toNat 0).str (ByteArray.mk #[113, 95, 55]))) = !(strEq (vaAt l q.toNat).name q7) from rfl, c4]; rfl) (fin fun m hm hne => ?_)
      cases d : strEq (varsOf l)[m].name q7 with
      | false => rfl
      | true =>
        exfalso
        obtain ⟨u, _⟩ := mayV_iff.1 c1
        rw [← en] at c4
        rcases Nat.lt_or_gt_of_ne hne with e | e
        · have := (u q.toNat hv).2.1 m hm e
          rw [strEq_trans d c4] at this
          cases this
        · have := (u m hm).2.1 q.toNat hv e
          rw [strEq_trans c4 d] at this
          cases this
  · refine if_not (decide_eq_false c3) (fin fun m hm hne => ?_)
    cases d : strEq (varsOf l)[m].name q7 with
    | false => rfl
    | true => exact absurd ((findFrom_neg (varsOf l) q7 0 (Int.le_refl _)).2 (List.any_eq_true.2 ⟨_, List.getElem_mem hm, d⟩)) c3
end Go.Proofs.YtnlkhjileipmcaaGreat
