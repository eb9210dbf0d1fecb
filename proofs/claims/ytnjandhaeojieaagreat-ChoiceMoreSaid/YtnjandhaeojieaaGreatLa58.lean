/- The law ChoiceMore: with one command more nothing that may be chosen is lost. -/
import Derived.Test.YtnjandhaeojieaaGreatLa56
import Derived.Test.YtnjandhaeojieaaGreatLa50
import Derived.Test.YtnjandhaeojieaaGreatMp1
import Derived.Test.YtnjandhaeojieaaGreatLa51
set_option linter.unusedVariables false
set_option linter.unusedSimpArgs false
namespace Go.Proofs.YtnjandhaeojieaaGreat
open Go.AM
/-- A list of commands with one more. -/
def addC (t : T) (o n : Int) (k s : T) : T := T.l ((0 + t.len) + 1) (fun i j => (bif Nat.blt (0 + i) (0 + t.len) then (bif Nat.blt (0 + i) 0 then ((([] : List (List T)).getD (0 + i) []).getD j (.b false)) else (t.el (0 + i) j)) else ((([[(T.i o), (T.i n), k, s]] : List (List T)).getD (0 + ((0 + i) - (0 + t.len))) []).getD j (.b false))))
def one1C (o n : Int) (k s : T) : T := T.l 1 (fun i j => ((([[(T.i o), (T.i n), k, s]] : List (List T)).getD (0 + i) []).getD j (.b false)))
theorem cmds_one1 (o n : Int) (k s : T) : cmdsOf (one1C o n k s) = [⟨.mk o n (kidsOf k), setsOf s⟩] := rfl
theorem KC_one1 {o n : Int} {k s : T} (hk : KW k) (hs : KS s) : KC (one1C o n k s) := KC_one rfl hk hs
section
variable {t : T} {o n : Int} {k s : T}
theorem addC_len : (addC t o n k s).len = t.len + 1 := by show 0 + t.len + 1 = _; omega
theorem addC_lt {i : Nat} (h : i < t.len) (j : Nat) : (addC t o n k s).el i j = t.el i j := by
  show (bif Nat.blt (0 + i) (0 + t.len) then _ else _) = _
  have e1 : Nat.blt (0 + i) (0 + t.len) = true := by rw [Nat.blt_eq]; omega
  have e2 : Nat.blt (0 + i) 0 = false := by
    cases hc : Nat.blt (0 + i) 0 with
    | false => rfl
    | true => rw [Nat.blt_eq] at hc; omega
  rw [e1, cond_true, e2, cond_false, Nat.zero_add]
theorem addC_at (j : Nat) : (addC t o n k s).el t.len j = ([(T.i o), (T.i n), k, s] : List T).getD j (.b false) := by
  show (bif Nat.blt (0 + t.len) (0 + t.len) then _ else _) = _
  have e1 : Nat.blt (0 + t.len) (0 + t.len) = false := by
    cases hc : Nat.blt (0 + t.len) (0 + t.len) with
    | false => rfl
    | true => rw [Nat.blt_eq] at hc; omega
  rw [e1, cond_false, Nat.sub_self]
  rfl
theorem cmds_add : cmdsOf (addC t o n k s) = cmdsOf t ++ [⟨.mk o n (kidsOf k), setsOf s⟩] := by
  unfold cmdsOf
  rw [addC_len, List.range_succ, List.map_append]
  congr 1
  · apply List.map_congr_left
    intro i hi
    have hi : i < t.len := List.mem_range.1 hi
    simp only [cmAt, addC_lt hi]
  · simp only [List.map_cons, List.map_nil, cmAt, addC_at]
    rfl
theorem KC_add (h : KC t) (hb : t.len + 1 ≤ 9223372036854775807) (hk : KW k) (hs : KS s) : KC (addC t o n k s) := by
  refine ⟨by rw [addC_len]; exact hb, fun i hi => ?_⟩
  rw [addC_len] at hi
  by_cases hit : i < t.len
  · rw [addC_lt hit, addC_lt hit]
    exact h.2 i hit
  · obtain rfl : i = t.len := by omega
    rw [addC_at, addC_at]
    exact ⟨hk, hs⟩
end
/-- Keys that are added one after the other. -/
def addAll : List Int → List Int → List Int
  | ks, [] => ks
  | ks, a :: r => addAll (if a ∈ ks then ks else ks ++ [a]) r
theorem addAll_mem : ∀ {l ks : List Int} {x : Int}, x ∈ addAll ks l ↔ x ∈ ks ∨ x ∈ l
  | [], ks, x => by simp [addAll]
  | a :: r, ks, x => by
    simp only [addAll, addAll_mem (l := r), List.mem_cons]
    by_cases h : a ∈ ks
    · rw [if_pos h]
      constructor
      · rintro (q | q)
        · exact .inl q
        · exact .inr (.inr q)
      · rintro (q | rfl | q)
        · exact .inl q
        · exact .inl h
        · exact .inr q
    · rw [if_neg h, List.mem_append, List.mem_singleton]
      constructor
      · rintro ((q | q) | q)
        · exact .inl q
        · exact .inr (.inl q)
        · exact .inr (.inr q)
      · rintro (q | q | q)
        · exact .inl (.inl q)
        · exact .inl (.inr q)
        · exact .inr q
theorem bits_or1 (b : Prop) [Decidable b] : bitsOf .or .i64 (if b then 1 else 0) (1 : Int) = 1 := by
  split <;> decide +kernel
section
variable {h : H} {l : T} {o1 n1 : Int} {k1 : T} {o2 n2 : Int} {k2 te ts ta tn tp : T}
theorem cmB2 {ev : Bool} {P : Int} {tB tD t : T} {La : List Int} {Q : Option R} {F : Nat} (ht : Ints t La) (hb : La.length ≤ 1000) (hQ : ∀ N x, F ≤ N → IS x (addAll [] La) → parrylaw6_ChoiceMore.B3 h N ev P tB tD (tD.len : Int) 0 l o1 n1 k1 o2 n2 k2 te ts ta tn tp x = Q) :
    ∀ (m j : Nat), j + m = La.length → ∀ (N : Nat) (x : T), F + m + 1 ≤ N → IS x (addAll [] (La.take j)) → parrylaw6_ChoiceMore.B2 h N ev P tB tD t (t.len : Int) (j : Int) l o1 n1 k1 o2 n2 k2 te ts ta tn tp x = Q
  | 0, j, hj, N, x, hN, hx => by
    obtain ⟨N, rfl⟩ : ∃ M, N = M + 1 := ⟨N - 1, by omega⟩
    rw [parrylaw6_ChoiceMore.B2_eq]
    rw [List.take_of_length_le (by omega)] at hx
    exact if_not (decide_eq_false (by rw [ht.1]; omega)) (hQ N x (by omega) hx)
  | m + 1, j, hj, N, x, hN, hx => by
    obtain ⟨N, rfl⟩ : ∃ M, N = M + 1 := ⟨N - 1, by omega⟩
    have hlt : j < La.length := by omega
    have hl : t.len = La.length := ht.1
    have hs := ht.el0 hlt
    have app : ∀ (l ks : List Int) (a : Int), addAll ks (l ++ [a]) = (if a ∈ addAll ks l then addAll ks l else addAll ks l ++ [a]) := by
      intro l
      induction l with
      | nil => intro ks a; rfl
      | cons b l ih => intro ks a; exact ih _ a
    have hx2 := hx.set (b := La[j])
    rw [← app, ← List.take_succ_eq_append_getElem hlt] at hx2
    have ih := cmB2 ht hb hQ m (j + 1) (by omega) N _ (by omega) hx2
    rw [parrylaw6_ChoiceMore.B2_eq, wrap_eq (a := (j : Int) + 1) (by omega) (by omega)]
    refine if_of (decide_eq_true (by omega)) (if_of (by simp; omega) ?_)
    rw [Int.toNat_natCast, hs, hx.get, bits_or1]
    exact ih
theorem cmB3 {ev : Bool} {P : Int} {tB t : T} {Ld ks : List Int} {Q : Option R} {F : Nat} (ht : Ints t Ld) (hb : Ld.length ≤ 1000) (hlB : tB.len = (addAll ks Ld).length) (hQ : ∀ N x, F ≤ N → IS x (addAll ks Ld) → parrylaw6_ChoiceMore.B4 h N ev P tB tB (tB.len : Int) 0 l o1 n1 k1 o2 n2 k2 te ts ta tn tp x = Q) :
    ∀ (m j : Nat), j + m = Ld.length → ∀ (N : Nat) (x : T), F + m + 1 ≤ N → IS x (addAll ks (Ld.take j)) → parrylaw6_ChoiceMore.B3 h N ev P tB t (t.len : Int) (j : Int) l o1 n1 k1 o2 n2 k2 te ts ta tn tp x = Q
  | 0, j, hj, N, x, hN, hx => by
    obtain ⟨N, rfl⟩ : ∃ M, N = M + 1 := ⟨N - 1, by omega⟩
    rw [parrylaw6_ChoiceMore.B3_eq]
    rw [List.take_of_length_le (by omega)] at hx
    exact if_not (decide_eq_false (by rw [ht.1]; omega)) (if_not (by rw [hx.len, hlB]; simp) (hQ N x (by omega) hx))
  | m + 1, j, hj, N, x, hN, hx => by
    obtain ⟨N, rfl⟩ : ∃ M, N = M + 1 := ⟨N - 1, by omega⟩
    have hlt : j < Ld.length := by omega
    have hl : t.len = Ld.length := ht.1
    have hs := ht.el0 hlt
    have app : ∀ (l ks : List Int) (a : Int), addAll ks (l ++ [a]) = (if a ∈ addAll ks l then addAll ks l else addAll ks l ++ [a]) := by
      intro l
      induction l with
      | nil => intro ks a; rfl
      | cons b l ih => intro ks a; exact ih _ a
    have hx2 := hx.set (b := Ld[j])
    rw [← app, ← List.take_succ_eq_append_getElem hlt] at hx2
    have ih := cmB3 ht hb hlB hQ m (j + 1) (by omega) N _ (by omega) hx2
    rw [parrylaw6_ChoiceMore.B3_eq, wrap_eq (a := (j : Int) + 1) (by omega) (by omega)]
    refine if_of (decide_eq_true (by omega)) (if_of (by simp; omega) ?_)
    rw [Int.toNat_natCast, hs, hx.get, bits_or1]
    exact ih
theorem cmB4 {ev : Bool} {P : Int} {t x : T} {Lb ks : List Int} {Q : Option R} (ht : Ints t Lb) (hb : Lb.length ≤ 1000) (hx : IS x ks) (hk : ∀ s ∈ Lb, s ∈ ks) (hr : Lb.Pairwise (· < ·)) (hP : ∀ s, ∃ p, C_dom_Part h l s true = ri p ∧ (s ∈ Lb → if ev = true then p = s else p = P))
    (hQ : ((C_parrylaw6_awake h).bind fun r => some (lookR [(0, T.b (r 0).bool)])) = Q) :
    ∀ (m j : Nat), j + m = Lb.length → ∀ (N : Nat), 2 * m + 1 ≤ N → parrylaw6_ChoiceMore.B4 h N ev P t t (t.len : Int) (j : Int) l o1 n1 k1 o2 n2 k2 te ts ta tn tp x = Q
  | 0, j, hj, N, hN => by
    obtain ⟨N, rfl⟩ : ∃ M, N = M + 1 := ⟨N - 1, by omega⟩
    rw [parrylaw6_ChoiceMore.B4_eq]
    exact if_not (decide_eq_false (by rw [ht.1]; omega)) hQ
  | m + 1, j, hj, N, hN => by
    obtain ⟨N, rfl⟩ : ∃ M, N = M + 2 := ⟨N - 2, by omega⟩
    have hlt : j < Lb.length := by omega
    have hl : t.len = Lb.length := ht.1
    have hs := ht.el0 hlt
    have ih := cmB4 ht hb hx hk hr hP hQ m (j + 1) (by omega) N (by omega)
    have b5 : parrylaw6_ChoiceMore.B5 h (N + 1) ev P t t (t.len : Int) (j : Int) l o1 n1 k1 o2 n2 k2 te ts ta tn tp x = Q := by
      rw [parrylaw6_ChoiceMore.B5_eq, wrap_eq (a := (j : Int) + 1) (by omega) (by omega)]
      exact ih
    have hmem : Lb[j] ∈ Lb := List.getElem_mem hlt
    obtain ⟨p, hp1, hp2⟩ := hP Lb[j]
    have hp2 := hp2 hmem
    have tail : (bif ev then (C_dom_Part h l Lb[j] true).bind fun r753 => (bif (((r753 0).int) != Lb[j]) then some (lookR [(0, (T.b false))]) else (bif (!ev) then (C_dom_Part h l Lb[j] true).bind fun r754 => (bif (((r754 0).int) != P) then some (lookR [(0, (T.b false))]) else parrylaw6_ChoiceMore.B5 h (N + 1) ev P t t (t.len : Int) (j : Int) l o1 n1 k1 o2 n2 k2 te ts ta tn tp x) else parrylaw6_ChoiceMore.B5 h (N + 1) ev P t t (t.len : Int) (j : Int) l o1 n1 k1 o2 n2 k2 te ts ta tn tp x)) else (bif (!ev) then (C_dom_Part h l Lb[j] true).bind fun r755 => (bif (((r755 0).int) != P) then some (lookR [(0, (T.b false))]) else parrylaw6_ChoiceMore.B5 h (N + 1) ev P t t (t.len : Int) (j : Int) l o1 n1 k1 o2 n2 k2 te ts ta tn tp x) else parrylaw6_ChoiceMore.B5 h (N + 1) ev P t t (t.len : Int) (j : Int) l o1 n1 k1 o2 n2 k2 te ts ta tn tp x)) = Q := by
      cases ev with
      | true =>
        rw [if_pos rfl] at hp2
        exact if_of rfl (bind_of hp1 (if_not (by rw [lookR_0, int_i, hp2]; simp) (if_not rfl b5)))
      | false =>
        rw [if_neg (by simp)] at hp2
        exact if_not rfl (if_of rfl (bind_of hp1 (if_not (by rw [lookR_0, int_i, hp2]; simp) b5)))
    rw [parrylaw6_ChoiceMore.B4_eq]
    refine if_of (decide_eq_true (by omega)) (if_of (by simp; omega) ?_)
    rw [Int.toNat_natCast, hs]
    refine if_not (by rw [hx.get, if_pos (hk _ hmem)]; rfl) ?_
    by_cases c : 0 < j
    · have hj1 : j - 1 < Lb.length := by omega
      have e1 : IntKind.wrap .i64 ((j : Int) - 1) = ((j - 1 : Nat) : Int) := by rw [wrap_eq (by omega) (by omega)]; omega
      have hlt2 : Lb[j - 1] < Lb[j] := List.pairwise_iff_getElem.1 hr (j - 1) j hj1 hlt (by omega)
      rw [e1, Int.toNat_natCast, ht.el0 hj1]
      exact if_of (decide_eq_true (by omega)) (if_of (by simp; omega) (if_not (decide_eq_false (by omega)) tail))
    · exact if_not (decide_eq_false (by omega)) tail
end
theorem env_len {m : Md} {s : Int} (hT : mayV m.vars = 0 → prodV m.vars ≤ 24) : (envE m s).length ≤ 24 ∧ (envE m s).Pairwise (· < ·) ∧ ∀ x ∈ envE m s, partE m.vars x true = x := by
  rw [env_ref]
  unfold refEnvE
  split
  · simp
  · rename_i c
    have cm := (mayM_zero (m := m) (by simpa using c)).1
    split
    · simp
    · refine ⟨filt24 cm (hT cm), (upFrom_rise ..).filter _, fun x hx => ?_⟩
      rw [List.mem_filter, List.any_eq_true] at hx
      obtain ⟨_, c, _, hc⟩ := hx
      rw [Bool.and_eq_true] at hc
      have := hc.1
      unfold pickE at this
      rw [Bool.and_eq_true] at this
      exact eq_of_beq this.2
theorem sys_len {m : Md} {s p : Int} (hT : mayV m.vars = 0 → prodV m.vars ≤ 24) : (sysE m s p).length ≤ 24 ∧ (sysE m s p).Pairwise (· < ·) ∧ ∀ x ∈ sysE m s p, partE m.vars x true = p := by
  rw [sys_ref]
  unfold refSysE
  split
  · simp
  · rename_i c
    have cm := (mayM_zero (m := m) (by simpa using c)).1
    split
    · simp
    · split
      · simp
      · refine ⟨filt24 cm (hT cm), (upFrom_rise ..).filter _, fun x hx => ?_⟩
        rw [List.mem_filter, List.any_eq_true] at hx
        obtain ⟨_, c, _, hc⟩ := hx
        rw [Bool.and_eq_true] at hc
        exact eq_of_beq hc.1
theorem more_len {La Lb Ld : List Int} (hr : Lb.Pairwise (· < ·)) (hm : ∀ x, x ∈ Lb ↔ x ∈ La ∨ x ∈ Ld) {x : T} (hx : (addAll (addAll [] La) Ld).Nodup) : Lb.length = (addAll (addAll [] La) Ld).length := by
  have hn : Lb.Nodup := hr.imp fun h e => by omega
  refine ((List.perm_ext_iff_of_nodup hn hx).2 fun a => ?_).length_eq
  rw [addAll_mem, addAll_mem, hm]
  simp
theorem addAll_nodup : ∀ {l ks : List Int}, ks.Nodup → (addAll ks l).Nodup
  | [], ks, h => h
  | a :: r, ks, h => by
    simp only [addAll]
    refine addAll_nodup ?_
    split
    · exact h
    · rename_i hn
      rw [List.nodup_append]
      exact ⟨h, by simp, fun b hb c hc => by rw [List.mem_singleton.1 hc]; rintro rfl; exact hn hb⟩
end Go.Proofs.YtnjandhaeojieaaGreat
