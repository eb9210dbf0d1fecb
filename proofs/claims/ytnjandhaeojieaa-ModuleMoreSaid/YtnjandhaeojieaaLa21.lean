/- The law ExprKids: what may be has kids that may be. -/
import Derived.Test.YtnjandhaeojieaaLa20
import Derived.Test.YtnjandhaeojieaaLa11
set_option linter.unusedVariables false
set_option linter.unusedSimpArgs false
namespace Go.AM
theorem readsE_mem {t : Int} {e : Ex} (h : mayE e = 0) (x : Int) : x ∈ readsE t e ↔ x ∈ rdE t e := by
  unfold readsE
  rw [if_neg (by simpa using h)]
  exact (sortUp (rdE t e)).2 x
end Go.AM
namespace Go.Proofs.Ytnjandhaeojieaa
open Go.AM
theorem Ints.el0 {t : T} {l : List Int} (h : Ints t l) {j : Nat} (hj : j < l.length) : (t.el j 0).int = l[j] := h.2 j _ (List.getElem?_eq_getElem hj)
end Go.Proofs.Ytnjandhaeojieaa
set_option linter.unusedVariables false
set_option linter.unusedSimpArgs false
namespace Go.AM
def envAt (l : List Va) (v : Int) : Bool := ((l[v.toNat]?).map Va.env).getD false
def nextBad (l : List Va) (env sys : Bool) (v : Int) : Bool := if envAt l v then !env else !sys
def hidBad (l : List Va) (now : Bool) (v : Int) : Bool := !envAt l v && !now
def needsE (l : List Va) (e : Ex) (want : Int) (now env sys : Bool) : Int :=
  if (sortE l e).2 ≠ 0 then (sortE l e).2 else if (sortE l e).1 ≠ want then 4 else
  bif (readsE 4 e).any (nextBad l env sys) then 5 else bif (readsE 3 e).any (hidBad l now) then 3 else 0
theorem typed_reads {l : List Va} {e : Ex} {s : Int} (h : Typed l e s) {t : Int} (ht : t = 3 ∨ t = 4) : ∀ x ∈ rdE t e, 0 ≤ x ∧ x < (l.length : Int) := by
  induction h with
  | num => intro x hx; simp only [rdE, rdL, List.append_nil] at hx; rw [if_neg (by omega)] at hx; cases hx
  | bool => intro x hx; simp only [rdE, rdL, List.append_nil] at hx; rw [if_neg (by omega)] at hx; cases hx
  | @var op i v ho h hi =>
    intro x hx
    simp only [rdE, rdL, List.append_nil] at hx
    split at hx
    · obtain rfl : x = (i : Int) := by simpa using hx
      have := (List.getElem?_eq_some_iff.1 h).1
      omega
    · cases hx
  | not _ ih =>
    intro x hx
    simp only [rdE, rdL, List.append_nil, List.mem_append] at hx
    rw [if_neg (by omega)] at hx
    rcases hx with hx | hx
    · cases hx
    · exact ih x hx
  | @logic op a b ho _ _ iha ihb =>
    intro x hx
    simp only [rdE, rdL, List.append_nil, List.mem_append] at hx
    rw [if_neg (by omega)] at hx
    rcases hx with hx | hx | hx
    · cases hx
    · exact iha x hx
    · exact ihb x hx
  | same _ _ iha ihb =>
    intro x hx
    simp only [rdE, rdL, List.append_nil, List.mem_append] at hx
    rw [if_neg (by omega)] at hx
    rcases hx with hx | hx | hx
    · cases hx
    · exact iha x hx
    · exact ihb x hx
  | less _ _ _ iha ihb =>
    intro x hx
    simp only [rdE, rdL, List.append_nil, List.mem_append] at hx
    rw [if_neg (by omega)] at hx
    rcases hx with hx | hx | hx
    · cases hx
    · exact iha x hx
    · exact ihb x hx
  | sum _ _ _ iha ihb =>
    intro x hx
    simp only [rdE, rdL, List.append_nil, List.mem_append] at hx
    rw [if_neg (by omega)] at hx
    rcases hx with hx | hx | hx
    · cases hx
    · exact iha x hx
    · exact ihb x hx
  | ite _ _ _ iha ihb ihc =>
    intro x hx
    simp only [rdE, rdL, List.append_nil, List.mem_append] at hx
    rw [if_neg (by omega)] at hx
    rcases hx with hx | hx | hx | hx
    · cases hx
    · exact iha x hx
    · exact ihb x hx
    · exact ihc x hx
end Go.AM
namespace Go.Proofs.Ytnjandhaeojieaa
open Go.AM
theorem sort_reads {l : List Va} {e : Ex} (h : (sortE l e).2 = 0) {t : Int} (ht : t = 3 ∨ t = 4) : ∀ x ∈ readsE t e, 0 ≤ x ∧ x < (l.length : Int) := by
  obtain ⟨_, h2, _, _, _, h6⟩ := sortE_ok h
  intro x hx
  exact typed_reads h6 ht x ((readsE_mem h2 x).1 hx)
theorem envAt_of {l : T} {v : Int} (h0 : 0 ≤ v) (h1 : v < (l.len : Int)) : envAt (varsOf l) v = (l.el v.toNat 1).bool := by
  unfold envAt
  rw [varsOf_get l (by omega)]
  rfl
theorem needs1_sp (N : Nat) (l : T) (env sys : Bool) {v : Int} (h0 : 0 ≤ v) (h1 : v < (l.len : Int)) : C_sort_Needs_1 (K (N + 1)) v (fun j => ([l] : List T).getD j (.b false)) (fun j => ([T.b env] : List T).getD j (.b false)) (fun j => ([T.b sys] : List T).getD j (.b false)) = rb (nextBad (varsOf l) env sys v) := by
  have hg : (decide (0 ≤ v) && decide (v < (l.len : Int))) = true := by simp; omega
  rw [C_sort_Needs_1_K]
  unfold nextBad
  rw [envAt_of h0 h1]
  refine if_of hg (if_both (fun c => ?_) fun c => ?_)
  · have c : (l.el v.toNat 1).bool = true := c
    rw [if_pos c]
    cases env with
    | false => exact if_of rfl rfl
    | true => refine if_not rfl (if_of hg (if_not ?_ rfl)); show (!(l.el v.toNat 1).bool) = false; rw [c]; rfl
  · have c : (l.el v.toNat 1).bool = false := c
    rw [if_neg (by rw [c]; simp)]
    refine if_of hg (if_of ?_ rfl)
    show (!(l.el v.toNat 1).bool) = true
    rw [c]; rfl
theorem needs2_sp (N : Nat) (l : T) (now : Bool) {v : Int} (h0 : 0 ≤ v) (h1 : v < (l.len : Int)) : C_sort_Needs_2 (K (N + 1)) v (fun j => ([l] : List T).getD j (.b false)) (fun j => ([T.b now] : List T).getD j (.b false)) = rb (hidBad (varsOf l) now v) := by
  have hg : (decide (0 ≤ v) && decide (v < (l.len : Int))) = true := by simp; omega
  rw [C_sort_Needs_2_K]
  unfold hidBad
  rw [envAt_of h0 h1]
  refine if_of hg (if_both (fun c => ?_) fun c => ?_)
  · have c : (!(l.el v.toNat 1).bool) = true := c
    rw [c]; rfl
  · have c : (!(l.el v.toNat 1).bool) = false := c
    rw [c]; rfl
theorem needsI1 {N : Nat} {l t : T} {env sys : Bool} {xs : List Int} (hx : Ints t xs) (hl : xs.length ≤ 60) (hr : ∀ x ∈ xs, 0 ≤ x ∧ x < (l.len : Int)) : ∀ (m i : Nat), i + m = xs.length → ∀ M, m < M →
    ∃ x, slices_IndexFunc_int_by_sort_Needs_1.B0 (K (N + 1)) M t (fun j => ([l] : List T).getD j (.b false)) (fun j => ([T.b env] : List T).getD j (.b false)) (fun j => ([T.b sys] : List T).getD j (.b false)) (t.len : Int) (i : Int) = ri x ∧ decide (x ≥ 0) = (xs.drop i).any (nextBad (varsOf l) env sys)
  | 0, i, hi, M, hM => by
    obtain ⟨M, rfl⟩ : ∃ M', M = M' + 1 := ⟨M - 1, by omega⟩
    rw [slices_IndexFunc_int_by_sort_Needs_1.B0_eq, List.drop_of_length_le (by omega), hx.1]
    exact ⟨-1, if_not (decide_eq_false (by omega)) rfl, rfl⟩
  | m + 1, i, hi, M, hM => by
    obtain ⟨M, rfl⟩ : ∃ M', M = M' + 1 := ⟨M - 1, by omega⟩
    have hlt : i < xs.length := by omega
    have hb := hr xs[i] (List.getElem_mem hlt)
    obtain ⟨x, e1, e2⟩ := needsI1 (N := N) (env := env) (sys := sys) hx hl hr m (i + 1) (by omega) M (by omega)
    have e3 := needs1_sp N l env sys hb.1 hb.2
    rw [slices_IndexFunc_int_by_sort_Needs_1.B0_eq, Int.toNat_natCast, hx.el0 hlt, List.drop_eq_getElem_cons hlt, wrap_eq (a := (i : Int) + 1) (by omega) (by omega)]
    simp only [List.any_cons]
    cases c : nextBad (varsOf l) env sys xs[i] with
    | true =>
      rw [c] at e3
      exact ⟨i, if_of (decide_eq_true (by rw [hx.1]; omega)) (if_of (by simp [hx.1]; omega) (bind_of e3 (if_of rfl rfl))), by simp⟩
    | false =>
      rw [c] at e3
      exact ⟨x, if_of (decide_eq_true (by rw [hx.1]; omega)) (if_of (by simp [hx.1]; omega) (bind_of e3 (if_not rfl e1))), by rw [Bool.false_or]; exact e2⟩
theorem needsI2 {N : Nat} {l t : T} {now : Bool} {xs : List Int} (hx : Ints t xs) (hl : xs.length ≤ 60) (hr : ∀ x ∈ xs, 0 ≤ x ∧ x < (l.len : Int)) : ∀ (m i : Nat), i + m = xs.length → ∀ M, m < M →
    ∃ x, slices_IndexFunc_int_by_sort_Needs_2.B0 (K (N + 1)) M t (fun j => ([l] : List T).getD j (.b false)) (fun j => ([T.b now] : List T).getD j (.b false)) (t.len : Int) (i : Int) = ri x ∧ decide (x ≥ 0) = (xs.drop i).any (hidBad (varsOf l) now)
  | 0, i, hi, M, hM => by
    obtain ⟨M, rfl⟩ : ∃ M', M = M' + 1 := ⟨M - 1, by omega⟩
    rw [slices_IndexFunc_int_by_sort_Needs_2.B0_eq, List.drop_of_length_le (by omega), hx.1]
    exact ⟨-1, if_not (decide_eq_false (by omega)) rfl, rfl⟩
  | m + 1, i, hi, M, hM => by
    obtain ⟨M, rfl⟩ : ∃ M', M = M' + 1 := ⟨M - 1, by omega⟩
    have hlt : i < xs.length := by omega
    have hb := hr xs[i] (List.getElem_mem hlt)
    obtain ⟨x, e1, e2⟩ := needsI2 (N := N) (now := now) hx hl hr m (i + 1) (by omega) M (by omega)
    have e3 := needs2_sp N l now hb.1 hb.2
    rw [slices_IndexFunc_int_by_sort_Needs_2.B0_eq, Int.toNat_natCast, hx.el0 hlt, List.drop_eq_getElem_cons hlt, wrap_eq (a := (i : Int) + 1) (by omega) (by omega)]
    simp only [List.any_cons]
    cases c : hidBad (varsOf l) now xs[i] with
    | true =>
      rw [c] at e3
      exact ⟨i, if_of (decide_eq_true (by rw [hx.1]; omega)) (if_of (by simp [hx.1]; omega) (bind_of e3 (if_of rfl rfl))), by simp⟩
    | false =>
      rw [c] at e3
      exact ⟨x, if_of (decide_eq_true (by rw [hx.1]; omega)) (if_of (by simp [hx.1]; omega) (bind_of e3 (if_not rfl e1))), by rw [Bool.false_or]; exact e2⟩
theorem needsC1 (l : T) : Ev fun N => ∀ env sys t xs, Ints t xs → xs.length ≤ 60 → (∀ x ∈ xs, 0 ≤ x ∧ x < (l.len : Int)) → C_slices_ContainsFunc_int_by_sort_Needs_1 (K N) t (fun j => ([l] : List T).getD j (.b false)) (fun j => ([T.b env] : List T).getD j (.b false)) (fun j => ([T.b sys] : List T).getD j (.b false)) = rb (xs.any (nextBad (varsOf l) env sys)) := by
  refine Ev.step ((Ev.ge 100).imp fun N hN env sys t xs hx hl hr => ?_)
  obtain ⟨N, rfl⟩ : ∃ M, N = M + 1 + 1 := ⟨N - 2, by omega⟩
  rw [C_slices_ContainsFunc_int_by_sort_Needs_1_K]
  obtain ⟨x, e1, e2⟩ := needsI1 (N := N) (l := l) (env := env) (sys := sys) hx hl hr xs.length 0 (by omega) (N + 1) (by omega)
  refine bind_of (r := lookR [(0, .i x)]) ?_ ?_
  · rw [C_slices_IndexFunc_int_by_sort_Needs_1_K]; exact e1
  · rw [List.drop_zero] at e2
    rw [← e2]; rfl
theorem needsC2 (l : T) : Ev fun N => ∀ now t xs, Ints t xs → xs.length ≤ 60 → (∀ x ∈ xs, 0 ≤ x ∧ x < (l.len : Int)) → C_slices_ContainsFunc_int_by_sort_Needs_2 (K N) t (fun j => ([l] : List T).getD j (.b false)) (fun j => ([T.b now] : List T).getD j (.b false)) = rb (xs.any (hidBad (varsOf l) now)) := by
  refine Ev.step ((Ev.ge 100).imp fun N hN now t xs hx hl hr => ?_)
  obtain ⟨N, rfl⟩ : ∃ M, N = M + 1 + 1 := ⟨N - 2, by omega⟩
  rw [C_slices_ContainsFunc_int_by_sort_Needs_2_K]
  obtain ⟨x, e1, e2⟩ := needsI2 (N := N) (l := l) (now := now) hx hl hr xs.length 0 (by omega) (N + 1) (by omega)
  refine bind_of (r := lookR [(0, .i x)]) ?_ ?_
  · rw [C_slices_IndexFunc_int_by_sort_Needs_2_K]; exact e1
  · rw [List.drop_zero] at e2
    rw [← e2]; rfl
theorem Needs_sp (l : T) (hl : l.len ≤ 9223372036854775807) (k : T) (hk : KW k) : Ev fun N => ∀ op m want now env sys, C_sort_Needs (K N) l op m k want now env sys = ri (needsE (varsOf l) (.mk op m (kidsOf k)) want now env sys) := by
  refine Ev.step (Ev.imp4 (Of_sp l hl k hk) (Reads_sp k hk) (needsC1 l) (needsC2 l) fun N h1 h2 h3 h4 op m want now env sys => ?_)
  rw [C_sort_Needs_K]
  refine bind_of (h1 op m) ?_
  unfold needsE
  by_cases c1 : (sortE (varsOf l) (.mk op m (kidsOf k))).2 = 0
  · rw [if_neg (by simpa using c1)]
    refine if_not (by simpa [lookR_1, int_i] using c1) ?_
    by_cases c2 : (sortE (varsOf l) (.mk op m (kidsOf k))).1 = want
    · rw [if_neg (by simpa using c2)]
      refine if_not (by simpa [lookR_0, int_i] using c2) ?_
      obtain ⟨t4, r4, i4⟩ := h2 op m true
      obtain ⟨t3, r3, i3⟩ := h2 op m false
      have b4 := sort_reads c1 (t := 4) (.inr rfl)
      have b3 := sort_reads c1 (t := 3) (.inl rfl)
      rw [varsOf_len] at b4 b3
      refine bind_of r4 (bind_of (h3 env sys t4 _ i4 (readsE_len ..) b4) ?_)
      refine if_both (fun c => ?_) fun c => ?_
      · have c : (readsE 4 (.mk op m (kidsOf k))).any (nextBad (varsOf l) env sys) = true := c
        rw [c]; rfl
      · have c : (readsE 4 (.mk op m (kidsOf k))).any (nextBad (varsOf l) env sys) = false := c
        rw [c]
        refine bind_of r3 (bind_of (h4 now t3 _ i3 (readsE_len ..) b3) ?_)
        refine if_both (fun c => ?_) fun c => ?_
        · have c : (readsE 3 (.mk op m (kidsOf k))).any (hidBad (varsOf l) now) = true := c
          rw [c]; rfl
        · have c : (readsE 3 (.mk op m (kidsOf k))).any (hidBad (varsOf l) now) = false := c
          rw [c]; rfl
    · rw [if_pos c2]
      exact if_of (by simpa [lookR_0, int_i] using c2) rfl
  · rw [if_pos c1]
    exact if_of (by simpa [lookR_1, int_i] using c1) rfl
end Go.Proofs.Ytnjandhaeojieaa
set_option linter.unusedVariables false
set_option linter.unusedSimpArgs false
namespace Go.AM
theorem needsE_of {l : List Va} {e : Ex} {want : Int} {now env sys : Bool} (h1 : (sortE l e).2 = 0) (h2 : (sortE l e).1 = want) (h3 : ∀ x ∈ readsE 4 e, nextBad l env sys x = false) (h4 : ∀ x ∈ readsE 3 e, hidBad l now x = false) : needsE l e want now env sys = 0 := by
  have z : ∀ (l : List Int) (p : Int → Bool), (∀ x ∈ l, p x = false) → l.any p = false := by
    intro l p h
    cases hc : l.any p with
    | false => rfl
    | true =>
      obtain ⟨x, hx, hp⟩ := List.any_eq_true.1 hc
      rw [h x hx] at hp
      cases hp
  unfold needsE
  rw [if_neg (by simpa using h1), if_neg (by simpa using h2), z _ _ h3, z _ _ h4]
  rfl
end Go.AM
namespace Go.Proofs.Ytnjandhaeojieaa
open Go.AM
end Go.Proofs.Ytnjandhaeojieaa
