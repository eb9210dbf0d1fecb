/- machine.Trim: what it answers. -/
import Derived.Test.YtljfhfgbpcaadaaDoorTr2
import Derived.Test.YtljfhfgbpcaadaaDoorMp1
set_option linter.unusedVariables false
set_option linter.unusedSimpArgs false
namespace Go.AM
open Go.Proofs.YtljfhfgbpcaadaaDoor
theorem rwsOf_push (n : Nat) (g : Nat → Nat → T) (a b c d : Int) : rwsOf (T.l (n + 1) (fun i j => (bif Nat.blt i n then (g i j) else ((([[(T.i a), (T.i b), (T.i c), (T.i d)]] : List (List T)).getD (0 + (i - n)) []).getD j (.b false))))) = rwsOf (T.l n g) ++ [⟨a, b, c, d⟩] := by
  unfold rwsOf
  rw [len_l, len_l, List.range_succ, List.map_append]
  congr 1
  · refine List.map_congr_left fun i hi => ?_
    have hi := List.mem_range.1 hi
    have e : Nat.blt i n = true := by rw [Nat.blt_eq]; exact hi
    unfold rwAt
    simp only [el_l, e, cond_true]
  · have e : Nat.blt n n = false := by cases hb : Nat.blt n n with | false => rfl | true => rw [Nat.blt_eq] at hb; omega
    unfold rwAt
    simp only [List.map_cons, List.map_nil, el_l, e, cond_false, Nat.sub_self]
    rfl
theorem rwsOf_shift (x : T) : rwsOf (T.l x.len fun i j => x.el (0 + i) j) = rwsOf x := by
  unfold rwsOf
  rw [len_l]
  refine List.map_congr_left fun i hi => ?_
  unfold rwAt
  simp only [el_l, Nat.zero_add]
theorem rws_from (x : T) {i : Nat} (h : i < x.len) : (rwsOf x).drop i = rwAt x i :: (rwsOf x).drop (i + 1) := by
  have h1 : i < (rwsOf x).length := by rw [rws_len]; exact h
  rw [List.drop_eq_getElem_cons h1, rws_get]
theorem mid_eq2 {i j : Nat} (hi : i ≤ 1000000) (hj : j ≤ 1000000) : IntKind.wrap .i64 (shrOf .u64 (IntKind.wrap .u64 (IntKind.wrap .i64 ((i : Int) + (j : Int)))) 1) = (((i + j) / 2 : Nat) : Int) := by
  rw [wrap_eq (a := (i : Int) + j) (by omega) (by omega), wrapU_eq (by omega) (by omega)]
  have e : shrOf .u64 ((i : Int) + (j : Int)) 1 = (((i + j) / 2 : Nat) : Int) := by
    unfold shrOf
    rw [show (2 : Int) ^ (min (1 : Int).toNat IntKind.u64.bits) = 2 by rfl, Int.fdiv_eq_ediv_of_nonneg _ (by omega)]
    omega
  rw [e, wrap_eq (by omega) (by omega)]
theorem anew_cut {Z : List Int} {x : Int} {q : Nat} (h1 : ∀ i (hi : i < Z.length), i < q → Z[i] < x) (h2 : ∀ i (hi : i < Z.length), q ≤ i → ¬ Z[i] < x) (hq : q ≤ Z.length) : anew Z x = (q : Int) := by
  unfold anew
  have e : Z.filter (fun z => decide (z < x)) = Z.take q := by
    rw [← List.take_append_drop q Z, List.filter_append]
    have a : (Z.take q).filter (fun z => decide (z < x)) = Z.take q := by
      rw [List.filter_eq_self]
      intro z hz
      obtain ⟨i, hi, rfl⟩ := List.mem_iff_getElem.1 hz
      rw [List.length_take] at hi
      rw [List.getElem_take]
      exact decide_eq_true (h1 i (by omega) (by omega))
    have b : (Z.drop q).filter (fun z => decide (z < x)) = [] := by
      rw [List.filter_eq_nil_iff]
      intro z hz
      obtain ⟨i, hi, rfl⟩ := List.mem_iff_getElem.1 hz
      rw [List.length_drop] at hi
      rw [List.getElem_drop]
      simpa using h2 (q + i) (by omega) (by omega)
    rw [a, b, List.append_nil, List.take_append_drop]
  rw [e, List.length_take]
  omega
theorem sorted_le {S : List Int} : (S.mergeSort fun x y => decide (x ≤ y)).Pairwise (· ≤ ·) := by
  have := List.pairwise_mergeSort (le := fun x y : Int => decide (x ≤ y)) (fun a b c h1 h2 => by simp at *; omega) (fun a b => by simp; omega) S
  exact this.imp fun h => by simpa using h
structure Met (B R : List Rw) (S : List Int) : Prop where
  nd : S.Nodup
  least : ∀ Q : Int → Prop, (∀ r ∈ B, Q r.t) → (∀ r ∈ R, Q r.s → Q r.t) → ∀ s ∈ S, Q s
theorem Met.nil (B R : List Rw) : Met B R [] := ⟨List.nodup_nil, fun Q _ _ s hs => absurd hs List.not_mem_nil⟩
theorem Met.size {B R : List Rw} {S : List Int} (h : Met B R S) : S.length ≤ B.length + R.length := by
  have := nodup_sub (L := B.map Rw.t ++ R.map Rw.t) h.nd (h.least _ (fun r hr => List.mem_append.2 (.inl (List.mem_map.2 ⟨r, hr, rfl⟩))) (fun r hr _ => List.mem_append.2 (.inr (List.mem_map.2 ⟨r, hr, rfl⟩))))
  simpa using this
def meetS (S : List Int) (t : Int) : List Int := if t ∈ S then S else S ++ [t]
theorem meet_mem (S : List Int) (t : Int) : t ∈ meetS S t := by
  unfold meetS
  split
  · assumption
  · simp
theorem meet_sub (S : List Int) (t : Int) : ∃ e, meetS S t = S ++ e := by
  unfold meetS
  split
  · exact ⟨[], by simp⟩
  · exact ⟨[t], rfl⟩
theorem Met.meet {B R : List Rw} {S : List Int} (h : Met B R S) {r : Rw} (hr : r ∈ B ∨ r ∈ R ∧ r.s ∈ S) : Met B R (meetS S r.t) := by
  unfold meetS
  by_cases c : r.t ∈ S
  · rw [if_pos c]; exact h
  · rw [if_neg c]
    refine ⟨?_, fun Q h1 h2 s hs => ?_⟩
    · rw [List.nodup_append]
      exact ⟨h.nd, by simp, fun a ha b hb => by rw [List.mem_singleton.1 hb]; rintro rfl; exact c ha⟩
    · rcases List.mem_append.1 hs with hs | hs
      · exact h.least Q h1 h2 s hs
      · rw [List.mem_singleton.1 hs]
        rcases hr with hr | ⟨hr, hq⟩
        · exact h1 r hr
        · exact h2 r hr (h.least Q h1 h2 _ hq)
end Go.AM
namespace Go.Proofs.YtljfhfgbpcaadaaDoor
open Go.AM
theorem less_sp (N : Nat) (a b : Int) : C_cmp_Less_int (K (N + 2)) a b = rb (decide (a < b)) := by
  rw [C_cmp_Less_int_K]
  refine bind_of (C_cmp_isNaN_int_K N a) (if_not (by show (a != a) = false; simp) rfl)
theorem bsInt_sp : Ev fun N => ∀ (zt : T) (Z : List Int) x, Ints zt Z → Z.length ≤ 100000 → Z.Pairwise (· ≤ ·) → ∃ b, C_slices_BinarySearch_int (K N) zt x = some (lookR [(0, T.i (anew Z x)), (1, T.b b)]) := by
  refine Ev.step ((Ev.ge 200000).imp fun N hN zt Z x hz hl hs => ?_)
  obtain ⟨N, rfl⟩ : ∃ M, N = M + 2 := ⟨N - 2, by omega⟩
  have hzl := hz.1
  have hget : ∀ i (hi : i < Z.length), (zt.el i 0).int = Z[i] := fun i hi => hz.2 i _ (List.getElem?_eq_getElem hi)
  have mono : ∀ h h', h ≤ h' → h' < Z.length → (zt.el h' 0).int - x < 0 → (zt.el h 0).int - x < 0 := by
    intro h h' hh hn e
    rw [hget h' hn] at e
    rw [hget h (by omega)]
    rcases Nat.lt_or_eq_of_le hh with c | rfl
    · have := List.pairwise_iff_getElem.1 hs h h' (by omega) hn c
      omega
    · exact e
  obtain ⟨l1, l2⟩ := bsF_lb (c := fun h => (zt.el h 0).int - x) (n := Z.length) mono (Z.length + 1) 0 Z.length (Nat.zero_le _) (Nat.le_refl _) (by omega) (fun h hh => absurd hh (Nat.not_lt_zero _)) (fun h hh hn => by omega)
  have lq := bsF_le (fun h => (zt.el h 0).int - x) (Z.length + 1) 0 Z.length (Nat.zero_le _)
  have ha : anew Z x = (bsF (fun h => (zt.el h 0).int - x) (Z.length + 1) 0 Z.length : Int) := anew_cut (fun i hi hq => by have u : (zt.el i 0).int - x < 0 := l1 i hq; rw [hget i hi] at u; omega) (fun i hi hq => by have u : ¬ (zt.el i 0).int - x < 0 := l2 i hq hi; rw [hget i hi] at u; omega) lq
  have key : ∀ f i j, i ≤ j → j ≤ Z.length → j - i < f → ∀ L, f ≤ L → ∃ b, slices_BinarySearch_int.B0 (K (N + 2)) L zt x (zt.len : Int) (i : Int) (j : Int) = some (lookR [(0, T.i (bsF (fun h => (zt.el h 0).int - x) f i j : Nat)), (1, T.b b)]) := by
    intro f
    induction f with
    | zero => intro i j _ _ h; omega
    | succ f ih =>
      intro i j hij hj hf L hL
      obtain ⟨L, rfl⟩ : ∃ M, L = M + 1 := ⟨L - 1, by omega⟩
      rw [slices_BinarySearch_int.B0_eq]
      unfold bsF
      by_cases c : i < j
      · rw [if_pos c, mid_eq2 (by omega) (by omega), Int.toNat_natCast]
        by_cases d : (zt.el ((i + j) / 2) 0).int - x < 0
        · obtain ⟨b, hb⟩ := ih ((i + j) / 2 + 1) j (by omega) hj (by omega) L (by omega)
          rw [if_pos d, wrap_eq (a := (((i + j) / 2 : Nat) : Int) + 1) (by omega) (by omega)]
          exact ⟨b, if_of (decide_eq_true (by omega)) (if_of (by simp; omega) (bind_of (less_sp N _ _) (if_of (decide_eq_true (by omega)) hb)))⟩
        · obtain ⟨b, hb⟩ := ih i ((i + j) / 2) (by omega) (by omega) (by omega) L (by omega)
          rw [if_neg d]
          exact ⟨b, if_of (decide_eq_true (by omega)) (if_of (by simp; omega) (bind_of (less_sp N _ _) (if_not (decide_eq_false (by omega)) hb)))⟩
      · rw [if_neg c, Int.toNat_natCast]
        by_cases d : i < Z.length
        · by_cases e : (zt.el i 0).int = x
          · exact ⟨_, if_not (decide_eq_false (by omega)) (if_of (decide_eq_true (by omega)) (if_of (by simp; omega) (if_of (by simpa using e) rfl)))⟩
          · exact ⟨_, if_not (decide_eq_false (by omega)) (if_of (decide_eq_true (by omega)) (if_of (by simp; omega) (if_not (by simpa using e) (if_of (by simp; omega) (bind_of (C_slices_isNaN_int_K (N + 1) _) (if_not (by show ((zt.el i 0).int != (zt.el i 0).int) = false; simp) rfl))))))⟩
        · exact ⟨_, if_not (decide_eq_false (by omega)) (if_not (decide_eq_false (by omega)) rfl)⟩
  obtain ⟨b, hb⟩ := key (Z.length + 1) 0 Z.length (Nat.zero_le _) (Nat.le_refl _) (by omega) (N + 2) (by omega)
  rw [C_slices_BinarySearch_int_K, ha]
  refine ⟨b, ?_⟩
  rw [hzl] at hb ⊢
  exact hb
theorem anew_sp : Ev fun N => ∀ (c : Nat → T) (Z S : List Int) x, Ints (c 0) Z → Z.length ≤ 100000 → Z.Pairwise (· ≤ ·) → Z.Perm S → C_machine_Trim_2 (K N) x c = ri (anew S x) := by
  refine Ev.step (bsInt_sp.imp fun N h c Z S x hz hl hs hp => ?_)
  obtain ⟨b, hb⟩ := h (c 0) Z x hz hl hs
  rw [C_machine_Trim_2_K]
  rw [anew_perm hp] at hb
  exact bind_of hb rfl
theorem meet_sp (N n : Nat) (s i o t : Int) (g : Nat → Nat → T) (x : T) {S : List Int} (hx : IS x S) (hg : Ints (T.l n g) S) (hl : S.length ≤ 1000000) :
    ∃ n' g' x', C_machine_Trim_1 (K (N + 1)) n s i o t g x = some (lookR [(0, T.l n' g'), (1, x')]) ∧ IS x' (meetS S t) ∧ Ints (T.l n' g') (meetS S t) := by
  have hn : n = S.length := hg.1
  have e := hx.get (b := t)
  rw [C_machine_Trim_1_K]
  unfold meetS
  by_cases c : t ∈ S
  · rw [if_pos c] at e
    rw [if_pos c]
    exact ⟨n, g, x, if_not (by rw [e]; rfl) rfl, hx, hg⟩
  · rw [if_neg c] at e
    rw [if_neg c]
    have e2 := hx.set (b := t)
    rw [if_neg c] at e2
    exact ⟨_, _, _, if_of (by rw [e]; rfl) (if_of (decide_eq_true (by omega)) rfl), e2, Ints_push hg t⟩
theorem sort_call (N n : Nat) (g : Nat → Nat → T) (hn : n < 4611686018427387904) : C_slices_Sort_int_v1 (K (N + 1)) n g = some (lookR [(0, ofInts ((intsR n g).mergeSort fun x y => decide (x ≤ y)))]) := by
  have e : C_slices_Sort_int_v1 (K (N + 1)) n g = sortX [.row 4000000 0 n] [(4000000, .row 3 n g)] := by kernel_rfl
  rw [e]
  unfold sortX
  refine if_of ?_ rfl
  simp [Nat.beq_refl, hn, Nat.blt_eq]
section
variable {h : H} {b r : T} {w z : Int} {P : Option R → Prop}
theorem tB0 (hm : ∀ n s i o t g x S, IS x S → Ints (T.l n g) S → S.length ≤ 1000000 → ∃ n' g' x', C_machine_Trim_1 h n s i o t g x = some (lookR [(0, T.l n' g'), (1, x')]) ∧ IS x' (meetS S t) ∧ Ints (T.l n' g') (meetS S t)) (hb : b.len ≤ 512) (hr : r.len ≤ 12000) {c : Nat}
    (hk : ∀ M n g x S, c ≤ M → IS x S → Ints (T.l n g) S → Met (rwsOf b) (rwsOf r) S → (∀ q ∈ rwsOf b, q.t ∈ S) → P (machine_Trim.B1 h M n 0 w b r z g x)) :
    ∀ (m i : Nat), i + m = b.len → ∀ M n g x S, c + m < M → IS x S → Ints (T.l n g) S → Met (rwsOf b) (rwsOf r) S → (∀ j, j < i → (rwAt b j).t ∈ S) → P (machine_Trim.B0 h M n b (b.len : Int) (i : Int) w b r z g x)
  | 0, i, hi, M, n, g, x, S, hM, hx, hg, hS, hd => by
    obtain ⟨M, rfl⟩ : ∃ M', M = M' + 1 := ⟨M - 1, by omega⟩
    have := hk M n g x S (by omega) hx hg hS (fun q hq => by
      obtain ⟨j, hj, rfl⟩ := rws_mem.1 hq
      exact hd j (by omega))
    rw [machine_Trim.B0_eq, show decide ((i : Int) < (b.len : Int)) = false from decide_eq_false (by omega), cond_false]
    exact this
  | m + 1, i, hi, M, n, g, x, S, hM, hx, hg, hS, hd => by
    obtain ⟨M, rfl⟩ : ∃ M', M = M' + 1 := ⟨M - 1, by omega⟩
    have hsz := hS.size
    rw [rws_len, rws_len] at hsz
    obtain ⟨n', g', x', e, e1, e2⟩ := hm n (b.el i 0).int (b.el i 1).int (b.el i 2).int (b.el i 3).int g x S hx hg (by omega)
    have hS' : Met (rwsOf b) (rwsOf r) (meetS S (b.el i 3).int) := hS.meet (r := rwAt b i) (.inl (rws_mem.2 ⟨i, by omega, rfl⟩))
    obtain ⟨ex, hex⟩ := meet_sub S (b.el i 3).int
    have ih := tB0 hm hb hr hk m (i + 1) (by omega) M n' g' x' _ (by omega) e1 e2 hS' (fun j hj => by
      by_cases cj : j = i
      · subst cj; exact meet_mem _ _
      · rw [hex]; exact List.mem_append.2 (.inl (hd j (by omega))))
    rw [machine_Trim.B0_eq, Int.toNat_natCast, wrap_eq (a := (i : Int) + 1) (by omega) (by omega), show (decide ((0 : Int) ≤ (i : Int)) && decide ((i : Int) < (b.len : Int))) = true by simp; omega, show decide ((i : Int) < (b.len : Int)) = true from decide_eq_true (by omega), cond_true, cond_true, e]
    exact ih
theorem tB2 (hm : ∀ n s i o t g x S, IS x S → Ints (T.l n g) S → S.length ≤ 1000000 → ∃ n' g' x', C_machine_Trim_1 h n s i o t g x = some (lookR [(0, T.l n' g'), (1, x')]) ∧ IS x' (meetS S t) ∧ Ints (T.l n' g') (meetS S t)) (hb : b.len ≤ 512) (hr : r.len ≤ 12000) {c i L : Nat} {s : Int} (hL : L ≤ r.len)
    (hord : (rwsOf r).Pairwise ltR) (hlo : ∀ j, j < L → (rwAt r j).s ≠ s) (hhi : ∀ j, L ≤ j → j < r.len → s ≤ (rwAt r j).s)
    (hk : ∀ M n g x S, c ≤ M → IS x S → Ints (T.l n g) S → Met (rwsOf b) (rwsOf r) S → (∀ q ∈ rwsOf b, q.t ∈ S) → i < S.length → S[i]? = some s → (∀ q ∈ rwsOf r, q.s ∈ S.take (i + 1) → q.t ∈ S) → P (machine_Trim.B6 h M n (i : Int) w b r z g x)) :
    ∀ (m a : Nat), a + m = r.len → ∀ M n g x S, c + m < M → L ≤ a → IS x S → Ints (T.l n g) S → Met (rwsOf b) (rwsOf r) S → (∀ q ∈ rwsOf b, q.t ∈ S) → S[i]? = some s → (∀ q ∈ rwsOf r, q.s ∈ S.take i → q.t ∈ S) → (∀ j, L ≤ j → j < a → (rwAt r j).s = s ∧ (rwAt r j).t ∈ S) →
      P (machine_Trim.B2 h M n (i : Int) (a : Int) w b r z g x) := by
  have stop : ∀ (M n : Nat) (g : Nat → Nat → T) (x : T) (S : List Int) (a : Nat), c ≤ M → L ≤ a → a ≤ r.len → IS x S → Ints (T.l n g) S → Met (rwsOf b) (rwsOf r) S → (∀ q ∈ rwsOf b, q.t ∈ S) → S[i]? = some s → (∀ q ∈ rwsOf r, q.s ∈ S.take i → q.t ∈ S) → (∀ j, L ≤ j → j < a → (rwAt r j).s = s ∧ (rwAt r j).t ∈ S) → (∀ j, a ≤ j → j < r.len → (rwAt r j).s ≠ s) → P (machine_Trim.B6 h M n (i : Int) w b r z g x) := by
    intro M n g x S a hM hLa ha hx hg hS hbeg hi hd hsc hne
    obtain ⟨hil, his⟩ := List.getElem?_eq_some_iff.1 hi
    refine hk M n g x S hM hx hg hS hbeg hil hi (fun q hq hqs => ?_)
    rw [List.take_succ_eq_append_getElem hil, List.mem_append] at hqs
    rcases hqs with hqs | hqs
    · exact hd q hq hqs
    · rw [List.mem_singleton, his] at hqs
      obtain ⟨j, hj, rfl⟩ := rws_mem.1 hq
      by_cases c1 : j < L
      · exact absurd hqs (hlo j c1)
      · by_cases c2 : j < a
        · exact (hsc j (by omega) c2).2
        · exact absurd hqs (hne j (by omega) hj)
  intro m
  induction m with
  | zero =>
    intro a ha M n g x S hM hLa hx hg hS hbeg hi hd hsc
    obtain ⟨M, rfl⟩ : ∃ M', M = M' + 1 := ⟨M - 1, by omega⟩
    rw [machine_Trim.B2_eq, show decide ((a : Int) < ((r.len : Nat) : Int)) = false from decide_eq_false (by omega), cond_false]
    exact stop M n g x S a (by omega) hLa (by omega) hx hg hS hbeg hi hd hsc (fun j h1 h2 => by omega)
  | succ m ih =>
    intro a ha M n g x S hM hLa hx hg hS hbeg hi hd hsc
    obtain ⟨M, rfl⟩ : ∃ M', M = M' + 1 := ⟨M - 1, by omega⟩
    have hn : n = S.length := hg.1
    obtain ⟨hil, his⟩ := List.getElem?_eq_some_iff.1 hi
    have hgi : (g (0 + i) 0).int = s := by rw [Nat.zero_add]; exact hg.2 i _ hi
    rw [machine_Trim.B2_eq, Int.toNat_natCast, Int.toNat_natCast, hgi, show (decide ((0 : Int) ≤ (a : Int)) && decide ((a : Int) < ((r.len : Nat) : Int))) = true by simp; omega, show decide ((a : Int) < ((r.len : Nat) : Int)) = true from decide_eq_true (by omega), cond_true, cond_true, show (decide ((0 : Int) ≤ (i : Int)) && decide ((i : Int) < ((n : Nat) : Int))) = true by simp; omega, cond_true, show decide ((0 + i) < n) = true from decide_eq_true (by omega), cond_true]
    by_cases ce : (rwAt r a).s = s
    · have hsz := hS.size
      rw [rws_len, rws_len] at hsz
      obtain ⟨n', g', x', e, e1, e2⟩ := hm n (r.el a 0).int (r.el a 1).int (r.el a 2).int (r.el a 3).int g x S hx hg (by omega)
      have hS' : Met (rwsOf b) (rwsOf r) (meetS S (r.el a 3).int) := hS.meet (r := rwAt r a) (.inr ⟨rws_mem.2 ⟨a, by omega, rfl⟩, by rw [ce]; exact List.mem_of_getElem? hi⟩)
      obtain ⟨ex, hex⟩ := meet_sub S (r.el a 3).int
      have mem' : ∀ y, y ∈ S → y ∈ meetS S (r.el a 3).int := fun y hy => by rw [hex]; exact List.mem_append.2 (.inl hy)
      have tk : (meetS S (r.el a 3).int).take i = S.take i := by rw [hex, List.take_append_of_le_length (by omega)]
      have := ih (a + 1) (by omega) M n' g' x' _ (by omega) (by omega) e1 e2 hS' (fun q hq => mem' _ (hbeg q hq)) (by rw [hex, List.getElem?_append_left hil]; exact hi) (fun q hq hqs => mem' _ (hd q hq (by rw [tk] at hqs; exact hqs))) (fun j h1 h2 => by
        by_cases cj : j = a
        · subst cj; exact ⟨ce, meet_mem _ _⟩
        · obtain ⟨u1, u2⟩ := hsc j h1 (by omega)
          exact ⟨u1, mem' _ u2⟩)
      have ce' : ((r.el a 0).int == s) = true := beq_iff_eq.2 ce
      rw [ce', cond_true, cond_true, e, wrap_eq (a := (a : Int) + 1) (by omega) (by omega)]
      exact this
    · have ce' : ((r.el a 0).int == s) = false := beq_eq_false_iff_ne.2 ce
      rw [ce', cond_false]
      refine stop M n g x S a (by omega) hLa (by omega) hx hg hS hbeg hi hd hsc (fun j h1 h2 hj => ?_)
      rcases Nat.lt_or_eq_of_le h1 with c1 | rfl
      · have u1 := ltR_of hord c1 h2
        have u2 := hhi a hLa (by omega)
        unfold ltR at u1
        omega
      · exact ce hj
theorem tB1 (hm : ∀ n s i o t g x S, IS x S → Ints (T.l n g) S → S.length ≤ 1000000 → ∃ n' g' x', C_machine_Trim_1 h n s i o t g x = some (lookR [(0, T.l n' g'), (1, x')]) ∧ IS x' (meetS S t) ∧ Ints (T.l n' g') (meetS S t)) (hb : b.len ≤ 512) (hr : r.len ≤ 12000) (okr : okR false (rwsOf r))
    (hbs : ∀ s x, C_slices_BinarySearchFunc_Row_by_machine_order h r s x 0 0 = some (lookR [(0, T.i (bsM r s x)), (1, T.b (decide (bsM r s x < r.len) && (ordAt r s x (bsM r s x) == 0)))])) {c C1 C2 : Nat} (h1 : C1 = 12513) (h2 : C2 = 12010)
    (hk : ∀ M n g x S, c ≤ M → IS x S → Ints (T.l n g) S → ReachS (rwsOf b) (rwsOf r) S → S.length ≤ 12512 → P ((C_slices_Sort_int_v1 h n g).bind fun r836 => machine_Trim.B3 h M ((r836 0).len) 0 b ((b.len : Nat) : Int) (0 : Int) w b r z n (fun i837 j838 => ((r836 0).el i837 j838)) w (fun _ _ => .b false) x)) :
    ∀ (k i : Nat), i + k = C1 → ∀ M n g x S, c + k * C2 < M → IS x S → Ints (T.l n g) S → Met (rwsOf b) (rwsOf r) S → (∀ q ∈ rwsOf b, q.t ∈ S) → i ≤ S.length → (∀ q ∈ rwsOf r, q.s ∈ S.take i → q.t ∈ S) → P (machine_Trim.B1 h M n (i : Int) w b r z g x)
  | 0, i, hi, M, n, g, x, S, hM, hx, hg, hS, hbeg, hiS, hd => by
    have hsz := hS.size
    rw [rws_len, rws_len] at hsz
    omega
  | k + 1, i, hi, M, n, g, x, S, hM, hx, hg, hS, hbeg, hiS, hd => by
    obtain ⟨M, rfl⟩ : ∃ M', M = M' + 1 := ⟨M - 1, by omega⟩
    have hn : n = S.length := hg.1
    have hsz := hS.size
    rw [rws_len, rws_len] at hsz
    rw [machine_Trim.B1_eq, Int.toNat_natCast]
    by_cases ci : i < S.length
    · have hsi : S[i]? = some S[i] := List.getElem?_eq_getElem ci
      have hgi : (g (0 + i) 0).int = S[i] := by rw [Nat.zero_add]; exact hg.2 i _ hsi
      obtain ⟨l1, l2⟩ := bsM_lb okr.ord S[i] (-1)
      have hL : bsM r S[i] (-1) ≤ r.len := bsF_le _ _ _ _ (Nat.zero_le _)
      have num : ∀ j, j < r.len → 0 ≤ (rwAt r j).i := fun j hj => by
        have := (okr.num _ (rws_mem.2 ⟨j, hj, rfl⟩)).2.1
        unfold numOk at this
        simp only [Bool.and_eq_true, decide_eq_true_eq] at this
        exact this.1
      have := tB2 (w := w) (z := z) (P := P) (c := c + k * C2 + 2) (i := i) (L := bsM r S[i] (-1)) (s := S[i]) hm hb hr hL okr.ord (fun j hj => by
          have u := ordAt_neg.1 (l1 j hj)
          have v := num j (by omega)
          omega) (fun j h1 h2 => by
          have u := l2 j h1 h2
          rw [ordAt_neg] at u
          omega)
        (fun M' n' g' x' S' hM' hx' hg' hS' hbeg' hil' hi' hd' => by
          obtain ⟨M', rfl⟩ : ∃ M2, M' = M2 + 1 := ⟨M' - 1, by omega⟩
          rw [machine_Trim.B6_eq, wrap_eq (a := (i : Int) + 1) (by omega) (by omega)]
          exact tB1 hm hb hr okr hbs h1 h2 hk k (i + 1) (by omega) M' n' g' x' S' (by omega) hx' hg' hS' hbeg' (by omega) hd')
        (r.len - bsM r S[i] (-1)) (bsM r S[i] (-1)) (by omega) M n g x S (by have u : (k + 1) * C2 = k * C2 + C2 := Nat.succ_mul k C2; omega) (Nat.le_refl _) hx hg hS hbeg hsi hd (fun j h1 h2 => by omega)
      rw [hgi, show (decide ((0 : Int) ≤ (i : Int)) && decide ((i : Int) < ((n : Nat) : Int))) = true by simp; omega, show decide ((i : Int) < ((n : Nat) : Int)) = true from decide_eq_true (by omega), cond_true, cond_true, show decide ((0 + i) < n) = true from decide_eq_true (by omega), cond_true, hbs]
      exact this
    · have hre : ReachS (rwsOf b) (rwsOf r) S := ⟨hS.nd, hbeg, fun q hq hqs => hd q hq (by rw [List.take_of_length_le (by omega)]; exact hqs), hS.least⟩
      rw [show decide ((i : Int) < ((n : Nat) : Int)) = false from decide_eq_false (by omega), cond_false]
      exact hk M n g x S (by omega) hx hg hre (by omega)
end
end Go.Proofs.YtljfhfgbpcaadaaDoor
