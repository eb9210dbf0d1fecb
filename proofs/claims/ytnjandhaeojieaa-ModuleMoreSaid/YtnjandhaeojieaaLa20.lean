/- Plain laws on lists of whole numbers: sorted, compacted, each once. -/
import Derived.Lib.SlicesCompact
import Derived.Test.YtnjandhaeojieaaLa11
namespace Go.AM
theorem upTo_succ (d : Array Int) (m : Nat) : Lib.compactUpTo d (m + 1) = Lib.compactUpTo d m ++ (if Lib.keeps d m = true then [d[m]!] else []) := by
  unfold Lib.compactUpTo
  rw [List.range_succ, List.filter_append, List.map_append]
  congr 1
  by_cases h : Lib.keeps d m = true
  · simp [h]
  · simp [h]
theorem upTo_rise (d : Array Int) (hs : ∀ i j : Nat, i ≤ j → j < d.size → d[i]! ≤ d[j]!) : ∀ m, m ≤ d.size →
    (Lib.compactUpTo d m).Pairwise (· < ·) ∧ (∀ x, x ∈ Lib.compactUpTo d m ↔ ∃ j, j < m ∧ d[j]! = x)
  | 0, _ => by
    refine ⟨by simp [Lib.compactUpTo], fun x => ?_⟩
    simp [Lib.compactUpTo]
  | m + 1, hm => by
    obtain ⟨h1, h2⟩ := upTo_rise d hs m (by omega)
    rw [upTo_succ]
    by_cases hk : Lib.keeps d m = true
    · rw [if_pos hk]
      refine ⟨?_, fun x => ?_⟩
      · rw [List.pairwise_append]
        refine ⟨h1, List.pairwise_singleton _ _, fun x hx y hy => ?_⟩
        obtain rfl : y = d[m]! := by simpa using hy
        obtain ⟨j, hj, rfl⟩ := (h2 x).1 hx
        have h3 := hs j (m - 1) (by omega) (by omega)
        have h4 := hs (m - 1) m (by omega) (by omega)
        have h5 : d[m]! ≠ d[m - 1]! := by
          intro e
          have h6 := Lib.keeps_neg (d := d) (m := m) (by omega) e
          rw [hk] at h6
          cases h6
        omega
      · rw [List.mem_append, h2 x]
        constructor
        · rintro (⟨j, hj, e⟩ | hx)
          · exact ⟨j, by omega, e⟩
          · exact ⟨m, by omega, by simpa using (List.mem_singleton.1 hx).symm⟩
        · rintro ⟨j, hj, e⟩
          by_cases hjm : j = m
          · subst hjm
            exact .inr (by rw [e]; exact List.mem_singleton.2 rfl)
          · exact .inl ⟨j, by omega, e⟩
    · rw [if_neg hk, List.append_nil]
      refine ⟨h1, fun x => ?_⟩
      rw [h2 x]
      have hm0 : 0 < m := by
        rcases Nat.eq_zero_or_pos m with h0 | h0
        · exfalso
          apply hk
          exact Lib.keeps_lt_one d m (by omega)
        · exact h0
      have he : d[m]! = d[m - 1]! := by
        by_cases e : d[m]! = d[m - 1]!
        · exact e
        · exact absurd (Lib.keeps_pos (d := d) (m := m) e) hk
      constructor
      · rintro ⟨j, hj, e⟩; exact ⟨j, by omega, e⟩
      · rintro ⟨j, hj, e⟩
        by_cases hjm : j = m
        · subst hjm
          exact ⟨j - 1, by omega, by rw [← he]; exact e⟩
        · exact ⟨j, by omega, e⟩
theorem sortUp (l : List Int) : (Lib.compact (l.mergeSort fun x y => decide (x ≤ y))).Pairwise (· < ·) ∧ ∀ x, x ∈ Lib.compact (l.mergeSort fun x y => decide (x ≤ y)) ↔ x ∈ l := by
  have hp := List.mergeSort_perm l (fun x y => decide (x ≤ y))
  have hsort : (l.mergeSort fun x y => decide (x ≤ y)).Pairwise (fun x y => decide (x ≤ y) = true) := List.pairwise_mergeSort (fun a b c h1 h2 => by simp at h1 h2 ⊢; omega) (fun a b => by simp; omega) l
  generalize hz : (l.mergeSort fun x y => decide (x ≤ y)) = zs at hp hsort
  have get : ∀ j, j < zs.length → zs.toArray[j]! = zs[j]! := by intro j hj; simp [hj]
  have hs : ∀ i j : Nat, i ≤ j → j < zs.toArray.size → zs.toArray[i]! ≤ zs.toArray[j]! := by
    intro i j hij hj
    have hj : j < zs.length := by simpa using hj
    rw [get i (by omega), get j hj]
    by_cases e : i = j
    · subst e; exact Int.le_refl _
    · have := List.pairwise_iff_getElem.1 hsort i j (by omega) hj (by omega)
      rw [getElem!_pos zs i (by omega), getElem!_pos zs j hj]
      simpa using this
  obtain ⟨h1, h2⟩ := upTo_rise zs.toArray hs zs.length (by simp)
  refine ⟨h1, fun x => ?_⟩
  have h3 := h2 x
  unfold Lib.compact
  rw [h3, ← hp.mem_iff]
  constructor
  · rintro ⟨j, hj, e⟩
    rw [get j hj, getElem!_pos zs j hj] at e
    exact e ▸ List.getElem_mem hj
  · intro hx
    obtain ⟨j, hj, e⟩ := List.mem_iff_getElem.1 hx
    exact ⟨j, hj, by rw [get j hj, getElem!_pos zs j hj]; exact e⟩
end Go.AM
set_option linter.unusedVariables false
set_option linter.unusedSimpArgs false
namespace Go.AM
mutual
def rdE (t : Int) : Ex → List Int
  | .mk o n ks => (if o = t then [n] else []) ++ rdL t ks
def rdL (t : Int) : List Ex → List Int
  | [] => []
  | k :: ks => rdE t k ++ rdL t ks
end
mutual
theorem rdE_len (t : Int) : ∀ e : Ex, ((rdE t e).length : Int) ≤ cntE e
  | .mk o n ks => by
    have := rdL_len t ks
    simp only [rdE, cntE, List.length_append]
    split <;> simp <;> omega
theorem rdL_len (t : Int) : ∀ l : List Ex, ((rdL t l).length : Int) ≤ cntL l
  | [] => by simp [rdL, cntL]
  | k :: ks => by
    have h1 := rdE_len t k
    have h2 := rdL_len t ks
    simp only [rdL, cntL, List.length_append]
    omega
end
def readsE (t : Int) (e : Ex) : List Int := if mayE e ≠ 0 then [] else Lib.compact ((rdE t e).mergeSort fun x y => decide (x ≤ y))
end Go.AM
namespace Go.Proofs.Ytnjandhaeojieaa
open Go.AM
theorem intsR_len' (n : Nat) (g : Nat → Nat → T) : (intsR n g).length = n := by simp [intsR]
theorem intsR_push {n : Nat} {g g' : Nat → Nat → T} {v : Int} (h : ∀ i, i < n → (g' i 0).int = (g i 0).int) (hv : (g' n 0).int = v) : intsR (n + 1) g' = intsR n g ++ [v] := by
  unfold intsR
  rw [List.range_succ, List.map_append]
  congr 1
  · exact List.map_congr_left fun i hi => h i (List.mem_range.1 hi)
  · simp [hv]
def pushG (n : Nat) (g : Nat → Nat → T) (v : Int) : Nat → Nat → T := fun i j => (bif Nat.blt i n then (g i j) else (([[T.i v]] : List (List T)).getD (0 + (i - n)) []).getD j (.b false))
theorem intsR_pushG (n : Nat) (g : Nat → Nat → T) (v : Int) : intsR (n + 1) (pushG n g v) = intsR n g ++ [v] := by
  refine intsR_push (fun i hi => ?_) ?_
  · unfold pushG
    rw [show Nat.blt i n = true from by rw [Nat.blt_eq]; exact hi]; rfl
  · have hb : Nat.blt n n = false := by
      cases hc : Nat.blt n n with
      | false => rfl
      | true => rw [Nat.blt_eq] at hc; omega
    unfold pushG
    rw [hb, Nat.sub_self]; rfl
theorem readsB {h : H} {k : T} (hk : KW k) {t : Int} (hc : ∀ i, i < k.len → ∀ o m (n0 : Nat) g, (n0 : Int) + cntE (.mk o m (kidsOf (k.el i 2))) ≤ 100 → ∃ n' g', C_expr_Reads_1 h n0 o m (k.el i 2) t g = some (lookR [(0, .i t), (1, .l n' g')]) ∧ intsR n' g' = intsR n0 g ++ rdE t (.mk o m (kidsOf (k.el i 2)))) :
    ∀ (m i : Nat), i + m = k.len → ∀ (N n0 : Nat) g, m < N → (n0 : Int) + cntL ((kidsOf k).drop i) ≤ 100 → ∃ n' g', expr_Reads_1.B1 h N n0 k (k.len : Int) (i : Int) g t = some (lookR [(0, .i t), (1, .l n' g')]) ∧ intsR n' g' = intsR n0 g ++ rdL t ((kidsOf k).drop i)
  | 0, i, hi, N, n0, g, hN, hb => by
    obtain ⟨N, rfl⟩ : ∃ M, N = M + 1 := ⟨N - 1, by omega⟩
    rw [expr_Reads_1.B1_eq, List.drop_of_length_le (by rw [kidsOf_len]; omega)]
    exact ⟨n0, g, if_not (decide_eq_false (by omega)) rfl, by simp [rdL]⟩
  | m + 1, i, hi, N, n0, g, hN, hb => by
    obtain ⟨N, rfl⟩ : ∃ M, N = M + 1 := ⟨N - 1, by omega⟩
    have hlen := hk.len
    rw [kidsOf_from k i (by omega)] at hb ⊢
    simp only [cntL] at hb
    have x1 : Ex.mk (k.el i 0).int (k.el i 1).int (kidsOf (k.el i 2)) = exAt k i := rfl
    have hcl := cntL_nonneg ((kidsOf k).drop (i + 1))
    obtain ⟨n1, g1, e1, e2⟩ := hc i (by omega) (k.el i 0).int (k.el i 1).int n0 g (by rw [x1]; omega)
    rw [x1] at e2
    have hl1 : n1 = n0 + (rdE t (exAt k i)).length := by
      have := congrArg List.length e2
      rw [intsR_len', List.length_append, intsR_len'] at this
      exact this
    have hr := rdE_len t (exAt k i)
    obtain ⟨n2, g2, e3, e4⟩ := readsB hk hc m (i + 1) (by omega) N n1 g1 (by omega) (by omega)
    refine ⟨n2, g2, ?_, by rw [e4, e2, List.append_assoc]; rfl⟩
    rw [expr_Reads_1.B1_eq, Int.toNat_natCast, wrap_eq (a := (i : Int) + 1) (by omega) (by omega)]
    exact if_of (decide_eq_true (by omega)) (if_of (by simp; omega) (bind_of e1 e3))
theorem reads1_sp : ∀ k, KW k → ∀ t : Int, Ev fun N => ∀ o m (n0 : Nat) g, (n0 : Int) + cntE (.mk o m (kidsOf k)) ≤ 100 → ∃ n' g', C_expr_Reads_1 (K N) n0 o m k t g = some (lookR [(0, .i t), (1, .l n' g')]) ∧ intsR n' g' = intsR n0 g ++ rdE t (.mk o m (kidsOf k)) := by
  refine kids_ind fun k ih hk t => ?_
  refine Ev.step ((Ev.all (k := k.len) fun i hi => ih i hi (hk.el hi) t).imp2 (Ev.ge (k.len + 3)) fun N hc hN o m n0 g hb => ?_)
  obtain ⟨N, rfl⟩ : ∃ M, N = M + 1 := ⟨N - 1, by omega⟩
  have hcl := cntL_nonneg (kidsOf k)
  simp only [cntE] at hb
  rw [C_expr_Reads_1_K, expr_Reads_1.B0_eq, expr_Reads_1.B0_eq]
  by_cases c : o = t
  · obtain ⟨n', g', e1, e2⟩ := readsB (h := K (N + 1)) hk hc k.len 0 (by omega) N (n0 + 1) (pushG n0 g m) (by omega) (by rw [List.drop_zero]; omega)
    refine ⟨n', g', if_of (by simpa using c) (if_of (decide_eq_true (by omega)) e1), ?_⟩
    rw [e2, List.drop_zero, intsR_pushG, List.append_assoc]
    simp only [rdE, if_pos c]
  · obtain ⟨n', g', e1, e2⟩ := readsB (h := K (N + 1)) hk hc k.len 0 (by omega) N n0 g (by omega) (by rw [List.drop_zero]; omega)
    refine ⟨n', g', if_not (by simpa using c) e1, ?_⟩
    rw [e2, List.drop_zero]
    simp only [rdE, if_neg c, List.nil_append]
end Go.Proofs.Ytnjandhaeojieaa
set_option linter.unusedVariables false
set_option linter.unusedSimpArgs false
namespace Go.AM
end Go.AM
namespace Go.Proofs.Ytnjandhaeojieaa
open Go.AM
end Go.Proofs.Ytnjandhaeojieaa
set_option linter.unusedVariables false
set_option linter.unusedSimpArgs false
namespace Go.Proofs.Ytnjandhaeojieaa
open Go.AM
theorem intsR_of (l : List Int) : intsR l.length (fun i j => (ofInts l).el i j) = l := by
  unfold intsR
  apply List.ext_getElem
  · simp
  · intro i h1 h2
    have h3 : i < l.length := h2
    simp only [List.getElem_map, List.getElem_range]
    show (T.i (l.getD i 0)).int = l[i]
    rw [List.getD_eq_getElem?_getD, List.getElem?_eq_getElem h3]
    rfl
theorem sort_call (N n : Nat) (g : Nat → Nat → T) (hn : n < 4611686018427387904) : C_slices_Sort_int (K (N + 1)) n g = some (lookR [(0, ofInts ((intsR n g).mergeSort fun x y => decide (x ≤ y)))]) := by
  have e : C_slices_Sort_int (K (N + 1)) n g = sortX [.row 4000000 0 n] [(4000000, .row 3 n g)] := by kernel_rfl
  rw [e]
  unfold sortX
  have h1 : Nat.blt n 4611686018427387904 = true := by rw [Nat.blt_eq]; exact hn
  simp only [h1, Nat.beq_refl, Bool.and_self, cond_true]
theorem compact_call (N p0 p1 : Nat) (g : Nat → Nat → T) (h : p1 = p0) : C_slices_Compact_int (K (N + 1)) p0 p1 g = some (lookR [(0, ofInts (Lib.compact (intsR p0 g)))]) := by
  subst h
  have e : C_slices_Compact_int (K (N + 1)) p1 p1 g = compactX [.row 4000000 0 p1] [(4000000, .row 3 p1 g)] := by kernel_rfl
  rw [e]
  unfold compactX
  simp only [Nat.beq_refl, Bool.and_self, cond_true]
theorem clip_call (N : Nat) (x : T) : C_slices_Clip_int (K (N + 1)) x = some (lookR [(0, x)]) := by kernel_rfl
theorem Ints_of (l : List Int) : Ints (T.l (ofInts l).len fun i j => (ofInts l).el (0 + i) j) l := by
  refine ⟨rfl, fun i v hv => ?_⟩
  show (T.i (l.getD (0 + i) 0)).int = v
  rw [Nat.zero_add, List.getD_eq_getElem?_getD, hv]
  rfl
def opR (next : Bool) : Int := if next then 4 else 3
theorem Reads_sp (k : T) (hk : KW k) : Ev fun N => ∀ op n next, ∃ t, C_expr_Reads (K N) op n k next = some (lookR [(0, t)]) ∧ Ints t (readsE (opR next) (.mk op n (kidsOf k))) := by
  refine Ev.step (Ev.imp4 (May_sp k hk) (reads1_sp k hk 3) (reads1_sp k hk 4) (Ev.ge 5) fun N h1 h3 h4 hN op n next => ?_)
  obtain ⟨N, rfl⟩ : ∃ M, N = M + 1 := ⟨N - 1, by omega⟩
  rw [C_expr_Reads_K, h1, ri_bind, lookR_0, int_i]
  by_cases c : mayE (.mk op n (kidsOf k)) = 0
  · have hc := (light_iff _).1 (mayE_inv c).2
    have body : ∀ t : Int, (∀ o m (n0 : Nat) g, (n0 : Int) + cntE (.mk o m (kidsOf k)) ≤ 100 → ∃ n' g', C_expr_Reads_1 (K (N + 1)) n0 o m k t g = some (lookR [(0, .i t), (1, .l n' g')]) ∧ intsR n' g' = intsR n0 g ++ rdE t (.mk o m (kidsOf k))) →
        ∃ x, expr_Reads.B0 (K (N + 1)) (N + 1) op n k t = some (lookR [(0, x)]) ∧ Ints x (readsE t (.mk op n (kidsOf k))) := by
      intro t ht
      obtain ⟨n', g', e1, e2⟩ := ht op n 0 (fun _ _ => .b false) (by omega)
      have e2 : intsR n' g' = rdE t (.mk op n (kidsOf k)) := e2
      have hr := rdE_len t (.mk op n (kidsOf k))
      have hn' : n' = (rdE t (.mk op n (kidsOf k))).length := by have := congrArg List.length e2; rwa [intsR_len'] at this
      have e3 := sort_call N n' g' (by omega)
      rw [e2] at e3
      have hsl : ((rdE t (.mk op n (kidsOf k))).mergeSort fun x y => decide (x ≤ y)).length = n' := by rw [List.length_mergeSort, hn']
      have e4 := compact_call N ((rdE t (.mk op n (kidsOf k))).mergeSort fun x y => decide (x ≤ y)).length n' (fun i j => (ofInts ((rdE t (.mk op n (kidsOf k))).mergeSort fun x y => decide (x ≤ y))).el i j) hsl.symm
      rw [intsR_of] at e4
      refine ⟨T.l (ofInts (Lib.compact ((rdE t (.mk op n (kidsOf k))).mergeSort fun x y => decide (x ≤ y)))).len fun i j => (ofInts (Lib.compact ((rdE t (.mk op n (kidsOf k))).mergeSort fun x y => decide (x ≤ y)))).el (0 + i) j, ?_, ?_⟩
      · rw [expr_Reads.B0_eq]
        exact bind_of e1 (bind_of e3 (bind_of e4 (bind_of (clip_call N _) rfl)))
      · unfold readsE
        rw [if_neg (by simpa using c)]
        exact Ints_of _
    cases next with
    | true =>
      obtain ⟨x, e1, e2⟩ := body 4 h4
      exact ⟨x, if_not (by simpa using c) (if_of rfl e1), e2⟩
    | false =>
      obtain ⟨x, e1, e2⟩ := body 3 h3
      exact ⟨x, if_not (by simpa using c) (if_not rfl e1), e2⟩
  · refine ⟨noT, if_of (by simpa using c) rfl, ?_⟩
    unfold readsE
    rw [if_pos c]
    exact ⟨rfl, fun i v hv => by simp at hv⟩
end Go.Proofs.Ytnjandhaeojieaa
set_option linter.unusedVariables false
set_option linter.unusedSimpArgs false
namespace Go.Proofs.Ytnjandhaeojieaa
open Go.AM
end Go.Proofs.Ytnjandhaeojieaa
set_option linter.unusedVariables false
set_option linter.unusedSimpArgs false
namespace Go.Proofs.Ytnjandhaeojieaa
open Go.AM
theorem Ints_intsR {n : Nat} {g : Nat → Nat → T} {l : List Int} (h : intsR n g = l) : Ints (T.l n g) l := by
  subst h
  refine ⟨(intsR_len' n g).symm, fun i v hv => ?_⟩
  have hi : i < n := by
    have := (List.getElem?_eq_some_iff.1 hv).1
    rwa [intsR_len'] at this
  have h2 : (intsR n g)[i]? = some (g i 0).int := by simp [intsR, hi]
  rw [h2] at hv
  exact Option.some.inj hv
theorem readsE_len (t : Int) (e : Ex) : (readsE t e).length ≤ 60 := by
  unfold readsE
  split
  · exact Nat.zero_le _
  · rename_i c
    have c : mayE e = 0 := by simpa using c
    have h1 := compact_len ((rdE t e).mergeSort fun x y => decide (x ≤ y))
    rw [List.length_mergeSort] at h1
    have h2 := rdE_len t e
    have h3 := ((light_iff e).1 (mayE_inv c).2).2
    omega
end Go.Proofs.Ytnjandhaeojieaa
set_option linter.unusedVariables false
set_option linter.unusedSimpArgs false
namespace Go.AM
end Go.AM
namespace Go.Proofs.Ytnjandhaeojieaa
open Go.AM
end Go.Proofs.Ytnjandhaeojieaa
set_option linter.unusedVariables false
set_option linter.unusedSimpArgs false
namespace Go.Proofs.Ytnjandhaeojieaa
open Go.AM
end Go.Proofs.Ytnjandhaeojieaa
