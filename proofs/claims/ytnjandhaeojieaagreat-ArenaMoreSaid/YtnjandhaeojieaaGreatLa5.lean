/- The laws' own small values, and what every program must know. -/
import Derived.Test.YtnjandhaeojieaaGreatSp7
import Derived.Test.YtnjandhaeojieaaGreatTop0
set_option linter.unusedVariables false
set_option linter.unusedSimpArgs false
namespace Go.Proofs.YtnjandhaeojieaaGreat
open Go.AM
theorem bind_of {α β : Type} {x : Option α} {r : α} {f : α → Option β} {y : Option β} (h : x = some r) (k : f r = y) : x.bind f = y := by rw [h]; exact k
theorem if_of {α : Type} {c : Bool} {x y z : α} (h : c = true) (k : x = z) : (bif c then x else y) = z := by rw [h]; exact k
theorem if_not {α : Type} {c : Bool} {x y z : α} (h : c = false) (k : y = z) : (bif c then x else y) = z := by rw [h]; exact k
theorem KW_noT : KW noT := ⟨by omega, fun i hi => absurd hi (Nat.not_lt_zero _)⟩
def xyV : List Va := [⟨⟨#[120]⟩, true, 1, 0, 0⟩, ⟨⟨#[121]⟩, false, 2, 1, 3⟩]
theorem v1 : valueE xyV (.mk 12 0 [.mk 1 2 [], .mk 3 1 []]) 5 0 = (5, 0) := by decide +kernel
theorem v2 : valueE xyV (.mk 12 0 [.mk 1 1000 [], .mk 1 1 []]) 0 0 = (0, 6) := by decide +kernel
end Go.Proofs.YtnjandhaeojieaaGreat
set_option linter.unusedVariables false
set_option linter.unusedSimpArgs false
namespace Go.Proofs.YtnjandhaeojieaaGreat
open Go.AM
end Go.Proofs.YtnjandhaeojieaaGreat
set_option linter.unusedVariables false
set_option linter.unusedSimpArgs false
namespace Go.Proofs.YtnjandhaeojieaaGreat
open Go.AM
theorem refWord {h : H} {N : Nat} {s a0 a1 a2 a3 a4 a5 a6 a7 a8 a9 b0 b1 b2 b3 b4 b5 b6 b7 : ByteArray} : ∀ i : Nat, i < 18 →
    parryref1_Name.B2 h (N + 2) s a0 a1 a2 a3 a4 a5 a6 a7 a8 a9 b0 b1 b2 b3 b4 b5 b6 b7 (i : Int) = bif strEq s ([a0, a1, a2, a3, a4, a5, a6, a7, a8, a9, b0, b1, b2, b3, b4, b5, b6, b7].getD i ByteArray.empty) then some (lookR [(0, .b false)]) else parryref1_Name.B2 h N s a0 a1 a2 a3 a4 a5 a6 a7 a8 a9 b0 b1 b2 b3 b4 b5 b6 b7 ((i + 1 : Nat) : Int)
  | 0, _ => by rw [parryref1_Name.B2_eq, parryref1_Name.B3_eq]; rfl
  | 1, _ => by rw [parryref1_Name.B2_eq, parryref1_Name.B3_eq]; rfl
  | 2, _ => by rw [parryref1_Name.B2_eq, parryref1_Name.B3_eq]; rfl
  | 3, _ => by rw [parryref1_Name.B2_eq, parryref1_Name.B3_eq]; rfl
  | 4, _ => by rw [parryref1_Name.B2_eq, parryref1_Name.B3_eq]; rfl
  | 5, _ => by rw [parryref1_Name.B2_eq, parryref1_Name.B3_eq]; rfl
  | 6, _ => by rw [parryref1_Name.B2_eq, parryref1_Name.B3_eq]; rfl
  | 7, _ => by rw [parryref1_Name.B2_eq, parryref1_Name.B3_eq]; rfl
  | 8, _ => by rw [parryref1_Name.B2_eq, parryref1_Name.B3_eq]; rfl
  | 9, _ => by rw [parryref1_Name.B2_eq, parryref1_Name.B3_eq]; rfl
  | 10, _ => by rw [parryref1_Name.B2_eq, parryref1_Name.B3_eq]; rfl
  | 11, _ => by rw [parryref1_Name.B2_eq, parryref1_Name.B3_eq]; rfl
  | 12, _ => by rw [parryref1_Name.B2_eq, parryref1_Name.B3_eq]; rfl
  | 13, _ => by rw [parryref1_Name.B2_eq, parryref1_Name.B3_eq]; rfl
  | 14, _ => by rw [parryref1_Name.B2_eq, parryref1_Name.B3_eq]; rfl
  | 15, _ => by rw [parryref1_Name.B2_eq, parryref1_Name.B3_eq]; rfl
  | 16, _ => by rw [parryref1_Name.B2_eq, parryref1_Name.B3_eq]; rfl
  | 17, _ => by rw [parryref1_Name.B2_eq, parryref1_Name.B3_eq]; rfl
  | n + 18, h => absurd h (by omega)
theorem refWords {h : H} {s a0 a1 a2 a3 a4 a5 a6 a7 a8 a9 b0 b1 b2 b3 b4 b5 b6 b7 : ByteArray} : ∀ m i : Nat, i + m = 18 → ∀ N, 2 * m < N →
    parryref1_Name.B2 h N s a0 a1 a2 a3 a4 a5 a6 a7 a8 a9 b0 b1 b2 b3 b4 b5 b6 b7 (i : Int) = rb !(([a0, a1, a2, a3, a4, a5, a6, a7, a8, a9, b0, b1, b2, b3, b4, b5, b6, b7].drop i).any fun w => strEq s w)
  | 0, i, hi, N, hN => by
    obtain ⟨N, rfl⟩ : ∃ M, N = M + 1 := ⟨N - 1, by omega⟩
    obtain rfl : i = 18 := by omega
    rw [parryref1_Name.B2_eq]
    rfl
  | m + 1, i, hi, N, hN => by
    obtain ⟨N, rfl⟩ : ∃ M, N = M + 2 := ⟨N - 2, by omega⟩
    have hlt : i < ([a0, a1, a2, a3, a4, a5, a6, a7, a8, a9, b0, b1, b2, b3, b4, b5, b6, b7] : List ByteArray).length := by show i < 18; omega
    rw [refWord i (by omega), refWords m (i + 1) (by omega) N (by omega), List.drop_eq_getElem_cons hlt, List.any_cons, List.getD_eq_getElem?_getD, List.getElem?_eq_getElem hlt, Option.getD_some]
    generalize strEq s _ = b
    cases b <;> rfl
theorem refChars {h : H} {s : ByteArray} (hs : s.size ≤ 16) (h0 : charOk 0 (bt s 0) = true) : ∀ (m i : Nat), i + m = s.size → ∀ N, 2 * m + 40 < N → parryref1_Name.B0 h N s (s.size : Int) (i : Int) = rb (charsFrom s i m && !wordE s)
  | 0, i, hi, N, hN => by
    obtain ⟨N, rfl⟩ : ∃ M, N = M + 1 := ⟨N - 1, by omega⟩
    rw [parryref1_Name.B0_eq]
    refine if_not (decide_eq_false (by omega)) ((refWords (h := h) 18 0 (by omega) N (by omega)).trans ?_)
    simp only [charsFrom, Bool.true_and]
    rw [List.drop_zero]
    unfold wordE words
    rfl
  | m + 1, i, hi, N, hN => by
    obtain ⟨N, rfl⟩ : ∃ M, N = M + 2 := ⟨N - 2, by omega⟩
    have ih := refChars (h := h) hs h0 m (i + 1) (by omega) N (by omega)
    rw [parryref1_Name.B0_eq, parryref1_Name.B1_eq, wrap_eq (by omega) (by omega)]
    have ih' : parryref1_Name.B0 h N s (s.size : Int) ((i : Int) + 1) = rb (charsFrom s (i + 1) m && !wordE s) := ih
    rw [ih', Int.toNat_natCast]
    simp only [Bool.cond_eq_ite, decide_eq_true_eq, Bool.and_eq_true, beq_iff_eq, bne_iff_ne, ne_eq, charsFrom]
    rw [if_pos (by omega), if_pos (by omega)]
    have hi0 : i = 0 → 97 ≤ bt s i ∧ bt s i ≤ 122 := by
      intro hi; subst hi
      unfold charOk at h0
      simp at h0
      exact h0
    revert hi0
    generalize bt s i = c
    intro hi0
    have e : ∀ b : Bool, charOk i c = b → (charOk i c && charsFrom s (i + 1) m && !wordE s) = (b && (charsFrom s (i + 1) m && !wordE s)) := fun b hb => by rw [hb, Bool.and_assoc]
    have yes : charOk i c = true ↔ (97 ≤ c ∧ c ≤ 122 ∨ 0 < i ∧ (48 ≤ c ∧ c ≤ 57 ∨ c = 95)) := by unfold charOk; simp
    have no : charOk i c = false ↔ ¬ (97 ≤ c ∧ c ≤ 122 ∨ 0 < i ∧ (48 ≤ c ∧ c ≤ 57 ∨ c = 95)) := by rw [← yes]; simp
    repeat' split
    all_goals first
      | (rw [e true (yes.2 (by omega))]; rfl)
      | (rw [e false (no.2 (by omega))]; rfl)
theorem refName_sp : Ev fun N => ∀ s, C_parryref1_Name (K N) s = rb (nameE s) := by
  refine Ev.step ((Ev.ge 100).imp fun N hN s => ?_)
  rw [C_parryref1_Name_K]
  unfold nameE
  by_cases h1 : (s.size : Int) < 1
  · refine if_of (decide_eq_true h1) ?_
    have : decide (1 ≤ s.size ∧ s.size ≤ 16) = false := by simp; omega
    rw [this]; rfl
  · refine if_not (decide_eq_false h1) ?_
    by_cases h2 : (s.size : Int) > 16
    · refine if_of (decide_eq_true h2) ?_
      have : decide (1 ≤ s.size ∧ s.size ≤ 16) = false := by simp; omega
      rw [this]; rfl
    · refine if_not (decide_eq_false h2) (if_of (decide_eq_true (by omega)) ?_)
      have h3 : decide (1 ≤ s.size ∧ s.size ≤ 16) = true := by simp; omega
      rw [h3, Bool.true_and]
      obtain ⟨m, hm⟩ : ∃ m, s.size = m + 1 := ⟨s.size - 1, by omega⟩
      have first : charOk 0 (bt s 0) = false → charsFrom s 0 s.size = false := by intro h; rw [hm]; unfold charsFrom; rw [h]; rfl
      by_cases c1 : bt s 0 < 97
      · refine if_of (decide_eq_true c1) ?_
        rw [first (by unfold charOk; simp; omega), Bool.and_false]; rfl
      · refine if_not (decide_eq_false c1) (if_of (decide_eq_true (by omega)) ?_)
        by_cases c2 : bt s 0 > 122
        · refine if_of (decide_eq_true c2) ?_
          rw [first (by unfold charOk; simp; omega), Bool.and_false]; rfl
        · refine if_not (decide_eq_false c2) ?_
          have := refChars (h := K N) (s := s) (by omega) (by unfold charOk; simp; omega) s.size 0 (by omega) N (by omega)
          rw [Bool.and_comm]
          exact this
theorem refSize_sp : Ev fun N => ∀ a b x y z, C_parryref1_Size (K N) a b x y z = ri (sizeV ⟨a, b, x, y, z⟩) := by
  refine ⟨2, fun N hN a b x y z => ?_⟩
  obtain ⟨N, rfl⟩ : ∃ M, N = M + 2 := ⟨N - 2, by omega⟩
  rw [C_parryref1_Size_K, parryref1_Size.B0_eq]
  unfold sizeV
  simp only [Bool.cond_eq_ite, decide_eq_true_eq, beq_iff_eq]
  repeat' split
  all_goals first
    | rfl
    | (exfalso; omega)
    | (show ri _ = ri _; congr 1; rw [wrap_eq (a := z - y) (by omega) (by omega), wrap_eq (by omega) (by omega)])
theorem refFindB {h : H} {l : T} (hl : l.len ≤ 9223372036854775807) (s : ByteArray) : ∀ (m i : Nat), i + m = l.len → ∀ M, m < M → parryref1_Find.B0 h M s l (l.len : Int) (i : Int) = ri (findFrom s ((varsOf l).drop i) i)
  | 0, i, hi, M, hM => by
    obtain ⟨M, rfl⟩ : ∃ M', M = M' + 1 := ⟨M - 1, by omega⟩
    rw [parryref1_Find.B0_eq]
    unfold varsOf
    rw [range_end _ (by omega)]
    exact if_not (decide_eq_false (by omega)) rfl
  | m + 1, i, hi, M, hM => by
    obtain ⟨M, rfl⟩ : ∃ M', M = M' + 1 := ⟨M - 1, by omega⟩
    have hlt : i < l.len := by omega
    have ih := refFindB (h := h) hl s m (i + 1) (by omega) M (by omega)
    unfold varsOf at ih ⊢
    rw [parryref1_Find.B0_eq, range_from _ hlt]
    simp only [Bool.cond_eq_ite, decide_eq_true_eq, Bool.and_eq_true, findFrom]
    rw [if_pos (by omega), if_pos (by omega), Int.toNat_natCast, wrap_eq (by omega) (by omega)]
    show (if strEq (vaAt l i).name s = true then _ else _) = _
    split
    · rfl
    · exact ih
theorem refFind_sp (l : T) (hl : l.len ≤ 9223372036854775807) : Ev fun N => ∀ s, C_parryref1_Find (K N) l s = ri (findE (varsOf l) s) := by
  refine Ev.step ((Ev.ge (l.len + 1)).imp fun N hN s => ?_)
  rw [C_parryref1_Find_K]
  exact refFindB hl s l.len 0 (by omega) N (by omega)
end Go.Proofs.YtnjandhaeojieaaGreat
set_option linter.unusedVariables false
set_option linter.unusedSimpArgs false
namespace Go.Proofs.YtnjandhaeojieaaGreat
open Go.AM
def prodFrom : List Va → Int → Int
  | [], n => n
  | v :: r, n => prodFrom r (if 513 < n * sizeV v then 513 else n * sizeV v)
theorem prodFrom_top : ∀ (l : List Va), (∀ v ∈ l, 0 < sizeV v) → prodFrom l 513 = 513
  | [], _ => rfl
  | v :: r, h => by
    have h1 := h v (List.mem_cons_self ..)
    simp only [prodFrom]
    have h2 : (513 : Int) * sizeV v = 513 ∨ 513 < 513 * sizeV v := by omega
    rcases h2 with h2 | h2
    · rw [h2, if_neg (by omega)]; exact prodFrom_top r fun v hv => h v (List.mem_cons_of_mem _ hv)
    · rw [if_pos h2]; exact prodFrom_top r fun v hv => h v (List.mem_cons_of_mem _ hv)
theorem sizeV_pos {v : Va} (h : sortedV v = 0) : 0 < sizeV v := by
  have hr := (sizeV_range v).1
  have h2 : sizeV v ≠ 0 := by
    intro h0
    unfold sortedV at h
    split at h
    · cases h
    · rename_i h3
      split at h
      · cases h
      · rename_i h4
        have h5 : v.sort = 1 ∨ v.sort = 2 := by omega
        rcases h5 with h5 | h5
        · unfold sizeV at h0
          rw [if_pos h5] at h0
          cases h0
        · exact h4 (.inr ⟨h5, h0⟩)
  omega
theorem prod_total : ∀ (l : List Va) (n : Int), 0 < n → n ≤ 512 → (∀ v ∈ l, sortedV v = 0) → (prodFrom l n = 513 ∧ totalFrom l n = 0) ∨ (prodFrom l n ≤ 512 ∧ 0 < prodFrom l n ∧ totalFrom l n = prodFrom l n)
  | [], n, h0, h1, _ => .inr ⟨h1, h0, rfl⟩
  | v :: r, n, h0, h1, h => by
    have hv := h v (List.mem_cons_self ..)
    have hp := sizeV_pos hv
    have hr : ∀ w ∈ r, sortedV w = 0 := fun w hw => h w (List.mem_cons_of_mem _ hw)
    have hm : 0 < n * sizeV v := Int.mul_pos h0 hp
    simp only [prodFrom, totalFrom, hv, ne_eq, not_true_eq_false, if_false]
    by_cases c : 512 < n * sizeV v
    · rw [if_pos c]
      refine .inl ⟨?_, rfl⟩
      have e : (if 513 < n * sizeV v then (513 : Int) else n * sizeV v) = 513 := by split <;> omega
      rw [e]
      exact prodFrom_top r fun w hw => sizeV_pos (hr w hw)
    · rw [if_neg c, if_neg (by omega)]
      exact prod_total r _ hm (by omega) hr
theorem refProdB {h : H} {l : T} (hl : l.len ≤ 9223372036854775807) (hz : ∀ a b x y z, C_parryref1_Size h a b x y z = ri (sizeV ⟨a, b, x, y, z⟩)) :
    ∀ (m i : Nat), i + m = l.len → ∀ N n, m < N → 0 ≤ n → n ≤ 513 → parryref1_product.B0 h N n l (l.len : Int) (i : Int) = ri (prodFrom ((varsOf l).drop i) n)
  | 0, i, hi, N, n, hN, h0, h1 => by
    obtain ⟨N, rfl⟩ : ∃ M, N = M + 1 := ⟨N - 1, by omega⟩
    rw [parryref1_product.B0_eq]
    unfold varsOf
    rw [range_end _ (by omega)]
    exact if_not (decide_eq_false (by omega)) rfl
  | m + 1, i, hi, N, n, hN, h0, h1 => by
    obtain ⟨N, rfl⟩ : ∃ M, N = M + 1 := ⟨N - 1, by omega⟩
    have hlt : i < l.len := by omega
    have hr := sizeV_range (vaAt l i)
    have hm0 : 0 ≤ n * sizeV (vaAt l i) := Int.mul_nonneg h0 hr.1
    have hm1 : n * sizeV (vaAt l i) ≤ 513 * 2001 := Int.le_trans (Int.mul_le_mul_of_nonneg_left hr.2 h0) (Int.mul_le_mul_of_nonneg_right h1 (by omega))
    have e : (varsOf l).drop i = vaAt l i :: (varsOf l).drop (i + 1) := by unfold varsOf; exact range_from _ hlt
    have e1 : (⟨(l.el (i : Int).toNat 0).str, (l.el (i : Int).toNat 1).bool, (l.el (i : Int).toNat 2).int, (l.el (i : Int).toNat 3).int, (l.el (i : Int).toNat 4).int⟩ : Va) = vaAt l i := by rw [Int.toNat_natCast]; rfl
    rw [parryref1_product.B0_eq, hz, ri_bind, lookR_0, int_i, e, e1]
    simp only [Bool.cond_eq_ite, decide_eq_true_eq, Bool.and_eq_true, prodFrom]
    rw [if_pos (by omega), if_pos (by omega), wrap_eq (a := (i : Int) + 1) (by omega) (by omega), wrap_eq (a := n * sizeV (vaAt l i)) (by omega) (by omega)]
    exact refProdB hl hz m (i + 1) (by omega) N _ (by omega) (by split <;> omega) (by split <;> omega)
theorem refProd_sp (l : T) (hl : l.len ≤ 9223372036854775807) : Ev fun N => C_parryref1_product (K N) l = ri (prodFrom (varsOf l) 1) := by
  refine Ev.step (Ev.imp2 refSize_sp (Ev.ge (l.len + 1)) fun N hz hN => ?_)
  rw [C_parryref1_product_K]
  exact refProdB hl hz l.len 0 (by omega) N 1 (by omega) (by omega) (by omega)
def preT (l : T) (i : Nat) : T := T.l i fun a c => l.el (0 + a) c
theorem varsOf_pre {l : T} {i : Nat} (hi : i ≤ l.len) : varsOf (preT l i) = (varsOf l).take i := by
  unfold varsOf
  rw [← List.map_take, List.take_range, Nat.min_eq_left hi]
  refine List.map_congr_left fun j hj => ?_
  show Va.mk ((l.el (0 + j) 0).str) ((l.el (0 + j) 1).bool) ((l.el (0 + j) 2).int) ((l.el (0 + j) 3).int) ((l.el (0 + j) 4).int) = _
  rw [Nat.zero_add]; rfl
theorem findFrom_neg : ∀ (l : List Va) (s : ByteArray) (k : Int), 0 ≤ k → (0 ≤ findFrom s l k ↔ l.any (fun v => strEq v.name s) = true)
  | [], s, k, hk => by simp [findFrom]
  | v :: r, s, k, hk => by
    simp only [findFrom, List.any_cons, Bool.or_eq_true]
    split
    · rename_i h; simp [h, hk]
    · rename_i h; rw [findFrom_neg r s (k + 1) (by omega)]; simp [h]
theorem findFrom_app : ∀ (a : List Va) (v : Va) (r : List Va) (s : ByteArray) (k : Int), strEq v.name s = true → (findFrom s (a ++ v :: r) k < k + a.length ↔ a.any (fun w => strEq w.name s) = true)
  | [], v, r, s, k, h => by simp [findFrom, h]
  | w :: a, v, r, s, k, h => by
    simp only [List.cons_append, findFrom, List.any_cons, Bool.or_eq_true, List.length_cons]
    split
    · rename_i h1; simp [h1]; omega
    · rename_i h1
      have := findFrom_app a v r s (k + 1) h
      rw [show k + ((a.length + 1 : Nat) : Int) = k + 1 + a.length by omega, this]
      simp [h1]
theorem strEq_self (s : ByteArray) : strEq s s = true := by unfold strEq; exact beq_self_eq_true _
theorem find_ahead {l : T} {i : Nat} (hi : i < l.len) : findE (varsOf l) (vaAt l i).name < (i : Int) ↔ ((varsOf l).take i).any (fun w => strEq w.name (vaAt l i).name) = true := by
  have e : varsOf l = (varsOf l).take i ++ vaAt l i :: (varsOf l).drop (i + 1) := by
    have e : (varsOf l).drop i = vaAt l i :: (varsOf l).drop (i + 1) := by unfold varsOf; exact range_from _ hi
    rw [← e, List.take_append_drop]
  have := findFrom_app ((varsOf l).take i) (vaAt l i) ((varsOf l).drop (i + 1)) (vaAt l i).name 0 (strEq_self _)
  rw [← e] at this
  rw [List.length_take, varsOf_len, Nat.min_eq_left (by omega), Int.zero_add] at this
  exact this
theorem refSameB {h : H} {l q : T} {n i : Int} {g : T} {s : ByteArray} {b : Bool} {x y z : Int} (hg : g.len ≤ 9223372036854775807) : ∀ (m j : Nat), j + m = g.len → ∀ N, m < N →
    ∃ M, N ≤ M + m + 1 ∧ parryref1_MayVars.B2 h N l q n i g (g.len : Int) (j : Int) s b x y z = if ((varsOf g).drop j).any (fun w => strEq w.name s) = true then ri 3 else parryref1_MayVars.B3 h M l q n i s b x y z
  | 0, j, hj, N, hN => by
    obtain ⟨N, rfl⟩ : ∃ M, N = M + 1 := ⟨N - 1, by omega⟩
    refine ⟨N, by omega, ?_⟩
    rw [parryref1_MayVars.B2_eq]
    unfold varsOf
    rw [range_end _ (by omega)]
    exact if_not (decide_eq_false (by omega)) rfl
  | m + 1, j, hj, N, hN => by
    obtain ⟨N, rfl⟩ : ∃ M, N = M + 1 := ⟨N - 1, by omega⟩
    have hlt : j < g.len := by omega
    obtain ⟨M, hM, ih⟩ := refSameB (h := h) (l := l) (q := q) (n := n) (i := i) (s := s) (b := b) (x := x) (y := y) (z := z) hg m (j + 1) (by omega) N (by omega)
    have e : (varsOf g).drop j = vaAt g j :: (varsOf g).drop (j + 1) := by unfold varsOf; exact range_from _ hlt
    rw [parryref1_MayVars.B2_eq, e]
    simp only [Bool.cond_eq_ite, decide_eq_true_eq, Bool.and_eq_true, List.any_cons, Bool.or_eq_true]
    rw [if_pos (by omega), if_pos (by omega), Int.toNat_natCast, wrap_eq (by omega) (by omega)]
    have e2 : strEq (g.el j 0).str s = strEq (vaAt g j).name s := rfl
    rw [e2]
    cases c : strEq (vaAt g j).name s with
    | true => exact ⟨N, by omega, by simp [ri]⟩
    | false => exact ⟨M, by omega, by rw [if_neg (by simp)]; simp only [Bool.false_eq_true, false_or]; exact ih⟩
theorem refMayB {h : H} {l : T} (hl : l.len ≤ 9223372036854775807) (hn : ∀ s, C_parryref1_Name h s = rb (nameE s)) (hf : ∀ i, i ≤ l.len → ∀ s, C_parryref1_Find h (preT l i) s = ri (findE (varsOf (preT l i)) s)) (hz : ∀ a b x y z, C_parryref1_Size h a b x y z = ri (sizeV ⟨a, b, x, y, z⟩)) (hp : C_parryref1_product h l = ri (prodFrom (varsOf l) 1)) :
    ∀ (m i : Nat), i + m = l.len → (∀ v ∈ (varsOf l).take i, sortedV v = 0) → ∀ N, m * (l.len + 5) < N → parryref1_MayVars.B0 h N l l (l.len : Int) (i : Int) = ri (mayFrom (varsOf l) ((varsOf l).drop i) i)
  | 0, i, hi, hso, N, hN => by
    obtain ⟨N, rfl⟩ : ∃ M, N = M + 1 := ⟨N - 1, by omega⟩
    have e : (varsOf l).drop i = [] := by unfold varsOf; exact range_end _ (by omega)
    rw [List.take_of_length_le (by rw [varsOf_len]; omega)] at hso
    rw [parryref1_MayVars.B0_eq, e, hp, ri_bind, lookR_0, int_i]
    simp only [mayFrom]
    refine if_not (decide_eq_false (by omega)) ?_
    unfold totalE
    rw [varsOf_len]
    by_cases c : (l.len : Int) > 6
    · refine if_of (decide_eq_true c) ?_
      rw [if_pos (show 6 < (l.len : Int) by omega), if_pos rfl]; rfl
    · refine if_not (decide_eq_false c) ?_
      rw [if_neg (show ¬ 6 < (l.len : Int) by omega)]
      rcases prod_total (varsOf l) 1 (by omega) (by omega) hso with ⟨h1, h2⟩ | ⟨h1, h2, h3⟩
      · rw [h1, h2]; rfl
      · rw [h3, if_neg (by omega)]; exact if_not (decide_eq_false (by omega)) rfl
  | m + 1, i, hi, hso, N, hN => by
    rw [Nat.succ_mul] at hN
    obtain ⟨N, rfl⟩ : ∃ M, N = M + 1 := ⟨N - 1, by omega⟩
    have hlt : i < l.len := by omega
    have e : (varsOf l).drop i = vaAt l i :: (varsOf l).drop (i + 1) := by unfold varsOf; exact range_from _ hlt
    have e2 : (l.el i 0).str = (vaAt l i).name := rfl
    have rest : ∀ M, m * (l.len + 5) + 3 < M → parryref1_MayVars.B3 h M l l (l.len : Int) (i : Int) (l.el i 0).str (l.el i 1).bool (l.el i 2).int (l.el i 3).int (l.el i 4).int = ri (if sortedV (vaAt l i) ≠ 0 then sortedV (vaAt l i) else mayFrom (varsOf l) ((varsOf l).drop (i + 1)) (i + 1)) := by
      intro M hM
      obtain ⟨M, rfl⟩ : ∃ M', M = M' + 2 := ⟨M - 2, by omega⟩
      have e1 : sizeV ⟨(l.el i 0).str, (l.el i 1).bool, (l.el i 2).int, (l.el i 3).int, (l.el i 4).int⟩ = sizeV (vaAt l i) := rfl
      have go : sortedV (vaAt l i) = 0 → parryref1_MayVars.B0 h M l l (l.len : Int) (IntKind.wrap .i64 ((i : Int) + 1)) = ri (mayFrom (varsOf l) ((varsOf l).drop (i + 1)) (i + 1)) := by
        intro h0
        rw [wrap_eq (by omega) (by omega)]
        have hso' : ∀ v ∈ (varsOf l).take (i + 1), sortedV v = 0 := by
          intro v hv
          rw [List.take_add_one, varsOf_get l hlt] at hv
          rcases List.mem_append.1 hv with hv | hv
          · exact hso v hv
          · obtain rfl : v = vaAt l i := by simpa using hv
            exact h0
        have := refMayB hl hn hf hz hp m (i + 1) (by omega) hso' M (by omega)
        exact this
      rw [parryref1_MayVars.B3_eq]
      simp only [hz, ri_bind, lookR_0, int_i, parryref1_MayVars.B4_eq, e1]
      have s1 : (vaAt l i).sort = (l.el i 2).int := rfl
      have s2 : (vaAt l i).lo = (l.el i 3).int := rfl
      have s3 : (vaAt l i).hi = (l.el i 4).int := rfl
      have hs : sortedV (vaAt l i) = if (l.el i 2).int ≠ 1 ∧ (l.el i 2).int ≠ 2 then 4 else if (l.el i 2).int = 1 ∧ ((l.el i 3).int ≠ 0 ∨ (l.el i 4).int ≠ 0) ∨ (l.el i 2).int = 2 ∧ sizeV (vaAt l i) = 0 then 6 else 0 := rfl
      have hz1 : (l.el i 2).int = 1 → sizeV (vaAt l i) = 2 := fun h1 => by unfold sizeV; rw [s1, if_pos h1]
      generalize sizeV (vaAt l i) = q at *
      generalize (l.el i 2).int = x at *
      generalize (l.el i 3).int = y at *
      generalize (l.el i 4).int = z at *
      generalize sortedV (vaAt l i) = w at *
      generalize parryref1_MayVars.B0 h M l l (l.len : Int) (IntKind.wrap .i64 ((i : Int) + 1)) = g at *
      simp only [Bool.cond_eq_ite, bne_iff_ne, ne_eq, beq_iff_eq, ite_not]
      by_cases c1 : x = 1
      · have := hz1 c1
        subst c1
        by_cases c2 : y = 0
        · by_cases c3 : z = 0
          · have hw : w = 0 := by rw [hs]; simp [c2, c3]
            simp [c2, c3, this, hw, go hw]
          · have hw : w = 6 := by rw [hs]; simp [c2, c3]
            simp [c2, c3, this, hw]; rfl
        · have hw : w = 6 := by rw [hs]; simp [c2]
          simp [c2, this, hw]; rfl
      · by_cases c2 : x = 2
        · subst c2
          by_cases c3 : q = 0
          · have hw : w = 6 := by rw [hs]; simp [c3]
            simp [c3, hw]; rfl
          · have hw : w = 0 := by rw [hs]; simp [c3]
            simp [c3, hw, go hw]
        · have hw : w = 4 := by rw [hs]; simp [c1, c2]
          simp [c1, c2, hw]; rfl
    rw [parryref1_MayVars.B0_eq, e, hn, rb_bind, lookR_0, bool_b, Int.toNat_natCast, e2]
    simp only [mayFrom]
    refine if_of (decide_eq_true (by omega)) (if_of (by simp; omega) ?_)
    cases c1 : nameE (vaAt l i).name with
    | false => rfl
    | true =>
      refine if_not rfl ?_
      rw [if_neg (by simp)]
      by_cases c2 : findE (varsOf l) (vaAt l i).name < (i : Int)
      · rw [if_pos c2]
        rw [find_ahead hlt, ← varsOf_pre (by omega)] at c2
        by_cases c3 : (i : Int) < 6
        · refine if_of (decide_eq_true c3) (if_of (by simp; omega) (bind_of (hf i (by omega) (vaAt l i).name) (if_of (decide_eq_true ?_) rfl)))
          rw [lookR_0, int_i]
          exact (findFrom_neg _ _ 0 (by omega)).2 c2
        · refine if_not (decide_eq_false c3) ?_
          obtain ⟨N, rfl⟩ : ∃ M, N = M + 1 := ⟨N - 1, by omega⟩
          rw [parryref1_MayVars.B1_eq, Int.toNat_natCast]
          refine if_of (decide_eq_true (by omega)) (if_of (by simp; omega) ?_)
          obtain ⟨M, hM, h2⟩ := refSameB (h := h) (l := l) (q := l) (n := l.len) (i := i) (s := (vaAt l i).name) (b := (l.el i 1).bool) (x := (l.el i 2).int) (y := (l.el i 3).int) (z := (l.el i 4).int) (g := preT l i) (by show i ≤ _; omega) i 0 (Nat.zero_add i) N (by omega)
          refine h2.trans ?_
          rw [List.drop_zero, if_pos c2]
      · rw [if_neg c2]
        have c2' := c2
        rw [find_ahead hlt, ← varsOf_pre (by omega)] at c2'
        obtain ⟨N, rfl⟩ : ∃ M, N = M + 1 := ⟨N - 1, by omega⟩
        by_cases c3 : (i : Int) < 6
        · refine if_of (decide_eq_true c3) (if_of (by simp; omega) (bind_of (hf i (by omega) (vaAt l i).name) (if_not (decide_eq_false ?_) ?_)))
          · rw [lookR_0, int_i]
            exact fun h0 => c2' ((findFrom_neg _ _ 0 (by omega)).1 h0)
          · rw [parryref1_MayVars.B1_eq]
            exact if_not (decide_eq_false (by omega)) (rest N (by omega))
        · refine if_not (decide_eq_false c3) ?_
          rw [parryref1_MayVars.B1_eq, Int.toNat_natCast]
          refine if_of (decide_eq_true (by omega)) (if_of (by simp; omega) ?_)
          obtain ⟨M, hM, h2⟩ := refSameB (h := h) (l := l) (q := l) (n := l.len) (i := i) (s := (vaAt l i).name) (b := (l.el i 1).bool) (x := (l.el i 2).int) (y := (l.el i 3).int) (z := (l.el i 4).int) (g := preT l i) (by show i ≤ _; omega) i 0 (Nat.zero_add i) N (by omega)
          refine h2.trans ?_
          rw [List.drop_zero, if_neg c2']
          exact rest M (by omega)
theorem evAll {p : Nat → Nat → Prop} : ∀ k, (∀ i, Ev (p i)) → Ev fun N => ∀ i, i ≤ k → p i N
  | 0, h => (h 0).imp fun N h0 i hi => by
    obtain rfl : i = 0 := Nat.le_zero.1 hi
    exact h0
  | k + 1, h => Ev.imp2 (evAll k h) (h (k + 1)) fun N h1 h2 i hi => by
    by_cases c : i ≤ k
    · exact h1 i c
    · obtain rfl : i = k + 1 := by omega
      exact h2
theorem refMay_sp (l : T) (hl : l.len ≤ 9223372036854775807) : Ev fun N => C_parryref1_MayVars (K N) l = ri (mayV (varsOf l)) := by
  have hf : Ev fun N => ∀ i, i ≤ l.len → ∀ s, C_parryref1_Find (K N) (preT l i) s = ri (findE (varsOf (preT l i)) s) := by
    refine (evAll (p := fun i N => i ≤ l.len → ∀ s, C_parryref1_Find (K N) (preT l i) s = ri (findE (varsOf (preT l i)) s)) l.len fun i => ?_).imp fun N h i hi => h i hi hi
    by_cases c : i ≤ l.len
    · exact (refFind_sp (preT l i) (by show i ≤ _; omega)).imp fun N h _ => h
    · exact ⟨0, fun N _ h => absurd h c⟩
  refine Ev.step (Ev.imp2 (Ev.imp4 refName_sp hf refSize_sp (refProd_sp l hl) fun N h1 h2 h3 h4 => (⟨h1, h2, h3, h4⟩ : _ ∧ _ ∧ _ ∧ _)) (Ev.ge (l.len * (l.len + 5) + 1)) fun N h hN => ?_)
  rw [C_parryref1_MayVars_K]
  have := refMayB hl h.1 h.2.1 h.2.2.1 h.2.2.2 l.len 0 (by omega) (fun v hv => by simp at hv) N (by omega)
  simpa [mayV] using this
end Go.Proofs.YtnjandhaeojieaaGreat
set_option linter.unusedVariables false
set_option linter.unusedSimpArgs false
namespace Go.Proofs.YtnjandhaeojieaaGreat
open Go.AM
theorem un28 : Tryz.prog.underlying 23 = some (.slice 25) := by kernel_rfl
theorem WT_kids : ∀ {t : TypeId} {x : T}, WT Tryz.prog t x → t = 23 → KW x := by
  intro t x h
  induction h with
  | int h hw => intro e; subst e; rw [un28] at h; cases h
  | bool h => intro e; subst e; rw [un28] at h; cases h
  | str h hs => intro e; subst e; rw [un28] at h; cases h
  | @sl t e n g h hn hg ih =>
    intro he
    subst he
    rw [un28] at h
    have e30 : e = 25 := by injection h with h; injection h with h; exact h.symm
    subst e30
    have h2 : lv Tryz.prog 25 = [3, 3, 23] := by kernel_rfl
    refine ⟨Nat.le_trans hn (Nat.le_refl _), fun i hi => ih i 2 23 hi (by rw [h2]; rfl) rfl⟩
theorem WT_KW {x : T} (h : WT Tryz.prog 23 x) : KW x := WT_kids h rfl
theorem WT_len {t : TypeId} {x : T} (h : WT Tryz.prog t x) : x.len ≤ 9223372036854775807 := by
  cases h with
  | sl h hn hg => exact Nat.le_trans hn (Nat.le_refl _)
  | _ => exact Nat.zero_le _
theorem if_both {α : Type} {c : Bool} {x y z : α} (h : c = true → x = z) (k : c = false → y = z) : (bif c then x else y) = z := by
  cases c with
  | true => exact h rfl
  | false => exact k rfl
theorem sort_of {l : List Va} {e : Ex} {s : Int} (hm : mayV l = 0) (he : mayE e = 0) (ht : Typed l e s) : sortE l e = (s, 0) := by
  have hs : soundE e = true := by
    unfold mayE at he
    split at he
    · split at he
      · assumption
      · cases he
    · cases he
  unfold sortE
  rw [if_neg (by simp [hm]), if_neg (by simp [he])]
  exact (ofE_typed (mayV_sorts hm) e hs).2 _ ht
end Go.Proofs.YtnjandhaeojieaaGreat
set_option linter.unusedVariables false
set_option linter.unusedSimpArgs false
namespace Go.Proofs.YtnjandhaeojieaaGreat
open Go.AM
end Go.Proofs.YtnjandhaeojieaaGreat
set_option linter.unusedVariables false
set_option linter.unusedSimpArgs false
namespace Go.Proofs.YtnjandhaeojieaaGreat
open Go.AM
end Go.Proofs.YtnjandhaeojieaaGreat
