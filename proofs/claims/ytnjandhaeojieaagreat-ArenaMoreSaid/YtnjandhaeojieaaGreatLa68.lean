/- Games that may be. -/
import Derived.Test.YtnjandhaeojieaaGreatLa67
set_option linter.unusedVariables false
set_option linter.unusedSimpArgs false
namespace Go.AM
open Go.Proofs.YtnjandhaeojieaaGreat
structure GOk (Ow : List Int) (L : List (List Int)) : Prop where
  n : Ow.length ≤ 3000
  len : L.length = Ow.length
  who : ∀ o ∈ Ow, o = 0 ∨ o = 1
  up : ∀ l ∈ L, l.Pairwise (· < ·) ∧ ∀ z ∈ l, 0 ≤ z ∧ z < (Ow.length : Int)
theorem le_lt_of_nodup {l : List Int} (h : l.Pairwise (fun x y => x ≤ y)) (hn : l.Nodup) : l.Pairwise (· < ·) := by
  refine (h.and hn).imp fun h => ?_
  have := h.1
  have := h.2
  omega
theorem idx_nodup {A ws : List Vx} (hw : ws.Nodup) (hs : ∀ w ∈ ws, w ∈ A) : (ws.map fun w => (A.idxOf w : Int)).Nodup := by
  rw [List.Nodup, List.pairwise_map]
  refine List.Pairwise.imp_of_mem (fun {a b} ha hb hab he => hab ?_) hw
  have he : A.idxOf a = A.idxOf b := by omega
  have i1 : A.idxOf a < A.length := List.idxOf_lt_length_iff.2 (hs a ha)
  have i2 : A.idxOf b < A.length := List.idxOf_lt_length_iff.2 (hs b hb)
  have e1 := List.getElem_idxOf i1
  have e2 := List.getElem_idxOf i2
  rw [← e1, ← e2]
  simp only [he]
theorem nextE_up {A ws : List Vx} (hw : ws.Nodup) (hs : ∀ w ∈ ws, w ∈ A) : (nextE A ws).Pairwise (· < ·) ∧ ∀ z ∈ nextE A ws, 0 ≤ z ∧ z < (A.length : Int) := by
  refine ⟨le_lt_of_nodup ?_ ?_, fun z hz => ?_⟩
  · unfold nextE
    have := List.pairwise_mergeSort (le := fun x y : Int => decide (x ≤ y)) (fun a b c h1 h2 => by simp at h1 h2 ⊢; omega) (fun a b => by simp; omega) (ws.map fun w => (A.idxOf w : Int))
    exact this.imp fun h => of_decide_eq_true h
  · unfold nextE
    exact (List.mergeSort_perm _ _).symm.nodup (idx_nodup hw hs)
  · unfold nextE at hz
    rw [List.mem_mergeSort, List.mem_map] at hz
    obtain ⟨w, hw, rfl⟩ := hz
    have := List.idxOf_lt_length_iff.2 (hs w hw)
    omega
theorem ways_nodup {m : Md} (hT : mayV m.vars = 0 → prodV m.vars ≤ 24) {v : Vx} (hv : v.1 = 1 ∨ v.1 = 2 ∨ v.1 = 3 ∨ v.1 = 4) : (waysE m v).Nodup := by
  have h1 := want_nodup hT v
  rw [← (ways_want hv).1, List.Nodup, List.pairwise_map] at h1
  exact h1.imp fun h e => h (by rw [e])
theorem Inv.gok {m : Md} {A : List Vx} {L : List (List Int)} (h : Inv m A.length A L) (hT : mayV m.vars = 0 → prodV m.vars ≤ 24) : GOk (A.map ownE) L := by
  have hs := h.small
  refine ⟨by rw [List.length_map]; omega, by rw [List.length_map, h.len], fun o ho => ?_, fun l hl => ?_⟩
  · obtain ⟨v, _, rfl⟩ := List.mem_map.1 ho
    unfold ownE
    split
    · exact .inr rfl
    · split
      · exact .inr rfl
      · exact .inl rfl
  · obtain ⟨i, hi, rfl⟩ := List.getElem_of_mem hl
    have hiA : i < A.length := by rw [← h.len]; exact hi
    obtain ⟨d1, d2⟩ := h.done i _ hiA (List.getElem?_eq_getElem hiA)
    rw [List.getElem?_eq_getElem hi] at d2
    have d2 := Option.some.inj d2
    rw [d2, List.length_map]
    exact nextE_up (ways_nodup hT (univE_kind (h.un _ (List.getElem_mem hiA)))) d1
end Go.AM
namespace Go.Proofs.YtnjandhaeojieaaGreat
open Go.AM
theorem risingB {h : H} {t : T} {zs : List Int} {n : Int} (ht : Ints t zs) (hl : zs.length ≤ 3000) (hr : zs.Pairwise (· < ·)) (hz : ∀ z ∈ zs, z < n) : ∀ (m j : Nat), j + m = zs.length → ∀ (N : Nat) (prev : Int), m < N → (∀ z, zs[j]? = some z → prev < z) → parryref9_rising.B0 h N n prev t (t.len : Int) (j : Int) = rb true
  | 0, j, hj, N, prev, hN, hp => by
    obtain ⟨N, rfl⟩ : ∃ M, N = M + 1 := ⟨N - 1, by omega⟩
    rw [parryref9_rising.B0_eq]
    exact if_not (decide_eq_false (by rw [ht.1]; omega)) rfl
  | m + 1, j, hj, N, prev, hN, hp => by
    obtain ⟨N, rfl⟩ : ∃ M, N = M + 1 := ⟨N - 1, by omega⟩
    have hlt : j < zs.length := by omega
    have hll : t.len = zs.length := ht.1
    have hs := ht.el0 hlt
    have h1 := hp _ (List.getElem?_eq_getElem hlt)
    have h2 := hz _ (List.getElem_mem hlt)
    have ih := risingB (h := h) ht hl hr hz m (j + 1) (by omega) N zs[j] (by omega) (fun z hzj => by
      obtain ⟨q, rfl⟩ := List.getElem?_eq_some_iff.1 hzj
      exact List.pairwise_iff_getElem.1 hr j (j + 1) hlt q (by omega))
    rw [parryref9_rising.B0_eq, wrap_eq (a := (j : Int) + 1) (by omega) (by omega)]
    refine if_of (decide_eq_true (by omega)) (if_of (by simp; omega) ?_)
    rw [Int.toNat_natCast, hs]
    exact if_not (decide_eq_false (by omega)) (if_not (decide_eq_false (by omega)) ih)
section
variable {Ow : List Int} {L : List (List Int)} {tO tX : T} (hg : GOk Ow L) (hO : Ints tO Ow) (hXl : tX.len = L.length) (hX : ∀ i l, L[i]? = some l → Ints (tX.el i 0) l) (hll : ∀ l ∈ L, l.length ≤ 3000)
include hg hO hXl hX hll
omit hX hll in
theorem mayB9 {h : H} (hr : ∀ i l, L[i]? = some l → C_parryref9_rising h (tX.el i 0) (Ow.length : Int) = rb true) : ∀ (m j : Nat), j + m = Ow.length → ∀ (N : Nat), 2 * m + 1 ≤ N → parryref9_May.B0 h N (Ow.length : Int) (Ow.length : Int) (j : Int) tO tX = ri 0
  | 0, j, hj, N, hN => by
    obtain ⟨N, rfl⟩ : ∃ M, N = M + 1 := ⟨N - 1, by omega⟩
    rw [parryref9_May.B0_eq]
    exact if_not (decide_eq_false (by omega)) rfl
  | m + 1, j, hj, N, hN => by
    obtain ⟨N, rfl⟩ : ∃ M, N = M + 2 := ⟨N - 2, by omega⟩
    have hlt : j < Ow.length := by omega
    have hOl : tO.len = Ow.length := hO.1
    have hs := hO.el0 hlt
    have hlen := hg.len
    have hn := hg.n
    have ih := mayB9 hr m (j + 1) (by omega) N (by omega)
    have b1 : parryref9_May.B1 h (N + 1) (Ow.length : Int) (Ow.length : Int) (j : Int) tO tX = ri 0 := by
      rw [parryref9_May.B1_eq, wrap_eq (a := (j : Int) + 1) (by omega) (by omega)]
      exact ih
    have hL : j < L.length := by omega
    have hrj := hr j _ (List.getElem?_eq_getElem hL)
    have tail : (bif decide ((0 : Int) ≤ (j : Int)) && decide ((j : Int) < ((tX.len : Nat) : Int)) then (C_parryref9_rising h (tX.el ((j : Int).toNat) 0) (Ow.length : Int)).bind fun r3091 => (bif (!((r3091 0).bool)) then some (lookR [(0, (T.i 1))]) else parryref9_May.B1 h (N + 1) (Ow.length : Int) (Ow.length : Int) (j : Int) tO tX) else none) = ri 0 := by
      rw [Int.toNat_natCast]
      exact if_of (by simp; omega) (bind_of hrj (if_not rfl b1))
    rw [parryref9_May.B0_eq]
    refine if_of (decide_eq_true (by omega)) (if_of (by simp; omega) ?_)
    rw [show (tO.el ((j : Int).toNat) 0).int = Ow[j] by rw [Int.toNat_natCast]; exact hs]
    rcases hg.who Ow[j] (List.getElem_mem hlt) with e | e
    · rw [e]; exact if_not rfl tail
    · rw [e]; exact if_of rfl (if_of (by simp; omega) (if_not rfl tail))
theorem may9_sp {N : Nat} (hN : 7000 ≤ N) : C_parryref9_May (K (N + 2)) tO tX = ri 0 := by
  have hn := hg.n
  have hlen := hg.len
  have hOl : tO.len = Ow.length := hO.1
  rw [C_parryref9_May_K, hOl, hXl]
  refine if_not (decide_eq_false (by omega)) (if_not (by rw [hlen]; simp) ?_)
  refine mayB9 hg hO hXl (fun i l hi => ?_) Ow.length 0 (by omega) (N + 1) (by omega)
  have hl := List.mem_of_getElem? hi
  obtain ⟨u1, u2⟩ := hg.up l hl
  rw [C_parryref9_rising_K]
  exact risingB (hX i l hi) (hll l hl) u1 (fun z hz => (u2 z hz).2) l.length 0 (by omega) N (-1) (by have := hll l hl; omega) (fun z hz => by have := (u2 z (List.mem_of_getElem? hz)).1; omega)
end
end Go.Proofs.YtnjandhaeojieaaGreat
set_option linter.unusedVariables false
set_option linter.unusedSimpArgs false
namespace Go.AM
open Go.Proofs.YtnjandhaeojieaaGreat
structure StR (n : Nat) (L : List (List Int)) (todo D D0 : List Int) : Prop where
  nd : (todo ++ D).Nodup
  rng : ∀ x, x ∈ todo ∨ x ∈ D → 0 ≤ x ∧ x < (n : Int)
  zero : (0 : Int) ∈ todo ∨ (0 : Int) ∈ D
  done : ∀ d ∈ D0, ∀ l, L[d.toNat]? = some l → ∀ z ∈ l, z ∈ todo ∨ z ∈ D
theorem int_up (n : Nat) : ((upFrom 0 n).length = n) ∧ ∀ x, x ∈ upFrom 0 n ↔ 0 ≤ x ∧ x < (n : Int) := ⟨upFrom_len n 0, fun x => by rw [upFrom_mem]; constructor <;> (intro h; omega)⟩
theorem StR.le {n : Nat} {L : List (List Int)} {todo D D0 : List Int} (h : StR n L todo D D0) : todo.length + D.length ≤ n := by
  have := nodup_sub (u := upFrom 0 n) h.nd fun x hx => ((int_up n).2 x).2 (h.rng x (List.mem_append.1 hx))
  rw [List.length_append, (int_up n).1] at this
  exact this
end Go.AM
namespace Go.Proofs.YtnjandhaeojieaaGreat
open Go.AM
section
variable {N0 n : Nat} {L : List (List Int)} {tO tX : T} (hn : n ≤ 3000) (hLn : L.length = n) (hXl : tX.len = n) (hX : ∀ i l, L[i]? = some l → Ints (tX.el i 0) l) (hl24 : ∀ l ∈ L, l.length ≤ 24) (hLr : ∀ l ∈ L, ∀ z ∈ l, 0 ≤ z ∧ z < (n : Int))
include hn hLn hXl hX hl24 hLr
end
end Go.Proofs.YtnjandhaeojieaaGreat
