/- Games that may be. -/
import Derived.Test.YtnjandhaeojieaaGreatLa67
set_option linter.unusedVariables false
set_option linter.unusedSimpArgs false
namespace Go.AM
open Go.Proofs.YtnjandhaeojieaaGreat
structure GOk (Ow : List Int) (L : List (List Int)) : Prop where
  n : Ow.length ≤ 3000
  len : L.length = Ow.length
  who : ∀ o ∈ Ow, o = 0 ∨ o = 1
  up : ∀ l ∈ L, l.Pairwise (· < ·) ∧ ∀ z ∈ l, 0 ≤ z ∧ z < (Ow.length : Int)
theorem le_lt_of_nodup {l : List Int} (h : l.Pairwise (fun x y => x ≤ y)) (hn : l.Nodup) : l.Pairwise (· < ·) := by
  refine (h.and hn).imp fun h => ?_
  have := h.1
  have := h.2
  omega
theorem idx_nodup {A ws : List Vx} (hw : ws.Nodup) (hs : ∀ w ∈ ws, w ∈ A) : (ws.map fun w => (A.idxOf w : Int)).Nodup := by
  rw [List.Nodup, List.pairwise_map]
  refine List.Pairwise.imp_of_mem (fun {a b} ha hb hab he => hab ?_) hw
  have he : A.idxOf a = A.idxOf b := by omega
  have i1 : A.idxOf a < A.length := List.idxOf_lt_length_iff.2 (hs a ha)
  have i2 : A.idxOf b < A.length := List.idxOf_lt_length_iff.2 (hs b hb)
  have e1 := List.getElem_idxOf i1
  have e2 := List.getElem_idxOf i2
  rw [← e1, ← e2]
  simp only [he]
theorem nextE_up {A ws : List Vx} (hw : ws.Nodup) (hs : ∀ w ∈ ws, w ∈ A) : (nextE A ws).Pairwise (· < ·) ∧ ∀ z ∈ nextE A ws, 0 ≤ z ∧ z < (A.length : Int) := by
  refine ⟨le_lt_of_nodup ?_ ?_, fun z hz => ?_⟩
  · unfold nextE
    have := List.pairwise_mergeSort (le := fun x y : Int => decide (x ≤ y)) (fun a b c h1 h2 => by simp at h1 h2 ⊢; omega) (fun a b => by simp; omega) (ws.map fun w => (A.idxOf w : Int))
    exact this.imp fun h => of_decide_eq_true h
  · unfold nextE
    exact (List.mergeSort_perm _ _).symm.nodup (idx_nodup hw hs)
  · unfold nextE at hz
    rw [List.mem_mergeSort, List.mem_map] at hz
    obtain ⟨w, hw, rfl⟩ := hz
    have := List.idxOf_lt_length_iff.2 (hs w hw)
    omega
theorem ways_nodup {m : Md} (hT : mayV m.vars = 0 → prodV m.vars ≤ 24) {v : Vx} (hv : v.1 = 1 ∨ v.1 = 2 ∨ v.1 = 3 ∨ v.1 = 4) : (waysE m v).Nodup := by
  have h1 := want_nodup hT v
  rw [← (ways_want hv).1, List.Nodup, List.pairwise_map] at h1
  exact h1.imp fun h e => h (by rw [e])
theorem Inv.gok {m : Md} {A : List Vx} {L : List (List Int)} (h : Inv m A.length A L) (hT : mayV m.vars = 0 → prodV m.vars ≤ 24) : GOk (A.map ownE) L := by
  have hs := h.small
  refine ⟨by rw [List.length_map]; omega, by rw [List.length_map, h.len], fun o ho => ?_, fun l hl => ?_⟩
  · obtain ⟨v, _, rfl⟩ := List.mem_map.1 ho
    unfold ownE
    split
    · exact .inr rfl
    · split
      · exact .inr rfl
      · exact .inl rfl
  · obtain ⟨i, hi, rfl⟩ := List.getElem_of_mem hl
    have hiA : i < A.length := by rw [← h.len]; exact hi
    obtain ⟨d1, d2⟩ := h.done i _ hiA (List.getElem?_eq_getElem hiA)
    rw [List.getElem?_eq_getElem hi] at d2
    have d2 := Option.some.inj d2
    rw [d2, List.length_map]
    exact nextE_up (ways_nodup hT (univE_kind (h.un _ (List.getElem_mem hiA)))) d1
end Go.AM
namespace Go.Proofs.YtnjandhaeojieaaGreat
open Go.AM
theorem risingB {h : H} {t : T} {zs : List Int} {n : Int} (ht : Ints t zs) (hl : zs.length ≤ 3000) (hr : zs.Pairwise (· < ·)) (hz : ∀ z ∈ zs, z < n) : ∀ (m j : Nat), j + m = zs.length → ∀ (N : Nat) (prev : Int), m < N → (∀ z, zs[j]? = some z → prev < z) → parryref9_rising.B0 h N n prev t (t.len : Int) (j : Int) = rb true
  | 0, j, hj, N, prev, hN, hp => by
    obtain ⟨N, rfl⟩ : ∃ M, N = M + 1 := ⟨N - 1, by omega⟩
    rw [parryref9_rising.B0_eq]
    exact if_not (decide_eq_false (by rw [ht.1]; omega)) rfl
  | m + 1, j, hj, N, prev, hN, hp => by
    obtain ⟨N, rfl⟩ : ∃ M, N = M + 1 := ⟨N - 1, by omega⟩
    have hlt : j < zs.length := by omega
    have hll : t.len = zs.length := ht.1
    have hs := ht.el0 hlt
    have h1 := hp _ (List.getElem?_eq_getElem hlt)
    have h2 := hz _ (List.getElem_mem hlt)
    have ih := risingB (h := h) ht hl hr hz m (j + 1) (by omega) N zs[j] (by omega) (fun z hzj => by
      obtain ⟨q, rfl⟩ := List.getElem?_eq_some_iff.1 hzj
      exact List.pairwise_iff_getElem.1 hr j (j + 1) hlt q (by omega))
    rw [parryref9_rising.B0_eq, wrap_eq (a := (j : Int) + 1) (by omega) (by omega)]
    refine if_of (decide_eq_true (by omega)) (if_of (by simp; omega) ?_)
    rw [Int.toNat_natCast, hs]
    exact if_not (decide_eq_false (by omega)) (if_not (decide_eq_false (by omega)) ih)
theorem rowB {h : H} {t : T} {zs : List Int} {n : Int} (ht : Ints t zs) (hl : zs.length ≤ 3000) (hr : zs.Pairwise (· < ·)) (hz : ∀ z ∈ zs, z < n) : ∀ (m j : Nat), j + m = zs.length → ∀ (N : Nat) (prev : Int), m < N → (∀ z, zs[j]? = some z → prev < z) → graph_row.B0 h N n prev t (t.len : Int) (j : Int) = rb true
  | 0, j, hj, N, prev, hN, hp => by
    obtain ⟨N, rfl⟩ : ∃ M, N = M + 1 := ⟨N - 1, by omega⟩
    rw [graph_row.B0_eq]
    exact if_not (decide_eq_false (by rw [ht.1]; omega)) rfl
  | m + 1, j, hj, N, prev, hN, hp => by
    obtain ⟨N, rfl⟩ : ∃ M, N = M + 1 := ⟨N - 1, by omega⟩
    have hlt : j < zs.length := by omega
    have hll : t.len = zs.length := ht.1
    have hs := ht.el0 hlt
    have h1 := hp _ (List.getElem?_eq_getElem hlt)
    have h2 := hz _ (List.getElem_mem hlt)
    have ih := rowB (h := h) ht hl hr hz m (j + 1) (by omega) N zs[j] (by omega) (fun z hzj => by
      obtain ⟨q, rfl⟩ := List.getElem?_eq_some_iff.1 hzj
      exact List.pairwise_iff_getElem.1 hr j (j + 1) hlt q (by omega))
    rw [graph_row.B0_eq, wrap_eq (a := (j : Int) + 1) (by omega) (by omega)]
    refine if_of (decide_eq_true (by omega)) (if_of (by simp; omega) ?_)
    rw [Int.toNat_natCast, hs]
    exact if_not (decide_eq_false (by omega)) (if_not (decide_eq_false (by omega)) ih)
section
variable {Ow : List Int} {L : List (List Int)} {tO tX : T} (hg : GOk Ow L) (hO : Ints tO Ow) (hXl : tX.len = L.length) (hX : ∀ i l, L[i]? = some l → Ints (tX.el i 0) l) (hll : ∀ l ∈ L, l.length ≤ 3000)
include hg hO hXl hX hll
omit hX hll in
theorem mayB9 {h : H} (hr : ∀ i l, L[i]? = some l → C_parryref9_rising h (tX.el i 0) (Ow.length : Int) = rb true) : ∀ (m j : Nat), j + m = Ow.length → ∀ (N : Nat), 2 * m + 1 ≤ N → parryref9_May.B0 h N (Ow.length : Int) (Ow.length : Int) (j : Int) tO tX = ri 0
  | 0, j, hj, N, hN => by
    obtain ⟨N, rfl⟩ : ∃ M, N = M + 1 := ⟨N - 1, by omega⟩
    rw [parryref9_May.B0_eq]
    exact if_not (decide_eq_false (by omega)) rfl
  | m + 1, j, hj, N, hN => by
    obtain ⟨N, rfl⟩ : ∃ M, N = M + 2 := ⟨N - 2, by omega⟩
    have hlt : j < Ow.length := by omega
    have hOl : tO.len = Ow.length := hO.1
    have hs := hO.el0 hlt
    have hlen := hg.len
    have hn := hg.n
    have ih := mayB9 hr m (j + 1) (by omega) N (by omega)
    have b1 : parryref9_May.B1 h (N + 1) (Ow.length : Int) (Ow.length : Int) (j : Int) tO tX = ri 0 := by
      rw [parryref9_May.B1_eq, wrap_eq (a := (j : Int) + 1) (by omega) (by omega)]
      exact ih
    have hL : j < L.length := by omega
    have hrj := hr j _ (List.getElem?_eq_getElem hL)
    have tail : (bif decide ((0 : Int) ≤ (j : Int)) && decide ((j : Int) < ((tX.len : Nat) : Int)) then (C_parryref9_rising h (tX.el ((j : Int).toNat) 0) (Ow.length : Int)).bind fun r3091 => (bif (!((r3091 0).bool)) then some (lookR [(0, (T.i 1))]) else parryref9_May.B1 h (N + 1) (Ow.length : Int) (Ow.length : Int) (j : Int) tO tX) else none) = ri 0 := by
      rw [Int.toNat_natCast]
      exact if_of (by simp; omega) (bind_of hrj (if_not rfl b1))
    rw [parryref9_May.B0_eq]
    refine if_of (decide_eq_true (by omega)) (if_of (by simp; omega) ?_)
    rw [show (tO.el ((j : Int).toNat) 0).int = Ow[j] by rw [Int.toNat_natCast]; exact hs]
    rcases hg.who Ow[j] (List.getElem_mem hlt) with e | e
    · rw [e]; exact if_not rfl tail
    · rw [e]; exact if_of rfl (if_of (by simp; omega) (if_not rfl tail))
omit hX hll in
theorem mayBg {h : H} (hr : ∀ i l, L[i]? = some l → C_graph_row h (tX.el i 0) (Ow.length : Int) = rb true) : ∀ (m j : Nat), j + m = Ow.length → ∀ (N : Nat), 2 * m + 1 ≤ N → graph_May.B0 h N tO (Ow.length : Int) (j : Int) tO tX = ri 0
  | 0, j, hj, N, hN => by
    obtain ⟨N, rfl⟩ : ∃ M, N = M + 1 := ⟨N - 1, by omega⟩
    rw [graph_May.B0_eq]
    exact if_not (decide_eq_false (by omega)) rfl
  | m + 1, j, hj, N, hN => by
    obtain ⟨N, rfl⟩ : ∃ M, N = M + 2 := ⟨N - 2, by omega⟩
    have hlt : j < Ow.length := by omega
    have hOl : tO.len = Ow.length := hO.1
    have hs := hO.el0 hlt
    have hlen := hg.len
    have hn := hg.n
    have ih := mayBg hr m (j + 1) (by omega) N (by omega)
    have b1 : graph_May.B1 h (N + 1) tO (Ow.length : Int) (j : Int) tO tX = ri 0 := by
      rw [graph_May.B1_eq, wrap_eq (a := (j : Int) + 1) (by omega) (by omega)]
      exact ih
    have hL : j < L.length := by omega
    have hrj := hr j _ (List.getElem?_eq_getElem hL)
    have tail : (bif decide ((0 : Int) ≤ (j : Int)) && decide ((j : Int) < ((tX.len : Nat) : Int)) then (C_graph_row h (tX.el ((j : Int).toNat) 0) ((tO.len : Nat) : Int)).bind fun r3091 => (bif (!((r3091 0).bool)) then some (lookR [(0, (T.i 1))]) else graph_May.B1 h (N + 1) tO (Ow.length : Int) (j : Int) tO tX) else none) = ri 0 := by
      rw [Int.toNat_natCast, hOl]
      exact if_of (by simp; omega) (bind_of hrj (if_not rfl b1))
    rw [graph_May.B0_eq]
    refine if_of (decide_eq_true (by omega)) (if_of (by simp; omega) ?_)
    rw [show (tO.el ((j : Int).toNat) 0).int = Ow[j] by rw [Int.toNat_natCast]; exact hs]
    rcases hg.who Ow[j] (List.getElem_mem hlt) with e | e
    · rw [e]; exact if_not rfl tail
    · rw [e]; exact if_of rfl (if_not rfl tail)
theorem may9_sp {N : Nat} (hN : 7000 ≤ N) : C_parryref9_May (K (N + 2)) tO tX = ri 0 := by
  have hn := hg.n
  have hlen := hg.len
  have hOl : tO.len = Ow.length := hO.1
  rw [C_parryref9_May_K, hOl, hXl]
  refine if_not (decide_eq_false (by omega)) (if_not (by rw [hlen]; simp) ?_)
  refine mayB9 hg hO hXl (fun i l hi => ?_) Ow.length 0 (by omega) (N + 1) (by omega)
  have hl := List.mem_of_getElem? hi
  obtain ⟨u1, u2⟩ := hg.up l hl
  rw [C_parryref9_rising_K]
  exact risingB (hX i l hi) (hll l hl) u1 (fun z hz => (u2 z hz).2) l.length 0 (by omega) N (-1) (by have := hll l hl; omega) (fun z hz => by have := (u2 z (List.mem_of_getElem? hz)).1; omega)
theorem mayg_sp {N : Nat} (hN : 7000 ≤ N) : C_graph_May (K (N + 2)) tO tX = ri 0 := by
  have hn := hg.n
  have hlen := hg.len
  have hOl : tO.len = Ow.length := hO.1
  rw [C_graph_May_K, hOl, hXl]
  refine if_not (decide_eq_false (by omega)) (if_not (by rw [hlen]; simp) ?_)
  refine mayBg hg hO hXl (fun i l hi => ?_) Ow.length 0 (by omega) (N + 1) (by omega)
  have hl := List.mem_of_getElem? hi
  obtain ⟨u1, u2⟩ := hg.up l hl
  rw [C_graph_row_K]
  exact rowB (hX i l hi) (hll l hl) u1 (fun z hz => (u2 z hz).2) l.length 0 (by omega) N (-1) (by have := hll l hl; omega) (fun z hz => by have := (u2 z (List.mem_of_getElem? hz)).1; omega)
end
end Go.Proofs.YtnjandhaeojieaaGreat
set_option linter.unusedVariables false
set_option linter.unusedSimpArgs false
namespace Go.AM
open Go.Proofs.YtnjandhaeojieaaGreat
def OutIs (n : Nat) (g : Nat → Nat → T) (todo D : List Int) : Prop := ∀ i, i < n → (g i 0).bool = decide ((i : Int) ∈ todo ∨ (i : Int) ∈ D)
structure StR (n : Nat) (L : List (List Int)) (todo D D0 : List Int) : Prop where
  nd : (todo ++ D).Nodup
  rng : ∀ x, x ∈ todo ∨ x ∈ D → 0 ≤ x ∧ x < (n : Int)
  zero : (0 : Int) ∈ todo ∨ (0 : Int) ∈ D
  done : ∀ d ∈ D0, ∀ l, L[d.toNat]? = some l → ∀ z ∈ l, z ∈ todo ∨ z ∈ D
def FinR (n : Nat) (r : Option R) : Prop := ∃ g', r = some (lookR [(0, T.l n g')]) ∧ ∀ i, i < n → (g' i 0).bool = true
theorem int_up (n : Nat) : ((upFrom 0 n).length = n) ∧ ∀ x, x ∈ upFrom 0 n ↔ 0 ≤ x ∧ x < (n : Int) := ⟨upFrom_len n 0, fun x => by rw [upFrom_mem]; constructor <;> (intro h; omega)⟩
theorem StR.le {n : Nat} {L : List (List Int)} {todo D D0 : List Int} (h : StR n L todo D D0) : todo.length + D.length ≤ n := by
  have := nodup_sub (u := upFrom 0 n) h.nd fun x hx => ((int_up n).2 x).2 (h.rng x (List.mem_append.1 hx))
  rw [List.length_append, (int_up n).1] at this
  exact this
end Go.AM
namespace Go.Proofs.YtnjandhaeojieaaGreat
open Go.AM
section
variable {N0 n : Nat} {L : List (List Int)} {tO tX : T} (hn : n ≤ 3000) (hLn : L.length = n) (hXl : tX.len = n) (hX : ∀ i l, L[i]? = some l → Ints (tX.el i 0) l) (hl24 : ∀ l ∈ L, l.length ≤ 24) (hLr : ∀ l ∈ L, ∀ z ∈ l, 0 ≤ z ∧ z < (n : Int))
include hn hLn hXl hX hl24 hLr
omit hX hl24 hLr in
theorem meet_sp {v : Int} {todo D D0 : List Int} {m : Nat} {g hh : Nat → Nat → T} (hs : StR n L todo D D0) (ho : OutIs n g todo D) (ht : Ints (T.l m hh) todo) (hv : 0 ≤ v ∧ v < (n : Int)) :
    ∃ todo' m' g' hh', C_graph_Reach_1 (K (N0 + 1)) n m v g hh = some (lookR [(0, T.l n g'), (1, T.l m' hh')]) ∧ (∀ p1, C_graph_Reach_1_v1 (K (N0 + 1)) n p1 v g m hh = some (lookR [(0, T.l n g'), (1, T.l m' hh')])) ∧
      StR n L todo' D D0 ∧ OutIs n g' todo' D ∧ Ints (T.l m' hh') todo' ∧ (v ∈ todo' ∨ v ∈ D) ∧ (∀ x, x ∈ todo → x ∈ todo') := by
  have hle := hs.le
  have hm : m = todo.length := ht.1
  have hvn : v.toNat < n := by omega
  have hov := ho v.toNat hvn
  rw [show ((v.toNat : Nat) : Int) = v by omega] at hov
  by_cases hc : v ∈ todo ∨ v ∈ D
  · rw [decide_eq_true hc] at hov
    refine ⟨todo, m, g, hh, ?_, fun p1 => ?_, hs, ho, ht, hc, fun x h => h⟩
    · rw [C_graph_Reach_1_K, Nat.zero_add, hov]
      exact if_of (by simp; omega) (if_of (decide_eq_true hvn) (if_not rfl rfl))
    · rw [C_graph_Reach_1_v1_K, Nat.zero_add, hov]
      exact if_of (by simp; omega) (if_of (decide_eq_true hvn) (if_not rfl rfl))
  · rw [decide_eq_false hc] at hov
    have hnt : v ∉ todo := fun h => hc (.inl h)
    have hnD : v ∉ D := fun h => hc (.inr h)
    refine ⟨todo ++ [v], m + 1, fun i j => (bif i == v.toNat && Nat.ble 0 j && Nat.blt j (0 + ([(T.b true)] : List T).length) then ([(T.b true)] : List T).getD (j - 0) (.b false) else (g i j)), pushG m hh v, ?_, fun p1 => ?_, ⟨?_, fun x hx => ?_, ?_, fun d hd l hl z hz => ?_⟩, fun i hi => ?_, Ints_push ht v, .inl (by simp), fun x h => List.mem_append.2 (.inl h)⟩
    · rw [C_graph_Reach_1_K, Nat.zero_add, hov]
      exact if_of (by simp; omega) (if_of (decide_eq_true hvn) (if_of rfl (if_of (by simp; omega) (if_of (decide_eq_true hvn) (if_of (decide_eq_true (by omega)) rfl)))))
    · rw [C_graph_Reach_1_v1_K, Nat.zero_add, hov]
      exact if_of (by simp; omega) (if_of (decide_eq_true hvn) (if_of rfl (if_of (by simp; omega) (if_of (decide_eq_true hvn) (if_of (decide_eq_true (by omega)) rfl)))))
    · have hnd := hs.nd
      rw [List.nodup_append] at hnd ⊢
      obtain ⟨n1, n2, n3⟩ := hnd
      refine ⟨?_, n2, fun a ha b hb => ?_⟩
      · rw [List.nodup_append]
        exact ⟨n1, by simp, fun a ha b hb => by rw [List.mem_singleton.1 hb]; rintro rfl; exact hnt ha⟩
      · rcases List.mem_append.1 ha with ha | ha
        · exact n3 a ha b hb
        · rw [List.mem_singleton.1 ha]; rintro rfl; exact hnD hb
    · rcases hx with hx | hx
      · rcases List.mem_append.1 hx with hx | hx
        · exact hs.rng x (.inl hx)
        · rw [List.mem_singleton.1 hx]; exact hv
      · exact hs.rng x (.inr hx)
    · rcases hs.zero with h | h
      · exact .inl (List.mem_append.2 (.inl h))
      · exact .inr h
    · rcases hs.done d hd l hl z hz with h | h
      · exact .inl (List.mem_append.2 (.inl h))
      · exact .inr h
    · show (bif i == v.toNat && Nat.ble 0 0 && Nat.blt 0 (0 + 1) then ([(T.b true)] : List T).getD (0 - 0) (.b false) else g i 0).bool = _
      by_cases hiv : i = v.toNat
      · subst hiv
        rw [beq_self_eq_true]
        have : ((v.toNat : Nat) : Int) ∈ todo ++ [v] := by rw [show ((v.toNat : Nat) : Int) = v by omega]; simp
        rw [decide_eq_true (.inl this)]
        rfl
      · rw [show (i == v.toNat) = false by simpa using hiv]
        show (g i 0).bool = _
        rw [ho i hi]
        congr 1
        have : ¬ (i : Int) = v := by omega
        simp [this]
omit hX hl24 hLr in
theorem gB11 {zs D D0 : List Int} {tz : T} {Q : Option R → Prop} {F : Nat} (hz : Ints tz zs) (hzl : zs.length ≤ 24) (hzr : ∀ z ∈ zs, 0 ≤ z ∧ z < (n : Int))
    (hQ : ∀ N todo' m' g' hh', F ≤ N → StR n L todo' D D0 → OutIs n g' todo' D → Ints (T.l m' hh') todo' → (∀ z ∈ zs, z ∈ todo' ∨ z ∈ D) → Q (graph_Reach.B2 (K (N0 + 1)) N n m' tO tX g' hh')) :
    ∀ (k j : Nat), j + k = zs.length → ∀ (N : Nat) (todo : List Int) (m : Nat) (g hh : Nat → Nat → T), F + 4 * k + 2 ≤ N → StR n L todo D D0 → OutIs n g todo D → Ints (T.l m hh) todo → (∀ z ∈ zs.take j, z ∈ todo ∨ z ∈ D) →
      Q (graph_Reach.B11 (K (N0 + 1)) N n m tz (tz.len : Int) (j : Int) tO tX g hh)
  | 0, j, hj, N, todo, m, g, hh, hN, hs, ho, ht, hd => by
    obtain ⟨N, rfl⟩ : ∃ M, N = M + 2 := ⟨N - 2, by omega⟩
    rw [List.take_of_length_le (by omega)] at hd
    refine Eq.mpr (congrArg Q ?_) (hQ N todo m g hh (by omega) hs ho ht hd)
    have hzl' := hz.1
    rw [graph_Reach.B11_eq, graph_Reach.B12_eq]
    exact if_not (decide_eq_false (by omega)) rfl
  | k + 1, j, hj, N, todo, m, g, hh, hN, hs, ho, ht, hd => by
    obtain ⟨N, rfl⟩ : ∃ M, N = M + 4 := ⟨N - 4, by omega⟩
    have hlt : j < zs.length := by omega
    have hzl' := hz.1
    have e0 := hz.el0 hlt
    obtain ⟨todo', m', g', hh', e1, _, q1, q2, q3, q4, q5⟩ := meet_sp (N0 := N0) hn hLn hXl hs ho ht (hzr _ (List.getElem_mem hlt))
    have ih := gB11 hz hzl hzr hQ k (j + 1) (by omega) N todo' m' g' hh' (by omega) q1 q2 q3 (fun z hzm => by
      rw [List.take_succ_eq_append_getElem hlt] at hzm
      rcases List.mem_append.1 hzm with h | h
      · exact (hd z h).imp (q5 z) id
      · rw [List.mem_singleton.1 h]; exact q4)
    refine Eq.mpr (congrArg Q ?_) ih
    rw [graph_Reach.B11_eq, graph_Reach.B12_eq]
    refine if_of (decide_eq_true (by omega)) ?_
    rw [graph_Reach.B13_eq]
    refine if_of (by simp; omega) ?_
    rw [Int.toNat_natCast, e0]
    refine bind_of e1 ?_
    rw [graph_Reach.B10_eq, wrap_eq (a := (j : Int) + 1) (by omega) (by omega)]
    rfl
theorem gB5 (hpred : ∀ q, 1 ≤ q → q < n → ∃ j, j < q ∧ ∃ l, L[j]? = some l ∧ (q : Int) ∈ l) :
    ∀ (k : Nat) (N : Nat) (v : Int) (todo D : List Int) (p1 m : Nat) (g hh : Nat → Nat → T), n ≤ D.length + k → 110 * k + 120 ≤ N → m < p1 → StR n L todo (v :: D) D → OutIs n g todo (v :: D) → Ints (T.l m hh) todo →
      FinR n (graph_Reach.B5 (K (N0 + 1)) N n p1 (tX.el v.toNat 0) (((tX.el v.toNat 0).len : Nat) : Int) 0 tO tX g m hh)
  | 0, N, v, todo, D, p1, m, g, hh, hk, hN, hm, hs, ho, ht => by
    have := hs.le
    simp at this
    omega
  | k + 1, N, v, todo, D, p1, m, g, hh, hk, hN, hm, hs, ho, ht => by
    have hvr := hs.rng v (.inr (List.mem_cons_self ..))
    have hvL : v.toNat < L.length := by omega
    have hrow := hX v.toNat _ (List.getElem?_eq_getElem hvL)
    have hmemL : L[v.toNat] ∈ L := List.getElem_mem hvL
    have hzl := hl24 _ hmemL
    have hzr := hLr _ hmemL
    have hlen := hrow.1
    have allDone : ∀ {todo' : List Int}, StR n L todo' (v :: D) D → (∀ z ∈ L[v.toNat], z ∈ todo' ∨ z ∈ v :: D) → StR n L todo' (v :: D) (v :: D) := by
      intro todo' h1 h2
      refine ⟨h1.nd, h1.rng, h1.zero, fun d hd l hl z hz => ?_⟩
      rcases List.mem_cons.1 hd with rfl | hd
      · rw [List.getElem?_eq_getElem hvL] at hl
        cases hl
        exact h2 z hz
      · exact h1.done d hd l hl z hz
    have fin : ∀ {D' : List Int} {g' : Nat → Nat → T}, StR n L [] D' D' → OutIs n g' [] D' → ∀ i, i < n → (g' i 0).bool = true := by
      intro D' g' h1 h2
      have all : ∀ i, i < n → (i : Int) ∈ D' := by
        intro i
        induction i using Nat.strongRecOn with
        | _ i ih =>
          intro hi
          by_cases h0 : i = 0
          · subst h0
            rcases h1.zero with h | h
            · cases h
            · exact h
          · obtain ⟨j, hj, l, hl, hq⟩ := hpred i (by omega) hi
            have hjD := ih j hj (by omega)
            rcases h1.done _ hjD l (by rw [Int.toNat_natCast]; exact hl) _ hq with h | h
            · cases h
            · exact h
      intro i hi
      rw [h2 i hi, decide_eq_true (.inr (all i hi))]
    have pop : ∀ {todo' : List Int} {x : Int} {m' : Nat} {hh' : Nat → Nat → T}, StR n L (todo' ++ [x]) (v :: D) (v :: D) → Ints (T.l m' hh') (todo' ++ [x]) → (hh' (m' - 1) 0).int = x ∧ m' = todo'.length + 1 ∧ Ints (T.l (m' - 1) hh') todo' ∧ StR n L todo' (x :: v :: D) (v :: D) := by
      intro todo' x m' hh' h1 h2
      have hm' : m' = todo'.length + 1 := by have := h2.1; simpa [T.len] using this
      refine ⟨?_, hm', ⟨by show m' - 1 = _; omega, fun i u hi => ?_⟩, ⟨?_, fun y hy => ?_, ?_, fun d hd l hl z hz => ?_⟩⟩
      · have := h2.2 todo'.length x (by simp)
        rw [show m' - 1 = todo'.length by omega]
        exact this
      · have hit := (List.getElem?_eq_some_iff.1 hi).1
        exact h2.2 i u (by rw [List.getElem?_append_left hit]; exact hi)
      · have := h1.nd
        rwa [List.append_assoc, List.singleton_append] at this
      · refine h1.rng y ?_
        rcases hy with hy | hy
        · exact .inl (List.mem_append.2 (.inl hy))
        · rcases List.mem_cons.1 hy with rfl | hy
          · exact .inl (by simp)
          · exact .inr hy
      · rcases h1.zero with h | h
        · rcases List.mem_append.1 h with h | h
          · exact .inl h
          · exact .inr (by rw [List.mem_singleton.1 h]; exact List.mem_cons_self ..)
        · exact .inr (List.mem_cons_of_mem _ h)
      · rcases h1.done d hd l hl z hz with h | h
        · rcases List.mem_append.1 h with h | h
          · exact .inl h
          · exact .inr (by rw [List.mem_singleton.1 h]; exact List.mem_cons_self ..)
        · exact .inr (List.mem_cons_of_mem _ h)
    have outs : ∀ {todo' : List Int} {x : Int} {g' : Nat → Nat → T}, OutIs n g' (todo' ++ [x]) (v :: D) → OutIs n g' todo' (x :: v :: D) := by
      intro todo' x g' h i hi
      rw [h i hi]
      congr 1
      apply propext
      constructor
      · rintro (h | h)
        · rcases List.mem_append.1 h with h | h
          · exact .inl h
          · exact .inr (by rw [List.mem_singleton.1 h]; exact List.mem_cons_self ..)
        · exact .inr (List.mem_cons_of_mem _ h)
      · rintro (h | h)
        · exact .inl (List.mem_append.2 (.inl h))
        · rcases List.mem_cons.1 h with h | h
          · exact .inl (List.mem_append.2 (.inr (by rw [h]; exact List.mem_singleton.2 rfl)))
          · exact .inr h
    by_cases hz0 : L[v.toNat].length = 0
    · obtain ⟨N, rfl⟩ : ∃ M, N = M + 4 := ⟨N - 4, by omega⟩
      have hnil : L[v.toNat] = [] := List.eq_nil_of_length_eq_zero hz0
      have hs2 := allDone hs (by rw [hnil]; simp)
      have e8 : graph_Reach.B5 (K (N0 + 1)) (N + 4) n p1 (tX.el v.toNat 0) (((tX.el v.toNat 0).len : Nat) : Int) 0 tO tX g m hh = graph_Reach.B8 (K (N0 + 1)) (N + 2) n p1 tO tX g m hh := by
        rw [graph_Reach.B5_eq, graph_Reach.B6_eq]
        exact if_not (decide_eq_false (by omega)) rfl
      refine Eq.mpr (congrArg (FinR n) e8) ?_
      rcases List.eq_nil_or_concat todo with rfl | ⟨todo', x, rfl⟩
      · have hm0 : m = 0 := ht.1
        subst hm0
        refine ⟨g, ?_, fin hs2 ho⟩
        rw [graph_Reach.B8_eq]
        exact if_not (by decide) (by rw [graph_Reach.B4_eq])
      · rw [List.concat_eq_append] at hs2 ht ho
        obtain ⟨p2, p3, p4, p5⟩ := pop hs2 ht
        have hxr := p5.rng x (.inr (List.mem_cons_self ..))
        have hmle : m ≤ n := by have := hs2.le; simp at this; omega
        have ih := gB5 hpred k N x todo' (v :: D) p1 (m - 1) g hh (by simp; omega) (by omega) (by omega) p5 (outs ho) p4
        refine Eq.mpr (congrArg (FinR n) ?_) ih
        have ew : IntKind.wrap .i64 (((m : Nat) : Int) - 1) = ((m - 1 : Nat) : Int) := by rw [wrap_eq (by omega) (by omega)]; omega
        rw [graph_Reach.B8_eq]
        refine if_of (decide_eq_true (by omega)) ?_
        rw [graph_Reach.B9_eq, ew, Int.toNat_natCast, Nat.zero_add, p2]
        exact if_of (by simp <;> omega) (if_of (decide_eq_true (by omega)) (if_of (by simp <;> omega) (if_of (by simp <;> omega) rfl)))
    · obtain ⟨N, rfl⟩ : ∃ M, N = M + 4 := ⟨N - 4, by omega⟩
      have hlt : 0 < L[v.toNat].length := by omega
      have e0 := hrow.el0 hlt
      obtain ⟨todo1, m1, g1, hh1, _, e1, q1, q2, q3, q4, q5⟩ := meet_sp (N0 := N0) hn hLn hXl hs ho ht (hzr _ (List.getElem_mem hlt))
      have main := gB11 (N0 := N0) (tO := tO) (Q := FinR n) (F := 110 * k + 125) hn hLn hXl (D := v :: D) (D0 := D) hrow hzl hzr (fun N todo' m' g' hh' hN' s1 s2 s3 s4 => by
        obtain ⟨N, rfl⟩ : ∃ M, N = M + 2 := ⟨N - 2, by omega⟩
        have hs2 := allDone s1 s4
        rcases List.eq_nil_or_concat todo' with rfl | ⟨todo2, x, rfl⟩
        · have hm0 : m' = 0 := s3.1
          subst hm0
          refine ⟨g', ?_, fin hs2 s2⟩
          rw [graph_Reach.B2_eq]
          exact if_not (by decide) (by rw [graph_Reach.B4_eq])
        · rw [List.concat_eq_append] at hs2 s3 s2
          obtain ⟨p2, p3, p4, p5⟩ := pop hs2 s3
          have hxr := p5.rng x (.inr (List.mem_cons_self ..))
          have hmle : m' ≤ n := by have := hs2.le; simp at this; omega
          have ih := gB5 hpred k N x todo2 (v :: D) m' (m' - 1) g' hh' (by simp; omega) (by omega) (by omega) p5 (outs s2) p4
          refine Eq.mpr (congrArg (FinR n) ?_) ih
          have ew : IntKind.wrap .i64 (((m' : Nat) : Int) - 1) = ((m' - 1 : Nat) : Int) := by rw [wrap_eq (by omega) (by omega)]; omega
          rw [graph_Reach.B2_eq]
          refine if_of (decide_eq_true (by omega)) ?_
          rw [graph_Reach.B3_eq, ew, Int.toNat_natCast, Nat.zero_add, p2]
          exact if_of (by simp <;> omega) (if_of (decide_eq_true (by omega)) (if_of (by simp <;> omega) (if_of (by simp <;> omega) rfl))))
        (L[v.toNat].length - 1) 1 (by omega) N todo1 m1 g1 hh1 (by omega) q1 q2 q3 (fun z hz => by
          rw [show (1 : Nat) = 0 + 1 from rfl, List.take_succ_eq_append_getElem hlt] at hz
          simp at hz
          rw [hz]; exact q4)
      refine Eq.mpr (congrArg (FinR n) ?_) main
      rw [graph_Reach.B5_eq, graph_Reach.B6_eq]
      refine if_of (decide_eq_true (by omega)) ?_
      rw [graph_Reach.B7_eq]
      refine if_of (by simp; omega) ?_
      rw [show ((0 : Int).toNat) = 0 from rfl, e0]
      refine bind_of (e1 p1) ?_
      rw [graph_Reach.B10_eq, wrap_eq (a := (0 : Int) + 1) (by omega) (by omega)]
      rfl
end
end Go.Proofs.YtnjandhaeojieaaGreat
set_option linter.unusedVariables false
set_option linter.unusedSimpArgs false
namespace Go.Proofs.YtnjandhaeojieaaGreat
open Go.AM
theorem Reach_sp {N : Nat} {n : Nat} {Ow : List Int} {L : List (List Int)} {tO tX : T} (hg : GOk Ow L) (hO : Ints tO Ow) (hOn : Ow.length = n) (hn : 1 ≤ n ∧ n ≤ 700) (hLn : L.length = n) (hXl : tX.len = n) (hX : ∀ i l, L[i]? = some l → Ints (tX.el i 0) l) (hl24 : ∀ l ∈ L, l.length ≤ 24)
    (hpred : ∀ q, 1 ≤ q → q < n → ∃ j, j < q ∧ ∃ l, L[j]? = some l ∧ (q : Int) ∈ l) (hN : 200000 ≤ N) (tF : T) (hF : tF.len = 1) (hF0 : (tF.el 0 0).bool = true) :
    FinR n (C_graph_Reach (K (N + 3)) tO tX tF) := by
  have hOl : tO.len = n := by rw [← hOn]; exact hO.1
  have hmay := mayg_sp hg hO (by rw [hXl, hLn]) hX (fun l hl => by have := hl24 l hl; omega) (N := N) (by omega)
  have hLr : ∀ l ∈ L, ∀ z ∈ l, 0 ≤ z ∧ z < (n : Int) := fun l hl z hz => by rw [← hOn]; exact (hg.up l hl).2 z hz
  have hg0 : ∀ i : Nat, ((fun (i j : Nat) => (([(T.b false)] : List T).getD j (.b false))) i 0).bool = false := fun i => rfl
  have e0 : ∃ g1 h1, C_graph_Reach_1 (K (N + 2)) n 0 0 (fun i j => (([(T.b false)] : List T).getD j (.b false))) (fun _ _ => .b false) = some (lookR [(0, T.l n g1), (1, T.l 1 h1)]) ∧ OutIs n g1 [0] [] ∧ Ints (T.l 1 h1) [0] := by
    refine ⟨fun i j => (bif i == (0 : Int).toNat && Nat.ble 0 j && Nat.blt j (0 + ([(T.b true)] : List T).length) then ([(T.b true)] : List T).getD (j - 0) (.b false) else (([(T.b false)] : List T).getD j (.b false))), pushG 0 (fun _ _ => .b false) 0, ?_, fun i hi => ?_, ?_⟩
    · rw [C_graph_Reach_1_K, Nat.zero_add]
      exact if_of (by simp; omega) (if_of (decide_eq_true (by show 0 < n; omega)) (if_of rfl (if_of (by simp; omega) (if_of (decide_eq_true (by show 0 < n; omega)) (if_of (decide_eq_true (by omega)) rfl)))))
    · by_cases h0 : i = 0
      · subst h0; rfl
      · show (bif i == (0 : Int).toNat && Nat.ble 0 0 && Nat.blt 0 (0 + 1) then ([(T.b true)] : List T).getD (0 - 0) (.b false) else T.b false).bool = _
        rw [show (i == (0 : Int).toNat) = false by simpa using h0]
        have : ¬ ((i : Int) ∈ [(0 : Int)] ∨ (i : Int) ∈ ([] : List Int)) := by simp; omega
        rw [decide_eq_false this]
        rfl
    · exact Ints_push (n := 0) (l := []) ⟨rfl, by simp⟩ 0
  obtain ⟨g1, h1, e1, o1, i1⟩ := e0
  have loop : ∀ (k j : Nat), 1 ≤ j → j + k = n → ∀ M, 2 * k + 100000 ≤ M → FinR n (graph_Reach.B0 (K (N + 2)) M n 1 tF (n : Int) (j : Int) tO tX g1 h1) := by
    intro k
    induction k with
    | zero =>
      intro j hj1 hj M hM
      obtain ⟨M, rfl⟩ : ∃ q, M = q + 3 := ⟨M - 3, by omega⟩
      have hs : StR n L ([] : List Int) (0 :: []) [] := ⟨by simp, fun x hx => by rcases hx with h | h; cases h; rw [List.mem_singleton.1 h]; omega, .inr (by simp), fun d hd => by cases hd⟩
      have ho : OutIs n g1 [] (0 :: []) := fun i hi => by rw [o1 i hi]; exact decide_eq_decide.2 ⟨fun h => .inr (h.elim id fun q => absurd q List.not_mem_nil), fun h => .inl (h.elim (fun q => absurd q List.not_mem_nil) id)⟩
      have hz : (h1 0 0).int = 0 := i1.2 0 0 rfl
      have main := gB5 (N0 := N + 1) (tO := tO) (by omega) hLn hXl hX hl24 hLr hpred n M 0 [] [] 1 0 g1 h1 (by simp) (by omega) (by omega) hs ho ⟨rfl, by simp⟩
      refine Eq.mpr (congrArg (FinR n) ?_) main
      rw [graph_Reach.B0_eq]
      refine if_not (decide_eq_false (by omega)) ?_
      rw [graph_Reach.B2_eq]
      refine if_of (by decide) ?_
      rw [graph_Reach.B3_eq]
      have ew : IntKind.wrap .i64 (((1 : Nat) : Int) - 1) = 0 := by decide
      rw [ew, show ((0 : Int).toNat) = 0 from rfl, hz]
      exact if_of (by decide) (if_of (by decide) (if_of (by decide) (if_of (by simp; omega) rfl)))
    | succ k ih =>
      intro j hj1 hj M hM
      obtain ⟨M, rfl⟩ : ∃ q, M = q + 2 := ⟨M - 2, by omega⟩
      refine Eq.mpr (congrArg (FinR n) ?_) (ih (j + 1) (by omega) (by omega) M (by omega))
      rw [graph_Reach.B0_eq]
      refine if_of (decide_eq_true (by omega)) (if_not (decide_eq_false (by omega)) ?_)
      rw [graph_Reach.B1_eq, wrap_eq (a := (j : Int) + 1) (by omega) (by omega)]
      rfl
  refine Eq.mpr (congrArg (FinR n) ?_) (loop (n - 1) 1 (Nat.le_refl _) (by omega) N (by omega))
  rw [C_graph_Reach_K, hOl]
  refine bind_of hmay (if_not rfl (if_of (by simp; omega) ?_))
  rw [Int.toNat_natCast]
  rw [graph_Reach.B0_eq]
  refine if_of (decide_eq_true (by omega)) (if_of (decide_eq_true (by omega)) (if_of (by simp; omega) ?_))
  rw [show ((0 : Int).toNat) = 0 from rfl]
  refine if_of hF0 (bind_of e1 ?_)
  rw [graph_Reach.B1_eq, show IntKind.wrap .i64 ((0 : Int) + 1) = ((1 : Nat) : Int) by decide]
  rfl
end Go.Proofs.YtnjandhaeojieaaGreat
