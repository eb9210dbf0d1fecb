/- The law ArenaTurns: the game may be; the players take turns; each vertex is reached. -/
import Derived.Test.YtnjandhaeojieaaGreatLa68
set_option linter.unusedVariables false
set_option linter.unusedSimpArgs false
namespace Go.AM
open Go.Proofs.YtnjandhaeojieaaGreat
def SMap (x : T) (A : List Vx) : Prop := MK 3 x (A.map vl) fun _ => 1
theorem SMap.nil : SMap noT [] := MK.nil 3 _
theorem SMap.get {x : T} {A : List Vx} (h : SMap x A) (v : Vx) : (mget x 3 ([(T.i v.1), (T.i v.2.1), (T.i v.2.2)] : List T) ([(T.i 0)] : List T) 0).int = if v ∈ A then 1 else 0 := by
  have := MK.get (b := vl v) h rfl (z := 0)
  simp only [mem_vl] at this
  exact this
theorem SMap.set {x : T} {A : List Vx} (h : SMap x A) (v : Vx) : SMap (mset x 3 ([(T.i v.1), (T.i v.2.1), (T.i v.2.2)] : List T) ([(T.i 1)] : List T)) (addV A v) := by
  have := MK.set (b := vl v) h rfl 1
  have e : (fun i => if i = (A.map vl).idxOf (vl v) then (1 : Int) else (fun _ => 1) i) = fun _ => 1 := by funext i; split <;> rfl
  rw [e] at this
  unfold addV
  by_cases hv : v ∈ A
  · rw [if_pos (mem_vl.2 hv)] at this
    rw [if_pos hv]
    exact this
  · rw [if_neg (fun q => hv (mem_vl.1 q))] at this
    rw [if_neg hv]
    unfold SMap
    rw [List.map_append]
    exact this
theorem Inv.short {m : Md} {A : List Vx} {L : List (List Int)} (h : Inv m A.length A L) (hw : ∀ v, (waysE m v).length ≤ 24) : ∀ l ∈ L, l.length ≤ 24 := by
  intro l hl
  obtain ⟨i, hi, rfl⟩ := List.getElem_of_mem hl
  have hiA : i < A.length := by rw [← h.len]; exact hi
  obtain ⟨_, d2⟩ := h.done i _ hiA (List.getElem?_eq_getElem hiA)
  rw [List.getElem?_eq_getElem hi] at d2
  have d2 := Option.some.inj d2
  rw [d2]
  unfold nextE
  rw [List.length_mergeSort, List.length_map]
  exact hw _
end Go.AM
namespace Go.Proofs.YtnjandhaeojieaaGreat
open Go.AM
section
variable {h : H} {m : Md} {A : List Vx} {L : List (List Int)} {tO tX : T} {nA : Nat} {gA : Nat → Nat → T} {Q : Option R}
variable (hI : Inv m A.length A L) (hv : Verts nA gA A) (ho : Ints tO (A.map ownE)) (hXl : tX.len = L.length) (hX : ∀ i l, L[i]? = some l → Ints (tX.el i 0) l) (hl24 : ∀ l ∈ L, l.length ≤ 24)
include hI hv ho hXl hX hl24
end
end Go.Proofs.YtnjandhaeojieaaGreat
set_option linter.unusedVariables false
set_option linter.unusedSimpArgs false
namespace Go.Proofs.YtnjandhaeojieaaGreat
open Go.AM
def Bd (b : Int) (r : Option R) : Prop := ∃ x, r = ri x ∧ 0 ≤ x ∧ x ≤ b
theorem Bd.eq {b : Int} {r s : Option R} (h : Bd b s) (e : r = s) : Bd b r := e ▸ h
theorem heavyVd {h : H} {l : T} (hl : l.len ≤ 9223372036854775807) : ∀ (m i : Nat), i ≤ 10 → i + m = l.len → ∀ N, m < N → Bd 11 (parrylaw1_Heavy.B0 h N l (l.len : Int) (i : Int))
  | 0, i, h10, hi, N, hN => by
    obtain ⟨N, rfl⟩ : ∃ M, N = M + 1 := ⟨N - 1, by omega⟩
    exact ⟨0, by rw [parrylaw1_Heavy.B0_eq]; exact if_not (decide_eq_false (by omega)) rfl, by omega, by omega⟩
  | m + 1, i, h10, hi, N, hN => by
    obtain ⟨N, rfl⟩ : ∃ M, N = M + 1 := ⟨N - 1, by omega⟩
    have e : parrylaw1_Heavy.B0 h (N + 1) l (l.len : Int) (i : Int) = _ := parrylaw1_Heavy.B0_eq h N l (l.len : Int) (i : Int)
    rw [wrap_eq (a := (i : Int) + 1) (by omega) (by omega)] at e
    by_cases c1 : (i : Int) ≥ 10
    · exact ⟨(i : Int) + 1, by rw [e]; exact if_of (decide_eq_true (by omega)) (if_of (by simp; omega) (if_of (decide_eq_true c1) rfl)), by omega, by omega⟩
    · by_cases c2 : (((l.el (i : Int).toNat 0).str.size : Nat) : Int) > 100
      · exact ⟨(i : Int) + 1, by rw [e]; exact if_of (decide_eq_true (by omega)) (if_of (by simp; omega) (if_not (decide_eq_false c1) (if_of (decide_eq_true c2) rfl))), by omega, by omega⟩
      · exact (heavyVd (h := h) hl m (i + 1) (by omega) (by omega) N (by omega)).eq (by rw [e]; exact if_of (decide_eq_true (by omega)) (if_of (by simp; omega) (if_not (decide_eq_false c1) (if_not (decide_eq_false c2) rfl))))
theorem heavyV_bd (l : T) (hl : l.len ≤ 9223372036854775807) : Ev fun N => Bd 11 (C_parrylaw1_Heavy (K N) l) := by
  refine Ev.step ((Ev.ge (l.len + 1)).imp fun N hN => ?_)
  rw [C_parrylaw1_Heavy_K]
  exact heavyVd hl l.len 0 (by omega) (by omega) N (by omega)
theorem weighD {h : H} {k : T} (hk : KW k) {d r : Int} (hr : r ≤ 500) (hc : ∀ i, i < k.len → ∀ op n d r, r ≤ 500 → Bd 1000 (C_parrylaw2_weigh h op n (k.el i 2) d r)) : ∀ (m i : Nat), i + m = k.len → ∀ N n, m < N → 0 ≤ n → n ≤ r → Bd 1000 (parrylaw2_weigh.B0 h N d r n k (k.len : Int) (i : Int))
  | 0, i, hi, N, n, hN, n0, n1 => by
    obtain ⟨N, rfl⟩ : ∃ M, N = M + 1 := ⟨N - 1, by omega⟩
    rw [parrylaw2_weigh.B0_eq]
    exact ⟨n, if_not (decide_eq_false (by omega)) rfl, by omega, by omega⟩
  | m + 1, i, hi, N, n, hN, n0, n1 => by
    obtain ⟨N, rfl⟩ : ∃ M, N = M + 1 := ⟨N - 1, by omega⟩
    have hl := hk.len
    obtain ⟨y, hy, y0, y1⟩ := hc i (by omega) (k.el i 0).int (k.el i 1).int (IntKind.wrap .i64 (d + 1)) (r - n) (by omega)
    have e : parrylaw2_weigh.B0 h (N + 1) d r n k (k.len : Int) (i : Int) = _ := parrylaw2_weigh.B0_eq h N d r n k (k.len : Int) (i : Int)
    rw [wrap_eq (a := (i : Int) + 1) (by omega) (by omega), Int.toNat_natCast, wrap_eq (a := r - n) (by omega) (by omega), hy, ri_bind, lookR_0, int_i, wrap_eq (a := n + y) (by omega) (by omega)] at e
    by_cases c1 : n + y > r
    · exact ⟨1000, by rw [e]; exact if_of (decide_eq_true (by omega)) (if_of (by simp; omega) (if_of (decide_eq_true c1) rfl)), by omega, by omega⟩
    · exact (weighD (h := h) (d := d) (r := r) hk hr hc m (i + 1) (by omega) N (n + y) (by omega) (by omega) (by omega)).eq (by rw [e]; exact if_of (decide_eq_true (by omega)) (if_of (by simp; omega) (if_not (decide_eq_false c1) rfl)))
theorem weigh_bd : ∀ k, KW k → Ev fun N => ∀ op n d r, r ≤ 500 → Bd 1000 (C_parrylaw2_weigh (K N) op n k d r) := by
  refine kids_ind fun k ih hk => ?_
  refine Ev.step ((Ev.all (k := k.len) fun i hi => ih i hi (hk.el hi)).imp2 (Ev.ge (k.len + 1)) fun N hc hN op n d r hr => ?_)
  rw [C_parrylaw2_weigh_K]
  by_cases c1 : d > 40
  · exact ⟨1000, if_of (decide_eq_true c1) rfl, by omega, by omega⟩
  · by_cases c2 : r < 1
    · exact ⟨1000, if_not (decide_eq_false c1) (if_of (decide_eq_true c2) rfl), by omega, by omega⟩
    · obtain ⟨x, hx, x0, x1⟩ := weighD (d := d) (r := r) hk hr hc k.len 0 (by omega) N 1 (by omega) (by omega) (by omega)
      exact ⟨x, if_not (decide_eq_false c1) (if_not (decide_eq_false c2) hx), x0, x1⟩
theorem heavyE_bd (k : T) (hk : KW k) : Ev fun N => ∀ op n, Bd 1000 (C_parrylaw2_Heavy (K N) op n k) := by
  refine Ev.step ((weigh_bd k hk).imp fun N h op n => ?_)
  obtain ⟨x, hx, x0, x1⟩ := h op n 0 500 (by omega)
  rw [C_parrylaw2_Heavy_K, hx, ri_bind, lookR_0, int_i]
  by_cases c : x > 300
  · exact ⟨x, if_of (decide_eq_true c) rfl, x0, x1⟩
  · exact ⟨0, if_not (decide_eq_false c) rfl, by omega, by omega⟩
theorem hdB3 {h : H} {a b d t : T} {p4 u : Int} (ht : KW t) (hc : ∀ i, i < t.len → ∀ o n, Bd 1000 (C_parrylaw2_Heavy h o n (t.el i 2))) {c : Nat} (hk : ∀ M, c ≤ M → ∀ n, 0 ≤ n → n + u ≤ 1000000 → Bd 1000000 (parrylaw5_Heavy.B2 h M n a b d (IntKind.wrap .i64 (p4 + 1)))) :
    ∀ (m i : Nat), i + m = t.len → ∀ N n, c + m < N → 0 ≤ n → n + 1000 * m + u ≤ 1000000 → 0 ≤ u → Bd 1000000 (parrylaw5_Heavy.B3 h N n a b d p4 t (t.len : Int) (i : Int))
  | 0, i, hi, N, n, hN, n0, n1, u0 => by
    obtain ⟨N, rfl⟩ : ∃ M, N = M + 1 := ⟨N - 1, by omega⟩
    refine (hk N (by omega) n n0 (by omega)).eq ?_
    rw [parrylaw5_Heavy.B3_eq]
    exact if_not (decide_eq_false (by omega)) rfl
  | m + 1, i, hi, N, n, hN, n0, n1, u0 => by
    obtain ⟨N, rfl⟩ : ∃ M, N = M + 1 := ⟨N - 1, by omega⟩
    have hl := ht.len
    obtain ⟨y, hy, y0, y1⟩ := hc i (by omega) (t.el i 0).int (t.el i 1).int
    refine (hdB3 ht hc hk m (i + 1) (by omega) N (n + y) (by omega) (by omega) (by omega) u0).eq ?_
    rw [parrylaw5_Heavy.B3_eq, Int.toNat_natCast, wrap_eq (a := (i : Int) + 1) (by omega) (by omega)]
    refine if_of (decide_eq_true (by omega)) (if_of (by simp; omega) (bind_of hy ?_))
    rw [lookR_0, int_i, wrap_eq (a := n + y) (by omega) (by omega)]
    rfl
theorem hdB2 {h : H} {a b d : T} (ha : KW a) (hb : KW b) (hd : KW d) (ca : ∀ i, i < a.len → ∀ o n, Bd 1000 (C_parrylaw2_Heavy h o n (a.el i 2))) (cb : ∀ i, i < b.len → ∀ o n, Bd 1000 (C_parrylaw2_Heavy h o n (b.el i 2))) (cd : ∀ i, i < d.len → ∀ o n, Bd 1000 (C_parrylaw2_Heavy h o n (d.el i 2))) (la : a.len ≤ 8) (lb : b.len ≤ 8) (ld : d.len ≤ 8) :
    ∀ N n, 40 ≤ N → 0 ≤ n → n + 24000 ≤ 1000000 → Bd 1000000 (parrylaw5_Heavy.B2 h N n a b d 0) := by
  have k3 : ∀ M, 1 ≤ M → ∀ n, 0 ≤ n → n + 0 ≤ 1000000 → Bd 1000000 (parrylaw5_Heavy.B2 h M n a b d (IntKind.wrap .i64 (2 + 1))) := by
    intro M hM n n0 n1
    obtain ⟨M, rfl⟩ : ∃ M', M = M' + 1 := ⟨M - 1, by omega⟩
    rw [show IntKind.wrap .i64 ((2 : Int) + 1) = 3 by decide, parrylaw5_Heavy.B2_eq]
    exact ⟨n, if_not (by decide) rfl, n0, by omega⟩
  have k2 : ∀ M, 12 ≤ M → ∀ n, 0 ≤ n → n + 8000 ≤ 1000000 → Bd 1000000 (parrylaw5_Heavy.B2 h M n a b d (IntKind.wrap .i64 (1 + 1))) := by
    intro M hM n n0 n1
    obtain ⟨M, rfl⟩ : ∃ M', M = M' + 1 := ⟨M - 1, by omega⟩
    refine (hdB3 (h := h) (a := a) (b := b) (d := d) (p4 := 2) hd cd k3 d.len 0 (by omega) M n (by omega) n0 (by omega) (by omega)).eq ?_
    rw [show IntKind.wrap .i64 ((1 : Int) + 1) = 2 by decide, parrylaw5_Heavy.B2_eq]
    exact if_of (by decide) (if_not (by decide) (if_not (by decide) (if_of (by decide) rfl)))
  have k1 : ∀ M, 24 ≤ M → ∀ n, 0 ≤ n → n + 16000 ≤ 1000000 → Bd 1000000 (parrylaw5_Heavy.B2 h M n a b d (IntKind.wrap .i64 (0 + 1))) := by
    intro M hM n n0 n1
    obtain ⟨M, rfl⟩ : ∃ M', M = M' + 1 := ⟨M - 1, by omega⟩
    refine (hdB3 (h := h) (a := a) (b := b) (d := d) (p4 := 1) hb cb k2 b.len 0 (by omega) M n (by omega) n0 (by omega) (by omega)).eq ?_
    rw [show IntKind.wrap .i64 ((0 : Int) + 1) = 1 by decide, parrylaw5_Heavy.B2_eq]
    exact if_of (by decide) (if_not (by decide) (if_of (by decide) rfl))
  intro N n hN n0 n1
  obtain ⟨N, rfl⟩ : ∃ M', N = M' + 1 := ⟨N - 1, by omega⟩
  refine (hdB3 (h := h) (a := a) (b := b) (d := d) (p4 := 0) ha ca k1 a.len 0 (by omega) N n (by omega) n0 (by omega) (by omega)).eq ?_
  rw [parrylaw5_Heavy.B2_eq]
  exact if_of (by decide) (if_of (by decide) rfl)
theorem hdB4 {h : H} {te ts l k1 k2 e0 s0 ta tn tp t s : T} {p3 o1 n1 o2 n2 q u : Int} {len : Int} (hs : KS s) (hc : ∀ i, i < s.len → ∀ o n, Bd 1000 (C_parrylaw2_Heavy h o n (s.el i 4))) {c : Nat} (hk : ∀ M, c ≤ M → ∀ n, 0 ≤ n → n + u ≤ 1000000 → Bd 1000000 (parrylaw5_Heavy.B1 h M n te ts p3 t len (IntKind.wrap .i64 (q + 1)) l o1 n1 k1 o2 n2 k2 e0 s0 ta tn tp)) :
    ∀ (m i : Nat), i + m = s.len → ∀ N n, c + m < N → 0 ≤ n → n + 1000 * m + u ≤ 1000000 → 0 ≤ u → Bd 1000000 (parrylaw5_Heavy.B4 h N n te ts p3 t len q s (s.len : Int) (i : Int) l o1 n1 k1 o2 n2 k2 e0 s0 ta tn tp)
  | 0, i, hi, N, n, hN, n0, n1, u0 => by
    obtain ⟨N, rfl⟩ : ∃ M, N = M + 1 := ⟨N - 1, by omega⟩
    refine (hk N (by omega) n n0 (by omega)).eq ?_
    rw [parrylaw5_Heavy.B4_eq]
    exact if_not (decide_eq_false (by omega)) rfl
  | m + 1, i, hi, N, n, hN, n0, n1, u0 => by
    obtain ⟨N, rfl⟩ : ∃ M, N = M + 1 := ⟨N - 1, by omega⟩
    have hl := hs.1
    obtain ⟨y, hy, y0, y1⟩ := hc i (by omega) (s.el i 2).int (s.el i 3).int
    refine (hdB4 hs hc hk m (i + 1) (by omega) N (n + y) (by omega) (by omega) (by omega) u0).eq ?_
    rw [parrylaw5_Heavy.B4_eq, Int.toNat_natCast, wrap_eq (a := (i : Int) + 1) (by omega) (by omega)]
    refine if_of (decide_eq_true (by omega)) (if_of (by simp; omega) (bind_of hy ?_))
    rw [lookR_0, int_i, wrap_eq (a := n + y) (by omega) (by omega)]
    rfl
theorem hdB1 {h : H} {te ts l k1 k2 e0 s0 ta tn tp t : T} {p3 o1 n1 o2 n2 u : Int} (ht : KC t) (hg : ∀ i, i < t.len → ∀ o n, Bd 1000 (C_parrylaw2_Heavy h o n (t.el i 2))) (hc : ∀ i, i < t.len → ∀ j, j < (t.el i 3).len → ∀ o n, Bd 1000 (C_parrylaw2_Heavy h o n ((t.el i 3).el j 4))) {c : Nat} (hk : ∀ M, c ≤ M → ∀ n, 0 ≤ n → n + u ≤ 1000000 → Bd 1000000 (parrylaw5_Heavy.B0 h M n te ts (IntKind.wrap .i64 (p3 + 1)) l o1 n1 k1 o2 n2 k2 e0 s0 ta tn tp)) :
    ∀ (m i : Nat), i + m = t.len → ∀ N n, c + 20 * m < N → 0 ≤ n → n + 13000 * m + u ≤ 1000000 → 0 ≤ u → Bd 1000000 (parrylaw5_Heavy.B1 h N n te ts p3 t (t.len : Int) (i : Int) l o1 n1 k1 o2 n2 k2 e0 s0 ta tn tp)
  | 0, i, hi, N, n, hN, n0, n1', u0 => by
    obtain ⟨N, rfl⟩ : ∃ M, N = M + 1 := ⟨N - 1, by omega⟩
    refine (hk N (by omega) n n0 (by omega)).eq ?_
    rw [parrylaw5_Heavy.B1_eq]
    exact if_not (decide_eq_false (by omega)) rfl
  | m + 1, i, hi, N, n, hN, n0, n1', u0 => by
    obtain ⟨N, rfl⟩ : ∃ M, N = M + 1 := ⟨N - 1, by omega⟩
    have hl := ht.1
    obtain ⟨y, hy, y0, y1⟩ := hg i (by omega) (t.el i 0).int (t.el i 1).int
    have e : parrylaw5_Heavy.B1 h (N + 1) n te ts p3 t (t.len : Int) (i : Int) l o1 n1 k1 o2 n2 k2 e0 s0 ta tn tp = _ := parrylaw5_Heavy.B1_eq h N n te ts p3 t (t.len : Int) (i : Int) l o1 n1 k1 o2 n2 k2 e0 s0 ta tn tp
    rw [Int.toNat_natCast] at e
    by_cases c12 : (t.el i 3).len ≤ 12
    · refine (hdB4 (h := h) (te := te) (ts := ts) (l := l) (k1 := k1) (k2 := k2) (e0 := e0) (s0 := s0) (ta := ta) (tn := tn) (tp := tp) (t := t) (p3 := p3) (o1 := o1) (n1 := n1) (o2 := o2) (n2 := n2) (q := i) (len := t.len) (u := 13000 * m + u) (ht.2 i (by omega)).2 (hc i (by omega)) (c := c + 20 * m + 1) (fun M hM n g0 g1 => by
        rw [wrap_eq (a := (i : Int) + 1) (by omega) (by omega)]
        exact hdB1 ht hg hc hk m (i + 1) (by omega) M n (by omega) g0 (by omega) u0) (t.el i 3).len 0 (by omega) N (n + y) (by omega) (by omega) (by omega) (by omega)).eq ?_
      rw [e]
      refine if_of (decide_eq_true (by omega)) (if_of (by simp; omega) (if_not (decide_eq_false (by omega)) (bind_of hy ?_)))
      rw [lookR_0, int_i, wrap_eq (a := n + y) (by omega) (by omega)]
      rfl
    · exact ⟨1, by rw [e]; exact if_of (decide_eq_true (by omega)) (if_of (by simp; omega) (if_of (decide_eq_true (by omega)) rfl)), by omega, by omega⟩
end Go.Proofs.YtnjandhaeojieaaGreat
set_option linter.unusedVariables false
set_option linter.unusedSimpArgs false
namespace Go.AM
open Go.Proofs.YtnjandhaeojieaaGreat
def Adds (a b : List Cm) : Prop := b = a ∨ ∃ c, b = a ++ [c]
theorem all_adds {l : List Va} {a b : List Cm} {k s n x : Int} (h : Adds a b) (hx : x ∈ allE l a k s n) : x ∈ allE l b k s n := by
  rcases h with rfl | ⟨c, rfl⟩
  · exact hx
  · rw [all_mem] at hx ⊢
    obtain ⟨d, hd, h⟩ := hx
    exact ⟨d, List.mem_append.2 (.inl hd), h⟩
theorem ways_mono {m m2 : Md} (h : mayM m = 0) (h2 : mayM m2 = 0) (hv : m2.vars = m.vars) (hi : m2.ie = m.ie) (hj : m2.is = m.is) (he : Adds m.env m2.env) (hs : Adds m.sys m2.sys) {v w : Vx} (hw : w ∈ waysE m v) : w ∈ waysE m2 v := by
  have e1 : initEnvE m2 = initEnvE m := by
    unfold initEnvE
    rw [if_neg (show ¬ mayM m2 ≠ 0 by simpa using h2), if_neg (show ¬ mayM m ≠ 0 by simpa using h), hv, hi]
  have e2 : ∀ p, initSysE m2 p = initSysE m p := by
    intro p
    unfold initSysE
    rw [if_neg (show ¬ mayM m2 ≠ 0 by simpa using h2), if_neg (show ¬ mayM m ≠ 0 by simpa using h), hv, hj]
  have e3 : ∀ s x, x ∈ envE m s → x ∈ envE m2 s := by
    intro s x hx
    unfold envE at hx ⊢
    rw [if_neg (by simpa using h)] at hx
    rw [if_neg (by simpa using h2), hv]
    split at hx
    · cases hx
    · rename_i c
      rw [if_neg c]
      exact all_adds he hx
  have e4 : ∀ s p x, x ∈ sysE m s p → x ∈ sysE m2 s p := by
    intro s p x hx
    unfold sysE at hx ⊢
    rw [if_neg (by simpa using h)] at hx
    rw [if_neg (by simpa using h2), hv]
    split at hx
    · cases hx
    · rename_i c
      rw [if_neg c]
      split at hx
      · cases hx
      · rename_i d
        rw [if_neg d]
        exact all_adds hs hx
  unfold waysE at hw ⊢
  split at hw
  · rename_i c
    rw [if_pos c, e1]; exact hw
  · rename_i c
    rw [if_neg c]
    split at hw
    · rename_i c
      rw [if_pos c, e2]; exact hw
    · rename_i c
      rw [if_neg c]
      split at hw
      · rename_i c
        rw [if_pos c]
        obtain ⟨x, hx, rfl⟩ := List.mem_map.1 hw
        exact List.mem_map.2 ⟨x, e3 _ _ hx, rfl⟩
      · rename_i c
        rw [if_neg c]
        split at hw
        · rename_i c
          rw [if_pos c]
          obtain ⟨x, hx, rfl⟩ := List.mem_map.1 hw
          exact List.mem_map.2 ⟨x, e4 _ _ _ hx, rfl⟩
        · cases hw
theorem at_sub {m m2 : Md} {A A2 : List Vx} {L L2 : List (List Int)} (h : Inv m A.length A L) (h2 : Inv m2 A2.length A2 L2) (hw : ∀ v w, w ∈ waysE m v → w ∈ waysE m2 v) : ∀ v ∈ A, v ∈ A2 := by
  have key : ∀ (n q : Nat), q ≤ n → ∀ b, A[q]? = some b → b ∈ A2 := by
    intro n
    induction n with
    | zero =>
      intro q hq b hb
      have : q = 0 := by omega
      subst this
      rw [h.root] at hb
      cases hb
      exact List.mem_of_getElem? h2.root
    | succ n ih =>
      intro q hq b hb
      by_cases c : q = 0
      · exact ih 0 (by omega) b (c ▸ hb)
      · obtain ⟨j, a, hj, ha, hb2⟩ := h.from_ q b (by omega) hb
        obtain ⟨i, hi, hia⟩ := List.getElem_of_mem (ih j (by omega) a ha)
        exact (h2.done i a hi (by rw [List.getElem?_eq_getElem hi, hia])).1 b (hw a b hb2)
  intro v hv
  obtain ⟨i, hi, rfl⟩ := List.getElem_of_mem hv
  exact key i i (by omega) _ (List.getElem?_eq_getElem hi)
end Go.AM
namespace Go.Proofs.YtnjandhaeojieaaGreat
open Go.AM
theorem heavyM_bd (l k1 k2 te ts ta tn tp : T) (hl : l.len ≤ 9223372036854775807) (h1 : KW k1) (h2 : KW k2) (he : KC te) (hs : KC ts) (ha : KW ta) (hn : KW tn) (hp : KW tp) : Ev fun N => ∀ o1 n1 o2 n2, Bd 1000000 (C_parrylaw5_Heavy (K N) l o1 n1 k1 o2 n2 k2 te ts ta tn tp) := by
  have hcs : ∀ t, KC t → Ev fun N => (∀ i, i < t.len → ∀ o n, Bd 1000 (C_parrylaw2_Heavy (K N) o n (t.el i 2))) ∧ ∀ i, i < t.len → ∀ j, j < (t.el i 3).len → ∀ o n, Bd 1000 (C_parrylaw2_Heavy (K N) o n ((t.el i 3).el j 4)) := fun t ht =>
    (Ev.all fun i hi => heavyE_bd _ (ht.2 i hi).1).and (Ev.all fun i hi => Ev.all fun j hj => heavyE_bd _ ((ht.2 i hi).2.2 j hj))
  have hks : ∀ t, KW t → Ev fun N => ∀ i, i < t.len → ∀ o n, Bd 1000 (C_parrylaw2_Heavy (K N) o n (t.el i 2)) := fun t ht => Ev.all fun i hi => heavyE_bd _ (ht.el hi)
  refine Ev.step (Ev.imp4 (Ev.and (heavyV_bd l hl) (Ev.and (heavyE_bd k1 h1) (heavyE_bd k2 h2))) (Ev.and (hcs te he) (hcs ts hs)) (Ev.and (hks ta ha) (Ev.and (hks tn hn) (hks tp hp))) (Ev.ge 5000) fun N q1 q2 q3 hN o1 n1 o2 n2 => ?_)
  obtain ⟨⟨y, hy, _, _⟩, hz1, hz2⟩ := q1
  obtain ⟨⟨ce1, ce2⟩, cs1, cs2⟩ := q2
  obtain ⟨ca, cn, cp⟩ := q3
  obtain ⟨z1, hz1, a1, a2⟩ := hz1 o1 n1
  obtain ⟨z2, hz2, a3, a4⟩ := hz2 o2 n2
  rw [C_parrylaw5_Heavy_K]
  have one : ∀ {r : Option R}, r = ri 1 → Bd 1000000 r := fun e => ⟨1, e, by omega, by omega⟩
  by_cases g0 : y > 0
  · exact one (bind_of hy (if_of (decide_eq_true g0) rfl))
  have n0 : ∀ {X Y Z : Option R}, Y = Z → (bif decide (((lookR [(0, T.i y)]) 0).int > (0 : Int)) then X else Y) = Z := fun h => if_not (decide_eq_false g0) h
  by_cases g1 : te.len > 16
  · exact one (bind_of hy (n0 (if_of (decide_eq_true (by omega)) rfl)))
  by_cases g2 : ts.len > 16
  · exact one (bind_of hy (n0 (if_not (decide_eq_false (by omega)) (if_of (decide_eq_true (by omega)) rfl))))
  by_cases g3 : ta.len > 8
  · exact one (bind_of hy (n0 (if_not (decide_eq_false (by omega)) (if_not (decide_eq_false (by omega)) (if_of (decide_eq_true (by omega)) rfl)))))
  by_cases g4 : tn.len > 8
  · exact one (bind_of hy (n0 (if_not (decide_eq_false (by omega)) (if_not (decide_eq_false (by omega)) (if_not (decide_eq_false (by omega)) (if_of (decide_eq_true (by omega)) rfl))))))
  by_cases g5 : tp.len > 8
  · exact one (bind_of hy (n0 (if_not (decide_eq_false (by omega)) (if_not (decide_eq_false (by omega)) (if_not (decide_eq_false (by omega)) (if_not (decide_eq_false (by omega)) (if_of (decide_eq_true (by omega)) rfl)))))))
  have r2 : ∀ M, 60 ≤ M → ∀ n, 0 ≤ n → n + 30000 ≤ 1000000 → Bd 1000000 (parrylaw5_Heavy.B0 (K N) M n te ts (IntKind.wrap .i64 (1 + 1)) l o1 n1 k1 o2 n2 k2 te ts ta tn tp) := by
    intro M hM n n0 n1
    obtain ⟨M, rfl⟩ : ∃ M', M = M' + 1 := ⟨M - 1, by omega⟩
    refine (hdB2 (h := K N) ha hn hp ca cn cp (by omega) (by omega) (by omega) M n (by omega) n0 (by omega)).eq ?_
    rw [show IntKind.wrap .i64 ((1 : Int) + 1) = 2 by decide, parrylaw5_Heavy.B0_eq]
    exact if_not (by decide) rfl
  have r1 : ∀ M, 500 ≤ M → ∀ n, 0 ≤ n → n + 300000 ≤ 1000000 → Bd 1000000 (parrylaw5_Heavy.B0 (K N) M n te ts (IntKind.wrap .i64 (0 + 1)) l o1 n1 k1 o2 n2 k2 te ts ta tn tp) := by
    intro M hM n n0 n1'
    obtain ⟨M, rfl⟩ : ∃ M', M = M' + 1 := ⟨M - 1, by omega⟩
    refine (hdB1 (h := K N) (te := te) (ts := ts) (l := l) (k1 := k1) (k2 := k2) (e0 := te) (s0 := ts) (ta := ta) (tn := tn) (tp := tp) (p3 := 1) (o1 := o1) (n1 := n1) (o2 := o2) (n2 := n2) hs cs1 cs2 r2 ts.len 0 (by omega) M n (by omega) n0 (by omega) (by omega)).eq ?_
    rw [show IntKind.wrap .i64 ((0 : Int) + 1) = 1 by decide, parrylaw5_Heavy.B0_eq]
    exact if_of (by decide) (if_not (by decide) (if_of (by decide) rfl))
  obtain ⟨N', hN'⟩ : ∃ M, N = M + 1 := ⟨N - 1, by omega⟩
  have b0 : Bd 1000000 (parrylaw5_Heavy.B0 (K N) N (IntKind.wrap .i64 (z1 + z2)) te ts 0 l o1 n1 k1 o2 n2 k2 te ts ta tn tp) := by
    have := parrylaw5_Heavy.B0_eq (K N) N' (IntKind.wrap .i64 (z1 + z2)) te ts 0 l o1 n1 k1 o2 n2 k2 te ts ta tn tp
    rw [← hN'] at this
    rw [this, wrap_eq (a := z1 + z2) (by omega) (by omega)]
    refine (hdB1 (h := K N) (te := te) (ts := ts) (l := l) (k1 := k1) (k2 := k2) (e0 := te) (s0 := ts) (ta := ta) (tn := tn) (tp := tp) (p3 := 0) (o1 := o1) (n1 := n1) (o2 := o2) (n2 := n2) he ce1 ce2 r1 te.len 0 (by omega) N' (z1 + z2) (by omega) (by omega) (by omega) (by omega)).eq ?_
    exact if_of (by decide) (if_of (by decide) rfl)
  refine b0.eq ?_
  exact bind_of hy (n0 (if_not (decide_eq_false (by omega)) (if_not (decide_eq_false (by omega)) (if_not (decide_eq_false (by omega)) (if_not (decide_eq_false (by omega)) (if_not (decide_eq_false (by omega)) (bind_of hz1 (bind_of hz2 rfl))))))))
theorem heavy6_bd (l k1 k2 te ts ta tn tp : T) (hl : l.len ≤ 9223372036854775807) (h1 : KW k1) (h2 : KW k2) (he : KC te) (hs : KC ts) (ha : KW ta) (hn : KW tn) (hp : KW tp) :
    Ev fun N => ∀ o1 n1 o2 n2, ∃ x, C_parrylaw6_Heavy (K N) l o1 n1 k1 o2 n2 k2 te ts ta tn tp = ri x ∧ (0 ≤ x ∧ x ≤ 1000000) ∧ (¬ 0 < x → mayV (varsOf l) = 0 → prodV (varsOf l) ≤ 24) := by
  have tot : Ev fun N => ∃ x, C_parryref1_Total (K N) l = ri x ∧ (mayV (varsOf l) = 0 → x = prodV (varsOf l)) := by
    by_cases c : mayV (varsOf l) = 0
    · exact (refTotal_sp l hl c).imp fun N h => ⟨_, h, fun _ => (total_prod c).1⟩
    · exact (totalAny_sp l hl).imp fun N h => by
        obtain ⟨x, h⟩ := h
        exact ⟨x, h, fun q => absurd q c⟩
  refine Ev.step (Ev.imp (Ev.and (heavyM_bd l k1 k2 te ts ta tn tp hl h1 h2 he hs ha hn hp) tot) fun N hb o1 n1 o2 n2 => ?_)
  obtain ⟨b1, x, b2, b3⟩ := hb
  obtain ⟨y, b1, y0, y1⟩ := b1 o1 n1 o2 n2
  rw [C_parrylaw6_Heavy_K]
  by_cases c1 : 0 < y
  · exact ⟨y, bind_of b1 (if_of (decide_eq_true c1) rfl), ⟨y0, y1⟩, fun q => absurd c1 q⟩
  by_cases c2 : 24 < x
  · exact ⟨1, bind_of b1 (if_not (decide_eq_false c1) (bind_of b2 (if_of (decide_eq_true c2) rfl))), ⟨by omega, by omega⟩, fun q => absurd (by omega) q⟩
  · refine ⟨0, bind_of b1 (if_not (decide_eq_false c1) (bind_of b2 (if_not (decide_eq_false c2) rfl))), ⟨by omega, by omega⟩, fun _ q => ?_⟩
    rw [← b3 q]; omega
end Go.Proofs.YtnjandhaeojieaaGreat
set_option linter.unusedVariables false
set_option linter.unusedSimpArgs false
namespace Go.Proofs.YtnjandhaeojieaaGreat
open Go.AM
theorem aoB2 {h : H} {tO tX x : T} {nA : Nat} {gA : Nat → Nat → T} {A S : List Vx} {Q : Option R} (hv : Verts nA gA A) (hA : A.length ≤ 1000) (hx : SMap x S) (hs : ∀ v ∈ A, v ∈ S) (hm : C_parryref9_May h tO tX = ri 0) (hQ : ((C_parrylaw10_awake h).bind fun r => some (lookR [(0, T.b (r 0).bool)])) = Q) :
    ∀ (k i : Nat), i + k = A.length → ∀ N, k + 1 ≤ N → parrylaw10_ArenaMore.B2 h N (T.l nA gA) (nA : Int) (i : Int) tO tX (T.l nA gA) x = Q
  | 0, i, hi, N, hN => by
    obtain ⟨N, rfl⟩ : ∃ M, N = M + 1 := ⟨N - 1, by omega⟩
    have := hv.1
    rw [parrylaw10_ArenaMore.B2_eq]
    exact if_not (decide_eq_false (by omega)) (bind_of hm (if_of rfl hQ))
  | k + 1, i, hi, N, hN => by
    obtain ⟨N, rfl⟩ : ∃ M, N = M + 1 := ⟨N - 1, by omega⟩
    have hlt : i < A.length := by omega
    have hn := hv.1
    have hi2 : A[i]? = some A[i] := List.getElem?_eq_getElem hlt
    obtain ⟨y1, y2, y3⟩ := hv.2 _ _ hi2
    have ih := aoB2 hv hA hx hs hm hQ k (i + 1) (by omega) N (by omega)
    have hg := hx.get A[i]
    rw [if_pos (hs _ (List.getElem_mem hlt))] at hg
    rw [parrylaw10_ArenaMore.B2_eq, wrap_eq (a := (i : Int) + 1) (by omega) (by omega)]
    simp only [Int.toNat_natCast, len_l, el_l]
    rw [y1, y2, y3, hg]
    exact if_of (decide_eq_true (by omega)) (if_of (by simp; omega) (if_not rfl ih))
theorem aoB1 {h : H} {tO tX tA : T} {n2 : Nat} {g2 : Nat → Nat → T} {A2 : List Vx} {Q : Option R} {F : Nat} (hv : Verts n2 g2 A2) (hA : A2.length ≤ 1000)
    (hE : ∀ N x S, F ≤ N → SMap x S → (∀ v ∈ A2, v ∈ S) → parrylaw10_ArenaMore.B2 h N tA (tA.len : Int) 0 tO tX tA x = Q) :
    ∀ (k i : Nat), i + k = A2.length → ∀ N x S, F + k + 1 ≤ N → SMap x S → (∀ v ∈ A2.take i, v ∈ S) → parrylaw10_ArenaMore.B1 h N (T.l n2 g2) (n2 : Int) (i : Int) tO tX tA x = Q
  | 0, i, hi, N, x, S, hN, hx, hs => by
    obtain ⟨N, rfl⟩ : ∃ M, N = M + 1 := ⟨N - 1, by omega⟩
    have := hv.1
    rw [List.take_of_length_le (by omega)] at hs
    rw [parrylaw10_ArenaMore.B1_eq]
    exact if_not (decide_eq_false (by omega)) (hE N x S (by omega) hx hs)
  | k + 1, i, hi, N, x, S, hN, hx, hs => by
    obtain ⟨N, rfl⟩ : ∃ M, N = M + 1 := ⟨N - 1, by omega⟩
    have hlt : i < A2.length := by omega
    have hn := hv.1
    have hi2 : A2[i]? = some A2[i] := List.getElem?_eq_getElem hlt
    obtain ⟨y1, y2, y3⟩ := hv.2 _ _ hi2
    have ih := aoB1 hv hA hE k (i + 1) (by omega) N _ _ (by omega) (hx.set A2[i]) (fun v hvm => by
      rw [addV_mem]
      rw [List.take_succ_eq_append_getElem hlt] at hvm
      rcases List.mem_append.1 hvm with q | q
      · exact .inl (hs v q)
      · exact .inr (List.mem_singleton.1 q))
    rw [parrylaw10_ArenaMore.B1_eq, wrap_eq (a := (i : Int) + 1) (by omega) (by omega)]
    simp only [Int.toNat_natCast, len_l, el_l]
    rw [y1, y2, y3]
    exact if_of (decide_eq_true (by omega)) (if_of (by simp; omega) ih)
theorem ArenaMore_sp (l : T) (o1 n1 : Int) (k1 : T) (o2 n2 : Int) (k2 te ts ta tn tp : T) (co cn : Int) (ck ct : T) (ev : Bool) (wl : WT Tryz.prog 22 l) (w1 : WT Tryz.prog 23 k1) (w2 : WT Tryz.prog 23 k2) (we : WT Tryz.prog 26 te) (ws : WT Tryz.prog 26 ts) (wa : WT Tryz.prog 23 ta) (wn : WT Tryz.prog 23 tn) (wp : WT Tryz.prog 23 tp) (wk : WT Tryz.prog 23 ck) (wt : WT Tryz.prog 29 ct) :
    Ev fun N => C_parrylaw10_ArenaMore (K N) l o1 n1 k1 o2 n2 k2 te ts ta tn tp co cn ck ct ev = rb true := by
  have hl := WT_len wl
  have h1 := WT_KW w1
  have h2 := WT_KW w2
  have he := WT_KC we
  have hs := WT_KC ws
  have ha := WT_KW wa
  have hn := WT_KW wn
  have hp := WT_KW wp
  have hk := WT_KW wk
  have ht := WT_KS wt
  have hno : KC noT := ⟨by show 0 ≤ _; omega, fun i hi => absurd hi (Nat.not_lt_zero _)⟩
  obtain ⟨m, hmd⟩ : ∃ m : Md, m = ⟨varsOf l, .mk o1 n1 (kidsOf k1), .mk o2 n2 (kidsOf k2), cmdsOf te, cmdsOf ts, kidsOf ta, kidsOf tn, kidsOf tp⟩ := ⟨_, rfl⟩
  obtain ⟨cc, hcc⟩ : ∃ c : Cm, c = ⟨.mk co cn (kidsOf ck), setsOf ct⟩ := ⟨_, rfl⟩
  have base := Ev.and (Ev.and (Ev.and (heavy6_bd l k1 k2 te ts ta tn tp hl h1 h2 he hs ha hn hp) (heavy6_bd noT noT noT (one1C co cn ck ct) noT noT noT noT (by show 0 ≤ _; omega) KW_noT KW_noT (KC_one1 hk ht) hno KW_noT KW_noT KW_noT)) awake10_sp) (Ev.and (refMayM_sp l hl k1 k2 te ts ta tn tp h1 h2 he hs ha hn hp) (refMayCmd_sp l hl ck ct hk ht))
  have sum : ∀ {x y : Int}, 0 ≤ x → x ≤ 1000000 → 0 ≤ y → y ≤ 1000000 → ¬ IntKind.wrap .i64 (x + y) > 0 → ¬ 0 < x := fun a b c d e => by
    rw [wrap_eq (by omega) (by omega)] at e; omega
  by_cases good : mayM m = 0 ∧ prodV (varsOf l) ≤ 24 ∧ mayCmd (varsOf l) ev cc = 0 ∧ te.len < 12 ∧ ts.len < 12
  case neg =>
    refine Ev.step (base.imp fun N hb => ?_)
    obtain ⟨⟨⟨hh, hd⟩, haw⟩, hr, hc⟩ := hb
    obtain ⟨x, hx, ⟨x0, x1⟩, hx2⟩ := hh o1 n1 o2 n2
    obtain ⟨y, hy, ⟨y0, y1⟩, _⟩ := hd 0 0 0 0
    have aw : ((C_parrylaw10_awake (K N)).bind fun r => some (lookR [(0, T.b (r 0).bool)])) = rb true := by rw [haw]; rfl
    rw [C_parrylaw10_ArenaMore_K]
    refine bind_of hx (bind_of hy (if_both (fun _ => aw) fun c0 => bind_of (hr o1 n1 o2 n2) (if_both (fun _ => aw) fun c1 => bind_of (hc co cn ev) (if_both (fun _ => aw) fun c2 => if_both (fun _ => aw) fun c3 => if_both (fun _ => aw) fun c4 => ?_))))
    exfalso
    have c1 : mayM m = 0 := by rw [hmd]; simpa [lookR_0, int_i] using c1
    have c2 : mayCmd (varsOf l) ev cc = 0 := by rw [hcc]; simpa [lookR_0, int_i] using c2
    have c3 := of_decide_eq_false c3
    have c4 := of_decide_eq_false c4
    refine good ⟨c1, hx2 (sum x0 x1 y0 y1 (of_decide_eq_false c0)) ?_, c2, by omega, by omega⟩
    have := (mayM_zero c1).1
    rw [hmd] at this
    exact this
  obtain ⟨hm, hP, hcm, l12, m12⟩ := good
  have mv : m.vars = varsOf l := by rw [hmd]
  have hT : prodV m.vars ≤ 24 := by rw [mv]; exact hP
  obtain ⟨te2, hte2⟩ : ∃ x, x = (if ev = true then addC te co cn ck ct else te) := ⟨_, rfl⟩
  obtain ⟨ts2, hts2⟩ : ∃ x, x = (if ev = true then ts else addC ts co cn ck ct) := ⟨_, rfl⟩
  have he2 : KC te2 := by rw [hte2]; split; exact KC_add he (by omega) hk ht; exact he
  have hs2 : KC ts2 := by rw [hts2]; split; exact hs; exact KC_add hs (by omega) hk ht
  obtain ⟨m2, hm2⟩ : ∃ m : Md, m = ⟨varsOf l, .mk o1 n1 (kidsOf k1), .mk o2 n2 (kidsOf k2), cmdsOf te2, cmdsOf ts2, kidsOf ta, kidsOf tn, kidsOf tp⟩ := ⟨_, rfl⟩
  have v2 : m2.vars = varsOf l := by rw [hm2]
  have hT2 : prodV m2.vars ≤ 24 := by rw [v2]; exact hP
  have f1 : cmdsOf te2 = if ev = true then cmdsOf te ++ [cc] else cmdsOf te := by
    rw [hte2]; split
    · rw [cmds_add, hcc]
    · rfl
  have f2 : cmdsOf ts2 = if ev = true then cmdsOf ts else cmdsOf ts ++ [cc] := by
    rw [hts2]; split
    · rfl
    · rw [cmds_add, hcc]
  have hmm2 : mayM m2 = 0 := by
    have hm0 := hm
    rw [hmd] at hm0
    obtain ⟨_, r2, r3, r4, r5, r6⟩ := mayM_zero hm0
    have ad : ∀ {l : List Cm} {e : Bool} {q : List Va}, firstE (mayCmd q e) l = 0 → mayCmd q e cc = 0 → firstE (mayCmd q e) (l ++ [cc]) = 0 := fun ha hb => firstE_zero.2 fun c hc => by
      rcases List.mem_append.1 hc with h | h
      · exact firstE_zero.1 ha c h
      · rw [List.mem_singleton.1 h]; exact hb
    rw [hm2, f1, f2]
    refine mayM_change hm0 r2 r3 ?_ ?_ ?_ ?_
    · split
      · rw [List.length_append, cmdsOf_len]; simp; omega
      · rw [cmdsOf_len]; omega
    · split
      · rw [cmdsOf_len]; omega
      · rw [List.length_append, cmdsOf_len]; simp; omega
    · split
      · rename_i hev; rw [hev] at hcm; exact ad r4 hcm
      · exact r4
    · split
      · exact r5
      · rename_i hev
        have : ev = false := by simpa using hev
        rw [this] at hcm; exact ad r5 hcm
  have hsub : ∀ v w, w ∈ waysE m v → w ∈ waysE m2 v := fun v w hw => by
    refine ways_mono hm hmm2 (by rw [mv, v2]) (by rw [hmd, hm2]) (by rw [hmd, hm2]) ?_ ?_ hw
    · rw [hmd, hm2]
      show Adds (cmdsOf te) (cmdsOf te2)
      rw [f1]
      split
      · exact .inr ⟨_, rfl⟩
      · exact .inl rfl
    · rw [hmd, hm2]
      show Adds (cmdsOf ts) (cmdsOf ts2)
      rw [f2]
      split
      · exact .inl rfl
      · exact .inr ⟨_, rfl⟩
  refine Ev.step (Ev.imp4 base (chs_sp l k1 k2 te ts ta tn tp hl h1 h2 he hs ha hn hp o1 n1 o2 n2 hmd hm hT) (Ev.and (Build_sp l k1 k2 te ts ta tn tp hl h1 h2 he hs ha hn hp o1 n1 o2 n2 hmd hm hT) (Build_sp l k1 k2 te2 ts2 ta tn tp hl h1 h2 he2 hs2 ha hn hp o1 n1 o2 n2 hm2 hmm2 hT2)) (Ev.ge 20000) fun N hb C hB hN => ?_)
  obtain ⟨⟨⟨hh, hd⟩, haw⟩, hr, hc⟩ := hb
  obtain ⟨x, hx, ⟨x0, x1⟩, hx2⟩ := hh o1 n1 o2 n2
  obtain ⟨y, hy, ⟨y0, y1⟩, _⟩ := hd 0 0 0 0
  have aw : ((C_parrylaw10_awake (K N)).bind fun r => some (lookR [(0, T.b (r 0).bool)])) = rb true := by rw [haw]; rfl
  obtain ⟨⟨L, no, go, nN, gN, nA, gA, e, hI, hv, ho, hrw⟩, L2, no2, go2, nN2, gN2, nA2, gA2, e2, hI2, hv2, _, _⟩ := hB
  have hnA := hv.1
  have hnA2 := hv2.1
  have hsm := hI.small
  have hsm2 := hI2.small
  have hnN : nN = L.length := hrw.1
  have hg := hI.gok (fun _ => hT)
  have h24 := hI.short (waysE_len C)
  have hX : ∀ i l, L[i]? = some l → Ints ((T.l nN gN).el i 0) l := hrw.2
  have hin := at_sub hI hI2 hsub
  have hle := nodup_sub hI.nd hin
  obtain ⟨M, hM⟩ : ∃ M, N = M + 2 := ⟨N - 2, by omega⟩
  have may9 := may9_sp hg ho (tX := T.l nN gN) hnN hX (fun l hl => by have := h24 l hl; omega) (N := M) (by omega)
  rw [← hM] at may9
  obtain ⟨r, hr0⟩ : ∃ r, r = lookR [(0, T.l no go), (1, T.l nN gN), (2, T.l nA gA), (3, T.i 0)] := ⟨_, rfl⟩
  rw [← hr0] at e
  have r0 : r 0 = T.l no go := by rw [hr0]; rfl
  have r1 : r 1 = T.l nN gN := by rw [hr0]; rfl
  have r2 : r 2 = T.l nA gA := by rw [hr0]; rfl
  have r3 : r 3 = T.i 0 := by rw [hr0]; rfl
  obtain ⟨q, hq0⟩ : ∃ r, r = lookR [(0, T.l no2 go2), (1, T.l nN2 gN2), (2, T.l nA2 gA2), (3, T.i 0)] := ⟨_, rfl⟩
  rw [← hq0] at e2
  have q2 : q 2 = T.l nA2 gA2 := by rw [hq0]; rfl
  have q3 : q 3 = T.i 0 := by rw [hq0]; rfl
  have main : ∀ N', 10000 ≤ N' → parrylaw10_ArenaMore.B1 (K N) N' (T.l nA2 gA2) (nA2 : Int) ((0 : Nat) : Int) (T.l no go) (T.l nN gN) (T.l nA gA) noT = rb true := fun N' hN' =>
    aoB1 hv2 (by omega) (F := 2000) (fun N'' x S hN'' hxs hS => aoB2 hv (by omega) hxs (fun v hvm => hS v (hin v hvm)) may9 aw (atE m).length 0 (by omega) N'' (by omega)) (atE m2).length 0 (by omega) N' noT [] (by omega) SMap.nil (fun v hv => by cases hv)
  have b0 : parrylaw10_ArenaMore.B0 (K N) N l o1 n1 k1 o2 n2 k2 te ts ta tn tp l o1 n1 k1 o2 n2 k2 te2 ts2 ta tn tp = rb true := by
    obtain ⟨N', hN'⟩ : ∃ M, N = M + 1 := ⟨N - 1, by omega⟩
    have := parrylaw10_ArenaMore.B0_eq (K N) N' l o1 n1 k1 o2 n2 k2 te ts ta tn tp l o1 n1 k1 o2 n2 k2 te2 ts2 ta tn tp
    rw [← hN'] at this
    rw [this]
    refine bind_of e (bind_of e2 ?_)
    simp only [r0, r1, r2, r3, q2, q3, len_l, el_l, int_i]
    exact if_not (by rfl) (if_not (by rfl) (if_not (decide_eq_false (by omega)) (main N' (by omega))))
  rw [C_parrylaw10_ArenaMore_K]
  refine bind_of hx (bind_of hy (if_both (fun _ => aw) fun c0 => bind_of (hr o1 n1 o2 n2) (if_both (fun _ => aw) fun c1 => bind_of (hc co cn ev) (if_both (fun _ => aw) fun c2 => if_not (decide_eq_false (by omega)) (if_not (decide_eq_false (by omega)) ?_)))))
  cases ev with
  | true =>
    rw [if_pos rfl] at hte2 hts2
    refine if_of rfl (if_of (decide_eq_true (by omega)) (if_of (decide_eq_true (by omega)) ?_))
    subst hte2 hts2
    exact b0
  | false =>
    rw [if_neg (by simp)] at hte2 hts2
    refine if_not rfl (if_of (decide_eq_true (by omega)) (if_of (decide_eq_true (by omega)) ?_))
    subst hte2 hts2
    exact b0
end Go.Proofs.YtnjandhaeojieaaGreat
