/- The law ModuleSides: a command of the one side may not do what is the other one's. -/
import Derived.Test.YtnjandhaeojieaaLa31
set_option linter.unusedVariables false
set_option linter.unusedSimpArgs false
namespace Go.Proofs.Ytnjandhaeojieaa
open Go.AM
theorem WT_row {t e : TypeId} {x : T} (hu : Try.prog.underlying t = some (.slice e)) (h : WT Try.prog t x) : x.len ≤ 9223372036854775807 ∧ ∀ i, i < x.len → ∀ j τ, (lv Try.prog e)[j]? = some τ → WT Try.prog τ (x.el i j) := by
  generalize Try.prog = P at *
  cases h with
  | int h hw => rw [hu] at h; cases h
  | bool h => rw [hu] at h; cases h
  | str h hs => rw [hu] at h; cases h
  | @sl _ e' n g h hn hg =>
    rw [hu] at h
    have e1 : e' = e := by injection h with h; injection h with h; exact h.symm
    subst e1
    exact ⟨Nat.le_trans hn (Nat.le_refl _), fun i hi j τ hj => hg i j τ hi hj⟩
theorem unSets : Try.prog.underlying 29 = some (.slice 43) := by kernel_rfl
theorem unCmds : Try.prog.underlying 26 = some (.slice 31) := by kernel_rfl
theorem lvSet : lv Try.prog 43 = [3, 4, 3, 3, 23] := by kernel_rfl
theorem lvCmd : lv Try.prog 31 = [3, 3, 23, 29] := by kernel_rfl
theorem WT_KS {x : T} (h : WT Try.prog 29 x) : KS x := by
  obtain ⟨h1, h2⟩ := WT_row unSets h
  exact ⟨h1, fun i hi => WT_KW (h2 i hi 4 23 (by rw [lvSet]; rfl))⟩
theorem WT_KC {x : T} (h : WT Try.prog 26 x) : KC x := by
  obtain ⟨h1, h2⟩ := WT_row unCmds h
  exact ⟨h1, fun i hi => ⟨WT_KW (h2 i hi 2 23 (by rw [lvCmd]; rfl)), WT_KS (h2 i hi 3 29 (by rw [lvCmd]; rfl))⟩⟩
theorem hvB3 {h : H} {a b d t : T} {p4 : Int} (ht : KW t) (hc : ∀ i, i < t.len → ∀ o n, ∃ x, C_parrylaw2_Heavy h o n (t.el i 2) = ri x) {c : Nat} (hk : ∀ M, c ≤ M → ∀ n, ∃ x, parrylaw5_Heavy.B2 h M n a b d (IntKind.wrap .i64 (p4 + 1)) = ri x) :
    ∀ (m i : Nat), i + m = t.len → ∀ N n, c + m < N → ∃ x, parrylaw5_Heavy.B3 h N n a b d p4 t (t.len : Int) (i : Int) = ri x
  | 0, i, hi, N, n, hN => by
    obtain ⟨N, rfl⟩ : ∃ M, N = M + 1 := ⟨N - 1, by omega⟩
    obtain ⟨x, hx⟩ := hk N (by omega) n
    rw [parrylaw5_Heavy.B3_eq]
    exact ⟨x, if_not (decide_eq_false (by omega)) hx⟩
  | m + 1, i, hi, N, n, hN => by
    obtain ⟨N, rfl⟩ : ∃ M, N = M + 1 := ⟨N - 1, by omega⟩
    have hl := ht.len
    obtain ⟨y, hy⟩ := hc i (by omega) (t.el i 0).int (t.el i 1).int
    obtain ⟨x, hx⟩ := hvB3 ht hc hk m (i + 1) (by omega) N (IntKind.wrap .i64 (n + y)) (by omega)
    rw [parrylaw5_Heavy.B3_eq, Int.toNat_natCast, wrap_eq (a := (i : Int) + 1) (by omega) (by omega)]
    exact ⟨x, if_of (decide_eq_true (by omega)) (if_of (by simp; omega) (bind_of hy hx))⟩
theorem hvB2 {h : H} {a b d : T} (ha : KW a) (hb : KW b) (hd : KW d) (ca : ∀ i, i < a.len → ∀ o n, ∃ x, C_parrylaw2_Heavy h o n (a.el i 2) = ri x) (cb : ∀ i, i < b.len → ∀ o n, ∃ x, C_parrylaw2_Heavy h o n (b.el i 2) = ri x) (cd : ∀ i, i < d.len → ∀ o n, ∃ x, C_parrylaw2_Heavy h o n (d.el i 2) = ri x) :
    ∀ N n, a.len + b.len + d.len + 10 ≤ N → ∃ x, parrylaw5_Heavy.B2 h N n a b d 0 = ri x := by
  have k3 : ∀ M, 1 ≤ M → ∀ n, ∃ x, parrylaw5_Heavy.B2 h M n a b d (IntKind.wrap .i64 (2 + 1)) = ri x := by
    intro M hM n
    obtain ⟨M, rfl⟩ : ∃ M', M = M' + 1 := ⟨M - 1, by omega⟩
    rw [show IntKind.wrap .i64 ((2 : Int) + 1) = 3 by decide, parrylaw5_Heavy.B2_eq]
    exact ⟨n, if_not (by decide) rfl⟩
  have k2 : ∀ M, d.len + 3 ≤ M → ∀ n, ∃ x, parrylaw5_Heavy.B2 h M n a b d (IntKind.wrap .i64 (1 + 1)) = ri x := by
    intro M hM n
    obtain ⟨M, rfl⟩ : ∃ M', M = M' + 1 := ⟨M - 1, by omega⟩
    obtain ⟨x, hx⟩ := hvB3 (h := h) (a := a) (b := b) (d := d) (p4 := 2) hd cd k3 d.len 0 (by omega) M n (by omega)
    rw [show IntKind.wrap .i64 ((1 : Int) + 1) = 2 by decide, parrylaw5_Heavy.B2_eq]
    exact ⟨x, if_of (by decide) (if_not (by decide) (if_not (by decide) (if_of (by decide) hx)))⟩
  have k1 : ∀ M, b.len + d.len + 5 ≤ M → ∀ n, ∃ x, parrylaw5_Heavy.B2 h M n a b d (IntKind.wrap .i64 (0 + 1)) = ri x := by
    intro M hM n
    obtain ⟨M, rfl⟩ : ∃ M', M = M' + 1 := ⟨M - 1, by omega⟩
    obtain ⟨x, hx⟩ := hvB3 (h := h) (a := a) (b := b) (d := d) (p4 := 1) hb cb k2 b.len 0 (by omega) M n (by omega)
    rw [show IntKind.wrap .i64 ((0 : Int) + 1) = 1 by decide, parrylaw5_Heavy.B2_eq]
    exact ⟨x, if_of (by decide) (if_not (by decide) (if_of (by decide) hx))⟩
  intro N n hN
  obtain ⟨N, rfl⟩ : ∃ M', N = M' + 1 := ⟨N - 1, by omega⟩
  obtain ⟨x, hx⟩ := hvB3 (h := h) (a := a) (b := b) (d := d) (p4 := 0) ha ca k1 a.len 0 (by omega) N n (by omega)
  rw [parrylaw5_Heavy.B2_eq]
  exact ⟨x, if_of (by decide) (if_of (by decide) hx)⟩
theorem hvB4 {h : H} {te ts l k1 k2 e0 s0 ta tn tp t s : T} {p3 o1 n1 o2 n2 q : Int} {len : Int} (hs : KS s) (hc : ∀ i, i < s.len → ∀ o n, ∃ x, C_parrylaw2_Heavy h o n (s.el i 4) = ri x) {c : Nat} (hk : ∀ M, c ≤ M → ∀ n, ∃ x, parrylaw5_Heavy.B1 h M n te ts p3 t len (IntKind.wrap .i64 (q + 1)) l o1 n1 k1 o2 n2 k2 e0 s0 ta tn tp = ri x) :
    ∀ (m i : Nat), i + m = s.len → ∀ N n, c + m < N → ∃ x, parrylaw5_Heavy.B4 h N n te ts p3 t len q s (s.len : Int) (i : Int) l o1 n1 k1 o2 n2 k2 e0 s0 ta tn tp = ri x
  | 0, i, hi, N, n, hN => by
    obtain ⟨N, rfl⟩ : ∃ M, N = M + 1 := ⟨N - 1, by omega⟩
    obtain ⟨x, hx⟩ := hk N (by omega) n
    rw [parrylaw5_Heavy.B4_eq]
    exact ⟨x, if_not (decide_eq_false (by omega)) hx⟩
  | m + 1, i, hi, N, n, hN => by
    obtain ⟨N, rfl⟩ : ∃ M, N = M + 1 := ⟨N - 1, by omega⟩
    have hl := hs.1
    obtain ⟨y, hy⟩ := hc i (by omega) (s.el i 2).int (s.el i 3).int
    obtain ⟨x, hx⟩ := hvB4 hs hc hk m (i + 1) (by omega) N (IntKind.wrap .i64 (n + y)) (by omega)
    rw [parrylaw5_Heavy.B4_eq, Int.toNat_natCast, wrap_eq (a := (i : Int) + 1) (by omega) (by omega)]
    exact ⟨x, if_of (decide_eq_true (by omega)) (if_of (by simp; omega) (bind_of hy hx))⟩
theorem hvB1 {h : H} {te ts l k1 k2 e0 s0 ta tn tp t : T} {p3 o1 n1 o2 n2 : Int} (ht : KC t) (hg : ∀ i, i < t.len → ∀ o n, ∃ x, C_parrylaw2_Heavy h o n (t.el i 2) = ri x) (hc : ∀ i, i < t.len → ∀ j, j < (t.el i 3).len → ∀ o n, ∃ x, C_parrylaw2_Heavy h o n ((t.el i 3).el j 4) = ri x) {c : Nat} (hk : ∀ M, c ≤ M → ∀ n, ∃ x, parrylaw5_Heavy.B0 h M n te ts (IntKind.wrap .i64 (p3 + 1)) l o1 n1 k1 o2 n2 k2 e0 s0 ta tn tp = ri x) :
    ∀ (m i : Nat), i + m = t.len → ∀ N n, c + 20 * m < N → ∃ x, parrylaw5_Heavy.B1 h N n te ts p3 t (t.len : Int) (i : Int) l o1 n1 k1 o2 n2 k2 e0 s0 ta tn tp = ri x
  | 0, i, hi, N, n, hN => by
    obtain ⟨N, rfl⟩ : ∃ M, N = M + 1 := ⟨N - 1, by omega⟩
    obtain ⟨x, hx⟩ := hk N (by omega) n
    rw [parrylaw5_Heavy.B1_eq]
    exact ⟨x, if_not (decide_eq_false (by omega)) hx⟩
  | m + 1, i, hi, N, n, hN => by
    obtain ⟨N, rfl⟩ : ∃ M, N = M + 1 := ⟨N - 1, by omega⟩
    have hl := ht.1
    obtain ⟨y, hy⟩ := hg i (by omega) (t.el i 0).int (t.el i 1).int
    rw [parrylaw5_Heavy.B1_eq, Int.toNat_natCast]
    by_cases c12 : (t.el i 3).len ≤ 12
    · obtain ⟨x, hx⟩ := hvB4 (h := h) (te := te) (ts := ts) (l := l) (k1 := k1) (k2 := k2) (e0 := e0) (s0 := s0) (ta := ta) (tn := tn) (tp := tp) (t := t) (p3 := p3) (o1 := o1) (n1 := n1) (o2 := o2) (n2 := n2) (q := i) (len := t.len) (ht.2 i (by omega)).2 (hc i (by omega)) (c := c + 20 * m + 1) (fun M hM n => by
        rw [wrap_eq (a := (i : Int) + 1) (by omega) (by omega)]
        exact hvB1 ht hg hc hk m (i + 1) (by omega) M n (by omega)) (t.el i 3).len 0 (by omega) N (IntKind.wrap .i64 (n + y)) (by omega)
      exact ⟨x, if_of (decide_eq_true (by omega)) (if_of (by simp; omega) (if_not (decide_eq_false (by omega)) (bind_of hy hx)))⟩
    · exact ⟨1, if_of (decide_eq_true (by omega)) (if_of (by simp; omega) (if_of (decide_eq_true (by omega)) rfl))⟩
theorem heavyM_sp (l k1 k2 te ts ta tn tp : T) (hl : l.len ≤ 9223372036854775807) (h1 : KW k1) (h2 : KW k2) (he : KC te) (hs : KC ts) (ha : KW ta) (hn : KW tn) (hp : KW tp) : Ev fun N => ∀ o1 n1 o2 n2, ∃ x, C_parrylaw5_Heavy (K N) l o1 n1 k1 o2 n2 k2 te ts ta tn tp = ri x := by
  have hcs : ∀ t, KC t → Ev fun N => (∀ i, i < t.len → ∀ o n, ∃ x, C_parrylaw2_Heavy (K N) o n (t.el i 2) = ri x) ∧ ∀ i, i < t.len → ∀ j, j < (t.el i 3).len → ∀ o n, ∃ x, C_parrylaw2_Heavy (K N) o n ((t.el i 3).el j 4) = ri x := fun t ht =>
    (Ev.all fun i hi => heavyE_sp _ (ht.2 i hi).1).and (Ev.all fun i hi => Ev.all fun j hj => heavyE_sp _ ((ht.2 i hi).2.2 j hj))
  have hks : ∀ t, KW t → Ev fun N => ∀ i, i < t.len → ∀ o n, ∃ x, C_parrylaw2_Heavy (K N) o n (t.el i 2) = ri x := fun t ht => Ev.all fun i hi => heavyE_sp _ (ht.el hi)
  refine Ev.step (Ev.imp4 (Ev.and (heavyV_sp l hl) (Ev.and (heavyE_sp k1 h1) (heavyE_sp k2 h2))) (Ev.and (hcs te he) (hcs ts hs)) (Ev.and (hks ta ha) (Ev.and (hks tn hn) (hks tp hp))) (Ev.ge 5000) fun N q1 q2 q3 hN o1 n1 o2 n2 => ?_)
  obtain ⟨⟨y, hy⟩, hz1, hz2⟩ := q1
  obtain ⟨⟨ce1, ce2⟩, cs1, cs2⟩ := q2
  obtain ⟨ca, cn, cp⟩ := q3
  obtain ⟨z1, hz1⟩ := hz1 o1 n1
  obtain ⟨z2, hz2⟩ := hz2 o2 n2
  rw [C_parrylaw5_Heavy_K]
  by_cases g0 : y > 0
  · exact ⟨1, bind_of hy (if_of (decide_eq_true g0) rfl)⟩
  have n0 : ∀ {X Y Z : Option R}, Y = Z → (bif decide (((lookR [(0, T.i y)]) 0).int > (0 : Int)) then X else Y) = Z := fun h => if_not (decide_eq_false g0) h
  by_cases g1 : te.len > 16
  · exact ⟨1, bind_of hy (n0 (if_of (decide_eq_true (by omega)) rfl))⟩
  by_cases g2 : ts.len > 16
  · exact ⟨1, bind_of hy (n0 (if_not (decide_eq_false (by omega)) (if_of (decide_eq_true (by omega)) rfl)))⟩
  by_cases g3 : ta.len > 8
  · exact ⟨1, bind_of hy (n0 (if_not (decide_eq_false (by omega)) (if_not (decide_eq_false (by omega)) (if_of (decide_eq_true (by omega)) rfl))))⟩
  by_cases g4 : tn.len > 8
  · exact ⟨1, bind_of hy (n0 (if_not (decide_eq_false (by omega)) (if_not (decide_eq_false (by omega)) (if_not (decide_eq_false (by omega)) (if_of (decide_eq_true (by omega)) rfl)))))⟩
  by_cases g5 : tp.len > 8
  · exact ⟨1, bind_of hy (n0 (if_not (decide_eq_false (by omega)) (if_not (decide_eq_false (by omega)) (if_not (decide_eq_false (by omega)) (if_not (decide_eq_false (by omega)) (if_of (decide_eq_true (by omega)) rfl))))))⟩
  have r2 : ∀ M, 40 ≤ M → ∀ n, ∃ x, parrylaw5_Heavy.B0 (K N) M n te ts (IntKind.wrap .i64 (1 + 1)) l o1 n1 k1 o2 n2 k2 te ts ta tn tp = ri x := by
    intro M hM n
    obtain ⟨M, rfl⟩ : ∃ M', M = M' + 1 := ⟨M - 1, by omega⟩
    obtain ⟨x, hx⟩ := hvB2 (h := K N) ha hn hp ca cn cp M n (by omega)
    rw [show IntKind.wrap .i64 ((1 : Int) + 1) = 2 by decide, parrylaw5_Heavy.B0_eq]
    exact ⟨x, if_not (by decide) hx⟩
  have r1 : ∀ M, 400 ≤ M → ∀ n, ∃ x, parrylaw5_Heavy.B0 (K N) M n te ts (IntKind.wrap .i64 (0 + 1)) l o1 n1 k1 o2 n2 k2 te ts ta tn tp = ri x := by
    intro M hM n
    obtain ⟨M, rfl⟩ : ∃ M', M = M' + 1 := ⟨M - 1, by omega⟩
    obtain ⟨x, hx⟩ := hvB1 (h := K N) (te := te) (ts := ts) (l := l) (k1 := k1) (k2 := k2) (e0 := te) (s0 := ts) (ta := ta) (tn := tn) (tp := tp) (p3 := 1) (o1 := o1) (n1 := n1) (o2 := o2) (n2 := n2) hs cs1 cs2 r2 ts.len 0 (by omega) M n (by omega)
    rw [show IntKind.wrap .i64 ((0 : Int) + 1) = 1 by decide, parrylaw5_Heavy.B0_eq]
    exact ⟨x, if_of (by decide) (if_not (by decide) (if_of (by decide) hx))⟩
  obtain ⟨N', hN'⟩ : ∃ M, N = M + 1 := ⟨N - 1, by omega⟩
  obtain ⟨x, hx⟩ := hvB1 (h := K N) (te := te) (ts := ts) (l := l) (k1 := k1) (k2 := k2) (e0 := te) (s0 := ts) (ta := ta) (tn := tn) (tp := tp) (p3 := 0) (o1 := o1) (n1 := n1) (o2 := o2) (n2 := n2) he ce1 ce2 r1 te.len 0 (by omega) N' (IntKind.wrap .i64 (z1 + z2)) (by omega)
  have b0 : parrylaw5_Heavy.B0 (K N) N (IntKind.wrap .i64 (z1 + z2)) te ts 0 l o1 n1 k1 o2 n2 k2 te ts ta tn tp = ri x := by
    have := parrylaw5_Heavy.B0_eq (K N) N' (IntKind.wrap .i64 (z1 + z2)) te ts 0 l o1 n1 k1 o2 n2 k2 te ts ta tn tp
    rw [← hN'] at this
    rw [this]
    exact if_of (by decide) (if_of (by decide) hx)
  exact ⟨x, bind_of hy (n0 (if_not (decide_eq_false (by omega)) (if_not (decide_eq_false (by omega)) (if_not (decide_eq_false (by omega)) (if_not (decide_eq_false (by omega)) (if_not (decide_eq_false (by omega)) (bind_of hz1 (bind_of hz2 b0))))))))⟩
theorem mayCmd_zero {l : List Va} {env : Bool} {c : Cm} (h : mayCmd l env c = 0) : mayV l = 0 ∧ needsE l c.guard 1 true (!env) false = 0 ∧ c.sets.length ≤ 6 ∧ setsGo l env c.sets [] = 0 := by
  unfold mayCmd at h
  by_cases c1 : mayV l = 0
  · rw [if_neg (by simpa using c1)] at h
    by_cases c2 : needsE l c.guard 1 true (!env) false = 0
    · rw [if_neg (by simpa using c2)] at h
      by_cases c3 : 6 < (c.sets.length : Int)
      · rw [if_pos c3] at h; cases h
      · rw [if_neg c3] at h
        exact ⟨c1, c2, by omega, h⟩
    · rw [if_pos c2] at h; exact absurd h c2
  · rw [if_pos c1] at h; exact absurd h c1
section
variable {h : H} {env : Bool} {v : Int} {l k1 k2 te ts ta tn tp gk t : T} {o1 n1 o2 n2 go gn : Int} {Q : Option R}
end
end Go.Proofs.Ytnjandhaeojieaa
