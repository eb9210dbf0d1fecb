/- machine.Trim, and the law MachineTrims. -/
import Derived.Test.YtljfhfgbpcaadaaDoorTr3
set_option linter.unusedVariables false
set_option linter.unusedSimpArgs false
namespace Go.AM
open Go.Proofs.YtljfhfgbpcaadaaDoor
theorem mayMc_zero {w : Int} {b r : T} (h : mayMc w b r = 0) : (w = 0 ∨ w = 1) ∧ b.len ≤ 512 ∧ r.len ≤ 12000 ∧ okR true (rwsOf b) ∧ okR false (rwsOf r) := by
  unfold mayMc at h
  split at h
  · omega
  · rename_i c1
    split at h
    · omega
    · rename_i c2
      split at h
      · rename_i c3
        exact ⟨by omega, by omega, by omega, rows_ok.1 c3.1, rows_ok.1 c3.2⟩
      · omega
theorem mayMc_of {w : Int} {b r : T} (hw : w = 0 ∨ w = 1) (hb : b.len ≤ 512) (hr : r.len ≤ 12000) (okb : okR true (rwsOf b)) (okr : okR false (rwsOf r)) : mayMc w b r = 0 := by
  unfold mayMc
  rw [if_neg (by omega), if_neg (by omega), if_pos ⟨rows_ok.2 okb, rows_ok.2 okr⟩]
theorem ints_intsR (n : Nat) (g : Nat → Nat → T) {S : List Int} (h : Ints (T.l n g) S) : intsR n g = S := by
  have hn : n = S.length := h.1
  unfold intsR
  apply List.ext_getElem
  · simp [hn]
  · intro i h1 h2
    have e : (g i 0).int = S[i] := h.2 i _ (List.getElem?_eq_getElem h2)
    simpa using e
theorem ints_ofInts (n : Nat) (Z : List Int) (hn : n = Z.length) : Ints (T.l n fun i j => (ofInts Z).el (0 + i) j) Z := by
  refine ⟨hn, fun i v hi => ?_⟩
  show (Z.getD (0 + i) 0) = v
  rw [Nat.zero_add, List.getD_eq_getElem?_getD, hi]
  rfl
end Go.AM
namespace Go.Proofs.YtljfhfgbpcaadaaDoor
open Go.AM
section
variable {h : H} {b r : T} {w z : Int} {S : List Int} {p0 p1 nS : Nat} {gS gB : Nat → Nat → T} {x : T}
theorem tB4 (hr : r.len ≤ 12000) (hx : IS x S) (hA : ∀ y, C_machine_Trim_2 h y (fun j => (([(T.l nS (fun i j => (gS (0 + i) j)))] : List T).getD j (.b false))) = ri (anew S y)) :
    ∀ (m i : Nat), i + m = r.len → ∀ M n g, 2 * m < M → n ≤ i →
      ∃ n' g', machine_Trim.B4 h M p0 p1 n r (r.len : Int) (i : Int) z nS gS w gB g x = some (lookR [(0, (T.i w)), (1, (T.l p1 (fun i j => (gB (0 + i) j)))), (2, (T.l n' (fun i j => (g' (0 + i) j))))]) ∧ rwsOf (T.l n' g') = rwsOf (T.l n g) ++ trR S ((rwsOf r).drop i)
  | 0, i, hi, M, n, g, hM, hn => by
    obtain ⟨M, rfl⟩ : ∃ M', M = M' + 1 := ⟨M - 1, by omega⟩
    refine ⟨n, g, ?_, ?_⟩
    · rw [machine_Trim.B4_eq]
      exact if_not (decide_eq_false (by omega)) rfl
    · rw [List.drop_of_length_le (by rw [rws_len]; omega)]
      simp [trR]
  | m + 1, i, hi, M, n, g, hM, hn => by
    obtain ⟨M, rfl⟩ : ∃ M', M = M' + 2 := ⟨M - 2, by omega⟩
    have e := hx.get (b := (r.el i 0).int)
    rw [rws_from r (by omega)]
    by_cases c : (rwAt r i).s ∈ S
    · rw [if_pos (show (r.el i 0).int ∈ S from c)] at e
      obtain ⟨n', g', f1, f2⟩ := tB4 hr hx hA m (i + 1) (by omega) M (n + 1) (fun i1 j1 => (bif Nat.blt i1 n then (g i1 j1) else ((([[(T.i (anew S (r.el i 0).int)), (T.i (r.el i 1).int), (T.i (r.el i 2).int), (T.i (anew S (r.el i 3).int))]] : List (List T)).getD (0 + (i1 - n)) []).getD j1 (.b false)))) (by omega) (by omega)
      refine ⟨n', g', ?_, ?_⟩
      · rw [machine_Trim.B4_eq, Int.toNat_natCast]
        refine if_of (decide_eq_true (by omega)) (if_of (by simp; omega) (if_of (by rw [e]; rfl) (bind_of (hA _) (bind_of (hA _) (if_of (decide_eq_true (by omega)) ?_)))))
        rw [machine_Trim.B5_eq, wrap_eq (a := (i : Int) + 1) (by omega) (by omega)]
        exact f1
      · rw [f2, rwsOf_push]
        have : trR S (rwAt r i :: (rwsOf r).drop (i + 1)) = ⟨anew S (rwAt r i).s, (rwAt r i).i, (rwAt r i).o, anew S (rwAt r i).t⟩ :: trR S ((rwsOf r).drop (i + 1)) := by
          unfold trR
          rw [List.filter_cons_of_pos (by simpa using c), List.map_cons]
        rw [this, List.append_assoc]
        rfl
    · rw [if_neg (show ¬ (r.el i 0).int ∈ S from c)] at e
      obtain ⟨n', g', f1, f2⟩ := tB4 hr hx hA m (i + 1) (by omega) M n g (by omega) (by omega)
      refine ⟨n', g', ?_, ?_⟩
      · rw [machine_Trim.B4_eq, Int.toNat_natCast]
        refine if_of (decide_eq_true (by omega)) (if_of (by simp; omega) (if_not (by rw [e]; rfl) ?_))
        rw [machine_Trim.B5_eq, wrap_eq (a := (i : Int) + 1) (by omega) (by omega)]
        exact f1
      · rw [f2]
        have : trR S (rwAt r i :: (rwsOf r).drop (i + 1)) = trR S ((rwsOf r).drop (i + 1)) := by
          unfold trR
          rw [List.filter_cons_of_neg (by simpa using c)]
        rw [this]
theorem tB3 (hb : b.len ≤ 512) (hr : r.len ≤ 12000) (hx : IS x S) (hA : ∀ y, C_machine_Trim_2 h y (fun j => (([(T.l nS (fun i j => (gS (0 + i) j)))] : List T).getD j (.b false))) = ri (anew S y)) :
    ∀ (m i : Nat), i + m = b.len → ∀ M n g, m + 24010 < M → n ≤ i →
      ∃ n1 g1 n2 g2, machine_Trim.B3 h M p0 n b (b.len : Int) (i : Int) w b r z nS gS w g x = some (lookR [(0, (T.i w)), (1, (T.l n1 (fun i j => (g1 (0 + i) j)))), (2, (T.l n2 (fun i j => (g2 (0 + i) j))))]) ∧ rwsOf (T.l n1 g1) = rwsOf (T.l n g) ++ trB S ((rwsOf b).drop i) ∧ rwsOf (T.l n2 g2) = trR S (rwsOf r)
  | 0, i, hi, M, n, g, hM, hn => by
    obtain ⟨M, rfl⟩ : ∃ M', M = M' + 1 := ⟨M - 1, by omega⟩
    obtain ⟨n', g', f1, f2⟩ := tB4 (h := h) (w := w) (z := z) (p0 := p0) (p1 := n) (gB := g) hr hx hA r.len 0 (by omega) M 0 (fun _ _ => .b false) (by omega) (by omega)
    refine ⟨n, g, n', g', ?_, ?_, ?_⟩
    · rw [machine_Trim.B3_eq]
      exact if_not (decide_eq_false (by omega)) f1
    · rw [List.drop_of_length_le (by rw [rws_len]; omega)]
      simp [trB]
    · rw [List.drop_zero] at f2
      exact f2
  | m + 1, i, hi, M, n, g, hM, hn => by
    obtain ⟨M, rfl⟩ : ∃ M', M = M' + 1 := ⟨M - 1, by omega⟩
    obtain ⟨n1, g1, n2, g2, f1, f2, f3⟩ := tB3 hb hr hx hA m (i + 1) (by omega) M (n + 1) (fun i1 j1 => (bif Nat.blt i1 n then (g i1 j1) else ((([[(T.i (b.el i 0).int), (T.i (b.el i 1).int), (T.i (b.el i 2).int), (T.i (anew S (b.el i 3).int))]] : List (List T)).getD (0 + (i1 - n)) []).getD j1 (.b false)))) (by omega) (by omega)
    refine ⟨n1, g1, n2, g2, ?_, ?_, f3⟩
    · rw [machine_Trim.B3_eq, Int.toNat_natCast]
      refine if_of (decide_eq_true (by omega)) (if_of (by simp; omega) (bind_of (hA _) (if_of (decide_eq_true (by omega)) ?_)))
      rw [wrap_eq (a := (i : Int) + 1) (by omega) (by omega)]
      exact f1
    · rw [f2, rwsOf_push, rws_from b (i := i) (by omega), List.append_assoc]
      rfl
end
def TrimP (w : Int) (b r : T) (o : Option R) : Prop := ∃ S b' r', o = some (lookR [(0, T.i w), (1, b'), (2, r')]) ∧ ReachS (rwsOf b) (rwsOf r) S ∧ S.length ≤ 12512 ∧ rwsOf b' = trB S (rwsOf b) ∧ rwsOf r' = trR S (rwsOf r)
theorem Trim_sp : Ev fun N => ∀ w b r, mayMc w b r = 0 → ∃ S b' r', C_machine_Trim (K N) w b r = some (lookR [(0, T.i w), (1, b'), (2, r')]) ∧ ReachS (rwsOf b) (rwsOf r) S ∧ S.length ≤ 12512 ∧ rwsOf b' = trB S (rwsOf b) ∧ rwsOf r' = trR S (rwsOf r) := by
  refine Ev.step (Ev.imp4 May_all bs_all anew_sp (Ev.ge 200000000) fun N hmay hbs han hN w b r h0 => ?_)
  obtain ⟨hw, hb, hr, okb, okr⟩ := mayMc_zero h0
  obtain ⟨N', hN'⟩ : ∃ M, N = M + 1 := ⟨N - 1, by omega⟩
  have hm : ∀ n s i o t g x S, IS x S → Ints (T.l n g) S → S.length ≤ 1000000 → ∃ n' g' x', C_machine_Trim_1 (K N) n s i o t g x = some (lookR [(0, T.l n' g'), (1, x')]) ∧ IS x' (meetS S t) ∧ Ints (T.l n' g') (meetS S t) := fun n s i o t g x S h1 h2 h3 => by
    rw [hN']
    exact meet_sp N' n s i o t g x h1 h2 h3
  have goal := tB0 (h := K N) (b := b) (r := r) (w := w) (z := 0) (c := 199000000) (P := TrimP w b r) hm hb hr
    (fun M n g x S hM hx hg hS hbeg => tB1 (P := TrimP w b r) (C1 := 12513) (C2 := 12010) (c := 40000) hm hb hr okr (fun s y => hbs r hr s y) rfl rfl
      (fun M n g x S hM hx hg hre hsl => by
        have hn : n = S.length := hg.1
        have eS := ints_intsR n g hg
        have hso : C_slices_Sort_int_v1 (K N) n g = some (lookR [(0, ofInts (S.mergeSort fun x y => decide (x ≤ y)))]) := by
          rw [hN', sort_call N' n g (by omega), eS]
        have hperm : (S.mergeSort fun x y => decide (x ≤ y)).Perm S := List.mergeSort_perm ..
        have hlen := hperm.length_eq
        have hA : ∀ y, C_machine_Trim_2 (K N) y (fun j => (([(T.l n (fun i j => ((ofInts (S.mergeSort fun x y => decide (x ≤ y))).el (0 + i) j)))] : List T).getD j (.b false))) = ri (anew S y) := fun y => han _ _ S y (ints_ofInts n _ (by omega)) (by omega) sorted_le hperm
        obtain ⟨n1, g1, n2, g2, f1, f2, f3⟩ := tB3 (h := K N) (b := b) (r := r) (w := w) (z := 0) (p0 := (ofInts (S.mergeSort fun x y => decide (x ≤ y))).len) (nS := n) (gS := fun i j => (ofInts (S.mergeSort fun x y => decide (x ≤ y))).el i j) (x := x) (S := S) hb hr hx hA b.len 0 (by omega) M 0 (fun _ _ => .b false) (by omega) (by omega)
        rw [List.drop_zero] at f2
        exact Exists.intro S (Exists.intro _ (Exists.intro _ ⟨bind_of hso f1, hre, hsl, (rwsOf_shift (T.l n1 g1)).trans f2, (rwsOf_shift (T.l n2 g2)).trans f3⟩)))
      12513 0 (by omega) M n g x S (by omega) hx hg hS hbeg (by omega) (fun q hq hqs => by simp at hqs))
    b.len 0 (by omega) N 0 (fun _ _ => .b false) noT [] (by omega) IS.nil ⟨rfl, by simp⟩ (Met.nil _ _) (fun j hj => absurd hj (Nat.not_lt_zero _))
  obtain ⟨S, b', r', g1, g2⟩ := goal
  refine ⟨S, b', r', ?_, g2⟩
  rw [C_machine_Trim_K]
  exact bind_of (hmay b r w) (if_not (by rw [lookR_0, int_i, h0]; rfl) g1)
section
variable {h : H} {q b' r' b r : T} {w w' bd : Int}
theorem lawB1 {row : T} (hl : row.len ≤ 12000) (hrow : ∀ p ∈ rwsOf row, p.s ≤ bd ∧ p.t ≤ bd) {k : Int} {Q : Option R} {c : Nat} (hk : ∀ M most, c ≤ M → most ≤ bd → parrylaw25_MachineTrims.B0 h M q most b' r' (IntKind.wrap .i64 (k + 1)) w b r w' b' r' = Q) :
    ∀ (m i : Nat), i + m = row.len → ∀ M most, c + m < M → most ≤ bd → parrylaw25_MachineTrims.B1 h M q most b' r' k row (row.len : Int) (i : Int) w b r w' b' r' = Q
  | 0, i, hi, M, most, hM, hm => by
    obtain ⟨M, rfl⟩ : ∃ M', M = M' + 1 := ⟨M - 1, by omega⟩
    rw [parrylaw25_MachineTrims.B1_eq]
    exact if_not (decide_eq_false (by omega)) (hk M most (by omega) hm)
  | m + 1, i, hi, M, most, hM, hm => by
    obtain ⟨M, rfl⟩ : ∃ M', M = M' + 1 := ⟨M - 1, by omega⟩
    obtain ⟨u1, u2⟩ := hrow _ (rws_mem.2 ⟨i, by omega, rfl⟩)
    have u1 : (row.el i 0).int ≤ bd := u1
    have u2 : (row.el i 3).int ≤ bd := u2
    rw [parrylaw25_MachineTrims.B1_eq, Int.toNat_natCast, wrap_eq (a := (i : Int) + 1) (by omega) (by omega)]
    refine if_of (decide_eq_true (by omega)) (if_of (by simp; omega) (lawB1 hl hrow hk m (i + 1) (by omega) M _ (by omega) ?_))
    repeat' split
    all_goals omega
end
theorem MachineTrims_sp (w : Int) (b r q : T) (wb : WT Tryd.prog 22 b) (wr : WT Tryd.prog 22 r) (wq : WT Tryd.prog 25 q) : Ev fun N => C_parrylaw25_MachineTrims (K N) w b r q = rb true := by
  have lb := WT_len wb
  have lr := WT_len wr
  refine Ev.step (Ev.imp4 (Ev.and awake25_sp (refMay_sp b r)) (Ev.and Trim_sp May_all) (Ev.and Same_all Run_all) (Ev.and SameInts_sp (Ev.ge 100000)) fun N q1 q2 q3 q4 => ?_)
  obtain ⟨haw, hrm⟩ := q1
  obtain ⟨htr, hmay⟩ := q2
  obtain ⟨hsame, hrun⟩ := q3
  obtain ⟨hsi, hN⟩ := q4
  obtain ⟨N', hN'⟩ : ∃ M, N = M + 1 := ⟨N - 1, by omega⟩
  have aw : ((C_parrylaw25_awake (K N)).bind fun z => some (lookR [(0, T.b (z 0).bool)])) = rb true := by rw [haw]; rfl
  obtain ⟨x, hx, _⟩ : ∃ x, C_parrylaw25_Heavy (K N) w b r = ri x ∧ (x = 0 ∨ x = 1) := by rw [hN']; exact Heavy_sp N' w b r lb lr
  rw [C_parrylaw25_MachineTrims_K]
  refine bind_of hx (if_both (fun _ => aw) fun _ => bind_of (hrm w) ?_)
  by_cases c0 : mayMc w b r = 0
  case neg => exact if_of (by rw [lookR_0, int_i]; simpa using c0) aw
  refine if_not (by rw [lookR_0, int_i, c0]; rfl) ?_
  by_cases c1 : ((q.len : Nat) : Int) > 100
  · exact if_of (decide_eq_true c1) aw
  refine if_not (decide_eq_false c1) ?_
  obtain ⟨hw, hb, hr, okb, okr⟩ := mayMc_zero c0
  obtain ⟨S, b', r', e1, hS, hSl, eb, er⟩ := htr w b r c0
  have lb' : b'.len = b.len := by rw [← rws_len b', eb, trB_len, rws_len]
  have lr' : r'.len ≤ r.len := by
    have := trR_len S (rwsOf r)
    rw [← er, rws_len, rws_len] at this
    exact this
  have okb' : okR true (rwsOf b') := by rw [eb]; exact trB_ok hS okb (by omega)
  have okr' : okR false (rwsOf r') := by rw [er]; exact trR_ok hS okr (by omega)
  have c0' : mayMc w b' r' = 0 := mayMc_of hw (by omega) (by omega) okb' okr'
  obtain ⟨S2, b2, r2, e2, hS2, hSl2, eb2, er2⟩ := htr w b' r' c0'
  rw [eb, er] at hS2
  obtain ⟨t1, t2⟩ := trim_twice hS hS2
  rw [eb] at eb2
  rw [er] at er2
  rw [t1] at eb2
  rw [t2] at er2
  have lb2 : b2.len = b'.len := by rw [← rws_len b2, eb2, ← eb, rws_len]
  have lr2 : r2.len = r'.len := by rw [← rws_len r2, er2, ← er, rws_len]
  have hs := hsame b2 r2 b' r' (by omega) (by omega) (by omega) (by omega) w w
  rw [rows_eq (eb2.trans eb.symm), rows_eq (er2.trans er.symm), beq_self_eq_true] at hs
  refine bind_of e1 (bind_of (hmay b' r' w) (if_not (by rw [lookR_0, int_i, c0']; rfl) (if_not (decide_eq_false (by show ¬ ((r'.len : Nat) : Int) > ((r.len : Nat) : Int); omega)) (if_not (by show (((b'.len : Nat) : Int) != ((b.len : Nat) : Int)) = false; rw [lb']; simp) (bind_of e2 (bind_of hs (if_not rfl ?_)))))))
  obtain ⟨m1, m2⟩ := trim_most hS okb
  rw [← eb, ← er, rws_len, rws_len] at m1 m2
  have hq := ints_intsOf q
  have hql : (intsOf q).length = q.len := by simp [intsOf]
  obtain ⟨n1, g1, f1, f2⟩ := hrun b' r' w q _ hq (by omega)
  obtain ⟨n2, g2, k1, k2⟩ := hrun b r w q _ hq (by omega)
  rw [if_pos c0', run_sim hS okb.ord okr.ord okb'.ord okr'.ord eb er] at f2
  rw [if_pos c0] at k2
  have hrl := runL_len r (intsOf q) b 0
  have last : ∀ M most, 1 ≤ M → most ≤ ((b'.len : Int) + (r'.len : Int)) → parrylaw25_MachineTrims.B0 (K N) M q most b' r' 2 w b r w b' r' = rb true := by
    intro M most hM hm
    obtain ⟨M, rfl⟩ : ∃ M', M = M' + 1 := ⟨M - 1, by omega⟩
    rw [parrylaw25_MachineTrims.B0_eq]
    refine if_not (by decide) (bind_of f1 (bind_of k1 (bind_of (hsi _ _ _ f2.shift k2.shift (by omega)) (if_of rfl (if_of (decide_eq_true ?_) aw)))))
    rw [wrap_eq (by omega) (by omega)]
    exact hm
  have second : ∀ M most, 13000 ≤ M → most ≤ ((b'.len : Int) + (r'.len : Int)) → parrylaw25_MachineTrims.B0 (K N) M q most b' r' 1 w b r w b' r' = rb true := by
    intro M most hM hm
    obtain ⟨M, rfl⟩ : ∃ M', M = M' + 1 := ⟨M - 1, by omega⟩
    rw [parrylaw25_MachineTrims.B0_eq]
    refine if_of (by decide) (if_not (by decide) (if_of (by decide) ?_))
    exact lawB1 (bd := ((b'.len : Int) + (r'.len : Int))) (k := 1) (c := 1) (by omega) m2 (fun M most h1 h2 => by rw [show IntKind.wrap .i64 ((1 : Int) + 1) = 2 by decide]; exact last M most h1 h2) r'.len 0 (by omega) M most (by omega) hm
  show parrylaw25_MachineTrims.B0 (K N) N q (-1) b' r' 0 w b r w b' r' = rb true
  rw [hN', parrylaw25_MachineTrims.B0_eq, ← hN']
  refine if_of (by decide) (if_of (by decide) ?_)
  exact lawB1 (bd := ((b'.len : Int) + (r'.len : Int))) (k := 0) (c := 13000) (by omega) m1 (fun M most h1 h2 => by rw [show IntKind.wrap .i64 ((0 : Int) + 1) = 1 by decide]; exact second M most h1 h2) b'.len 0 (by omega) N' (-1) (by omega) (by omega)
end Go.Proofs.YtljfhfgbpcaadaaDoor
