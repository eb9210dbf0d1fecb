/- The law ArenaTurns: the game may be; the players take turns; each vertex is reached. -/
import Derived.Test.YtnjandhaeojieaaGreatLa68
set_option linter.unusedVariables false
set_option linter.unusedSimpArgs false
namespace Go.AM
open Go.Proofs.YtnjandhaeojieaaGreat
def SMap (x : T) (A : List Vx) : Prop := MK 3 x (A.map vl) fun _ => 1
theorem SMap.nil : SMap noT [] := MK.nil 3 _
theorem SMap.get {x : T} {A : List Vx} (h : SMap x A) (v : Vx) : (mget x 3 ([(T.i v.1), (T.i v.2.1), (T.i v.2.2)] : List T) ([(T.i 0)] : List T) 0).int = if v ∈ A then 1 else 0 := by
  have := MK.get (b := vl v) h rfl (z := 0)
  simp only [mem_vl] at this
  exact this
theorem SMap.set {x : T} {A : List Vx} (h : SMap x A) (v : Vx) : SMap (mset x 3 ([(T.i v.1), (T.i v.2.1), (T.i v.2.2)] : List T) ([(T.i 1)] : List T)) (addV A v) := by
  have := MK.set (b := vl v) h rfl 1
  have e : (fun i => if i = (A.map vl).idxOf (vl v) then (1 : Int) else (fun _ => 1) i) = fun _ => 1 := by funext i; split <;> rfl
  rw [e] at this
  unfold addV
  by_cases hv : v ∈ A
  · rw [if_pos (mem_vl.2 hv)] at this
    rw [if_pos hv]
    exact this
  · rw [if_neg (fun q => hv (mem_vl.1 q))] at this
    rw [if_neg hv]
    unfold SMap
    rw [List.map_append]
    exact this
theorem ways_kind {m : Md} {v w : Vx} (h : w ∈ waysE m v) : (v.1 = 1 ∧ w.1 = 2) ∨ (v.1 = 2 ∧ w.1 = 3) ∨ (v.1 = 3 ∧ w.1 = 4) ∨ (v.1 = 4 ∧ w.1 = 3) := by
  unfold waysE at h
  split at h
  · rename_i h1
    obtain ⟨x, _, rfl⟩ := List.mem_map.1 h
    exact .inl ⟨h1, rfl⟩
  · split at h
    · rename_i h1
      obtain ⟨x, _, rfl⟩ := List.mem_map.1 h
      exact .inr (.inl ⟨h1, rfl⟩)
    · split at h
      · rename_i h1
        obtain ⟨x, _, rfl⟩ := List.mem_map.1 h
        exact .inr (.inr (.inl ⟨h1, rfl⟩))
      · split at h
        · rename_i h1
          obtain ⟨x, _, rfl⟩ := List.mem_map.1 h
          exact .inr (.inr (.inr ⟨h1, rfl⟩))
        · cases h
theorem Inv.rooted {m : Md} {i : Nat} {A : List Vx} {L : List (List Int)} (h : Inv m i A L) {q : Nat} {v : Vx} (hv : A[q]? = some v) : v.1 = 1 ↔ q = 0 := by
  have hq := (List.getElem?_eq_some_iff.1 hv)
  have h0 := (List.getElem?_eq_some_iff.1 h.root)
  constructor
  · intro hk
    have : v = (1, 0, 0) := by
      rcases univE_mem.1 (h.un v (List.mem_of_getElem? hv)) with e | ⟨p, _, rfl⟩ | ⟨s, _, rfl⟩ | ⟨s, p, _, _, rfl⟩
      · exact e
      · simp at hk
      · simp at hk
      · simp at hk
    obtain ⟨l1, e1⟩ := hq
    obtain ⟨l0, e0⟩ := h0
    rw [this] at e1
    exact (List.getElem_inj (h₀ := l1) (h₁ := l0) h.nd).1 (e1.trans e0.symm)
  · rintro rfl
    rw [h.root] at hv
    cases hv
    rfl
theorem Inv.idx {m : Md} {i : Nat} {A : List Vx} {L : List (List Int)} (h : Inv m i A L) {q : Nat} {v : Vx} (hv : A[q]? = some v) : A.idxOf v = q := by
  obtain ⟨l1, e1⟩ := List.getElem?_eq_some_iff.1 hv
  have hm : v ∈ A := List.mem_of_getElem? hv
  have hi := List.idxOf_lt_length_iff.2 hm
  exact (List.getElem_inj (h₀ := hi) (h₁ := l1) h.nd).1 ((List.getElem_idxOf hi).trans e1.symm)
theorem Inv.pred {m : Md} {A : List Vx} {L : List (List Int)} (h : Inv m A.length A L) : ∀ q, 1 ≤ q → q < A.length → ∃ j, j < q ∧ ∃ l, L[j]? = some l ∧ (q : Int) ∈ l := by
  intro q h1 hq
  have hb : A[q]? = some A[q] := List.getElem?_eq_getElem hq
  obtain ⟨j, a, hj, ha, hw⟩ := h.from_ q _ h1 hb
  obtain ⟨d1, d2⟩ := h.done j a (by omega) ha
  refine ⟨j, hj, _, d2, ?_⟩
  unfold nextE
  rw [List.mem_mergeSort, List.mem_map]
  exact ⟨A[q], hw, by rw [h.idx hb]⟩
theorem Inv.short {m : Md} {A : List Vx} {L : List (List Int)} (h : Inv m A.length A L) (hw : ∀ v, (waysE m v).length ≤ 24) : ∀ l ∈ L, l.length ≤ 24 := by
  intro l hl
  obtain ⟨i, hi, rfl⟩ := List.getElem_of_mem hl
  have hiA : i < A.length := by rw [← h.len]; exact hi
  obtain ⟨_, d2⟩ := h.done i _ hiA (List.getElem?_eq_getElem hiA)
  rw [List.getElem?_eq_getElem hi] at d2
  have d2 := Option.some.inj d2
  rw [d2]
  unfold nextE
  rw [List.length_mergeSort, List.length_map]
  exact hw _
end Go.AM
namespace Go.Proofs.YtnjandhaeojieaaGreat
open Go.AM
section
variable {h : H} {m : Md} {A : List Vx} {L : List (List Int)} {tO tX : T} {nA : Nat} {gA : Nat → Nat → T} {Q : Option R}
variable (hI : Inv m A.length A L) (hv : Verts nA gA A) (ho : Ints tO (A.map ownE)) (hXl : tX.len = L.length) (hX : ∀ i l, L[i]? = some l → Ints (tX.el i 0) l) (hl24 : ∀ l ∈ L, l.length ≤ 24)
include hI hv ho hXl hX hl24
omit hXl hX in
theorem atB3 {i : Nat} {v : Vx} {env : Bool} {x tz : T} {F : Nat} (hi : A[i]? = some v) (hz : Ints tz (nextE A (waysE m v))) (henv : env = true ↔ v.1 = 1 ∨ v.1 = 3)
    (hQ : ∀ N, F ≤ N → parrylaw10_ArenaTurns.B0 h N (T.l nA gA) (nA : Int) ((i + 1 : Nat) : Int) tO tX (T.l nA gA) x = Q) :
    ∀ (k j : Nat), j + k = (nextE A (waysE m v)).length → ∀ N, F + 2 * k + 1 ≤ N → parrylaw10_ArenaTurns.B3 h N (i : Int) env (T.l nA gA) (nA : Int) (i : Int) tz (tz.len : Int) (j : Int) tO tX (T.l nA gA) v.1 v.2.1 v.2.2 x = Q
  | 0, j, hj, N, hN => by
    obtain ⟨N, rfl⟩ : ∃ M, N = M + 1 := ⟨N - 1, by omega⟩
    have hil := (List.getElem?_eq_some_iff.1 hi).1
    have hsm := hI.small
    have hzl := hz.1
    rw [parrylaw10_ArenaTurns.B3_eq, wrap_eq (a := (i : Int) + 1) (by omega) (by omega)]
    exact if_not (decide_eq_false (by omega)) (hQ N (by omega))
  | k + 1, j, hj, N, hN => by
    obtain ⟨N, rfl⟩ : ∃ M, N = M + 2 := ⟨N - 2, by omega⟩
    have hil := (List.getElem?_eq_some_iff.1 hi).1
    have hsm := hI.small
    have hzl := hz.1
    have hlt : j < (nextE A (waysE m v)).length := by omega
    have hnl : (nextE A (waysE m v)).length ≤ 24 := by
      obtain ⟨_, d2⟩ := hI.done i v hil hi
      exact hl24 _ (List.mem_of_getElem? d2)
    have ih := atB3 hi hz henv hQ k (j + 1) (by omega) N (by omega)
    have b4 : parrylaw10_ArenaTurns.B4 h (N + 1) (i : Int) env (T.l nA gA) (nA : Int) (i : Int) tz (tz.len : Int) (j : Int) tO tX (T.l nA gA) v.1 v.2.1 v.2.2 x = Q := by
      rw [parrylaw10_ArenaTurns.B4_eq, wrap_eq (a := (j : Int) + 1) (by omega) (by omega)]
      exact ih
    have e0 := hz.el0 hlt
    have hzm := List.getElem_mem hlt
    obtain ⟨w, hw, hzw⟩ : ∃ w ∈ waysE m v, (nextE A (waysE m v))[j] = (A.idxOf w : Int) := by
      have := hzm
      unfold nextE at this
      rw [List.mem_mergeSort, List.mem_map] at this
      obtain ⟨w, hw, e⟩ := this
      exact ⟨w, hw, e.symm⟩
    have hwA := (hI.done i v hil hi).1 w hw
    have hiw : A.idxOf w < A.length := List.idxOf_lt_length_iff.2 hwA
    have hget : A[A.idxOf w]? = some w := by rw [List.getElem?_eq_getElem hiw, List.getElem_idxOf hiw]
    obtain ⟨y1, _, _⟩ := hv.2 _ _ hget
    have hnA := hv.1
    have hOl : tO.len = A.length := by rw [ho.1, List.length_map]
    have o1 : (tO.el (A.idxOf w) 0).int = ownE w := ho.2 _ _ (by rw [List.getElem?_map, hget]; rfl)
    have o2 : (tO.el i 0).int = ownE v := ho.2 _ _ (by rw [List.getElem?_map, hi]; rfl)
    have hk := ways_kind hw
    have hne : ¬ ownE w = ownE v := by
      unfold ownE
      rcases hk with ⟨a, b⟩ | ⟨a, b⟩ | ⟨a, b⟩ | ⟨a, b⟩ <;> rw [a, b] <;> decide
    rw [parrylaw10_ArenaTurns.B3_eq]
    refine if_of (decide_eq_true (by omega)) (if_of (by simp; omega) ?_)
    rw [Int.toNat_natCast, e0, hzw, Int.toNat_natCast, Int.toNat_natCast, o1, o2]
    simp only [len_l, el_l]
    rw [y1]
    refine if_of (by simp; omega) (if_of (by simp; omega) (if_not (by simpa using hne) (if_of (by simp; omega) ?_)))
    rcases hk with ⟨a, b⟩ | ⟨a, b⟩ | ⟨a, b⟩ | ⟨a, b⟩
    · have he : env = true := henv.2 (.inl a)
      subst he
      exact if_of (by simpa using a) (if_not (by simp [b]) (if_not (by simp [a]) (if_not rfl b4)))
    · have he : env = false := by
        cases env with
        | false => rfl
        | true => have := henv.1 rfl; omega
      subst he
      exact if_not (by simp [a]) (if_not (by simp [a]) (if_of rfl (if_not (by simp [b]) b4)))
    · have he : env = true := henv.2 (.inr a)
      subst he
      exact if_not (by simp [a]) (if_of (by simpa using a) (if_not (by simp [b]) (if_not rfl b4)))
    · have he : env = false := by
        cases env with
        | false => rfl
        | true => have := henv.1 rfl; omega
      subst he
      exact if_not (by simp [a]) (if_not (by simp [a]) (if_of rfl (if_not (by simp [b]) b4)))
theorem atB0 {F : Nat} (hE : ∀ N x, F ≤ N → parrylaw10_ArenaTurns.B0 h (N + 1) (T.l nA gA) (nA : Int) (nA : Int) tO tX (T.l nA gA) x = Q) :
    ∀ (k i : Nat), i + k = A.length → ∀ (N : Nat) (x : T), F + 60 * k + 1 ≤ N → SMap x (A.take i) → parrylaw10_ArenaTurns.B0 h N (T.l nA gA) (nA : Int) (i : Int) tO tX (T.l nA gA) x = Q
  | 0, i, hi, N, x, hN, hx => by
    obtain ⟨N, rfl⟩ : ∃ M, N = M + 1 := ⟨N - 1, by omega⟩
    have hnA := hv.1
    have : i = nA := by omega
    subst this
    exact hE N x (by omega)
  | k + 1, i, hi, N, x, hN, hx => by
    obtain ⟨N, rfl⟩ : ∃ M, N = M + 2 := ⟨N - 2, by omega⟩
    have hlt : i < A.length := by omega
    have hsm := hI.small
    have hnA := hv.1
    have hOl : tO.len = A.length := by rw [ho.1, List.length_map]
    have hLl := hI.len
    obtain ⟨v, hiv⟩ : ∃ v, A[i]? = some v := ⟨_, List.getElem?_eq_getElem hlt⟩
    have hve : A[i] = v := by have := hiv; rw [List.getElem?_eq_getElem hlt] at this; exact Option.some.inj this
    obtain ⟨y1, y2, y3⟩ := hv.2 _ _ hiv
    have o2 : (tO.el i 0).int = ownE v := ho.2 _ _ (by rw [List.getElem?_map, hiv]; rfl)
    have hroot := hI.rooted hiv
    have hkind := univE_kind (hI.un v (List.mem_of_getElem? hiv))
    obtain ⟨d1, d2⟩ := hI.done i v hlt hiv
    have hrow := hX _ _ d2
    have hnot : v ∉ A.take i := by
      intro hmem
      obtain ⟨q, hq, hqe⟩ := List.getElem_of_mem hmem
      rw [List.getElem_take] at hqe
      simp at hq
      have := (List.getElem_inj (h₀ := (by omega : q < A.length)) (h₁ := hlt) hI.nd).1 (hqe.trans hve.symm)
      omega
    have hx2 := hx.set v
    have hadd : addV (A.take i) v = A.take (i + 1) := by
      unfold addV
      rw [if_neg hnot, List.take_succ_eq_append_getElem hlt, hve]
    rw [hadd] at hx2
    have hnl : (nextE A (waysE m v)).length ≤ 24 := hl24 _ (List.mem_of_getElem? d2)
    have b1 : ∀ env : Bool, (env = true ↔ v.1 = 1 ∨ v.1 = 3) → parrylaw10_ArenaTurns.B1 h (N + 1) (i : Int) env (T.l nA gA) (nA : Int) (i : Int) tO tX (T.l nA gA) v.1 v.2.1 v.2.2 x = Q := by
      intro env he
      rw [parrylaw10_ArenaTurns.B1_eq]
      refine if_of (by simp; omega) ?_
      rw [Int.toNat_natCast]
      exact atB3 hI hv ho hl24 (F := F + 60 * k + 1) hiv hrow he (fun M hM => atB0 hE k (i + 1) (by omega) M _ hM hx2) (nextE A (waysE m v)).length 0 (by omega) N (by omega)
    have hseen : ¬ ((mget x 3 ([(T.i (gA i 0).int), (T.i (gA i 1).int), (T.i (gA i 2).int)] : List T) ([(T.i 0)] : List T) 0).int > (0 : Int)) := by
      rw [y1, y2, y3, hx.get, if_neg hnot]; decide
    rw [parrylaw10_ArenaTurns.B0_eq]
    simp only [Int.toNat_natCast, len_l, el_l]
    refine if_of (decide_eq_true (by omega)) (if_of (by simp; omega) ?_)
    by_cases c1 : v.1 = 1
    · have h0 := hroot.1 c1
      subst h0
      refine if_of (by rw [y1]; simpa using c1) (if_not (decide_eq_false hseen) (if_of (by simp; omega) (if_not ?_ (if_not ?_ (by rw [y1, y2, y3]; exact b1 true (by simp [c1]))))))
      · rw [o2]; unfold ownE; rw [c1]; rfl
      · rw [y1, c1]; rfl
    · have h0 : ¬ i = 0 := fun e => c1 (hroot.2 e)
      refine if_not (by rw [y1]; simpa using c1) (if_not (decide_eq_false hseen) (if_of (by simp; omega) (if_not ?_ (if_not ?_ (by rw [y1, y2, y3]; exact b1 (v.1 == 3) (by simp [c1]))))))
      · rw [y1, o2]
        unfold ownE
        rcases hkind with e | e | e | e
        · exact absurd e c1
        · rw [e]; rfl
        · rw [e]; rfl
        · rw [e]; rfl
      · rw [y1, show (v.1 == 1) = false by simpa using c1, show ((i : Int) == 0) = false by simp; omega]; rfl
end
end Go.Proofs.YtnjandhaeojieaaGreat
set_option linter.unusedVariables false
set_option linter.unusedSimpArgs false
namespace Go.Proofs.YtnjandhaeojieaaGreat
open Go.AM
theorem atB2 {h : H} {n : Nat} {g : Nat → Nat → T} {Q : Option R} (hn : n ≤ 700) (hg : ∀ i, i < n → (g i 0).bool = true) (hQ : ((C_parrylaw10_awake h).bind fun r => some (lookR [(0, T.b (r 0).bool)])) = Q) :
    ∀ (k i : Nat), i + k = n → ∀ N, k + 1 ≤ N → parrylaw10_ArenaTurns.B2 h N n (n : Int) (i : Int) g = Q
  | 0, i, hi, N, hN => by
    obtain ⟨N, rfl⟩ : ∃ M, N = M + 1 := ⟨N - 1, by omega⟩
    rw [parrylaw10_ArenaTurns.B2_eq]
    exact if_not (decide_eq_false (by omega)) hQ
  | k + 1, i, hi, N, hN => by
    obtain ⟨N, rfl⟩ : ∃ M, N = M + 1 := ⟨N - 1, by omega⟩
    have ih := atB2 hn hg hQ k (i + 1) (by omega) N (by omega)
    rw [parrylaw10_ArenaTurns.B2_eq, wrap_eq (a := (i : Int) + 1) (by omega) (by omega), Int.toNat_natCast, Nat.zero_add, hg i (by omega)]
    exact if_of (decide_eq_true (by omega)) (if_of (by simp; omega) (if_of (decide_eq_true (by omega)) (if_not rfl ih)))
theorem ArenaTurns_sp (l : T) (o1 n1 : Int) (k1 : T) (o2 n2 : Int) (k2 te ts ta tn tp : T) (wl : WT Tryz.prog 22 l) (w1 : WT Tryz.prog 23 k1) (w2 : WT Tryz.prog 23 k2) (we : WT Tryz.prog 26 te) (ws : WT Tryz.prog 26 ts) (wa : WT Tryz.prog 23 ta) (wn : WT Tryz.prog 23 tn) (wp : WT Tryz.prog 23 tp) :
    Ev fun N => C_parrylaw10_ArenaTurns (K N) l o1 n1 k1 o2 n2 k2 te ts ta tn tp = rb true := by
  have hl := WT_len wl
  have h1 := WT_KW w1
  have h2 := WT_KW w2
  have he := WT_KC we
  have hs := WT_KC ws
  have ha := WT_KW wa
  have hn := WT_KW wn
  have hp := WT_KW wp
  obtain ⟨m, hmd⟩ : ∃ m : Md, m = ⟨varsOf l, .mk o1 n1 (kidsOf k1), .mk o2 n2 (kidsOf k2), cmdsOf te, cmdsOf ts, kidsOf ta, kidsOf tn, kidsOf tp⟩ := ⟨_, rfl⟩
  have base := Ev.and (Ev.and (heavy6_sp l k1 k2 te ts ta tn tp hl h1 h2 he hs ha hn hp) awake10_sp) (refMayM_sp l hl k1 k2 te ts ta tn tp h1 h2 he hs ha hn hp)
  by_cases good : mayM m = 0 ∧ prodV (varsOf l) ≤ 24
  case neg =>
    refine Ev.step (base.imp fun N hb => ?_)
    obtain ⟨⟨hh, haw⟩, hr⟩ := hb
    obtain ⟨y, hy, hy2⟩ := hh o1 n1 o2 n2
    have aw : ((C_parrylaw10_awake (K N)).bind fun r => some (lookR [(0, T.b (r 0).bool)])) = rb true := by rw [haw]; rfl
    rw [C_parrylaw10_ArenaTurns_K]
    refine bind_of hy (if_both (fun _ => aw) fun c0 => bind_of (hr o1 n1 o2 n2) (if_both (fun _ => aw) fun c1 => ?_))
    exfalso
    have c1 : mayM m = 0 := by rw [hmd]; simpa [lookR_0, int_i] using c1
    refine good ⟨c1, hy2 (of_decide_eq_false c0) ?_⟩
    have := (mayM_zero c1).1
    rw [hmd] at this
    exact this
  obtain ⟨hm, hP⟩ := good
  have mv : m.vars = varsOf l := by rw [hmd]
  have hT : prodV m.vars ≤ 24 := by rw [mv]; exact hP
  obtain ⟨c3, hc3⟩ : ∃ c : Nat, c = 200000 := ⟨_, rfl⟩
  refine Ev.step (Ev.imp4 base (chs_sp l k1 k2 te ts ta tn tp hl h1 h2 he hs ha hn hp o1 n1 o2 n2 hmd hm hT) (Build_sp l k1 k2 te ts ta tn tp hl h1 h2 he hs ha hn hp o1 n1 o2 n2 hmd hm hT) (Ev.ge (c3 + 10)) fun N hb C hB hN => ?_)
  obtain ⟨⟨hh, haw⟩, hr⟩ := hb
  obtain ⟨y, hy, hy2⟩ := hh o1 n1 o2 n2
  have aw : ((C_parrylaw10_awake (K N)).bind fun r => some (lookR [(0, T.b (r 0).bool)])) = rb true := by rw [haw]; rfl
  obtain ⟨L, no, go, nN, gN, nA, gA, e, hI, hv, ho, hrw⟩ := hB
  have hnA := hv.1
  have hsm := hI.small
  have hpos : 0 < (atE m).length := (List.getElem?_eq_some_iff.1 hI.root).1
  have hLl := hI.len
  have hnN : nN = L.length := hrw.1
  have hno : no = (atE m).length := by have := ho.1; rw [List.length_map] at this; exact this
  have hg := hI.gok (fun _ => hT)
  have h24 := hI.short (waysE_len C)
  have hX : ∀ i l, L[i]? = some l → Ints ((T.l nN gN).el i 0) l := hrw.2
  obtain ⟨M, hM⟩ : ∃ M, N = M + 3 := ⟨N - 3, by omega⟩
  have may9 := may9_sp hg ho (tX := T.l nN gN) hnN hX (fun l hl => by have := h24 l hl; omega) (N := M + 1) (by omega)
  have mayg := mayg_sp hg ho (tX := T.l nN gN) hnN hX (fun l hl => by have := h24 l hl; omega) (N := M + 1) (by omega)
  have reach := Reach_sp (N := M) (n := (atE m).length) hg ho (by rw [List.length_map]) ⟨hpos, by omega⟩ hLl (tX := T.l nN gN) (by rw [← hLl]; exact hnN) hX h24 hI.pred (by omega) (T.l 1 (fun i j => ((([[(T.b true)]] : List (List T)).getD (0 + i) []).getD j (.b false)))) rfl rfl
  rw [show M + 1 + 2 = N by omega] at may9 mayg
  rw [← hM] at reach
  obtain ⟨gR, eR, allR⟩ := reach
  obtain ⟨r, hr0⟩ : ∃ r, r = lookR [(0, T.l no go), (1, T.l nN gN), (2, T.l nA gA), (3, T.i 0)] := ⟨_, rfl⟩
  rw [← hr0] at e
  have r0 : r 0 = T.l no go := by rw [hr0]; rfl
  have r1 : r 1 = T.l nN gN := by rw [hr0]; rfl
  have r2 : r 2 = T.l nA gA := by rw [hr0]; rfl
  have r3 : r 3 = T.i 0 := by rw [hr0]; rfl
  have main : parrylaw10_ArenaTurns.B0 (K N) N (T.l nA gA) (nA : Int) ((0 : Nat) : Int) (T.l no go) (T.l nN gN) (T.l nA gA) noT = rb true := by
    refine atB0 (tX := T.l nN gN) hI hv ho hnN hX h24 (F := 2000) (fun N' x hN' => ?_) (atE m).length 0 (by omega) N noT (by omega) SMap.nil
    rw [parrylaw10_ArenaTurns.B0_eq]
    refine if_not (decide_eq_false (by omega)) (bind_of eR ?_)
    exact atB2 (by omega) allR aw (atE m).length 0 (by omega) N' (by omega)
  rw [C_parrylaw10_ArenaTurns_K]
  refine bind_of hy (if_both (fun _ => aw) fun c0 => bind_of (hr o1 n1 o2 n2) (if_both (fun _ => aw) fun c1 => bind_of e ?_))
  simp only [r0, r1, r2, r3, len_l, el_l, int_i]
  refine if_not (by rfl) (bind_of may9 (if_not rfl (bind_of mayg (if_not rfl (if_not (by simp; omega) (if_not (decide_eq_false (by omega)) main))))))
end Go.Proofs.YtnjandhaeojieaaGreat
