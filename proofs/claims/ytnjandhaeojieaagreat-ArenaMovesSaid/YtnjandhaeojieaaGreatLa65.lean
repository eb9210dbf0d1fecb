/- awake of the laws of games. -/
import Derived.Test.YtnjandhaeojieaaGreatLa60
set_option linter.unusedVariables false
set_option linter.unusedSimpArgs false
set_option maxRecDepth 100000
namespace Go.AM
open Go.Proofs.YtnjandhaeojieaaGreat
def bfsG (w : Vx → List Vx) : Nat → Nat → List Vx → List Vx
  | 0, _, A => A
  | k + 1, i, A => match A[i]? with
    | none => A
    | some v => bfsG w k (i + 1) ((w v).foldl addV A)
theorem bfsG_pre {w : Vx → List Vx} : ∀ {k i : Nat} {A : List Vx} {v : Vx}, v ∈ A → v ∈ bfsG w k i A
  | 0, _, _, _, h => h
  | k + 1, i, A, v, h => by
    unfold bfsG
    split
    · exact h
    · exact bfsG_pre (fold_mem.2 (.inl h))
theorem bfs_congr {m : Md} {w : Vx → List Vx} : ∀ {k i : Nat} {A : List Vx}, (∀ v ∈ bfsG w k i A, waysE m v = w v) → bfsE m k i A = bfsG w k i A
  | 0, _, _, _ => rfl
  | k + 1, i, A, h => by
    unfold bfsE bfsG
    unfold bfsG at h
    cases hA : A[i]? with
    | none => rfl
    | some v =>
      rw [hA] at h
      simp only at h ⊢
      have hv : v ∈ A := List.mem_of_getElem? hA
      rw [h v (bfsG_pre (fold_mem.2 (.inl hv)))]
      exact bfs_congr h
def wT (v : Vx) : List Vx := if v.1 = 1 then [(2, 0, 0), (2, 0, 1)] else if v.1 = 2 then [(3, v.2.2, 0), (3, v.2.2 + 2, 0)] else if v.1 = 3 then [(4, v.2.1, 0), (4, v.2.1, 1)] else if v.1 = 4 then (if v.2.2 = 0 then [(3, 0, 0)] else [(3, 3, 0)]) else []
def smA : List Vx := [(1, 0, 0), (2, 0, 0), (2, 0, 1), (3, 0, 0), (3, 2, 0), (3, 1, 0), (3, 3, 0), (4, 0, 0), (4, 0, 1), (4, 2, 0), (4, 2, 1), (4, 1, 0), (4, 1, 1), (4, 3, 0), (4, 3, 1)]
theorem smA_eq : bfsG wT 700 0 [(1, 0, 0)] = smA := by decide +kernel
theorem initSys_sm2 {p : Int} (hp : p = 0 ∨ p = 1) : initSysE smM p = [p, p + 2] := by
  unfold initSysE
  rw [if_neg (by rw [mayM_sm]; decide)]
  rcases hp with rfl | rfl <;> decide +kernel
theorem env_sm2 {s : Int} (hs : s = 0 ∨ s = 1 ∨ s = 2 ∨ s = 3) : envE smM s = [0, 1] := by
  rcases hs with rfl | rfl | rfl | rfl
  all_goals
    unfold envE
    rw [if_neg (by rw [mayM_sm]; decide), if_neg (by decide +kernel)]
    unfold allE
  · have e : (smM.env.flatMap fun c => leadsE smM.vars c (partE smM.vars 0 true) 0 0) = [0, 1] := by decide +kernel
    rw [e, sort2 (by decide)]; decide +kernel
  · have e : (smM.env.flatMap fun c => leadsE smM.vars c (partE smM.vars 1 true) 1 1) = [0, 1] := by decide +kernel
    rw [e, sort2 (by decide)]; decide +kernel
  · have e : (smM.env.flatMap fun c => leadsE smM.vars c (partE smM.vars 2 true) 2 2) = [0, 1] := by decide +kernel
    rw [e, sort2 (by decide)]; decide +kernel
  · have e : (smM.env.flatMap fun c => leadsE smM.vars c (partE smM.vars 3 true) 3 3) = [0, 1] := by decide +kernel
    rw [e, sort2 (by decide)]; decide +kernel
theorem sys_sm2 {s p : Int} (hs : s = 0 ∨ s = 1 ∨ s = 2 ∨ s = 3) (hp : p = 0 ∨ p = 1) : sysE smM s p = if p = 0 then [0] else [3] := by
  have key : ∀ {s p x : Int}, ¬ partE smM.vars s true < 0 → ¬ pickE smM.vars p = false → (smM.sys.flatMap fun c => leadsE smM.vars c (mixedE smM.vars s p) s p) = [x] → sysE smM s p = [x] := by
    intro s p x h1 h2 h3
    unfold sysE
    rw [if_neg (by rw [mayM_sm]; decide), if_neg h1, if_neg h2]
    unfold allE
    rw [h3, List.mergeSort_singleton]
    rfl
  rcases hs with rfl | rfl | rfl | rfl <;> rcases hp with rfl | rfl <;> exact key (by decide +kernel) (by decide +kernel) (by decide +kernel)
theorem ways_sm : ∀ v ∈ smA, waysE smM v = wT v := by
  have s0 : (0 : Int) = 0 ∨ (0 : Int) = 1 ∨ (0 : Int) = 2 ∨ (0 : Int) = 3 := by decide
  have s1 : (1 : Int) = 0 ∨ (1 : Int) = 1 ∨ (1 : Int) = 2 ∨ (1 : Int) = 3 := by decide
  have s2 : (2 : Int) = 0 ∨ (2 : Int) = 1 ∨ (2 : Int) = 2 ∨ (2 : Int) = 3 := by decide
  have s3 : (3 : Int) = 0 ∨ (3 : Int) = 1 ∨ (3 : Int) = 2 ∨ (3 : Int) = 3 := by decide
  have p0 : (0 : Int) = 0 ∨ (0 : Int) = 1 := by decide
  have p1 : (1 : Int) = 0 ∨ (1 : Int) = 1 := by decide
  intro v hv
  simp only [smA, List.mem_cons, List.not_mem_nil, or_false] at hv
  rcases hv with rfl | rfl | rfl | rfl | rfl | rfl | rfl | rfl | rfl | rfl | rfl | rfl | rfl | rfl | rfl <;> simp only [waysE, wT] <;>
    simp [initEnv_sm, initSys_sm2 p0, initSys_sm2 p1, env_sm2 s0, env_sm2 s1, env_sm2 s2, env_sm2 s3, sys_sm2 s0 p0, sys_sm2 s0 p1, sys_sm2 s1 p0, sys_sm2 s1 p1, sys_sm2 s2 p0, sys_sm2 s2 p1, sys_sm2 s3 p0, sys_sm2 s3 p1]
theorem at_sm : atE smM = smA := by
  unfold atE
  rw [bfs_congr (w := wT) (by rw [smA_eq]; exact ways_sm), smA_eq]
end Go.AM
namespace Go.Proofs.YtnjandhaeojieaaGreat
open Go.AM
theorem small10_sp (n : Nat) : C_parrylaw10_small (K (n + 2)) = some sm6R := by
  rw [C_parrylaw10_small_K]
  have e : C_parrylaw10_yes (K (n + 1)) = some (lookR [(0, .i 2), (1, .i 1), (2, noT)]) := by rw [C_parrylaw10_yes_K]
  exact bind_of e (bind_of e (bind_of e (bind_of e rfl)))
theorem awake10_sp : Ev fun N => C_parrylaw10_awake (K N) = rb true := by
  have s7 : KC s6E := KC_one rfl KW_noT (KS_one rfl KW_noT)
  have s8 : KC s6S := KC_one rfl KW_noT (KS_one rfl KW_noT)
  have hl : s6V.len ≤ 9223372036854775807 := by show 2 ≤ _; omega
  have hT : prodV smM.vars ≤ 24 := by
    show prodV smV ≤ 24
    decide +kernel
  have hb := Build_sp s6V noT noT s6E s6S noT noT noT hl KW_noT KW_noT s7 s8 KW_noT KW_noT KW_noT 2 1 2 1 (m := smM) rfl mayM_sm hT
  refine Ev.step (Ev.imp (Ev.and hb (Ev.ge 5)) fun N hh => ?_)
  obtain ⟨h1, hN⟩ := hh
  obtain ⟨N, rfl⟩ : ∃ M, N = M + 2 := ⟨N - 2, by omega⟩
  obtain ⟨L, no, go, nN, gN, nA, gA, e, hI, hv, ho, hr⟩ := h1
  rw [at_sm] at hI hv ho
  have s := small10_sp N
  have l1 : nA = 15 := hv.1
  have l2 : no = 15 := by have := ho.1; exact this
  have l3 : nN = 15 := by rw [hr.1, hI.len]; rfl
  have d0 := (hI.done 0 (1, 0, 0) (by decide) rfl).2
  have q0 := hr.2 0 _ d0
  have q1 : (gN 0 0).len = 2 := by
    rw [q0.1]
    unfold nextE
    rw [List.length_mergeSort, List.length_map, ways_sm (1, 0, 0) (by simp [smA])]
    rfl
  have q2 : (gA 0 0).int = 1 := (hv.2 0 (1, 0, 0) rfl).1
  have q3 : (go 1 0).int = 1 := ho.2 1 1 rfl
  rw [C_parrylaw10_awake_K]
  refine bind_of s (bind_of e ?_)
  subst l1 l2 l3
  show (bif ((0 : Int) == 0) then (bif (((15 : Nat) : Int) == 15) then (bif (((15 : Nat) : Int) == 15) then (bif (((15 : Nat) : Int) == 15) then (bif decide ((0 : Int) < ((15 : Nat) : Int)) then (bif ((gA 0 0).int == 1) then (bif decide ((0 : Int) < ((15 : Nat) : Int)) then (bif ((((gN 0 0).len : Nat) : Int) == 2) then (bif decide ((1 : Int) < ((15 : Nat) : Int)) then some (lookR [(0, T.b ((go 1 0).int == 1))]) else none) else _) else none) else _) else none) else _) else _) else _) else _) = _
  rw [q1, q2, q3]
  rfl
end Go.Proofs.YtnjandhaeojieaaGreat

/- The law ArenaMoves: from each vertex one goes just where choice says. -/
set_option linter.unusedVariables false
set_option linter.unusedSimpArgs false
namespace Go.AM
open Go.Proofs.YtnjandhaeojieaaGreat
def valX (w : Vx) : Int := if w.1 = 2 ∨ w.1 = 4 then w.2.2 else w.2.1
def wantX (m : Md) (v : Vx) : List Int := if v.1 = 1 then initEnvE m else if v.1 = 2 then initSysE m v.2.2 else if v.1 = 3 then envE m v.2.1 else sysE m v.2.1 v.2.2
theorem want_nodup {m : Md} (hT : mayV m.vars = 0 → prodV m.vars ≤ 24) (v : Vx) : (wantX m v).Nodup := by
  unfold wantX
  split
  · exact initEnv_nodup m
  · split
    · exact initSys_nodup m _
    · split
      · exact (env_len hT).2.1.imp fun h e => by omega
      · exact (sys_len hT).2.1.imp fun h e => by omega
theorem ways_want {m : Md} {v : Vx} (hv : v.1 = 1 ∨ v.1 = 2 ∨ v.1 = 3 ∨ v.1 = 4) : (waysE m v).map valX = wantX m v ∧ ∀ w ∈ waysE m v, w.1 = 4 → w.2.1 = v.2.1 := by
  unfold waysE wantX
  rcases hv with h | h | h | h
  · rw [if_pos h, if_pos h]
    refine ⟨by rw [List.map_map]; exact List.map_id'' (fun x => rfl) _, fun w hw h4 => ?_⟩
    obtain ⟨x, _, rfl⟩ := List.mem_map.1 hw
    simp at h4
  · have n1 : ¬ v.1 = 1 := by omega
    rw [if_neg n1, if_neg n1, if_pos h, if_pos h]
    refine ⟨by rw [List.map_map]; exact List.map_id'' (fun x => rfl) _, fun w hw h4 => ?_⟩
    obtain ⟨x, _, rfl⟩ := List.mem_map.1 hw
    simp at h4
  · have n1 : ¬ v.1 = 1 := by omega
    have n2 : ¬ v.1 = 2 := by omega
    rw [if_neg n1, if_neg n1, if_neg n2, if_neg n2, if_pos h, if_pos h]
    refine ⟨by rw [List.map_map]; exact List.map_id'' (fun x => rfl) _, fun w hw h4 => ?_⟩
    obtain ⟨x, _, rfl⟩ := List.mem_map.1 hw
    rfl
  · have n1 : ¬ v.1 = 1 := by omega
    have n2 : ¬ v.1 = 2 := by omega
    have n3 : ¬ v.1 = 3 := by omega
    rw [if_neg n1, if_neg n1, if_neg n2, if_neg n2, if_neg n3, if_neg n3, if_pos h]
    refine ⟨by rw [List.map_map]; exact List.map_id'' (fun x => rfl) _, fun w hw h4 => ?_⟩
    obtain ⟨x, _, rfl⟩ := List.mem_map.1 hw
    simp at h4
theorem univE_kind {v : Vx} (h : v ∈ univE) : v.1 = 1 ∨ v.1 = 2 ∨ v.1 = 3 ∨ v.1 = 4 := by
  rcases univE_mem.1 h with rfl | ⟨p, _, rfl⟩ | ⟨s, _, rfl⟩ | ⟨s, p, _, _, rfl⟩
  · exact .inl rfl
  · exact .inr (.inl rfl)
  · exact .inr (.inr (.inl rfl))
  · exact .inr (.inr (.inr rfl))
end Go.AM
namespace Go.Proofs.YtnjandhaeojieaaGreat
open Go.AM
section
variable {h : H} {V : Int} {tW tN tO tX : T} {nA : Nat} {gA : Nat → Nat → T} {a b c : Int}
theorem amB1 {A : List Vx} {zs : List Int} {Q : Option R} {F : Nat} (hv : Verts nA gA A) (ht : Ints tN zs) (hz : zs.length ≤ 1000) (hzs : ∀ z ∈ zs, ∃ w ∈ A, z = (A.idxOf w : Int) ∧ (w.1 = 4 → w.2.1 = b))
    (hQ : ∀ N x, F ≤ N → IS x (addAll [] (zs.map fun z => valX ((A[z.toNat]?).getD (0, 0, 0)))) → parrylaw10_ArenaMoves.B3 h N V tW tW (tW.len : Int) 0 tO tX (T.l nA gA) x = Q) :
    ∀ (k j : Nat), j + k = zs.length → ∀ (N : Nat) (x : T), F + 4 * k + 1 ≤ N → IS x (addAll [] ((zs.take j).map fun z => valX ((A[z.toNat]?).getD (0, 0, 0)))) → parrylaw10_ArenaMoves.B1 h N V tW tN (tN.len : Int) (j : Int) tO tX (T.l nA gA) a b c x = Q
  | 0, j, hj, N, x, hN, hx => by
    obtain ⟨N, rfl⟩ : ∃ M, N = M + 1 := ⟨N - 1, by omega⟩
    rw [parrylaw10_ArenaMoves.B1_eq]
    rw [List.take_of_length_le (by omega)] at hx
    exact if_not (decide_eq_false (by rw [ht.1]; omega)) (hQ N x (by omega) hx)
  | k + 1, j, hj, N, x, hN, hx => by
    obtain ⟨N, rfl⟩ : ∃ M, N = M + 4 := ⟨N - 4, by omega⟩
    have hlt : j < zs.length := by omega
    have hl : tN.len = zs.length := ht.1
    have hs := ht.el0 hlt
    obtain ⟨w, hw, hzw, hw4⟩ := hzs zs[j] (List.getElem_mem hlt)
    have hi : A.idxOf w < A.length := List.idxOf_lt_length_iff.2 hw
    have hget : A[A.idxOf w]? = some w := by rw [List.getElem?_eq_getElem hi, List.getElem_idxOf hi]
    obtain ⟨y1, y2, y3⟩ := hv.2 _ _ hget
    have hnA := hv.1
    have hval : valX ((A[zs[j].toNat]?).getD (0, 0, 0)) = valX w := by rw [hzw, Int.toNat_natCast, hget]; rfl
    have app : ∀ (l ks : List Int) (a : Int), addAll ks (l ++ [a]) = (if a ∈ addAll ks l then addAll ks l else addAll ks l ++ [a]) := by
      intro l
      induction l with
      | nil => intro ks a; rfl
      | cons b l ih => intro ks a; exact ih _ a
    have hx2 := hx.set (b := valX w)
    rw [← app, ← hval] at hx2
    have e1 : (zs.take j).map (fun z => valX ((A[z.toNat]?).getD (0, 0, 0))) ++ [valX ((A[zs[j].toNat]?).getD (0, 0, 0))] = (zs.take (j + 1)).map fun z => valX ((A[z.toNat]?).getD (0, 0, 0)) := by
      rw [List.take_succ_eq_append_getElem hlt, List.map_append]; rfl
    rw [e1, hval] at hx2
    have ih := amB1 hv ht hz hzs hQ k (j + 1) (by omega) N _ (by omega) hx2
    have b5 : ∀ y, y = mset x 1 ([(T.i (valX w))] : List T) ([(T.i 1)] : List T) → parrylaw10_ArenaMoves.B5 h (N + 1) V tW tN (tN.len : Int) (j : Int) tO tX (T.l nA gA) a b c y = Q := by
      rintro y rfl
      rw [parrylaw10_ArenaMoves.B5_eq, wrap_eq (a := (j : Int) + 1) (by omega) (by omega)]
      exact ih
    have b4 : ∀ y, y = mset x 1 ([(T.i (valX w))] : List T) ([(T.i 1)] : List T) → parrylaw10_ArenaMoves.B4 h (N + 2) V tW tN (tN.len : Int) (j : Int) tO tX (T.l nA gA) a b c w.1 w.2.1 w.2.2 y = Q := by
      intro y hy
      rw [parrylaw10_ArenaMoves.B4_eq]
      by_cases c4 : w.1 = 4
      · exact if_of (by simpa using c4) (if_not (by simp [hw4 c4]) (b5 y hy))
      · exact if_not (by simpa using c4) (b5 y hy)
    have b2 : ∀ q : Bool, (q = true ↔ w.1 = 2 ∨ w.1 = 4) → parrylaw10_ArenaMoves.B2 h (N + 3) V tW tN (tN.len : Int) (j : Int) q tO tX (T.l nA gA) a b c w.1 w.2.1 w.2.2 x = Q := by
      intro q hq
      rw [parrylaw10_ArenaMoves.B2_eq]
      cases q with
      | true => exact if_of rfl (b4 _ (by unfold valX; rw [if_pos (hq.1 rfl)]))
      | false => exact if_not rfl (b4 _ (by unfold valX; rw [if_neg (fun h => by have := hq.2 h; cases this)]))
    rw [parrylaw10_ArenaMoves.B1_eq]
    refine if_of (decide_eq_true (by omega)) (if_of (by simp; omega) ?_)
    rw [Int.toNat_natCast, hs, hzw, Int.toNat_natCast]
    show (bif decide (((A.idxOf w : Nat) : Int) < 0) then _ else (bif decide (((A.idxOf w : Nat) : Int) ≥ ((nA : Nat) : Int)) then _ else (bif decide ((0 : Int) ≤ ((A.idxOf w : Nat) : Int)) && decide (((A.idxOf w : Nat) : Int) < ((nA : Nat) : Int)) then (bif ((gA (A.idxOf w) 0).int == 2) then parrylaw10_ArenaMoves.B2 h (N + 3) V tW tN (tN.len : Int) (j : Int) ((gA (A.idxOf w) 0).int == 2) tO tX (T.l nA gA) a b c (gA (A.idxOf w) 0).int (gA (A.idxOf w) 1).int (gA (A.idxOf w) 2).int x else parrylaw10_ArenaMoves.B2 h (N + 3) V tW tN (tN.len : Int) (j : Int) ((gA (A.idxOf w) 0).int == 4) tO tX (T.l nA gA) a b c (gA (A.idxOf w) 0).int (gA (A.idxOf w) 1).int (gA (A.idxOf w) 2).int x) else none))) = Q
    refine if_not (decide_eq_false (by omega)) (if_not (decide_eq_false (by omega)) (if_of (by simp; omega) ?_))
    rw [y1, y2, y3]
    by_cases c2 : w.1 = 2
    · exact if_of (by simpa using c2) (b2 _ (by simp [c2]))
    · exact if_not (by simpa using c2) (b2 _ (by simp [c2]))
theorem amB3 {W ks : List Int} {x : T} {nX : Nat} {gX : Nat → Nat → T} {Q : Option R} (ht : Ints tW W) (hw : W.length ≤ 1000) (hx : IS x ks) (hk : ∀ s ∈ W, s ∈ ks) (h1 : ks.length = W.length) (hV : 0 ≤ V ∧ V < (nX : Int)) (h2 : (gX V.toNat 0).len = W.length)
    (hQ : ((C_parrylaw10_awake h).bind fun r => some (lookR [(0, T.b (r 0).bool)])) = Q) :
    ∀ (k j : Nat), j + k = W.length → ∀ (N : Nat), k + 1 ≤ N → parrylaw10_ArenaMoves.B3 h N V tW tW (tW.len : Int) (j : Int) tO (T.l nX gX) (T.l nA gA) x = Q
  | 0, j, hj, N, hN => by
    obtain ⟨N, rfl⟩ : ∃ M, N = M + 1 := ⟨N - 1, by omega⟩
    rw [parrylaw10_ArenaMoves.B3_eq]
    have h1' := hx.len
    have h3 := ht.1
    refine if_not (decide_eq_false (by omega)) (if_of (by rw [hx.len, h1, ht.1]; simp) ?_)
    show (bif decide ((0 : Int) ≤ V) && decide (V < ((nX : Nat) : Int)) then (bif (((gX V.toNat 0).len : Nat) : Int) == ((tW.len : Nat) : Int) then _ else _) else none) = Q
    exact if_of (by simp; omega) (if_of (by rw [h2, ht.1]; simp) hQ)
  | k + 1, j, hj, N, hN => by
    obtain ⟨N, rfl⟩ : ∃ M, N = M + 1 := ⟨N - 1, by omega⟩
    have hlt : j < W.length := by omega
    have hl : tW.len = W.length := ht.1
    have hs := ht.el0 hlt
    have ih := amB3 ht hw hx hk h1 hV h2 hQ k (j + 1) (by omega) N (by omega)
    rw [parrylaw10_ArenaMoves.B3_eq, wrap_eq (a := (j : Int) + 1) (by omega) (by omega)]
    refine if_of (decide_eq_true (by omega)) (if_of (by simp; omega) ?_)
    rw [Int.toNat_natCast, hs]
    exact if_not (by rw [hx.get, if_pos (hk _ (List.getElem_mem hlt))]; rfl) ih
end
/-- From one vertex on. -/
theorem amAll {h : H} {m : Md} {A : List Vx} {L : List (List Int)} {V : Int} {v : Vx} {tW tO : T} {nX nA : Nat} {gX gA : Nat → Nat → T} {Q : Option R} {N : Nat} (hI : Inv m A.length A L) (hT : mayV m.vars = 0 → prodV m.vars ≤ 24) (hlw : (wantX m v).length ≤ 24) (hV : 0 ≤ V) (hv : A[V.toNat]? = some v) (hA : Verts nA gA A) (hX : RowsT nX gX L) (hW : Ints tW (wantX m v)) (hN : 300 ≤ N)
    (hQ : ((C_parrylaw10_awake h).bind fun r => some (lookR [(0, T.b (r 0).bool)])) = Q) :
    parrylaw10_ArenaMoves.B0 h N V tW tO (T.l nX gX) (T.l nA gA) v.1 v.2.1 v.2.2 = Q := by
  obtain ⟨N, rfl⟩ : ∃ M, N = M + 1 := ⟨N - 1, by omega⟩
  have hlt : V.toNat < A.length := (List.getElem?_eq_some_iff.1 hv).1
  obtain ⟨d1, d2⟩ := hI.done V.toNat v hlt hv
  have hrow := hX.2 _ _ d2
  have hnX : nX = A.length := by rw [hX.1, hI.len]
  obtain ⟨w1, w2⟩ := ways_want (m := m) (univE_kind (hI.un v (List.mem_of_getElem? hv)))
  have hwl : (waysE m v).length = (wantX m v).length := by rw [← w1, List.length_map]
  have hmem : ∀ z ∈ nextE A (waysE m v), ∃ w ∈ waysE m v, z = (A.idxOf w : Int) := by
    intro z hz
    unfold nextE at hz
    rw [List.mem_mergeSort, List.mem_map] at hz
    obtain ⟨w, hw, rfl⟩ := hz
    exact ⟨w, hw, rfl⟩
  have hlen : (nextE A (waysE m v)).length = (wantX m v).length := by unfold nextE; rw [List.length_mergeSort, List.length_map, hwl]
  have vals : ∀ w ∈ waysE m v, valX ((A[((A.idxOf w : Nat) : Int).toNat]?).getD (0, 0, 0)) = valX w := by
    intro w hw
    have hi : A.idxOf w < A.length := List.idxOf_lt_length_iff.2 (d1 w hw)
    rw [Int.toNat_natCast, List.getElem?_eq_getElem hi, List.getElem_idxOf hi]
    rfl
  have hset : ∀ s, s ∈ addAll [] ((nextE A (waysE m v)).map fun z => valX ((A[z.toNat]?).getD (0, 0, 0))) ↔ s ∈ wantX m v := by
    intro s
    rw [addAll_mem, List.mem_map, ← w1, List.mem_map]
    constructor
    · rintro (q | ⟨z, hz, rfl⟩)
      · cases q
      · obtain ⟨w, hw, rfl⟩ := hmem z hz
        exact ⟨w, hw, (vals w hw).symm⟩
    · rintro ⟨w, hw, rfl⟩
      refine .inr ⟨(A.idxOf w : Int), ?_, vals w hw⟩
      unfold nextE
      rw [List.mem_mergeSort, List.mem_map]
      exact ⟨w, hw, rfl⟩
  have hks : (addAll [] ((nextE A (waysE m v)).map fun z => valX ((A[z.toNat]?).getD (0, 0, 0)))).length = (wantX m v).length :=
    ((List.perm_ext_iff_of_nodup (addAll_nodup (by simp)) (want_nodup hT v)).2 hset).length_eq
  rw [parrylaw10_ArenaMoves.B0_eq]
  show (bif decide ((0 : Int) ≤ V) && decide (V < ((nX : Nat) : Int)) then parrylaw10_ArenaMoves.B1 h N V tW (gX V.toNat 0) (((gX V.toNat 0).len : Nat) : Int) (0 : Int) tO (T.l nX gX) (T.l nA gA) v.1 v.2.1 v.2.2 noT else none) = Q
  refine if_of (by simp; omega) ?_
  refine amB1 (F := 100) hA hrow (by omega) (fun z hz => ?_) (fun N x hN hx => ?_) (nextE A (waysE m v)).length 0 (by omega) N noT (by omega) IS.nil
  · obtain ⟨w, hw, rfl⟩ := hmem z hz
    exact ⟨w, d1 w hw, rfl, w2 w hw⟩
  · exact amB3 hW (by omega) hx (fun s hs => (hset s).2 hs) hks ⟨hV, by omega⟩ (by rw [hrow.1, hlen]) hQ (wantX m v).length 0 (by omega) N (by omega)
end Go.Proofs.YtnjandhaeojieaaGreat
