/- The law ModuleGoals: what shall recur, or priorities, and no more than so many. -/
import Derived.Test.YtnlkhjileipmcaaGreatLa33
set_option linter.unusedVariables false
set_option linter.unusedSimpArgs false
namespace Go.AM
theorem mayM_goals {l : List Va} {ie is : Ex} {env sys : List Cm} (h : mayM ⟨l, ie, is, env, sys, [], [], []⟩ = 0) (A B P : List Ex) :
    mayM ⟨l, ie, is, env, sys, A, B, P⟩ = if 4 < A.length ∨ 4 < B.length ∨ 6 < P.length then 7 else if 0 < P.length ∧ 0 < A.length + B.length then 1 else firstE (fun e => needsE l e 1 true false false) (A ++ B ++ P) := by
  unfold mayM at h ⊢
  simp only at h ⊢
  by_cases c1 : mayV l = 0
  case neg => rw [if_pos c1] at h; exact absurd h c1
  rw [if_neg (by simpa using c1)] at h ⊢
  by_cases c2 : needsE l ie 1 false false false = 0
  case neg => rw [if_pos c2] at h; exact absurd h c2
  rw [if_neg (by simpa using c2)] at h ⊢
  by_cases c3 : needsE l is 1 true false false = 0
  case neg => rw [if_pos c3] at h; exact absurd h c3
  rw [if_neg (by simpa using c3)] at h ⊢
  by_cases c4 : 12 < max env.length sys.length
  · rw [if_pos (by unfold fullM; simp only; rw [decide_eq_true c4]; rfl)] at h
    exact absurd h (by omega)
  rw [if_neg (by unfold fullM; simp only; rw [decide_eq_false c4]; simp)] at h
  by_cases c5 : firstE (mayCmd l true) env = 0
  case neg => rw [if_pos c5] at h; exact absurd h c5
  by_cases c6 : firstE (mayCmd l false) sys = 0
  case neg => rw [if_neg (by simpa using c5), if_pos c6] at h; exact absurd h c6
  have hf : (fullM ⟨l, ie, is, env, sys, A, B, P⟩ = true) ↔ (4 < A.length ∨ 4 < B.length ∨ 6 < P.length) := by
    unfold fullM
    simp only
    rw [decide_eq_false c4, Bool.false_or, Bool.or_eq_true, decide_eq_true_eq, decide_eq_true_eq]
    omega
  by_cases c7 : 4 < A.length ∨ 4 < B.length ∨ 6 < P.length
  · rw [if_pos (hf.2 c7), if_pos c7]
  · rw [if_neg (fun q => c7 (hf.1 q)), if_neg c7, if_neg (by simpa using c5), if_neg (by simpa using c6)]
theorem firstE_rep {f : Ex → Int} {e : Ex} (h : f e = 0) (n : Nat) : firstE f (List.replicate n e) = 0 := firstE_zero.2 fun x hx => by rw [List.eq_of_mem_replicate hx]; exact h
end Go.AM
namespace Go.Proofs.YtnlkhjileipmcaaGreat
open Go.AM
/-- So many copies of an expression. -/
def repG (o m : Int) (k : T) : Nat → Nat → Nat → T
  | 0 => fun _ _ => .b false
  | n + 1 => pushX n (repG o m k n) o m k
def repT (o m : Int) (k : T) (n : Nat) : T := T.l n fun i j => repG o m k n (0 + i) j
theorem exsR_rep (o m : Int) (k : T) : ∀ n, exsR n (repG o m k n) = List.replicate n (Ex.mk o m (kidsOf k))
  | 0 => rfl
  | n + 1 => by rw [repG, exsR_pushX, exsR_rep o m k n, List.replicate_succ']
theorem repG_KW {o m : Int} {k : T} (hk : KW k) : ∀ n i, i < n → KW (repG o m k n i 2)
  | n + 1, i, h => by
    rw [repG]
    by_cases c : i < n
    · rw [pushX_lt c]; exact repG_KW hk n i c
    · obtain rfl : i = n := by omega
      rw [(pushX_at i (repG o m k i) o m k).2.2]; exact hk
theorem repT_eq (o m : Int) (k : T) (n : Nat) : repT o m k n = T.l n (repG o m k n) := by
  unfold repT
  congr 1
  funext i j
  rw [Nat.zero_add]
theorem KW_rep {o m : Int} {k : T} (hk : KW k) {n : Nat} (hn : n ≤ 100) : KW (repT o m k n) := by
  rw [repT_eq]
  exact KW_l (by omega) fun i hi => repG_KW hk n i hi
theorem kids_rep (o m : Int) (k : T) (n : Nat) : kidsOf (repT o m k n) = List.replicate n (Ex.mk o m (kidsOf k)) := by
  rw [repT_eq, kidsOf_l, exsR_rep]
def oneG (o m : Int) (k : T) : Nat → Nat → T := fun i j => ((([[(T.i o), (T.i m), k]] : List (List T)).getD i []).getD j (.b false))
def oneT (o m : Int) (k : T) : T := T.l 1 fun i j => oneG o m k (0 + i) j
theorem KW_one {o m : Int} {k : T} (hk : KW k) : KW (oneT o m k) := KW_l (by omega) fun i hi => by
  obtain rfl : i = 0 := by omega
  exact hk
theorem kids_one (o m : Int) (k : T) : kidsOf (oneT o m k) = [Ex.mk o m (kidsOf k)] := by
  unfold oneT
  rw [kidsOf_l]; rfl
section
variable {h : H} {l k1 k2 te ts ek : T} {o1 n1 o2 n2 eo en : Int} {q : Nat}
theorem mgB0 (hq : q ≤ 100) {c : Nat} {Q : Option R} (hk : ∀ M, c ≤ M → parrylaw5_ModuleGoals.B0 h M q (q : Int) (q : Int) (q : Int) l o1 n1 k1 o2 n2 k2 te ts eo en ek (repG eo en ek q) = Q) :
    ∀ m i, i + m = q → ∀ M, c + m ≤ M → parrylaw5_ModuleGoals.B0 h M i (q : Int) (q : Int) (i : Int) l o1 n1 k1 o2 n2 k2 te ts eo en ek (repG eo en ek i) = Q
  | 0, i, hi, M, hM => by
    obtain rfl : i = q := by omega
    exact hk M (by omega)
  | m + 1, i, hi, M, hM => by
    obtain ⟨M, rfl⟩ : ∃ M', M = M' + 1 := ⟨M - 1, by omega⟩
    rw [parrylaw5_ModuleGoals.B0_eq, wrap_eq (a := (i : Int) + 1) (by omega) (by omega)]
    exact if_of (decide_eq_true (by omega)) (if_of (decide_eq_true (by omega)) (mgB0 hq hk m (i + 1) (by omega) M (by omega)))
end
theorem ModuleGoals_sp (l : T) (o1 n1 : Int) (k1 : T) (o2 n2 : Int) (k2 te ts ta tn tp : T) (eo en : Int) (ek : T) (v : Int) (wl : WT Tryz.prog 22 l) (w1 : WT Tryz.prog 23 k1) (w2 : WT Tryz.prog 23 k2) (we : WT Tryz.prog 26 te) (ws : WT Tryz.prog 26 ts) (wa : WT Tryz.prog 23 ta) (wn : WT Tryz.prog 23 tn) (wp : WT Tryz.prog 23 tp) (wk : WT Tryz.prog 23 ek) :
    Ev fun N => C_parrylaw5_ModuleGoals (K N) l o1 n1 k1 o2 n2 k2 te ts ta tn tp eo en ek v = rb true := by
  have hl := WT_len wl
  have h1 := WT_KW w1
  have h2 := WT_KW w2
  have he := WT_KC we
  have hs := WT_KC ws
  have ha := WT_KW wa
  have hn := WT_KW wn
  have hp := WT_KW wp
  have hk := WT_KW wk
  have hno : KC noT := ⟨by show 0 ≤ _; omega, fun i hi => absurd hi (Nat.not_lt_zero _)⟩
  obtain ⟨Q, hQ⟩ : ∃ Q, Q = IntKind.wrap .i64 (Int.tmod (IntKind.wrap .u64 v) 8) := ⟨_, rfl⟩
  have hqr := mod_range v (n := (8 : Int)) (by omega) (by omega)
  rw [show IntKind.wrap .u64 8 = 8 from rfl, ← hQ] at hqr
  obtain ⟨q, rfl⟩ : ∃ q : Nat, Q = (q : Int) := ⟨Q.toNat, by omega⟩
  have hq : q < 8 := by omega
  have base := Ev.imp4 (heavyM_sp l k1 k2 te ts ta tn tp hl h1 h2 he hs ha hn hp) (heavyM_sp noT ek noT noT noT noT noT noT (by show 0 ≤ _; omega) hk KW_noT hno hno KW_noT KW_noT KW_noT)
    (Ev.and (MayM_sp l hl k1 k2 te ts noT noT noT h1 h2 he hs KW_noT KW_noT KW_noT) (refNeeds_sp l hl ek hk)) awake5_sp fun N a b c d => (⟨a, b, c, d⟩ : _ ∧ _ ∧ _ ∧ _)
  have more := Ev.imp3 (MayM_sp l hl k1 k2 te ts (repT eo en ek q) noT noT h1 h2 he hs (KW_rep hk (by omega)) KW_noT KW_noT)
    (MayM_sp l hl k1 k2 te ts noT noT (repT eo en ek q) h1 h2 he hs KW_noT KW_noT (KW_rep hk (by omega)))
    (MayM_sp l hl k1 k2 te ts noT (repT eo en ek q) (oneT eo en ek) h1 h2 he hs KW_noT (KW_rep hk (by omega)) (KW_one hk)) fun N a b c => (⟨a, b, c⟩ : _ ∧ _ ∧ _)
  refine Ev.step (Ev.imp3 base more (Ev.ge 100) fun N hb hm hN => ?_)
  obtain ⟨hh1, hh2, ⟨hm0, hnd⟩, haw⟩ := hb
  obtain ⟨ma, mb, mc⟩ := hm
  obtain ⟨y, hy⟩ := hh1 o1 n1 o2 n2
  obtain ⟨z, hz⟩ := hh2 eo en 0 0
  have ma := ma o1 n1 o2 n2
  have mb := mb o1 n1 o2 n2
  have mc := mc o1 n1 o2 n2
  rw [kids_rep, kidsOf_noT] at ma mb mc
  rw [kids_one] at mc
  have aw : ((C_parrylaw5_awake (K N)).bind fun r => some (lookR [(0, T.b (r 0).bool)])) = rb true := by rw [haw]; rfl
  rw [C_parrylaw5_ModuleGoals_K]
  refine bind_of hy (bind_of hz (if_both (fun _ => aw) fun _ => bind_of (hm0 o1 n1 o2 n2) (if_both (fun _ => aw) fun c1 => bind_of (hnd eo en 1 true false false) (if_both (fun _ => aw) fun c2 => ?_))))
  have c1 : mayM ⟨varsOf l, .mk o1 n1 (kidsOf k1), .mk o2 n2 (kidsOf k2), cmdsOf te, cmdsOf ts, [], [], []⟩ = 0 := by simpa [lookR_0, int_i, kidsOf_noT] using c1
  have c2 : needsE (varsOf l) (.mk eo en (kidsOf ek)) 1 true false false = 0 := by simpa [lookR_0, int_i] using c2
  rw [mayM_goals c1] at ma mb mc
  have rep0 : firstE (fun e => needsE (varsOf l) e 1 true false false) (List.replicate q (Ex.mk eo en (kidsOf ek))) = 0 := firstE_rep c2 q
  simp only [List.length_replicate, List.length_nil, List.length_cons, List.append_nil, List.nil_append, rep0] at ma mb mc
  rw [← hQ]
  refine mgB0 (by omega) (c := 10) (fun M hM => ?_) q 0 (by omega) N (by omega)
  obtain ⟨M, rfl⟩ : ∃ M', M = M' + 1 + 1 + 1 + 1 := ⟨M - 4, by omega⟩
  have fin : ∀ few prio both : Int, few = (if 4 < q then 7 else 0) → prio = (if 6 < q then 7 else 0) → both = (if q = 0 then 0 else if 4 < q then 7 else 1) →
      parrylaw5_ModuleGoals.B3 (K N) (M + 1) 1 few prio both l o1 n1 k1 o2 n2 k2 te ts (repT eo en ek q) l o1 n1 k1 o2 n2 k2 te ts (repT eo en ek q) l o1 n1 k1 o2 n2 k2 te ts (repT eo en ek q) (oneG eo en ek) = rb true := by
    intro few prio both e1 e2 e3
    rw [parrylaw5_ModuleGoals.B3_eq]
    refine bind_of ma (if_of ?_ (bind_of mb (if_of ?_ (bind_of mc (if_of ?_ aw)))))
    · rw [lookR_0, int_i, e1]
      apply beq_of_eq
      split <;> split <;> (first | rfl | omega)
    · rw [lookR_0, int_i, e2]
      apply beq_of_eq
      split <;> split <;> (first | rfl | omega)
    · rw [lookR_0, int_i, e3]
      apply beq_of_eq
      by_cases c : q = 0
      · subst c
        simp [firstE, c2]
      · rw [if_neg c]
        by_cases d : 4 < q
        · rw [if_pos (by omega), if_pos d]
        · rw [if_neg (by omega), if_neg d, if_pos (by omega)]
  have st : ∀ few prio both : Int, few = (if 4 < q then 7 else 0) → prio = 0 → both = (if 4 < q then 7 else 1) →
      parrylaw5_ModuleGoals.B1 (K N) (M + 1 + 1 + 1) 1 (q : Int) few prio both l o1 n1 k1 o2 n2 k2 te ts (repT eo en ek q) l o1 n1 k1 o2 n2 k2 te ts (repT eo en ek q) l o1 n1 k1 o2 n2 k2 te ts (repT eo en ek q) (oneG eo en ek) = rb true := by
    intro few prio both e1 e2 e3
    rw [parrylaw5_ModuleGoals.B1_eq]
    have s2 : ∀ prio : Int, prio = (if 6 < q then 7 else 0) → parrylaw5_ModuleGoals.B2 (K N) (M + 1 + 1) 1 (q : Int) few prio both l o1 n1 k1 o2 n2 k2 te ts (repT eo en ek q) l o1 n1 k1 o2 n2 k2 te ts (repT eo en ek q) l o1 n1 k1 o2 n2 k2 te ts (repT eo en ek q) (oneG eo en ek) = rb true := by
      intro prio e2
      rw [parrylaw5_ModuleGoals.B2_eq]
      by_cases c : q = 0
      · exact if_of (by simp; omega) (fin _ _ _ e1 e2 (by rw [if_pos c]))
      · exact if_not (by simp; omega) (fin _ _ _ e1 e2 (by rw [if_neg c, e3]))
    by_cases c : 6 < q
    · exact if_of (decide_eq_true (by omega)) (s2 7 (by rw [if_pos c]))
    · exact if_not (decide_eq_false (by omega)) (s2 _ (by rw [if_neg c, e2]))
  rw [parrylaw5_ModuleGoals.B0_eq]
  refine if_not (decide_eq_false (by omega)) ?_
  by_cases c : 4 < q
  · exact if_of (decide_eq_true (by omega)) (st 7 0 7 (by rw [if_pos c]) rfl (by rw [if_pos c]))
  · exact if_not (decide_eq_false (by omega)) (st 0 0 1 (by rw [if_neg c]) rfl (by rw [if_neg c]))
end Go.Proofs.YtnlkhjileipmcaaGreat
