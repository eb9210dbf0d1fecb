/- The document's own answers: State, Part, picks, where a play may begin. -/
import Derived.Test.YtnlkhjileipmcaaGreatLa45
set_option linter.unusedVariables false
set_option linter.unusedSimpArgs false
namespace Go.Proofs.YtnlkhjileipmcaaGreat
open Go.AM
theorem refStateB {h : H} {l t : T} {xs : List Int} (hx : Ints t xs) (hl : l.len ≤ 6) (hso : ∀ v ∈ varsOf l, sortedV v = 0) (hp : Pos (varsOf l)) (hr : InR (varsOf l) xs) (hz : ∀ a b x y z, C_parryref1_Size h a b x y z = ri (sizeV ⟨a, b, x, y, z⟩)) :
    ∀ m i, i + m = l.len → ∀ N (acc w : Int), m < N → 0 ≤ acc → acc < w → w * prodV ((varsOf l).drop i) ≤ 512 → parryref1_State.B0 h N t acc w l (l.len : Int) (i : Int) = some (lookR [(0, T.i (acc + w * stateFrom ((varsOf l).drop i) (xs.drop i))), (1, T.b true)])
  | 0, i, hi, N, acc, w, hN, h0, h1, h2 => by
    obtain ⟨N, rfl⟩ : ∃ M, N = M + 1 := ⟨N - 1, by omega⟩
    rw [parryref1_State.B0_eq, List.drop_of_length_le (by rw [varsOf_len]; omega)]
    refine if_not (decide_eq_false (by omega)) ?_
    simp [stateFrom]
  | m + 1, i, hi, N, acc, w, hN, h0, h1, h2 => by
    obtain ⟨N, rfl⟩ : ∃ M, N = M + 1 := ⟨N - 1, by omega⟩
    have hlt : i < l.len := by omega
    have hxl : xs.length = l.len := by rw [hr.len, varsOf_len]
    have hm1 : i < (varsOf l).length := by rw [varsOf_len]; exact hlt
    have ev : (varsOf l)[i] = vaAt l i := by
      have := varsOf_get l hlt
      rw [List.getElem?_eq_getElem hm1] at this
      exact Option.some.inj this
    have hmem : vaAt l i ∈ varsOf l := List.mem_of_getElem? (varsOf_get l hlt)
    obtain ⟨g1, g2⟩ := hr.get hm1 (by omega)
    rw [ev] at g1 g2
    have hsz := hp _ hmem
    have hsr := sizeV_range (vaAt l i)
    have hlr := low_range hsz
    have elow : (l.el i 3).int = lowV (vaAt l i) := (sortedV_low (hso _ hmem)).symm
    have ex : (t.el i 0).int = xs[i] := hx.el0 (by omega)
    have hP1 := prodV_pos (hp.drop (i + 1))
    have ed : (varsOf l).drop i = vaAt l i :: (varsOf l).drop (i + 1) := by rw [List.drop_eq_getElem_cons hm1, ev]
    rw [ed] at h2
    simp only [prodV] at h2
    rw [← Int.mul_assoc] at h2
    have w1 : w * sizeV (vaAt l i) * 1 ≤ w * sizeV (vaAt l i) * prodV ((varsOf l).drop (i + 1)) := Int.mul_le_mul_of_nonneg_left (by omega) (Int.mul_nonneg (by omega) (by omega))
    rw [Int.mul_one] at w1
    obtain ⟨D, hD⟩ : ∃ D, D = xs[i] - lowV (vaAt l i) := ⟨_, rfl⟩
    have d0 : 0 ≤ D * w := Int.mul_nonneg (by omega) (by omega)
    have d1 : (D + 1) * w ≤ sizeV (vaAt l i) * w := Int.mul_le_mul_of_nonneg_right (by omega) (by omega)
    rw [Int.add_mul, Int.one_mul, Int.mul_comm (sizeV (vaAt l i)) w] at d1
    have ih := refStateB hx hl hso hp hr hz m (i + 1) (by omega) N (acc + D * w) (w * sizeV (vaAt l i)) (by omega) (by omega) (by omega) h2
    rw [parryref1_State.B0_eq, Int.toNat_natCast, ex, ed, List.drop_eq_getElem_cons (show i < xs.length by omega)]
    refine if_of (decide_eq_true (by omega)) (if_of (by simp; omega) (if_of (by have := hx.1; simp; omega) (if_not (decide_eq_false (by omega)) (bind_of (hz ..) ?_))))
    simp only [lookR_0, int_i]
    show (bif decide (xs[i] ≥ IntKind.wrap .i64 ((l.el i 3).int + sizeV (vaAt l i))) then _ else _) = _
    rw [wrap_eq (a := (l.el i 3).int + sizeV (vaAt l i)) (by omega) (by omega)]
    refine if_not (decide_eq_false (by omega)) (bind_of (hz ..) ?_)
    simp only [lookR_0, int_i]
    show parryref1_State.B0 h N t (IntKind.wrap .i64 (acc + IntKind.wrap .i64 (IntKind.wrap .i64 (xs[i] - (l.el i 3).int) * w))) (IntKind.wrap .i64 (w * sizeV (vaAt l i))) l _ (IntKind.wrap .i64 ((i : Int) + 1)) = _
    rw [elow, ← hD, wrap_eq (a := D) (by omega) (by omega), wrap_eq (a := D * w) (by omega) (by omega), wrap_eq (a := acc + D * w) (by omega) (by omega), wrap_eq (a := w * sizeV (vaAt l i)) (by omega) (by omega), wrap_eq (a := (i : Int) + 1) (by omega) (by omega)]
    refine ih.trans ?_
    simp only [stateFrom]
    rw [← hD, Int.mul_add, Int.mul_comm D w, Int.mul_assoc, Int.add_assoc]
theorem refState_sp (l : T) (hl : l.len ≤ 9223372036854775807) (hm : mayV (varsOf l) = 0) : Ev fun N => ∀ t xs, Ints t xs → InR (varsOf l) xs → C_parryref1_State (K N) l t = some (lookR [(0, T.i (stateFrom (varsOf l) xs)), (1, T.b true)]) := by
  have h6 := totalE_len (mayV_total hm)
  rw [varsOf_len] at h6
  obtain ⟨ht, hp, hP⟩ := total_prod hm
  refine Ev.step (Ev.imp3 (refMay_sp l hl) refSize_sp (Ev.ge 10) fun N h1 h2 hN t xs hx hr => ?_)
  have hxl : xs.length = l.len := by rw [hr.len, varsOf_len]
  rw [C_parryref1_State_K]
  refine bind_of h1 (if_not (by simp [lookR_0, int_i, hm]) (if_not (by rw [hx.1, hxl]; simp) ?_))
  have := refStateB hx (by omega) (fun v hv => (totalE_pos (mayV_total hm) v hv).1) hp hr h2 l.len 0 (by omega) N 0 1 (by omega) (by omega) (by omega) (by rw [List.drop_zero, Int.one_mul]; exact hP)
  rw [List.drop_zero, List.drop_zero, Int.zero_add, Int.one_mul] at this
  exact this
theorem refPartB {h : H} {l : T} {env : Bool} {xs : List Int} (hl : l.len ≤ 6) (hso : ∀ v ∈ varsOf l, sortedV v = 0) (hp : Pos (varsOf l)) (hr : InR (varsOf l) xs)
    (hs : ∀ t xs, Ints t xs → InR (varsOf l) xs → C_parryref1_State h l t = some (lookR [(0, T.i (stateFrom (varsOf l) xs)), (1, T.b true)])) :
    ∀ m i, i + m = l.len → ∀ N, 2 * m < N → ∀ g : Nat → Nat → T, (∀ j (hj : j < xs.length), (g j 0).int = if j < i ∧ (vaAt l j).env ≠ env then lowV (vaAt l j) else xs[j]) →
      parryref1_Part.B0 h N l.len l env l (l.len : Int) (i : Int) g = ri (stateFrom (varsOf l) (maskE env (varsOf l) xs))
  | 0, i, hi, N, hN, g, hg => by
    obtain ⟨N, rfl⟩ : ∃ M, N = M + 1 := ⟨N - 1, by omega⟩
    have hxl : xs.length = l.len := by rw [hr.len, varsOf_len]
    rw [parryref1_Part.B0_eq]
    refine if_not (decide_eq_false (by omega)) (bind_of (hs _ (maskE env (varsOf l) xs) ⟨?_, fun j v hj => ?_⟩ (InR_mask hp hr)) (by simp [lookR_0, int_i]; rfl))
    · rw [maskE_len hr.len, varsOf_len]; rfl
    · have hj' : j < l.len := by
        have := (List.getElem?_eq_some_iff.1 hj).1
        rwa [maskE_len hr.len, varsOf_len] at this
      have hj1 : j < (varsOf l).length := by rw [varsOf_len]; exact hj'
      rw [maskE_get hj1 (by omega)] at hj
      have ev : (varsOf l)[j] = vaAt l j := by
        have := varsOf_get l hj'
        rw [List.getElem?_eq_getElem hj1] at this
        exact Option.some.inj this
      rw [ev] at hj
      rw [← Option.some.inj hj]
      show (g (0 + j) 0).int = _
      rw [Nat.zero_add, hg j (by omega)]
      by_cases c : (vaAt l j).env = env
      · rw [if_pos c, if_neg (fun q => q.2 c)]
      · rw [if_neg c, if_pos ⟨by omega, c⟩]
  | m + 1, i, hi, N, hN, g, hg => by
    obtain ⟨N, rfl⟩ : ∃ M, N = M + 1 + 1 := ⟨N - 2, by omega⟩
    have hlt : i < l.len := by omega
    have hxl : xs.length = l.len := by rw [hr.len, varsOf_len]
    have hmem : vaAt l i ∈ varsOf l := List.mem_of_getElem? (varsOf_get l hlt)
    have elow : (l.el i 3).int = lowV (vaAt l i) := (sortedV_low (hso _ hmem)).symm
    rw [parryref1_Part.B0_eq, Int.toNat_natCast]
    refine if_of (decide_eq_true (by omega)) (if_of (by simp; omega) ?_)
    by_cases c : (l.el i 1).bool = env
    · refine if_not (by rw [c]; simp) ?_
      rw [parryref1_Part.B1_eq, wrap_eq (a := (i : Int) + 1) (by omega) (by omega)]
      refine refPartB hl hso hp hr hs m (i + 1) (by omega) N (by omega) g fun j hj => ?_
      rw [hg j hj]
      by_cases d : j < i ∧ (vaAt l j).env ≠ env
      · rw [if_pos d, if_pos ⟨by omega, d.2⟩]
      · rw [if_neg d, if_neg]
        rintro ⟨q1, q2⟩
        by_cases e : j = i
        · subst e; exact q2 c
        · exact d ⟨by omega, q2⟩
    · refine if_of (by simpa using c) (if_of (by simp; omega) (if_of (decide_eq_true (by omega)) ?_))
      rw [parryref1_Part.B1_eq, wrap_eq (a := (i : Int) + 1) (by omega) (by omega)]
      refine refPartB hl hso hp hr hs m (i + 1) (by omega) N (by omega) _ fun j hj => ?_
      by_cases e : j = i
      · subst e
        rw [if_pos ⟨by omega, c⟩]
        show (bif j == 0 + j && Nat.ble 0 0 && Nat.blt 0 1 then _ else _ : T).int = _
        rw [show (j == 0 + j) = true by simp]
        exact elow
      · show (bif j == 0 + i && Nat.ble 0 0 && Nat.blt 0 1 then _ else _ : T).int = _
        rw [show (j == 0 + i) = false by simpa using e]
        show (g j 0).int = _
        rw [hg j hj]
        by_cases d : j < i ∧ (vaAt l j).env ≠ env
        · rw [if_pos d, if_pos ⟨by omega, d.2⟩]
        · rw [if_neg d, if_neg (fun q => d ⟨by omega, q.2⟩)]
theorem refPart_sp (l : T) (hl : l.len ≤ 9223372036854775807) (hm : mayV (varsOf l) = 0) : Ev fun N => ∀ s env, C_parryref1_Part (K N) l s env = ri (partE (varsOf l) s env) := by
  have h6 := totalE_len (mayV_total hm)
  rw [varsOf_len] at h6
  obtain ⟨ht, hp, hP⟩ := total_prod hm
  refine Ev.step (Ev.imp3 (refValues_sp l hl) (refState_sp l hl hm) (Ev.ge 20) fun N h1 h3 hN s env => ?_)
  obtain ⟨t, e, ev⟩ := h1 s
  rw [C_parryref1_Part_K]
  unfold partE
  cases c : valuesOk (varsOf l) s with
  | false =>
    rw [c] at e
    exact bind_of e (if_of rfl rfl)
  | true =>
    rw [c] at e
    have hx := ev c
    obtain ⟨_, s0, s1⟩ := valuesOk_iff.1 c
    have hr := InR_values hp s0
    refine bind_of e (if_not rfl ?_)
    have hlen : t.len = l.len := by rw [hx.1, hr.len, varsOf_len]
    show parryref1_Part.B0 (K N) N t.len l env l (l.len : Int) 0 (fun i j => t.el i j) = _
    rw [hlen, if_pos rfl]
    refine refPartB (by omega) (fun v hv => (totalE_pos (mayV_total hm) v hv).1) hp hr h3 l.len 0 (by omega) N (by omega) _ fun j hj => ?_
    rw [if_neg (fun q => absurd q.1 (Nat.not_lt_zero _))]
    exact hx.el0 hj
theorem refPick_sp (l : T) (hl : l.len ≤ 9223372036854775807) (hm : mayV (varsOf l) = 0) : Ev fun N => ∀ s, C_parryref1_pick (K N) l s = rb (pickE (varsOf l) s) := by
  refine Ev.step ((refPart_sp l hl hm).imp fun N h1 s => ?_)
  rw [C_parryref1_pick_K]
  by_cases c : 0 ≤ s
  · have e : pickE (varsOf l) s = (partE (varsOf l) s true == s) := by unfold pickE; rw [decide_eq_true c, Bool.true_and]
    rw [e]
    exact if_of (decide_eq_true c) (bind_of (h1 s true) (by rw [lookR_0]; rfl))
  · have e : pickE (varsOf l) s = false := by unfold pickE; rw [decide_eq_false c, Bool.false_and]
    rw [e]
    exact if_not (decide_eq_false c) rfl
section
variable (l k1 k2 te ts ta tn tp : T) (hl : l.len ≤ 9223372036854775807) (h1 : KW k1) (h2 : KW k2) (he : KC te) (hs : KC ts) (ha : KW ta) (hn : KW tn) (hp : KW tp)
include hl h1 h2 he hs ha hn hp
theorem refInitEnv_sp (o1 n1 o2 n2 : Int) : Ev fun N => Gives (initEnvE ⟨varsOf l, .mk o1 n1 (kidsOf k1), .mk o2 n2 (kidsOf k2), cmdsOf te, cmdsOf ts, kidsOf ta, kidsOf tn, kidsOf tp⟩) (C_parryref1_InitEnv (K N) l o1 n1 k1 o2 n2 k2 te ts ta tn tp) := by
  by_cases c : mayM ⟨varsOf l, .mk o1 n1 (kidsOf k1), .mk o2 n2 (kidsOf k2), cmdsOf te, cmdsOf ts, kidsOf ta, kidsOf tn, kidsOf tp⟩ = 0
  case neg =>
    refine Ev.step ((refMayM_sp l hl k1 k2 te ts ta tn tp h1 h2 he hs ha hn hp).imp fun N b1 => ?_)
    rw [C_parryref1_InitEnv_K]
    unfold initEnvE
    rw [if_pos c]
    exact Gives.bind (b1 ..) (Gives.of (by rw [lookR_0]; show (mayM _ != 0) = true; simpa using c) Gives_nil)
  have cm := (mayM_zero c).1
  simp only at cm
  obtain ⟨ht, hpos, hP⟩ := total_prod cm
  have hr := totalE_range (varsOf l)
  obtain ⟨tot, htot⟩ : ∃ tot : Nat, totalE (varsOf l) = (tot : Int) := ⟨(totalE (varsOf l)).toNat, by omega⟩
  refine Ev.step (Ev.imp4 (refMayM_sp l hl k1 k2 te ts ta tn tp h1 h2 he hs ha hn hp) (refTotal_sp l hl cm) (Ev.and (refPick_sp l hl cm) (refTrue_sp l hl k1 h1)) (Ev.ge 2000) fun N b1 b2 b34 hN => ?_)
  obtain ⟨b3, b4⟩ := b34
  have b1 := b1 o1 n1 o2 n2
  rw [c] at b1
  rw [C_parryref1_InitEnv_K]
  unfold initEnvE
  rw [if_neg (by simpa using c)]
  simp only [htot, Int.toNat_natCast] at b2 hr ⊢
  refine Gives.bind b1 (Gives.not (by rw [lookR_0]; rfl) (Gives.bind b2 ?_))
  rw [lookR_0, int_i]
  have := someB (B := fun M n i g => parryref1_InitEnv.B0 (K N) M n (tot : Int) i l o1 n1 k1 o2 n2 k2 te ts ta tn tp g) (f := fun s => pickE (varsOf l) s && trueE (varsOf l) (.mk o1 n1 (kidsOf k1)) s s) (tot := tot) (by omega) (fun M n i g hi => ?_) (fun M n g => ?_) tot 0 (by omega) N 0 (fun _ _ => .b false) (by omega) (Nat.le_refl _)
  · obtain ⟨n', g', e1, e2⟩ := this
    exact ⟨_, e1, Ints_intsR (by rw [e2]; rfl)⟩
  · rw [parryref1_InitEnv.B0_eq]
    refine if_of (decide_eq_true (by omega)) (bind_of (b3 i) ?_)
    rw [lookR_0, parryref1_InitEnv.B1_eq, parryref1_InitEnv.B1_eq, wrap_eq (a := (i : Int) + 1) (by omega) (by omega)]
    show (bif pickE (varsOf l) i then _ else _) = _
    cases d : pickE (varsOf l) (i : Int) with
    | true =>
      refine if_of rfl (bind_of (b4 o1 n1 i i) ?_)
      rw [lookR_0]
      rfl
    | false => rfl
  · rw [parryref1_InitEnv.B0_eq]
    exact if_not (decide_eq_false (by omega)) rfl
theorem refInitSys_sp (o1 n1 o2 n2 p : Int) : Ev fun N => Gives (initSysE ⟨varsOf l, .mk o1 n1 (kidsOf k1), .mk o2 n2 (kidsOf k2), cmdsOf te, cmdsOf ts, kidsOf ta, kidsOf tn, kidsOf tp⟩ p) (C_parryref1_InitSys (K N) l o1 n1 k1 o2 n2 k2 te ts ta tn tp p) := by
  by_cases c : mayM ⟨varsOf l, .mk o1 n1 (kidsOf k1), .mk o2 n2 (kidsOf k2), cmdsOf te, cmdsOf ts, kidsOf ta, kidsOf tn, kidsOf tp⟩ = 0
  case neg =>
    refine Ev.step ((refMayM_sp l hl k1 k2 te ts ta tn tp h1 h2 he hs ha hn hp).imp fun N b1 => ?_)
    rw [C_parryref1_InitSys_K]
    unfold initSysE
    rw [if_pos c]
    exact Gives.bind (b1 ..) (Gives.of (by rw [lookR_0]; show (mayM _ != 0) = true; simpa using c) Gives_nil)
  have cm := (mayM_zero c).1
  simp only at cm
  obtain ⟨ht, hpos, hP⟩ := total_prod cm
  have hr := totalE_range (varsOf l)
  obtain ⟨tot, htot⟩ : ∃ tot : Nat, totalE (varsOf l) = (tot : Int) := ⟨(totalE (varsOf l)).toNat, by omega⟩
  refine Ev.step (Ev.imp4 (refMayM_sp l hl k1 k2 te ts ta tn tp h1 h2 he hs ha hn hp) (refTotal_sp l hl cm) (Ev.and (refPick_sp l hl cm) (Ev.and (refPart_sp l hl cm) (refTrue_sp l hl k2 h2))) (Ev.ge 2000) fun N b1 b2 b34 hN => ?_)
  obtain ⟨b3, b5, b4⟩ := b34
  have b1 := b1 o1 n1 o2 n2
  rw [c] at b1
  rw [C_parryref1_InitSys_K]
  unfold initSysE
  rw [if_neg (by simpa using c)]
  simp only [htot, Int.toNat_natCast] at b2 hr ⊢
  refine Gives.bind b1 (Gives.not (by rw [lookR_0]; rfl) (Gives.bind (b3 p) ?_))
  rw [lookR_0]
  show Gives _ (bif !(pickE (varsOf l) p) then _ else _)
  cases hpk : pickE (varsOf l) p with
  | false => rw [if_pos rfl]; exact Gives.of rfl Gives_nil
  | true =>
  rw [if_neg (by simp)]
  refine Gives.not rfl (Gives.bind b2 ?_)
  rw [lookR_0, int_i]
  have := someB (B := fun M n i g => parryref1_InitSys.B0 (K N) M n p (tot : Int) i l o1 n1 k1 o2 n2 k2 te ts ta tn tp g) (f := fun s => (partE (varsOf l) s true == p) && trueE (varsOf l) (.mk o2 n2 (kidsOf k2)) s s) (tot := tot) (by omega) (fun M n i g hi => ?_) (fun M n g => ?_) tot 0 (by omega) N 0 (fun _ _ => .b false) (by omega) (Nat.le_refl _)
  · obtain ⟨n', g', e1, e2⟩ := this
    exact ⟨_, e1, Ints_intsR (by rw [e2]; rfl)⟩
  · rw [parryref1_InitSys.B0_eq]
    refine if_of (decide_eq_true (by omega)) (bind_of (b5 i true) ?_)
    rw [lookR_0, int_i, parryref1_InitSys.B1_eq, parryref1_InitSys.B1_eq, wrap_eq (a := (i : Int) + 1) (by omega) (by omega)]
    cases d : (partE (varsOf l) (i : Int) true == p) with
    | true =>
      refine if_of rfl (bind_of (b4 o2 n2 i i) ?_)
      rw [lookR_0]
      rfl
    | false => rfl
  · rw [parryref1_InitSys.B0_eq]
    exact if_not (decide_eq_false (by omega)) rfl
end
end Go.Proofs.YtnlkhjileipmcaaGreat

/- The document's own answer: does a command lead there? -/
set_option linter.unusedVariables false
set_option linter.unusedSimpArgs false
namespace Go.AM
open Go.Proofs.YtnlkhjileipmcaaGreat
/-- The value that the sets want of a variable, and whether any will do. -/
def wantE (l : List Va) (i : Int) (now next : Int) : List Se → Int → Bool → Option (Int × Bool)
  | [], w, a => some (w, a)
  | s :: r, w, a => if s.var = i then (if s.any = true then wantE l i now next r w true else if (valueE l s.e now next).2 ≠ 0 then none else wantE l i now next r (valueE l s.e now next).1 false) else wantE l i now next r w a
/-- Is that value there? -/
def hasE (x : Int) : Option (Int × Bool) → Bool
  | none => false
  | some (w, a) => a || (x == w)
def okFrom (f : Nat → Bool) : Nat → Nat → Bool
  | _, 0 => true
  | i, m + 1 => f i && okFrom f (i + 1) m
theorem okFrom_iff {f : Nat → Bool} : ∀ {m i : Nat}, okFrom f i m = true ↔ ∀ j, i ≤ j → j < i + m → f j = true
  | 0, i => by simp only [okFrom, true_iff]; intro j h1 h2; omega
  | m + 1, i => by
    simp only [okFrom, Bool.and_eq_true, okFrom_iff (m := m)]
    constructor
    · rintro ⟨h1, h2⟩ j a b
      by_cases c : j = i
      · subst c; exact h1
      · exact h2 j (by omega) (by omega)
    · intro h
      exact ⟨h i (by omega) (by omega), fun j a b => h j (by omega) (by omega)⟩
def doesE (l : List Va) (c : Cm) (env : Bool) (s next to : Int) : Bool :=
  trueE l c.guard s next && okFrom (fun i => !(envAt l (i : Int) == env) || hasE ((valuesFrom l to).getD i 0) (wantE l i s next c.sets ((valuesFrom l s).getD i 0) false)) 0 l.length
end Go.AM
namespace Go.Proofs.YtnlkhjileipmcaaGreat
open Go.AM
section
variable {h : H} {l t : T} {env : Bool} {now next : Int} {gW gI : Nat → Nat → T}
theorem doesB2 {i : Nat} {o n : Int} {k : T} {nW nI : Nat} (hi : i < nI) (hI : nI ≤ 100) (ht : t.len ≤ 100) (hv : ∀ j, j < t.len → ∀ op n now next, C_parryref1_Value h l op n (t.el j 4) now next = rii (valueE (varsOf l) (.mk op n (kidsOf (t.el j 4))) now next).1 (valueE (varsOf l) (.mk op n (kidsOf (t.el j 4))) now next).2)
    {c : Nat} {Q : Bool} {p9 : T} {p10 p11 : Int} (hk : ∀ M, c ≤ M → parryref1_does.B1 h M nW nI l env now next p9 p10 p11 o n k t gW gI = rb Q) :
    ∀ m j, j + m = t.len → ∀ N w a, c + 2 * m + 1 ≤ N → parryref1_does.B2 h N nW nI l env now next (i : Int) w a p9 p10 p11 t (t.len : Int) (j : Int) o n k t gW gI = rb (hasE (gI i 0).int (wantE (varsOf l) i now next ((setsOf t).drop j) w a) && Q)
  | 0, j, hj, N, w, a, hN => by
    obtain ⟨N, rfl⟩ : ∃ M, N = M + 1 := ⟨N - 1, by omega⟩
    rw [parryref1_does.B2_eq, List.drop_of_length_le (by rw [setsOf_len]; omega)]
    refine if_not (decide_eq_false (by omega)) ?_
    simp only [wantE, hasE]
    cases a with
    | true => exact if_not rfl (hk N (by omega))
    | false =>
      refine if_of rfl (if_of (by simp; omega) (if_of (decide_eq_true (by omega)) ?_))
      rw [Int.toNat_natCast, Nat.zero_add]
      by_cases c : (gI i 0).int = w
      · refine if_not (by simpa using c) ((hk N (by omega)).trans ?_)
        rw [show ((gI i 0).int == w) = true by simpa using c]
        rfl
      · refine if_of (by simpa using c) ?_
        rw [show ((gI i 0).int == w) = false by simpa using c]
        rfl
  | m + 1, j, hj, N, w, a, hN => by
    obtain ⟨N, rfl⟩ : ∃ M, N = M + 1 + 1 := ⟨N - 2, by omega⟩
    have hlt : j < t.len := by omega
    have ih := fun w a => doesB2 hi hI ht hv hk m (j + 1) (by omega) N w a (by omega)
    rw [setsOf_from t hlt, parryref1_does.B2_eq, Int.toNat_natCast]
    refine if_of (decide_eq_true (by omega)) (if_of (by simp; omega) ?_)
    simp only [wantE]
    by_cases c1 : (t.el j 0).int = (i : Int)
    case neg =>
      rw [if_neg (show ¬ (seAt t j).var = (i : Int) from c1)]
      refine if_of (by simpa using c1) ?_
      rw [parryref1_does.B3_eq, wrap_eq (a := (j : Int) + 1) (by omega) (by omega)]
      exact ih w a
    rw [if_pos (show (seAt t j).var = (i : Int) from c1)]
    refine if_not (by simpa using c1) ?_
    cases c2 : (t.el j 1).bool with
    | true =>
      rw [if_pos (show (seAt t j).any = true from c2)]
      refine if_not rfl ?_
      rw [parryref1_does.B3_eq, wrap_eq (a := (j : Int) + 1) (by omega) (by omega)]
      exact ih w true
    | false =>
      rw [if_neg (show ¬ (seAt t j).any = true by show ¬ (t.el j 1).bool = true; rw [c2]; simp)]
      refine if_of rfl (bind_of (hv j hlt _ _ _ _) ?_)
      obtain ⟨X, hX⟩ : ∃ X, X = valueE (varsOf l) (.mk (t.el j 2).int (t.el j 3).int (kidsOf (t.el j 4))) now next := ⟨_, rfl⟩
      have hX' : valueE (varsOf l) (seAt t j).e now next = X := hX.symm
      rw [← hX, hX']
      by_cases c3 : X.2 = 0
      · rw [if_neg (by simpa using c3)]
        refine if_not (by show (X.2 != 0) = false; simpa using c3) ?_
        rw [parryref1_does.B3_eq, wrap_eq (a := (j : Int) + 1) (by omega) (by omega)]
        exact ih X.1 false
      · rw [if_pos c3]
        exact if_of (by show (X.2 != 0) = true; simpa using c3) rfl
theorem doesB0 {o n : Int} {k : T} {c1 : Nat} (hc1 : 300 ≤ c1) (hl : l.len ≤ 6) (ht : t.len ≤ 100) (hv : ∀ j, j < t.len → ∀ op n now next, C_parryref1_Value h l op n (t.el j 4) now next = rii (valueE (varsOf l) (.mk op n (kidsOf (t.el j 4))) now next).1 (valueE (varsOf l) (.mk op n (kidsOf (t.el j 4))) now next).2) :
    ∀ m i, i + m = l.len → ∀ N, m * c1 + 1 ≤ N → parryref1_does.B0 h N l.len l.len l env now next l (l.len : Int) (i : Int) o n k t gW gI = rb (okFrom (fun i => !((l.el i 1).bool == env) || hasE (gI i 0).int (wantE (varsOf l) i now next (setsOf t) (gW i 0).int false)) i m)
  | 0, i, hi, N, hN => by
    obtain ⟨N, rfl⟩ : ∃ M, N = M + 1 := ⟨N - 1, by omega⟩
    rw [parryref1_does.B0_eq]
    exact if_not (decide_eq_false (by omega)) rfl
  | m + 1, i, hi, N, hN => by
    have hsm : (m + 1) * c1 = m * c1 + c1 := Nat.succ_mul m c1
    obtain ⟨N, rfl⟩ : ∃ M, N = M + 1 + 1 := ⟨N - 2, by omega⟩
    have hlt : i < l.len := by omega
    have next' : ∀ M, m * c1 + 2 ≤ M → parryref1_does.B1 h M l.len l.len l env now next l (l.len : Int) (i : Int) o n k t gW gI = rb (okFrom (fun i => !((l.el i 1).bool == env) || hasE (gI i 0).int (wantE (varsOf l) i now next (setsOf t) (gW i 0).int false)) (i + 1) m) := by
      intro M hM
      obtain ⟨M, rfl⟩ : ∃ M', M = M' + 1 := ⟨M - 1, by omega⟩
      rw [parryref1_does.B1_eq, wrap_eq (a := (i : Int) + 1) (by omega) (by omega)]
      exact doesB0 hc1 hl ht hv m (i + 1) (by omega) M (by omega)
    rw [parryref1_does.B0_eq, Int.toNat_natCast]
    refine if_of (decide_eq_true (by omega)) (if_of (by simp; omega) ?_)
    simp only [okFrom]
    cases c : ((l.el i 1).bool == env) with
    | false => exact if_of rfl ((next' _ (by omega)).trans rfl)
    | true =>
      refine if_not rfl (if_of (by simp; omega) (if_of (decide_eq_true (by omega)) ?_))
      rw [Nat.zero_add]
      have := doesB2 (h := h) (l := l) (t := t) (env := env) (now := now) (next := next) (gW := gW) (gI := gI) (nW := l.len) (nI := l.len) hlt (by omega) ht hv (c := m * c1 + 2) next' t.len 0 (by omega) (N + 1) (gW i 0).int false (by omega)
      rw [List.drop_zero] at this
      exact this
end
theorem does_sp (l : T) (hl : l.len ≤ 9223372036854775807) (hm : mayV (varsOf l) = 0) (k t : T) (hk : KW k) (ht : KS t) (h6 : t.len ≤ 6) : Ev fun N => ∀ o n env s next to, valuesOk (varsOf l) s = true → valuesOk (varsOf l) to = true → C_parryref1_does (K N) l o n k t env s next to = rb (doesE (varsOf l) ⟨.mk o n (kidsOf k), setsOf t⟩ env s next to) := by
  have hl6 := totalE_len (mayV_total hm)
  rw [varsOf_len] at hl6
  obtain ⟨htot, hp, hP⟩ := total_prod hm
  refine Ev.step (Ev.imp4 (refTrue_sp l hl k hk) (refValues_sp l hl) (Ev.all (k := t.len) fun j hj => refValue_sp l hl (t.el j 4) (ht.2 j hj)) (Ev.ge 10000) fun N h1 h2 h3 hN o n env s next to cs ct => ?_)
  obtain ⟨t1, e1, v1⟩ := h2 s
  obtain ⟨t2, e2, v2⟩ := h2 to
  have i1 := v1 cs
  have i2 := v2 ct
  have r1 := (InR_values hp (valuesOk_iff.1 cs).2.1).len
  have r2 := (InR_values hp (valuesOk_iff.1 ct).2.1).len
  rw [varsOf_len] at r1 r2
  have l1 : t1.len = l.len := by rw [i1.1, r1]
  have l2 : t2.len = l.len := by rw [i2.1, r2]
  rw [C_parryref1_does_K]
  unfold doesE
  simp only
  refine bind_of (h1 o n s next) ?_
  rw [lookR_0]
  show (bif !(trueE (varsOf l) (.mk o n (kidsOf k)) s next) then _ else _) = _
  cases c : trueE (varsOf l) (.mk o n (kidsOf k)) s next with
  | false => exact if_of rfl rfl
  | true =>
    refine if_not rfl (bind_of e1 (bind_of e2 ?_))
    show parryref1_does.B0 (K N) N t1.len t2.len l env s next l (l.len : Int) 0 o n k t (fun i j => t1.el i j) (fun i j => t2.el i j) = _
    rw [l1, l2, Bool.true_and, varsOf_len]
    refine (doesB0 (c1 := 300) (by omega) (by omega) (by omega) h3 l.len 0 (by omega) N (by omega)).trans (congrArg rb ?_)
    have ex : ∀ f g : Nat → Bool, (∀ i, i < l.len → f i = g i) → okFrom f 0 l.len = okFrom g 0 l.len := by
      intro f g hfg
      rw [Bool.eq_iff_iff, okFrom_iff, okFrom_iff]
      constructor
      · intro h j a b; rw [← hfg j (by omega)]; exact h j a b
      · intro h j a b; rw [hfg j (by omega)]; exact h j a b
    refine ex _ _ fun i hi => ?_
    have a1 : (t1.el i 0).int = (valuesFrom (varsOf l) s).getD i 0 := by
      rw [i1.el0 (show i < (valuesFrom (varsOf l) s).length by omega), List.getD_eq_getElem?_getD, List.getElem?_eq_getElem (by omega)]; rfl
    have a2 : (t2.el i 0).int = (valuesFrom (varsOf l) to).getD i 0 := by
      rw [i2.el0 (show i < (valuesFrom (varsOf l) to).length by omega), List.getD_eq_getElem?_getD, List.getElem?_eq_getElem (by omega)]; rfl
    rw [a1, a2, envAt_of (l := l) (v := (i : Int)) (by omega) (by omega), Int.toNat_natCast]
end Go.Proofs.YtnlkhjileipmcaaGreat

/- The document's own answers: what may be chosen. -/
set_option linter.unusedVariables false
set_option linter.unusedSimpArgs false
namespace Go.AM
open Go.Proofs.YtnlkhjileipmcaaGreat
def refEnvE (m : Md) (s : Int) : List Int := if mayM m ≠ 0 then [] else if valuesOk m.vars s = false then [] else (upFrom 0 (totalE m.vars).toNat).filter fun p => m.env.any fun c => pickE m.vars p && doesE m.vars c true s s p
def refSysE (m : Md) (s p : Int) : List Int := if mayM m ≠ 0 then [] else if valuesOk m.vars s = false then [] else if pickE m.vars p = false then [] else (upFrom 0 (totalE m.vars).toNat).filter fun x => m.sys.any fun c => (partE m.vars x true == p) && doesE m.vars c false s p x
end Go.AM
namespace Go.Proofs.YtnlkhjileipmcaaGreat
open Go.AM
theorem someBk {B : Nat → Nat → Int → (Nat → Nat → T) → Option R} {f : Int → Bool} {tot k : Nat} (ht : tot ≤ 512)
    (hB : ∀ M n (i : Nat) g, i < tot → B (M + k) n (i : Int) g = (bif f i then (bif decide ((n + 1) * 8 ≤ 140737488355328) then B M (n + 1) ((i + 1 : Nat) : Int) (pushG n g i) else none) else B M n ((i + 1 : Nat) : Int) g))
    (hE : ∀ M n g, B (M + 1) n (tot : Int) g = some (lookR [(0, T.l n g)])) :
    ∀ m i, i + m = tot → ∀ N n g, m * k + 1 ≤ N → n ≤ i → ∃ n' g', B N n (i : Int) g = some (lookR [(0, T.l n' g')]) ∧ intsR n' g' = intsR n g ++ (upFrom (i : Int) m).filter f
  | 0, i, hi, N, n, g, hN, hn => by
    obtain ⟨N, rfl⟩ : ∃ M, N = M + 1 := ⟨N - 1, by omega⟩
    obtain rfl : i = tot := by omega
    exact ⟨n, g, hE N n g, by simp [upFrom]⟩
  | m + 1, i, hi, N, n, g, hN, hn => by
    have hsm : (m + 1) * k = m * k + k := Nat.succ_mul m k
    obtain ⟨N, rfl⟩ : ∃ M, N = M + k := ⟨N - k, by omega⟩
    rw [hB N n i g (by omega)]
    simp only [upFrom]
    cases c : f (i : Int) with
    | true =>
      obtain ⟨n', g', e1, e2⟩ := someBk ht hB hE m (i + 1) (by omega) N (n + 1) (pushG n g i) (by omega) (by omega)
      refine ⟨n', g', if_of rfl (if_of (decide_eq_true (by omega)) e1), ?_⟩
      rw [e2, intsR_pushG, List.filter_cons_of_pos c, List.append_assoc]
      rfl
    | false =>
      obtain ⟨n', g', e1, e2⟩ := someBk ht hB hE m (i + 1) (by omega) N n g (by omega) (by omega)
      refine ⟨n', g', if_not rfl e1, ?_⟩
      rw [e2, List.filter_cons_of_neg (by simp [c])]
      rfl
theorem cmdLoop {B : Nat → Bool → Int → Option R} {E : Nat → Bool → Option R} {t : T} {f : Cm → Bool} (hB : ∀ M ok j, j < t.len → B (M + 2) ok (j : Int) = B M (ok || f (cmAt t j)) ((j + 1 : Nat) : Int)) (hE : ∀ M ok, B (M + 1) ok (t.len : Int) = E M ok) :
    ∀ m j, j + m = t.len → ∀ M ok, B (M + 2 * m + 1) ok (j : Int) = E M (ok || ((cmdsOf t).drop j).any f)
  | 0, j, hj, M, ok => by
    obtain rfl : j = t.len := by omega
    rw [List.drop_of_length_le (by rw [cmdsOf_len]; omega)]
    simpa using hE M ok
  | m + 1, j, hj, M, ok => by
    have ih := cmdLoop hB hE m (j + 1) (by omega) M (ok || f (cmAt t j))
    rw [show M + 2 * (m + 1) + 1 = (M + 2 * m + 1) + 2 by omega, hB _ ok j (by omega), ih, cmdsOf_from t (show j < t.len by omega), List.any_cons, Bool.or_assoc]
section
variable (l k1 k2 te ts ta tn tp : T) (hl : l.len ≤ 9223372036854775807) (h1 : KW k1) (h2 : KW k2) (he : KC te) (hs : KC ts) (ha : KW ta) (hn : KW tn) (hp : KW tp)
include hl h1 h2 he hs ha hn hp
theorem refEnv_sp (o1 n1 o2 n2 s : Int) : Ev fun N => Gives (refEnvE ⟨varsOf l, .mk o1 n1 (kidsOf k1), .mk o2 n2 (kidsOf k2), cmdsOf te, cmdsOf ts, kidsOf ta, kidsOf tn, kidsOf tp⟩ s) (C_parryref1_Env (K N) l o1 n1 k1 o2 n2 k2 te ts ta tn tp s) := by
  by_cases c : mayM ⟨varsOf l, .mk o1 n1 (kidsOf k1), .mk o2 n2 (kidsOf k2), cmdsOf te, cmdsOf ts, kidsOf ta, kidsOf tn, kidsOf tp⟩ = 0
  case neg =>
    refine Ev.step ((refMayM_sp l hl k1 k2 te ts ta tn tp h1 h2 he hs ha hn hp).imp fun N b1 => ?_)
    rw [C_parryref1_Env_K]
    unfold refEnvE
    rw [if_pos c]
    exact Gives.bind (b1 ..) (Gives.of (by rw [lookR_0]; show (mayM _ != 0) = true; simpa using c) Gives_nil)
  obtain ⟨cm, _, _, ce, _, _⟩ := mayM_zero c
  simp only at cm ce
  have ce := firstE_zero.1 ce
  have hf : te.len ≤ 12 := by
    have d := mayM_full c
    unfold fullM at d
    simp only [cmdsOf_len, Bool.or_eq_false_iff, decide_eq_false_iff_not] at d
    omega
  obtain ⟨ht, hpos, hP⟩ := total_prod cm
  have hr := totalE_range (varsOf l)
  obtain ⟨tot, htot⟩ : ∃ tot : Nat, totalE (varsOf l) = (tot : Int) := ⟨(totalE (varsOf l)).toNat, by omega⟩
  have h6 : ∀ j, j < te.len → (te.el j 3).len ≤ 6 := fun j hj => by
    have := (mayCmd_in (ce _ (List.mem_of_getElem? (cmdsOf_get te hj)))).2
    rw [← setsOf_len]; exact this
  refine Ev.step (Ev.imp4 (refMayM_sp l hl k1 k2 te ts ta tn tp h1 h2 he hs ha hn hp) (refTotal_sp l hl cm) (Ev.and (refPick_sp l hl cm) (Ev.all (k := te.len) fun j hj => does_sp l hl cm (te.el j 2) (te.el j 3) (he.2 j hj).1 (he.2 j hj).2 (h6 j hj))) (Ev.ge 100000) fun N b1 b2 b34 hN => ?_)
  obtain ⟨b3, b4⟩ := b34
  have b1 := b1 o1 n1 o2 n2
  rw [c] at b1
  rw [C_parryref1_Env_K]
  unfold refEnvE
  rw [if_neg (by simpa using c)]
  simp only [htot, Int.toNat_natCast] at b2 hr ⊢
  refine Gives.bind b1 (Gives.not (by rw [lookR_0]; rfl) ?_)
  by_cases c1 : s < 0
  · rw [if_pos (by
      cases q : valuesOk (varsOf l) s with
      | false => rfl
      | true => have := (valuesOk_iff.1 q).2.1; omega)]
    exact Gives.of (decide_eq_true c1) Gives_nil
  refine Gives.not (decide_eq_false c1) (Gives.bind b2 ?_)
  simp only [lookR_0, int_i]
  by_cases c2 : (tot : Int) ≤ s
  · rw [if_pos (by
      cases q : valuesOk (varsOf l) s with
      | false => rfl
      | true => have := (valuesOk_iff.1 q).2.2; omega)]
    exact Gives.of (decide_eq_true c2) Gives_nil
  have okS : valuesOk (varsOf l) s = true := valuesOk_iff.2 ⟨cm, by omega, by omega⟩
  rw [if_neg (by rw [okS]; simp)]
  refine Gives.not (decide_eq_false c2) (Gives.bind b2 ?_)
  simp only [lookR_0, int_i]
  have := someBk (k := 2 * te.len + 3) (B := fun M n i g => parryref1_Env.B0 (K N) M n s (tot : Int) i l o1 n1 k1 o2 n2 k2 te ts ta tn tp g) (f := fun p => (cmdsOf te).any fun c => pickE (varsOf l) p && doesE (varsOf l) c true s s p) (tot := tot) (by omega) (fun M n i g hi => ?_) (fun M n g => ?_) tot 0 (by omega) N 0 (fun _ _ => .b false) (by
      have : tot * (2 * te.len + 3) ≤ 512 * 27 := Nat.mul_le_mul (by omega) (by omega)
      omega) (Nat.le_refl _)
  · obtain ⟨n', g', e1, e2⟩ := this
    exact ⟨_, e1, Ints_intsR (by rw [e2]; rfl)⟩
  · have okI : valuesOk (varsOf l) (i : Int) = true := valuesOk_iff.2 ⟨cm, by omega, by omega⟩
    have loop := cmdLoop (t := te) (B := fun M ok j => parryref1_Env.B1 (K N) M n s (i : Int) ok (tot : Int) (i : Int) te (te.len : Int) j l o1 n1 k1 o2 n2 k2 te ts ta tn tp g)
      (E := fun M ok => (bif ok then (bif decide ((n + 1) * 8 ≤ 140737488355328) then parryref1_Env.B3 (K N) M (n + 1) s (tot : Int) (i : Int) l o1 n1 k1 o2 n2 k2 te ts ta tn tp (pushG n g i) else none) else parryref1_Env.B3 (K N) M n s (tot : Int) (i : Int) l o1 n1 k1 o2 n2 k2 te ts ta tn tp g))
      (f := fun c => pickE (varsOf l) i && doesE (varsOf l) c true s s i) (fun M ok j hj => ?_) (fun M ok => ?_) te.len 0 (by omega) (M + 1) false
    · show parryref1_Env.B0 (K N) (M + (2 * te.len + 3)) n s (tot : Int) (i : Int) l o1 n1 k1 o2 n2 k2 te ts ta tn tp g = _
      rw [show M + (2 * te.len + 3) = (M + 1 + 2 * te.len + 1) + 1 by omega, parryref1_Env.B0_eq]
      refine if_of (decide_eq_true (by omega)) (loop.trans ?_)
      simp only [List.drop_zero, Bool.false_or]
      rw [parryref1_Env.B3_eq, parryref1_Env.B3_eq, wrap_eq (a := (i : Int) + 1) (by omega) (by omega)]
      rfl
    · show parryref1_Env.B1 (K N) (M + 2) n s (i : Int) ok (tot : Int) (i : Int) te (te.len : Int) (j : Int) l o1 n1 k1 o2 n2 k2 te ts ta tn tp g = _
      rw [parryref1_Env.B1_eq, Int.toNat_natCast]
      refine if_of (decide_eq_true (by omega)) (if_of (by simp; omega) ?_)
      rw [parryref1_Env.B2_eq, wrap_eq (a := (j : Int) + 1) (by omega) (by omega)]
      cases ok with
      | true => exact if_of rfl rfl
      | false =>
        refine if_not rfl (bind_of (b3 i) ?_)
        rw [lookR_0, Bool.false_or]
        show (bif pickE (varsOf l) i then _ else _) = _
        cases d : pickE (varsOf l) (i : Int) with
        | false =>
          refine if_not rfl ?_
          rw [parryref1_Env.B2_eq, wrap_eq (a := (j : Int) + 1) (by omega) (by omega)]
          rfl
        | true =>
          refine if_of rfl (bind_of (b4 j hj _ _ true s s i okS okI) ?_)
          rw [lookR_0, parryref1_Env.B2_eq, wrap_eq (a := (j : Int) + 1) (by omega) (by omega)]
          rfl
    · show parryref1_Env.B1 (K N) (M + 1) n s (i : Int) ok (tot : Int) (i : Int) te (te.len : Int) (te.len : Int) l o1 n1 k1 o2 n2 k2 te ts ta tn tp g = _
      rw [parryref1_Env.B1_eq]
      exact if_not (decide_eq_false (by omega)) rfl
  · rw [parryref1_Env.B0_eq]
    exact if_not (decide_eq_false (by omega)) rfl
theorem refSys_sp (o1 n1 o2 n2 s p : Int) : Ev fun N => Gives (refSysE ⟨varsOf l, .mk o1 n1 (kidsOf k1), .mk o2 n2 (kidsOf k2), cmdsOf te, cmdsOf ts, kidsOf ta, kidsOf tn, kidsOf tp⟩ s p) (C_parryref1_Sys (K N) l o1 n1 k1 o2 n2 k2 te ts ta tn tp s p) := by
  by_cases c : mayM ⟨varsOf l, .mk o1 n1 (kidsOf k1), .mk o2 n2 (kidsOf k2), cmdsOf te, cmdsOf ts, kidsOf ta, kidsOf tn, kidsOf tp⟩ = 0
  case neg =>
    refine Ev.step ((refMayM_sp l hl k1 k2 te ts ta tn tp h1 h2 he hs ha hn hp).imp fun N b1 => ?_)
    rw [C_parryref1_Sys_K]
    unfold refSysE
    rw [if_pos c]
    exact Gives.bind (b1 ..) (Gives.of (by rw [lookR_0]; show (mayM _ != 0) = true; simpa using c) Gives_nil)
  obtain ⟨cm, _, _, _, ce, _⟩ := mayM_zero c
  simp only at cm ce
  have ce := firstE_zero.1 ce
  have hf : ts.len ≤ 12 := by
    have d := mayM_full c
    unfold fullM at d
    simp only [cmdsOf_len, Bool.or_eq_false_iff, decide_eq_false_iff_not] at d
    omega
  obtain ⟨ht, hpos, hP⟩ := total_prod cm
  have hr := totalE_range (varsOf l)
  obtain ⟨tot, htot⟩ : ∃ tot : Nat, totalE (varsOf l) = (tot : Int) := ⟨(totalE (varsOf l)).toNat, by omega⟩
  have h6 : ∀ j, j < ts.len → (ts.el j 3).len ≤ 6 := fun j hj => by
    have := (mayCmd_in (ce _ (List.mem_of_getElem? (cmdsOf_get ts hj)))).2
    rw [← setsOf_len]; exact this
  refine Ev.step (Ev.imp4 (refMayM_sp l hl k1 k2 te ts ta tn tp h1 h2 he hs ha hn hp) (refTotal_sp l hl cm) (Ev.and (refPick_sp l hl cm) (Ev.and (refPart_sp l hl cm) (Ev.all (k := ts.len) fun j hj => does_sp l hl cm (ts.el j 2) (ts.el j 3) (hs.2 j hj).1 (hs.2 j hj).2 (h6 j hj)))) (Ev.ge 100000) fun N b1 b2 b34 hN => ?_)
  obtain ⟨b3, b5, b4⟩ := b34
  have b1 := b1 o1 n1 o2 n2
  rw [c] at b1
  rw [C_parryref1_Sys_K]
  unfold refSysE
  rw [if_neg (by simpa using c)]
  simp only [htot, Int.toNat_natCast] at b2 hr ⊢
  refine Gives.bind b1 (Gives.not (by rw [lookR_0]; rfl) ?_)
  by_cases c1 : s < 0
  · rw [if_pos (by
      cases q : valuesOk (varsOf l) s with
      | false => rfl
      | true => have := (valuesOk_iff.1 q).2.1; omega)]
    exact Gives.of (decide_eq_true c1) Gives_nil
  refine Gives.not (decide_eq_false c1) (Gives.bind b2 ?_)
  simp only [lookR_0, int_i]
  by_cases c2 : (tot : Int) ≤ s
  · rw [if_pos (by
      cases q : valuesOk (varsOf l) s with
      | false => rfl
      | true => have := (valuesOk_iff.1 q).2.2; omega)]
    exact Gives.of (decide_eq_true c2) Gives_nil
  have okS : valuesOk (varsOf l) s = true := valuesOk_iff.2 ⟨cm, by omega, by omega⟩
  rw [if_neg (by rw [okS]; simp)]
  refine Gives.not (decide_eq_false c2) (Gives.bind (b3 p) ?_)
  rw [lookR_0]
  show Gives _ (bif !(pickE (varsOf l) p) then _ else _)
  cases hpk : pickE (varsOf l) p with
  | false => rw [if_pos rfl]; exact Gives.of rfl Gives_nil
  | true =>
  have okP := pick_ok hpk
  rw [if_neg (by simp)]
  refine Gives.not rfl (Gives.bind b2 ?_)
  simp only [lookR_0, int_i]
  have := someBk (k := 2 * ts.len + 3) (B := fun M n i g => parryref1_Sys.B0 (K N) M n s p (tot : Int) i l o1 n1 k1 o2 n2 k2 te ts ta tn tp g) (f := fun x => (cmdsOf ts).any fun c => (partE (varsOf l) x true == p) && doesE (varsOf l) c false s p x) (tot := tot) (by omega) (fun M n i g hi => ?_) (fun M n g => ?_) tot 0 (by omega) N 0 (fun _ _ => .b false) (by
      have : tot * (2 * ts.len + 3) ≤ 512 * 27 := Nat.mul_le_mul (by omega) (by omega)
      omega) (Nat.le_refl _)
  · obtain ⟨n', g', e1, e2⟩ := this
    exact ⟨_, e1, Ints_intsR (by rw [e2]; rfl)⟩
  · have okI : valuesOk (varsOf l) (i : Int) = true := valuesOk_iff.2 ⟨cm, by omega, by omega⟩
    have loop := cmdLoop (t := ts) (B := fun M ok j => parryref1_Sys.B1 (K N) M n s p (i : Int) ok (tot : Int) (i : Int) ts (ts.len : Int) j l o1 n1 k1 o2 n2 k2 te ts ta tn tp g)
      (E := fun M ok => (bif ok then (bif decide ((n + 1) * 8 ≤ 140737488355328) then parryref1_Sys.B3 (K N) M (n + 1) s p (tot : Int) (i : Int) l o1 n1 k1 o2 n2 k2 te ts ta tn tp (pushG n g i) else none) else parryref1_Sys.B3 (K N) M n s p (tot : Int) (i : Int) l o1 n1 k1 o2 n2 k2 te ts ta tn tp g))
      (f := fun c => (partE (varsOf l) i true == p) && doesE (varsOf l) c false s p i) (fun M ok j hj => ?_) (fun M ok => ?_) ts.len 0 (by omega) (M + 1) false
    · show parryref1_Sys.B0 (K N) (M + (2 * ts.len + 3)) n s p (tot : Int) (i : Int) l o1 n1 k1 o2 n2 k2 te ts ta tn tp g = _
      rw [show M + (2 * ts.len + 3) = (M + 1 + 2 * ts.len + 1) + 1 by omega, parryref1_Sys.B0_eq]
      refine if_of (decide_eq_true (by omega)) (loop.trans ?_)
      simp only [List.drop_zero, Bool.false_or]
      rw [parryref1_Sys.B3_eq, parryref1_Sys.B3_eq, wrap_eq (a := (i : Int) + 1) (by omega) (by omega)]
      rfl
    · show parryref1_Sys.B1 (K N) (M + 2) n s p (i : Int) ok (tot : Int) (i : Int) ts (ts.len : Int) (j : Int) l o1 n1 k1 o2 n2 k2 te ts ta tn tp g = _
      rw [parryref1_Sys.B1_eq, Int.toNat_natCast]
      refine if_of (decide_eq_true (by omega)) (if_of (by simp; omega) ?_)
      rw [parryref1_Sys.B2_eq, wrap_eq (a := (j : Int) + 1) (by omega) (by omega)]
      cases ok with
      | true => exact if_of rfl rfl
      | false =>
        refine if_not rfl (bind_of (b5 i true) ?_)
        rw [lookR_0, int_i, Bool.false_or]
        cases d : (partE (varsOf l) (i : Int) true == p) with
        | false =>
          refine if_not rfl ?_
          rw [parryref1_Sys.B2_eq, wrap_eq (a := (j : Int) + 1) (by omega) (by omega)]
          rfl
        | true =>
          refine if_of rfl (bind_of (b4 j hj _ _ false s p i okS okI) ?_)
          rw [lookR_0, parryref1_Sys.B2_eq, wrap_eq (a := (j : Int) + 1) (by omega) (by omega)]
          rfl
    · show parryref1_Sys.B1 (K N) (M + 1) n s p (i : Int) ok (tot : Int) (i : Int) ts (ts.len : Int) (ts.len : Int) l o1 n1 k1 o2 n2 k2 te ts ta tn tp g = _
      rw [parryref1_Sys.B1_eq]
      exact if_not (decide_eq_false (by omega)) rfl
  · rw [parryref1_Sys.B0_eq]
    exact if_not (decide_eq_false (by omega)) rfl
end
end Go.Proofs.YtnlkhjileipmcaaGreat
