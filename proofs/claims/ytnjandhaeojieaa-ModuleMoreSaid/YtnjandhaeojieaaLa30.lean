/- Modules: what may be one, and which are the same. -/
import Derived.Test.YtnjandhaeojieaaLa26
set_option linter.unusedVariables false
set_option linter.unusedSimpArgs false
namespace Go.AM
theorem Ev.up {p : Nat → Prop} (h : Ev p) (k : Nat) : Ev fun n => p (n + k) := by
  obtain ⟨N, hN⟩ := h
  exact ⟨N, fun n hn => hN (n + k) (by omega)⟩
structure Se where
  var : Int
  any : Bool
  e : Ex
structure Cm where
  guard : Ex
  sets : List Se
structure Md where
  vars : List Va
  ie : Ex
  is : Ex
  env : List Cm
  sys : List Cm
  assume : List Ex
  ensure : List Ex
  prio : List Ex
def seAt (t : T) (i : Nat) : Se := ⟨(t.el i 0).int, (t.el i 1).bool, Ex.mk (t.el i 2).int (t.el i 3).int (kidsOf (t.el i 4))⟩
def setsOf (t : T) : List Se := (List.range t.len).map (seAt t)
def cmAt (t : T) (i : Nat) : Cm := ⟨Ex.mk (t.el i 0).int (t.el i 1).int (kidsOf (t.el i 2)), setsOf (t.el i 3)⟩
def cmdsOf (t : T) : List Cm := (List.range t.len).map (cmAt t)
theorem setsOf_len (t : T) : (setsOf t).length = t.len := by simp [setsOf]
theorem cmdsOf_len (t : T) : (cmdsOf t).length = t.len := by simp [cmdsOf]
theorem setsOf_from (t : T) {i : Nat} (h : i < t.len) : (setsOf t).drop i = seAt t i :: (setsOf t).drop (i + 1) := by unfold setsOf; exact range_from _ h
theorem cmdsOf_from (t : T) {i : Nat} (h : i < t.len) : (cmdsOf t).drop i = cmAt t i :: (cmdsOf t).drop (i + 1) := by unfold cmdsOf; exact range_from _ h
def KS (t : T) : Prop := t.len ≤ 9223372036854775807 ∧ ∀ i, i < t.len → KW (t.el i 4)
def KC (t : T) : Prop := t.len ≤ 9223372036854775807 ∧ ∀ i, i < t.len → KW (t.el i 2) ∧ KS (t.el i 3)
def bareE : Ex → Bool
  | .mk o n ks => decide (o = 0) && decide (n = 0) && decide (ks.length = 0)
def sortAt (l : List Va) (v : Int) : Int := ((l[v.toNat]?).map Va.sort).getD 0
def setE (l : List Va) (env : Bool) (was : List Int) (s : Se) : Int :=
  if s.var < 0 ∨ (l.length : Int) ≤ s.var ∨ envAt l s.var ≠ env ∨ s.var ∈ was then 3 else if s.any = true ∧ bareE s.e = false then 1 else if s.any = true then 0 else needsE l s.e (sortAt l s.var) true (!env) false
def setsGo (l : List Va) (env : Bool) : List Se → List Int → Int
  | [], _ => 0
  | s :: r, was => if setE l env was s ≠ 0 then setE l env was s else setsGo l env r (was ++ [s.var])
def mayCmd (l : List Va) (env : Bool) (c : Cm) : Int :=
  if mayV l ≠ 0 then mayV l else if needsE l c.guard 1 true (!env) false ≠ 0 then needsE l c.guard 1 true (!env) false else if 6 < (c.sets.length : Int) then 7 else setsGo l env c.sets []
def firstE {α : Type} (f : α → Int) : List α → Int
  | [] => 0
  | x :: r => if f x ≠ 0 then f x else firstE f r
theorem firstE_zero {α : Type} {f : α → Int} : ∀ {l : List α}, firstE f l = 0 ↔ ∀ x ∈ l, f x = 0
  | [] => by simp [firstE]
  | x :: r => by
    simp only [firstE, List.forall_mem_cons]
    by_cases c : f x = 0
    · rw [if_neg (by simpa using c), firstE_zero (l := r)]
      exact ⟨fun h => ⟨c, h⟩, fun h => h.2⟩
    · rw [if_pos c]
      exact ⟨fun h => absurd h c, fun h => absurd h.1 c⟩
def fullM (m : Md) : Bool := decide (12 < max m.env.length m.sys.length) || decide (4 < max m.assume.length m.ensure.length) || decide (6 < m.prio.length)
def mayM (m : Md) : Int :=
  if mayV m.vars ≠ 0 then mayV m.vars else if needsE m.vars m.ie 1 false false false ≠ 0 then needsE m.vars m.ie 1 false false false else
  if needsE m.vars m.is 1 true false false ≠ 0 then needsE m.vars m.is 1 true false false else if fullM m = true then 7 else
  if firstE (mayCmd m.vars true) m.env ≠ 0 then firstE (mayCmd m.vars true) m.env else if firstE (mayCmd m.vars false) m.sys ≠ 0 then firstE (mayCmd m.vars false) m.sys else
  if 0 < m.prio.length ∧ 0 < m.assume.length + m.ensure.length then 1 else firstE (fun e => needsE m.vars e 1 true false false) (m.assume ++ m.ensure ++ m.prio)
def eqL {α : Type} (p : α → α → Bool) : List α → List α → Bool
  | [], [] => true
  | a :: l, b :: r => p a b && eqL p l r
  | _, _ => false
theorem eqL_len {α : Type} {p : α → α → Bool} : ∀ {l r : List α}, l.length ≠ r.length → eqL p l r = false
  | [], [], h => absurd rfl h
  | [], _ :: _, _ => rfl
  | _ :: _, [], _ => rfl
  | a :: l, b :: r, h => by simp only [eqL]; rw [eqL_len (fun e => h (by simp [e])), Bool.and_false]
def sameX (a b : Ex) : Bool := lightE a && lightE b && sameE a b
def sameS (a b : Se) : Bool := (decide (a.var = b.var) && (a.any == b.any)) && ((bareE a.e && bareE b.e) || sameX a.e b.e)
def sameC (a b : Cm) : Bool := sameX a.guard b.guard && eqL sameS a.sets b.sets
def sameV (a b : Va) : Bool := strEq a.name b.name && ((a.env == b.env) && ((a.sort == b.sort) && ((a.lo == b.lo) && ((a.hi == b.hi) && true))))
def sameM (a b : Md) : Bool := eqL sameV a.vars b.vars && (sameX a.ie b.ie && (sameX a.is b.is && (eqL sameC a.env b.env && (eqL sameC a.sys b.sys && (eqL sameX a.assume b.assume && (eqL sameX a.ensure b.ensure && eqL sameX a.prio b.prio))))))
end Go.AM
namespace Go.Proofs.Ytnjandhaeojieaa
open Go.AM
theorem bare_sp (N : Nat) (o n : Int) (k : T) : C_module_bare (K (N + 1)) o n k = rb (bareE (.mk o n (kidsOf k))) := by
  rw [C_module_bare_K]
  simp only [bareE, kidsOf_len]
  by_cases c1 : o = 0
  · refine if_of (by simpa using c1) ?_
    by_cases c2 : n = 0
    · refine if_of (by simpa using c2) ?_
      have : (((k.len : Nat) : Int) == 0) = (decide (o = 0) && decide (n = 0) && decide (k.len = 0)) := by rw [Bool.eq_iff_iff]; simp [c1, c2]
      rw [this]; rfl
    · refine if_not (by simpa using c2) ?_
      rw [decide_eq_false c2, Bool.and_false, Bool.false_and]; rfl
  · refine if_not (by simpa using c1) ?_
    rw [decide_eq_false c1, Bool.false_and, Bool.false_and]; rfl
theorem indexI_sp {h : H} {t : T} {xs : List Int} (hx : Ints t xs) (hl : xs.length ≤ 9223372036854775807) (v : Int) : ∀ (m i : Nat), i + m = xs.length → ∀ N, m < N → ∃ x, slices_Index_int.B0 h N t v (t.len : Int) (i : Int) = ri x ∧ (x ≥ 0 ↔ v ∈ xs.drop i)
  | 0, i, hi, N, hN => by
    obtain ⟨N, rfl⟩ : ∃ M, N = M + 1 := ⟨N - 1, by omega⟩
    have h1 := hx.1
    rw [slices_Index_int.B0_eq, List.drop_of_length_le (by omega)]
    exact ⟨-1, if_not (decide_eq_false (by omega)) rfl, by simp⟩
  | m + 1, i, hi, N, hN => by
    obtain ⟨N, rfl⟩ : ∃ M, N = M + 1 := ⟨N - 1, by omega⟩
    have h1 := hx.1
    have hlt : i < xs.length := by omega
    obtain ⟨x, e1, e2⟩ := indexI_sp (h := h) hx hl v m (i + 1) (by omega) N (by omega)
    rw [slices_Index_int.B0_eq, Int.toNat_natCast, hx.el0 hlt, List.drop_eq_getElem_cons hlt, wrap_eq (a := (i : Int) + 1) (by omega) (by omega)]
    by_cases c : v = xs[i]
    · exact ⟨i, if_of (decide_eq_true (by omega)) (if_of (by simp; omega) (if_of (by simpa using c) rfl)), fun _ => by rw [c]; exact List.mem_cons_self .., fun _ => by omega⟩
    · refine ⟨x, if_of (decide_eq_true (by omega)) (if_of (by simp; omega) (if_not (by simpa using c) e1)), ?_⟩
      rw [e2, List.mem_cons]
      exact ⟨.inr, fun h => h.resolve_left c⟩
theorem containsI_sp : Ev fun N => ∀ t xs v, Ints t xs → xs.length ≤ 100 → C_slices_Contains_int (K N) t v = rb (decide (v ∈ xs)) := by
  refine Ev.step (Ev.step ((Ev.ge 200).imp fun N hN t xs v hx hl => ?_))
  obtain ⟨x, e1, e2⟩ := indexI_sp (h := K N) hx (by omega) v xs.length 0 (by omega) N (by omega)
  rw [C_slices_Contains_int_K]
  refine bind_of (r := lookR [(0, .i x)]) (by rw [C_slices_Index_int_K]; exact e1) ?_
  have : decide (x ≥ 0) = decide (v ∈ xs) := by rw [Bool.eq_iff_iff]; simpa using e2
  rw [← this]; rfl
theorem mayC1_sp {N : Nat} {l k : T} {o n want : Int} {env : Bool} (h : ∀ op m want now env sys, C_sort_Needs (K N) l op m k want now env sys = ri (needsE (varsOf l) (.mk op m (kidsOf k)) want now env sys)) {c1 c2 : Nat → T} (h1 : c1 0 = l) (h2 : c2 0 = .b env) : C_module_MayCommand_1 (K (N + 1)) o n k want c1 c2 = ri (needsE (varsOf l) (.mk o n (kidsOf k)) want true (!env) false) := by
  rw [C_module_MayCommand_1_K, h1, h2]
  exact bind_of (h o n want true (!env) false) rfl
theorem mayC2_sp {N : Nat} {l k : T} (hl : l.len ≤ 9223372036854775807) (h : ∀ op m want now env sys, C_sort_Needs (K N) l op m k want now env sys = ri (needsE (varsOf l) (.mk op m (kidsOf k)) want now env sys)) (hc : ∀ t xs v, Ints t xs → xs.length ≤ 100 → C_slices_Contains_int (K (N + 1)) t v = rb (decide (v ∈ xs)))
    {p : Nat} {v : Int} {any env : Bool} {o n : Int} {g : Nat → Nat → T} {was : List Int} (hw : intsR p g = was) (hp : p ≤ 6) :
    ∃ p' g', C_module_MayCommand_2 (K (N + 1 + 1)) p v any o n k l env g = some (lookR [(0, .i (setE (varsOf l) env was ⟨v, any, .mk o n (kidsOf k)⟩)), (1, l), (2, .b env), (3, .l p' g')]) ∧ (setE (varsOf l) env was ⟨v, any, .mk o n (kidsOf k)⟩ = 0 → p' = p + 1 ∧ intsR p' g' = was ++ [v]) := by
  rw [C_module_MayCommand_2_K]
  unfold setE
  simp only
  by_cases c1 : v < 0
  · rw [if_pos (.inl c1)]
    exact ⟨p, g, if_of (decide_eq_true c1) rfl, fun h => by cases h⟩
  by_cases c2 : (l.len : Int) ≤ v
  · rw [if_pos (.inr (.inl (by rw [varsOf_len]; exact c2)))]
    exact ⟨p, g, if_not (decide_eq_false c1) (if_of (decide_eq_true c2) rfl), fun h => by cases h⟩
  have hg : (decide (0 ≤ v) && decide (v < (l.len : Int))) = true := by simp; omega
  have he : envAt (varsOf l) v = (l.el v.toNat 1).bool := envAt_of (by omega) (by omega)
  by_cases c3 : (l.el v.toNat 1).bool = env
  · have hplen : was.length = p := by rw [← hw]; exact intsR_len' p g
    have hcon := hc (T.l p fun i j => g (0 + i) j) was v (by rw [shift0]; exact Ints_intsR hw) (by omega)
    by_cases c4 : v ∈ was
    · rw [if_pos (.inr (.inr (.inr c4)))]
      rw [decide_eq_true c4] at hcon
      exact ⟨p, g, if_not (decide_eq_false c1) (if_not (decide_eq_false c2) (if_of hg (if_not (by rw [c3]; simp) (bind_of hcon (if_of rfl rfl))))), fun h => by cases h⟩
    · rw [if_neg (by rw [varsOf_len, he]; intro h; rcases h with h | h | h | h; exact c1 h; exact c2 h; exact h c3; exact c4 h)]
      rw [decide_eq_false c4] at hcon
      have tail : ∀ e : Int, ((any = true ∧ e = 0) ∨ (any = false ∧ e = needsE (varsOf l) (.mk o n (kidsOf k)) (sortAt (varsOf l) v) true (!env) false)) → module_MayCommand_2.B0 (K (N + 1)) (N + 1) p v any o n k g l env = some (lookR [(0, .i e), (1, l), (2, .b env), (3, .l (p + 1) (pushG p g v))]) := by
        intro e he2
        rw [module_MayCommand_2.B0_eq]
        refine if_of (decide_eq_true (by omega)) ?_
        rcases he2 with ⟨ha, he2⟩ | ⟨ha, he2⟩
        · subst ha he2; exact if_of rfl rfl
        · subst ha he2
          refine if_not rfl (if_of hg (bind_of (mayC1_sp (want := (l.el v.toNat 2).int) (env := env) h rfl rfl) ?_))
          have es : sortAt (varsOf l) v = (l.el v.toNat 2).int := by unfold sortAt; rw [varsOf_get l (by omega)]; rfl
          rw [es]; rfl
      cases any with
      | true =>
        cases cb : bareE (.mk o n (kidsOf k)) with
        | false =>
          rw [if_pos ⟨rfl, rfl⟩]
          have hb := bare_sp N o n k
          rw [cb] at hb
          exact ⟨p, g, if_not (decide_eq_false c1) (if_not (decide_eq_false c2) (if_of hg (if_not (by rw [c3]; simp) (bind_of hcon (if_not rfl (if_of rfl (bind_of hb (if_of rfl rfl)))))))), fun h => by cases h⟩
        | true =>
          rw [if_neg (by simp), if_pos rfl]
          have hb := bare_sp N o n k
          rw [cb] at hb
          exact ⟨p + 1, pushG p g v, if_not (decide_eq_false c1) (if_not (decide_eq_false c2) (if_of hg (if_not (by rw [c3]; simp) (bind_of hcon (if_not rfl (if_of rfl (bind_of hb (if_not rfl (tail 0 (.inl ⟨rfl, rfl⟩)))))))))), fun _ => ⟨rfl, by rw [intsR_pushG, hw]⟩⟩
      | false =>
        rw [if_neg (by simp), if_neg (by simp)]
        exact ⟨p + 1, pushG p g v, if_not (decide_eq_false c1) (if_not (decide_eq_false c2) (if_of hg (if_not (by rw [c3]; simp) (bind_of hcon (if_not rfl (if_not rfl (tail _ (.inr ⟨rfl, rfl⟩)))))))), fun _ => ⟨rfl, by rw [intsR_pushG, hw]⟩⟩
  · rw [if_pos (.inr (.inr (.inl (by rw [he]; exact c3))))]
    refine ⟨p, g, if_not (decide_eq_false c1) (if_not (decide_eq_false c2) (if_of hg (if_of ?_ rfl))), fun h => by cases h⟩
    cases env <;> simp_all
theorem firstSet_sp {N : Nat} {l t : T} (hl : l.len ≤ 9223372036854775807) (ht : t.len ≤ 6) {env : Bool} (h : ∀ i, i < t.len → ∀ op m want now env sys, C_sort_Needs (K N) l op m (t.el i 4) want now env sys = ri (needsE (varsOf l) (.mk op m (kidsOf (t.el i 4))) want now env sys)) (hc : ∀ t xs v, Ints t xs → xs.length ≤ 100 → C_slices_Contains_int (K (N + 1)) t v = rb (decide (v ∈ xs))) :
    ∀ (m i : Nat), i + m = t.len → ∀ M p g was, m < M → p = i → intsR p g = was → ∃ a b c, module_first_Set_by_module_MayCommand_2.B0 (K (N + 1 + 1)) M p t (t.len : Int) (i : Int) g l env = some (lookR [(0, .i (setsGo (varsOf l) env ((setsOf t).drop i) was)), (1, a), (2, b), (3, c)])
  | 0, i, hi, M, p, g, was, hM, hp, hw => by
    obtain ⟨M, rfl⟩ : ∃ M', M = M' + 1 := ⟨M - 1, by omega⟩
    rw [module_first_Set_by_module_MayCommand_2.B0_eq, List.drop_of_length_le (by rw [setsOf_len]; omega)]
    exact ⟨_, _, _, if_not (decide_eq_false (by omega)) rfl⟩
  | m + 1, i, hi, M, p, g, was, hM, hp, hw => by
    obtain ⟨M, rfl⟩ : ∃ M', M = M' + 1 := ⟨M - 1, by omega⟩
    obtain ⟨p', g', e1, e2⟩ := mayC2_sp (any := (t.el i 1).bool) (v := (t.el i 0).int) (o := (t.el i 2).int) (n := (t.el i 3).int) (env := env) hl (h i (by omega)) hc hw (by omega)
    have es : (⟨(t.el i 0).int, (t.el i 1).bool, .mk (t.el i 2).int (t.el i 3).int (kidsOf (t.el i 4))⟩ : Se) = seAt t i := rfl
    rw [es] at e1 e2
    rw [module_first_Set_by_module_MayCommand_2.B0_eq, Int.toNat_natCast, setsOf_from t (by omega), wrap_eq (a := (i : Int) + 1) (by omega) (by omega)]
    simp only [setsGo]
    by_cases c : setE (varsOf l) env was (seAt t i) = 0
    · rw [if_neg (by simpa using c)]
      obtain ⟨f1, f2⟩ := e2 c
      obtain ⟨a, b, d, ih⟩ := firstSet_sp hl ht h hc m (i + 1) (by omega) M p' g' _ (by omega) (by omega) f2
      exact ⟨a, b, d, if_of (decide_eq_true (by omega)) (if_of (by simp; omega) (bind_of e1 (if_not (by simp [lookR_0, int_i, c]) ih)))⟩
    · rw [if_pos c]
      exact ⟨_, _, _, if_of (decide_eq_true (by omega)) (if_of (by simp; omega) (bind_of e1 (if_of (by simpa [lookR_0, int_i] using c) rfl)))⟩
theorem MayCommand_sp (l : T) (hl : l.len ≤ 9223372036854775807) (k t : T) (hk : KW k) (ht : KS t) : Ev fun N => ∀ o n env, C_module_MayCommand (K N) l o n k t env = ri (mayCmd (varsOf l) env ⟨.mk o n (kidsOf k), setsOf t⟩) := by
  refine Ev.step (Ev.step (Ev.step (Ev.step (Ev.imp4 ((MayV_sp l hl).up 3) ((Needs_sp l hl k hk).up 2) (Ev.all (k := t.len) fun i hi => Needs_sp l hl (t.el i 4) (ht.2 i hi)) (Ev.and (containsI_sp.up 1) (Ev.ge (t.len + 10))) fun N h1 h2 h3 h4 o n env => ?_))))
  obtain ⟨h4, hN⟩ := h4
  rw [C_module_MayCommand_K]
  unfold mayCmd
  refine bind_of h1 ?_
  by_cases c1 : mayV (varsOf l) = 0
  · rw [if_neg (by simpa using c1)]
    refine if_not (by simp [lookR_0, int_i, c1]) (bind_of (mayC1_sp (want := 1) (env := env) (o := o) (n := n) h2 rfl rfl) ?_)
    by_cases c2 : needsE (varsOf l) (.mk o n (kidsOf k)) 1 true (!env) false = 0
    · rw [if_neg (by simpa using c2)]
      refine if_not (by simp [lookR_0, int_i, c2]) ?_
      by_cases c3 : 6 < t.len
      · rw [if_pos (by rw [setsOf_len]; omega)]
        exact if_of (decide_eq_true (by omega)) rfl
      · rw [if_neg (by rw [setsOf_len]; omega)]
        obtain ⟨a, b, c, e⟩ := firstSet_sp (env := env) hl (by omega) h3 h4 t.len 0 (by omega) (N + 1 + 1) 0 (fun _ _ => .b false) [] (by omega) rfl rfl
        have e2 : C_module_first_Set_by_module_MayCommand_2 (K (N + 1 + 1 + 1)) 0 t l env (fun _ _ => .b false) = some (lookR [(0, .i (setsGo (varsOf l) env (setsOf t) [])), (1, a), (2, b), (3, c)]) := by
          rw [C_module_first_Set_by_module_MayCommand_2_K]
          exact e
        exact if_not (decide_eq_false (by omega)) (bind_of e2 rfl)
    · rw [if_pos c2]
      exact if_of (by simpa [lookR_0, int_i] using c2) rfl
  · rw [if_pos c1]
    exact if_of (by simpa [lookR_0, int_i] using c1) rfl
theorem mayB1_sp {N : Nat} {l k : T} {o n : Int} {now : Bool} (h : ∀ op m want now env sys, C_sort_Needs (K N) l op m k want now env sys = ri (needsE (varsOf l) (.mk op m (kidsOf k)) want now env sys)) {c1 c2 : Nat → T} (h1 : c1 0 = l) (h2 : c2 0 = .b now) : C_module_May_1_1 (K (N + 1)) o n k c1 c2 = ri (needsE (varsOf l) (.mk o n (kidsOf k)) 1 now false false) := by
  rw [C_module_May_1_1_K, h1, h2]
  exact bind_of (h o n 1 now false false) rfl
theorem mayB2_sp {N : Nat} {l k t : T} {o n : Int} {env : Bool} (h : ∀ o n env, C_module_MayCommand (K N) l o n k t env = ri (mayCmd (varsOf l) env ⟨.mk o n (kidsOf k), setsOf t⟩)) {c1 c2 : Nat → T} (h1 : c1 0 = l) (h2 : c2 0 = .b env) : C_module_May_2_1 (K (N + 1)) o n k t c1 c2 = ri (mayCmd (varsOf l) env ⟨.mk o n (kidsOf k), setsOf t⟩) := by
  rw [C_module_May_2_1_K, h1, h2]
  exact bind_of (h o n env) rfl
theorem firstX_sp {h : H} {t : T} {c1 c2 : Nat → T} {f : Ex → Int} (hl : t.len ≤ 9223372036854775807) (hf : ∀ i, i < t.len → C_module_May_1_1 h (t.el i 0).int (t.el i 1).int (t.el i 2) c1 c2 = ri (f (exAt t i))) :
    ∀ (m i : Nat), i + m = t.len → ∀ M, m < M → module_first_Expr_by_module_May_1_1.B0 h M c1 c2 t (t.len : Int) (i : Int) = ri (firstE f ((kidsOf t).drop i))
  | 0, i, hi, M, hM => by
    obtain ⟨M, rfl⟩ : ∃ M', M = M' + 1 := ⟨M - 1, by omega⟩
    rw [module_first_Expr_by_module_May_1_1.B0_eq, List.drop_of_length_le (by rw [kidsOf_len]; omega)]
    exact if_not (decide_eq_false (by omega)) rfl
  | m + 1, i, hi, M, hM => by
    obtain ⟨M, rfl⟩ : ∃ M', M = M' + 1 := ⟨M - 1, by omega⟩
    have ih := firstX_sp hl hf m (i + 1) (by omega) M (by omega)
    have e := hf i (by omega)
    rw [module_first_Expr_by_module_May_1_1.B0_eq, Int.toNat_natCast, kidsOf_from t i (by omega), wrap_eq (a := (i : Int) + 1) (by omega) (by omega)]
    simp only [firstE]
    refine if_of (decide_eq_true (by omega)) (if_of (by simp; omega) (bind_of e ?_))
    by_cases c : f (exAt t i) = 0
    · rw [if_neg (by simpa using c)]
      exact if_not (by simp [lookR_0, int_i, c]) ih
    · rw [if_pos c]
      exact if_of (by simpa [lookR_0, int_i] using c) rfl
theorem firstC_sp {h : H} {t : T} {c1 c2 : Nat → T} {f : Cm → Int} (hl : t.len ≤ 9223372036854775807) (hf : ∀ i, i < t.len → C_module_May_2_1 h (t.el i 0).int (t.el i 1).int (t.el i 2) (t.el i 3) c1 c2 = ri (f (cmAt t i))) :
    ∀ (m i : Nat), i + m = t.len → ∀ M, m < M → module_first_Command_by_module_May_2_1.B0 h M c1 c2 t (t.len : Int) (i : Int) = ri (firstE f ((cmdsOf t).drop i))
  | 0, i, hi, M, hM => by
    obtain ⟨M, rfl⟩ : ∃ M', M = M' + 1 := ⟨M - 1, by omega⟩
    rw [module_first_Command_by_module_May_2_1.B0_eq, List.drop_of_length_le (by rw [cmdsOf_len]; omega)]
    exact if_not (decide_eq_false (by omega)) rfl
  | m + 1, i, hi, M, hM => by
    obtain ⟨M, rfl⟩ : ∃ M', M = M' + 1 := ⟨M - 1, by omega⟩
    have ih := firstC_sp hl hf m (i + 1) (by omega) M (by omega)
    have e := hf i (by omega)
    rw [module_first_Command_by_module_May_2_1.B0_eq, Int.toNat_natCast, cmdsOf_from t (by omega), wrap_eq (a := (i : Int) + 1) (by omega) (by omega)]
    simp only [firstE]
    refine if_of (decide_eq_true (by omega)) (if_of (by simp; omega) (bind_of e ?_))
    by_cases c : f (cmAt t i) = 0
    · rw [if_neg (by simpa using c)]
      exact if_not (by simp [lookR_0, int_i, c]) ih
    · rw [if_pos c]
      exact if_of (by simpa [lookR_0, int_i] using c) rfl
theorem exsR_app (n : Nat) (g : Nat → Nat → T) (x : T) : exsR (n + x.len) (fun i j => (bif Nat.blt i n then g i j else x.el (i - n) j)) = exsR n g ++ kidsOf x := by
  unfold exsR
  rw [List.range_add, List.map_append, kidsOf_eq]
  congr 1
  · refine List.map_congr_left fun i hi => ?_
    have hi := List.mem_range.1 hi
    simp only [show Nat.blt i n = true from by rw [Nat.blt_eq]; exact hi, cond_true]
  · rw [List.map_map]
    refine List.map_congr_left fun i hi => ?_
    have hb : Nat.blt (n + i) n = false := by
      cases hc : Nat.blt (n + i) n with
      | false => rfl
      | true => rw [Nat.blt_eq] at hc; omega
    simp only [Function.comp, hb, cond_false, Nat.add_sub_cancel_left]
    rfl
theorem concat_sp {a b c : T} (ha : KW a) (hb : KW b) (hc : KW c) (la : a.len ≤ 4) (lb : b.len ≤ 4) (lc : c.len ≤ 6) : ∃ t, (Ev fun N => C_slices_Concat_Expr (K N) (T.l 3 (fun i j => (([[a], [b], [c]] : List (List T)).getD (0 + i) []).getD j (.b false))) = some (lookR [(0, t)])) ∧ kidsOf t = kidsOf a ++ kidsOf b ++ kidsOf c ∧ KW t := by
  have hw : ∀ x : Nat, x ≤ 100 → IntKind.wrap .i64 (x : Int) = (x : Int) := fun x hx => wrap_eq (by omega) (by omega)
  have grow : ∃ g : Nat → Nat → T, Ev fun N => C_slices_Grow_Expr (K N) ((a.len + b.len + c.len : Nat) : Int) = some (lookR [(0, T.l 0 g)]) := by
    by_cases h0 : a.len + b.len + c.len = 0
    · refine ⟨fun _ _ => .b false, Ev.step ((Ev.ge 3).imp fun N hN => ?_)⟩
      obtain ⟨N, rfl⟩ : ∃ M, N = M + 1 := ⟨N - 1, by omega⟩
      rw [C_slices_Grow_Expr_K, h0, slices_Grow_Expr.B1_eq]
      exact if_not (by decide) (if_not (by decide) rfl)
    · refine ⟨fun _ j => ([T.i 0, T.i 0, noT] : List T).getD j (.b false), Ev.step ((Ev.ge 3).imp fun N hN => ?_)⟩
      obtain ⟨N, rfl⟩ : ∃ M, N = M + 1 := ⟨N - 1, by omega⟩
      have e0 : IntKind.wrap .i64 (((a.len + b.len + c.len : Nat) : Int) - 0) = ((a.len + b.len + c.len : Nat) : Int) := wrap_eq (by omega) (by omega)
      rw [C_slices_Grow_Expr_K, e0, slices_Grow_Expr.B0_eq]
      exact if_not (decide_eq_false (by omega)) (if_of (decide_eq_true (by omega)) (if_of (by simp; omega) (if_of (decide_eq_true (by omega)) rfl)))
  obtain ⟨g0, hg0⟩ := grow
  refine ⟨T.l (0 + a.len + b.len + c.len) (fun i j => (bif Nat.blt i (0 + a.len + b.len) then (fun i j => (bif Nat.blt i (0 + a.len) then (fun i j => (bif Nat.blt i 0 then g0 i j else a.el (i - 0) j)) i j else b.el (i - (0 + a.len)) j)) i j else c.el (i - (0 + a.len + b.len)) j)), Ev.step ((hg0.and (Ev.ge 20)).imp fun N h => ?_), ?_, ?_⟩
  · obtain ⟨hg0, hN⟩ := h
    obtain ⟨N, rfl⟩ : ∃ M, N = M + 15 := ⟨N - 15, by omega⟩
    rw [C_slices_Concat_Expr_K]
    generalize hX : (T.l 3 (fun i j => (([[a], [b], [c]] : List (List T)).getD (0 + i) []).getD j (.b false))) = X
    have X0 : X.el 0 0 = a := by rw [← hX]; rfl
    have X1 : X.el 1 0 = b := by rw [← hX]; rfl
    have X2 : X.el 2 0 = c := by rw [← hX]; rfl
    have XL : X.len = 3 := by rw [← hX]; rfl
    have t0 : Int.toNat 0 = 0 := rfl
    have t1 : Int.toNat 1 = 1 := rfl
    have t2 : Int.toNat 2 = 2 := rfl
    have w1 : IntKind.wrap .i64 ((0 : Int) + 1) = 1 := by decide
    have w2 : IntKind.wrap .i64 ((1 : Int) + 1) = 2 := by decide
    have w3 : IntKind.wrap .i64 ((2 : Int) + 1) = 3 := by decide
    rw [XL, slices_Concat_Expr.B0_eq, t0, X0, XL, wrap_eq (a := 0 + (a.len : Int)) (by omega) (by omega), w1]
    refine if_of (by decide) (if_of (by decide) (if_not (decide_eq_false (by omega)) ?_))
    rw [slices_Concat_Expr.B0_eq, t1, X1, XL, wrap_eq (a := 0 + (a.len : Int) + (b.len : Int)) (by omega) (by omega), w2]
    refine if_of (by decide) (if_of (by decide) (if_not (decide_eq_false (by omega)) ?_))
    rw [slices_Concat_Expr.B0_eq, t2, X2, XL, wrap_eq (a := 0 + (a.len : Int) + (b.len : Int) + (c.len : Int)) (by omega) (by omega), w3]
    refine if_of (by decide) (if_of (by decide) (if_not (decide_eq_false (by omega)) ?_))
    rw [slices_Concat_Expr.B0_eq]
    refine if_not (by decide) ?_
    rw [show (0 : Int) + (a.len : Int) + (b.len : Int) + (c.len : Int) = ((a.len + b.len + c.len : Nat) : Int) by omega]
    refine bind_of hg0 ?_
    show slices_Concat_Expr.B1 (K (N + 15)) (N + 11) 0 X (X.len : Int) 0 g0 = _
    rw [XL, slices_Concat_Expr.B1_eq, t0, X0, XL, w1]
    refine if_of (by decide) (if_of (by decide) (if_of (decide_eq_true (by omega)) ?_))
    rw [slices_Concat_Expr.B1_eq, t1, X1, XL, w2]
    refine if_of (by decide) (if_of (by decide) (if_of (decide_eq_true (by omega)) ?_))
    rw [slices_Concat_Expr.B1_eq, t2, X2, XL, w3]
    refine if_of (by decide) (if_of (by decide) (if_of (decide_eq_true (by omega)) ?_))
    rw [slices_Concat_Expr.B1_eq]
    exact if_not (by decide) rfl
  · rw [kidsOf_l, exsR_app, exsR_app, exsR_app]
    rfl
  · refine KW_l (by omega) fun i hi => ?_
    by_cases c1 : i < 0 + a.len + b.len
    · simp only [show Nat.blt i (0 + a.len + b.len) = true from by rw [Nat.blt_eq]; exact c1, cond_true]
      by_cases c2 : i < 0 + a.len
      · simp only [show Nat.blt i (0 + a.len) = true from by rw [Nat.blt_eq]; exact c2, cond_true]
        have : Nat.blt i 0 = false := by cases i <;> rfl
        simp only [this, cond_false]
        exact ha.el (by omega)
      · have : Nat.blt i (0 + a.len) = false := by
          cases hc : Nat.blt i (0 + a.len) with
          | false => rfl
          | true => rw [Nat.blt_eq] at hc; omega
        simp only [this, cond_false]
        exact hb.el (by omega)
    · have : Nat.blt i (0 + a.len + b.len) = false := by
        cases hc : Nat.blt i (0 + a.len + b.len) with
        | false => rfl
        | true => rw [Nat.blt_eq] at hc; omega
      simp only [this, cond_false]
      exact hc.el (by omega)
end Go.Proofs.Ytnjandhaeojieaa
