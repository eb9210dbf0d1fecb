/- The law ModuleMore: a module with one command more, or less. -/
import Derived.Test.YtnjandhaeojieaaLa33
import Derived.Test.YtnjandhaeojieaaLa51
import Derived.Test.YtnjandhaeojieaaLa58
set_option linter.unusedVariables false
set_option linter.unusedSimpArgs false
namespace Go.AM
open Go.Proofs.Ytnjandhaeojieaa
section
variable {l : List Va} {ie is : Ex} {te ts : List Cm} {A E P : List Ex}
theorem mayM_cmds (h : mayM ⟨l, ie, is, te, ts, A, E, P⟩ = 0) (te' ts' : List Cm) : mayM ⟨l, ie, is, te', ts', A, E, P⟩ = if 12 < max te'.length ts'.length then 7 else if firstE (mayCmd l true) te' ≠ 0 then firstE (mayCmd l true) te' else firstE (mayCmd l false) ts' := by
  obtain ⟨c1, c2, c3, _, _, c8⟩ := mayM_zero h
  have c4 := mayM_full h
  have c7 := mayM_seven h
  unfold fullM at c4
  simp only [Bool.or_eq_false_iff, decide_eq_false_iff_not] at c4
  simp only at c1 c2 c3 c7 c8
  unfold mayM
  simp only
  rw [if_neg (by simpa using c1), if_neg (by simpa using c2), if_neg (by simpa using c3)]
  by_cases d : 12 < max te'.length ts'.length
  · rw [if_pos d, if_pos (by unfold fullM; simp only; rw [decide_eq_true d]; rfl)]
  · rw [if_neg d, if_neg (by unfold fullM; simp only; rw [decide_eq_false d, decide_eq_false c4.1.2, decide_eq_false c4.2]; simp)]
    by_cases e : firstE (mayCmd l true) te' = 0
    · rw [if_neg (show ¬ firstE (mayCmd l true) te' ≠ 0 from fun h => h e), if_neg (show ¬ firstE (mayCmd l true) te' ≠ 0 from fun h => h e)]
      by_cases f : firstE (mayCmd l false) ts' = 0
      · rw [if_neg (show ¬ firstE (mayCmd l false) ts' ≠ 0 from fun h => h f), if_neg c7, c8, f]
      · rw [if_pos f]
    · rw [if_pos e, if_pos e]
theorem firstE_sing {α : Type} {f : α → Int} {x : α} : firstE f [x] = f x := by
  simp only [firstE]
  by_cases c : f x = 0
  · rw [if_neg (by simpa using c), c]
  · rw [if_pos c]
theorem mayM_more (h : mayM ⟨l, ie, is, te, ts, A, E, P⟩ = 0) (ev : Bool) (cc : Cm) : mayM ⟨l, ie, is, if ev = true then te ++ [cc] else te, if ev = true then ts else ts ++ [cc], A, E, P⟩ = if 12 ≤ (if ev = true then te.length else ts.length) then 7 else mayCmd l ev cc := by
  obtain ⟨_, _, _, c5, c6, _⟩ := mayM_zero h
  have c4 := mayM_full h
  unfold fullM at c4
  simp only [Bool.or_eq_false_iff, decide_eq_false_iff_not] at c4
  simp only at c5 c6
  rw [mayM_cmds h]
  have n5 : ¬ firstE (mayCmd l true) te ≠ 0 := fun h => h c5
  have n6 : ¬ firstE (mayCmd l false) ts ≠ 0 := fun h => h c6
  cases ev with
  | true =>
    have hf : ∀ {α : Type} {a b : α}, (if true = true then a else b) = a := fun {α a b} => if_pos rfl
    rw [hf, hf, hf, List.length_append, firstE_app, if_neg n5, firstE_sing, c6, show [cc].length = 1 from rfl]
    by_cases d : 12 ≤ te.length
    · rw [if_pos d, if_pos (by omega)]
    · rw [if_neg d, if_neg (by omega)]
      by_cases e : mayCmd l true cc = 0
      · rw [if_neg (fun h => h e), e]
      · rw [if_pos e]
  | false =>
    have hf : ∀ {α : Type} {a b : α}, (if false = true then a else b) = b := fun {α a b} => if_neg (by simp)
    rw [hf, hf, hf, List.length_append, firstE_app, if_neg n5, if_neg n6, firstE_sing, show [cc].length = 1 from rfl]
    by_cases d : 12 ≤ ts.length
    · rw [if_pos d, if_pos (by omega)]
    · rw [if_neg d, if_neg (by omega)]
theorem sameM_self (h : mayM ⟨l, ie, is, te, ts, A, E, P⟩ = 0) {te' ts' : List Cm} (h5 : ∀ c ∈ te', mayCmd l true c = 0) (h6 : ∀ c ∈ ts', mayCmd l false c = 0) : sameM ⟨l, ie, is, te', ts', A, E, P⟩ ⟨l, ie, is, te', ts', A, E, P⟩ = true := by
  obtain ⟨_, c2, c3, _, _, c8⟩ := mayM_zero h
  simp only at c2 c3 c8
  have c8 := firstE_zero.1 c8
  have x : ∀ e, e ∈ A ++ E ++ P → sameX e e = true := fun e he => needs_light (c8 e he)
  unfold sameM
  simp only
  rw [eqL_self (fun v _ => sameV_self v), needs_light c2, needs_light c3, eqL_self (fun c hc => cmd_same (h5 c hc)), eqL_self (fun c hc => cmd_same (h6 c hc)), eqL_self (fun e he => x e (by simp [he])), eqL_self (fun e he => x e (by simp [he])), eqL_self (fun e he => x e (by simp [he]))]
  rfl
theorem sameM_more {te' ts' : List Cm} (h : te'.length ≠ te.length ∨ ts'.length ≠ ts.length) : sameM ⟨l, ie, is, te', ts', A, E, P⟩ ⟨l, ie, is, te, ts, A, E, P⟩ = false := by
  unfold sameM
  simp only
  rcases h with h | h
  · rw [eqL_len h]; simp
  · rw [eqL_len h]; simp
end
def Kept (t : T) (i n : Nat) (g : Nat → Nat → T) : Prop := n ≤ i ∧ ∀ q, q < n → ∃ r, r < t.len ∧ (g q 0).int = (t.el r 0).int ∧ (g q 1).int = (t.el r 1).int ∧ g q 2 = t.el r 2 ∧ g q 3 = t.el r 3
theorem Kept.push {t : T} {i n : Nat} {g : Nat → Nat → T} (h : Kept t i n g) (hi : i < t.len) : Kept t (i + 1) (n + 1) (fun a j => (bif Nat.blt a n then (g a j) else ((([[(T.i ((t.el i 0).int)), (T.i ((t.el i 1).int)), (t.el i 2), (t.el i 3)]] : List (List T)).getD (0 + (a - n)) []).getD j (.b false)))) := by
  refine ⟨by have := h.1; omega, fun q hq => ?_⟩
  by_cases c : q < n
  · have e : Nat.blt q n = true := by rw [Nat.blt_eq]; exact c
    simp only [e, cond_true]
    exact h.2 q c
  · have hqn : q = n := by omega
    subst hqn
    have e : Nat.blt q q = false := by
      cases hc : Nat.blt q q with
      | false => rfl
      | true => rw [Nat.blt_eq] at hc; omega
    simp only [e, cond_false, Nat.sub_self]
    exact ⟨i, hi, rfl, rfl, rfl, rfl⟩
theorem Kept.kc {t : T} {i n : Nat} {g : Nat → Nat → T} (h : Kept t i n g) (hi : i ≤ t.len) (ht : KC t) : KC (T.l n fun a j => g (0 + a) j) := by
  refine ⟨?_, fun q hq => ?_⟩
  · have := h.1
    have := ht.1
    show n ≤ _
    omega
  · obtain ⟨r, hr, _, _, e2, e3⟩ := h.2 q hq
    show KW (g (0 + q) 2) ∧ KS (g (0 + q) 3)
    rw [Nat.zero_add, e2, e3]
    exact ht.2 r hr
theorem Kept.cmds {t : T} {i n : Nat} {g : Nat → Nat → T} (h : Kept t i n g) : ∀ c ∈ cmdsOf (T.l n fun a j => g (0 + a) j), c ∈ cmdsOf t := by
  intro c hc
  unfold cmdsOf at hc ⊢
  obtain ⟨q, hq, rfl⟩ := List.mem_map.1 hc
  have hq : q < n := List.mem_range.1 hq
  obtain ⟨r, hr, e0, e1, e2, e3⟩ := h.2 q hq
  refine List.mem_map.2 ⟨r, List.mem_range.2 hr, ?_⟩
  unfold cmAt
  show _ = (⟨.mk (g (0 + q) 0).int (g (0 + q) 1).int (kidsOf (g (0 + q) 2)), setsOf (g (0 + q) 3)⟩ : Cm)
  rw [Nat.zero_add, e0, e1, e2, e3]
end Go.AM
set_option linter.unusedVariables false
set_option linter.unusedSimpArgs false
namespace Go.Proofs.Ytnjandhaeojieaa
open Go.AM
def pushK (t : T) (i n : Nat) (g : Nat → Nat → T) : Nat → Nat → T := fun a j => (bif Nat.blt a n then (g a j) else ((([[(T.i ((t.el i 0).int)), (T.i ((t.el i 1).int)), (t.el i 2), (t.el i 3)]] : List (List T)).getD (0 + (a - n)) []).getD j (.b false)))
def shK (t : T) (at_ : Int) : Nat → Nat × (Nat → Nat → T)
  | 0 => (0, fun _ _ => .b false)
  | i + 1 => bif (i : Int) != at_ then ((shK t at_ i).1 + 1, pushK t i (shK t at_ i).1 (shK t at_ i).2) else shK t at_ i
theorem shK_kept (t : T) (at_ : Int) : ∀ i, i ≤ t.len → Kept t i (shK t at_ i).1 (shK t at_ i).2
  | 0, _ => ⟨Nat.le_refl _, fun q hq => absurd hq (Nat.not_lt_zero _)⟩
  | i + 1, hi => by
    have ih := shK_kept t at_ i (by omega)
    simp only [shK]
    cases (i : Int) != at_ with
    | true => exact ih.push (by omega)
    | false => exact ⟨by have := ih.1; simp only [cond_false]; omega, ih.2⟩
theorem mmB1 {h : H} {ev : Bool} {at_ e : Int} {t : T} {n0 F : Nat} {al ak1 ak2 ate ats ata atn atp bl bk1 bk2 bte bts bta btn btp dl dk1 dk2 dte dts dta dtn dtp : T} {ao1 an1 ao2 an2 bo1 bn1 bo2 bn2 do1 dn1 do2 dn2 : Int} {g0 : Nat → Nat → T} {Q : Option R} (ht : t.len ≤ 12)
    (hQ : ∀ N, F ≤ N → parrylaw5_ModuleMore.B1 h N n0 (shK t at_ t.len).1 ev at_ e t t (t.len : Int) (t.len : Int) al ao1 an1 ak1 ao2 an2 ak2 ate ats ata atn atp bl bo1 bn1 bk1 bo2 bn2 bk2 bte bts bta btn btp dl do1 dn1 dk1 do2 dn2 dk2 dte dts dta dtn dtp g0 (shK t at_ t.len).2 = Q) :
    ∀ (k i : Nat), i + k = t.len → ∀ N, F + 2 * k ≤ N → parrylaw5_ModuleMore.B1 h N n0 (shK t at_ i).1 ev at_ e t t (t.len : Int) (i : Int) al ao1 an1 ak1 ao2 an2 ak2 ate ats ata atn atp bl bo1 bn1 bk1 bo2 bn2 bk2 bte bts bta btn btp dl do1 dn1 dk1 do2 dn2 dk2 dte dts dta dtn dtp g0 (shK t at_ i).2 = Q
  | 0, i, hi, N, hN => by
    have : i = t.len := by omega
    subst this
    exact hQ N (by omega)
  | k + 1, i, hi, N, hN => by
    obtain ⟨N, rfl⟩ : ∃ M, N = M + 2 := ⟨N - 2, by omega⟩
    have hn := (shK_kept t at_ i (by omega)).1
    have ih := mmB1 ht hQ k (i + 1) (by omega) N (by omega)
    simp only [shK] at ih
    rw [parrylaw5_ModuleMore.B1_eq]
    refine if_of (decide_eq_true (by omega)) (if_of (by simp; omega) ?_)
    rw [Int.toNat_natCast]
    cases hc : (i : Int) != at_ with
    | true =>
      rw [hc] at ih
      refine if_of rfl (if_of (decide_eq_true (by omega)) ?_)
      rw [parrylaw5_ModuleMore.B2_eq, wrap_eq (a := (i : Int) + 1) (by omega) (by omega)]
      exact ih
    | false =>
      rw [hc] at ih
      refine if_not rfl ?_
      rw [parrylaw5_ModuleMore.B2_eq, wrap_eq (a := (i : Int) + 1) (by omega) (by omega)]
      exact ih
theorem ModuleMore_sp (l : T) (o1 n1 : Int) (k1 : T) (o2 n2 : Int) (k2 te ts ta tn tp : T) (co cn : Int) (ck ct : T) (ev : Bool) (at_ : Int) (wl : WT Try.prog 22 l) (w1 : WT Try.prog 23 k1) (w2 : WT Try.prog 23 k2) (we : WT Try.prog 26 te) (ws : WT Try.prog 26 ts) (wa : WT Try.prog 23 ta) (wn : WT Try.prog 23 tn) (wp : WT Try.prog 23 tp) (wk : WT Try.prog 23 ck) (wt : WT Try.prog 29 ct) :
    Ev fun N => C_parrylaw5_ModuleMore (K N) l o1 n1 k1 o2 n2 k2 te ts ta tn tp co cn ck ct ev at_ = rb true := by
  have hl := WT_len wl
  have h1 := WT_KW w1
  have h2 := WT_KW w2
  have he := WT_KC we
  have hs := WT_KC ws
  have ha := WT_KW wa
  have hn := WT_KW wn
  have hp := WT_KW wp
  have hk := WT_KW wk
  have ht := WT_KS wt
  have hno : KC noT := ⟨by show 0 ≤ _; omega, fun i hi => absurd hi (Nat.not_lt_zero _)⟩
  have base := Ev.and (Ev.and (heavyM_sp l k1 k2 te ts ta tn tp hl h1 h2 he hs ha hn hp) (heavyM_sp noT noT noT (one1C co cn ck ct) noT noT noT noT (by show 0 ≤ _; omega) KW_noT KW_noT (KC_one1 hk ht) hno KW_noT KW_noT KW_noT)) (Ev.and (Ev.and awake5_sp (MayCommand_sp l hl ck ct hk ht)) (MayM_sp l hl k1 k2 te ts ta tn tp h1 h2 he hs ha hn hp))
  by_cases hm : mayM ⟨varsOf l, .mk o1 n1 (kidsOf k1), .mk o2 n2 (kidsOf k2), cmdsOf te, cmdsOf ts, kidsOf ta, kidsOf tn, kidsOf tp⟩ = 0
  case neg =>
    refine Ev.step (base.imp fun N hb => ?_)
    obtain ⟨⟨hx, hy⟩, ⟨haw, _⟩, hr⟩ := hb
    obtain ⟨x, hx⟩ := hx o1 n1 o2 n2
    obtain ⟨y, hy⟩ := hy 0 0 0 0
    have aw : ((C_parrylaw5_awake (K N)).bind fun r => some (lookR [(0, T.b (r 0).bool)])) = rb true := by rw [haw]; rfl
    rw [C_parrylaw5_ModuleMore_K]
    refine bind_of hx (bind_of hy (if_both (fun _ => aw) fun _ => bind_of (hr o1 n1 o2 n2) (if_both (fun _ => aw) fun c => ?_)))
    exact absurd (by simpa [lookR_0, int_i] using c) hm
  have n12 : te.len ≤ 12 ∧ ts.len ≤ 12 := by
    have := mayM_full hm
    unfold fullM at this
    simp only [Bool.or_eq_false_iff, decide_eq_false_iff_not, cmdsOf_len] at this
    exact ⟨by omega, by omega⟩
  obtain ⟨_, y2, y3, y5, y6, _⟩ := mayM_zero hm
  simp only at y2 y3 y5 y6
  obtain ⟨cc, hcc⟩ : ∃ c : Cm, c = ⟨.mk co cn (kidsOf ck), setsOf ct⟩ := ⟨_, rfl⟩
  obtain ⟨t, htt⟩ : ∃ t, t = (if ev = true then te else ts) := ⟨_, rfl⟩
  have t12 : t.len ≤ 12 := by rw [htt]; split <;> omega
  have hKt : KC t := by rw [htt]; split; exact he; exact hs
  obtain ⟨te2, hte2⟩ : ∃ x, x = (if ev = true then addC te co cn ck ct else te) := ⟨_, rfl⟩
  obtain ⟨ts2, hts2⟩ : ∃ x, x = (if ev = true then ts else addC ts co cn ck ct) := ⟨_, rfl⟩
  have he2 : KC te2 := by rw [hte2]; split; exact KC_add he (by omega) hk ht; exact he
  have hs2 : KC ts2 := by rw [hts2]; split; exact hs; exact KC_add hs (by omega) hk ht
  have f1 : cmdsOf te2 = if ev = true then cmdsOf te ++ [cc] else cmdsOf te := by
    rw [hte2]; split
    · rw [cmds_add, hcc]
    · rfl
  have f2 : cmdsOf ts2 = if ev = true then cmdsOf ts else cmdsOf ts ++ [cc] := by
    rw [hts2]; split
    · rfl
    · rw [cmds_add, hcc]
  have hmore := mayM_more hm ev cc
  rw [← f1, ← f2, cmdsOf_len, cmdsOf_len] at hmore
  have hlen : (if ev = true then te.len else ts.len) = t.len := by rw [htt]; split <;> rfl
  rw [hlen] at hmore
  have hnsame : sameM ⟨varsOf l, .mk o1 n1 (kidsOf k1), .mk o2 n2 (kidsOf k2), cmdsOf te2, cmdsOf ts2, kidsOf ta, kidsOf tn, kidsOf tp⟩ ⟨varsOf l, .mk o1 n1 (kidsOf k1), .mk o2 n2 (kidsOf k2), cmdsOf te, cmdsOf ts, kidsOf ta, kidsOf tn, kidsOf tp⟩ = false := by
    refine sameM_more ?_
    rw [f1, f2]
    cases ev with
    | true => exact .inl (by rw [if_pos rfl, List.length_append]; simp)
    | false => exact .inr (by rw [if_neg (by simp), List.length_append]; simp)
  have hself : mayCmd (varsOf l) ev cc = 0 → sameM ⟨varsOf l, .mk o1 n1 (kidsOf k1), .mk o2 n2 (kidsOf k2), cmdsOf te2, cmdsOf ts2, kidsOf ta, kidsOf tn, kidsOf tp⟩ ⟨varsOf l, .mk o1 n1 (kidsOf k1), .mk o2 n2 (kidsOf k2), cmdsOf te2, cmdsOf ts2, kidsOf ta, kidsOf tn, kidsOf tp⟩ = true := by
    intro hc
    have ad : ∀ {q : List Cm} {b : Bool}, firstE (mayCmd (varsOf l) b) q = 0 → mayCmd (varsOf l) b cc = 0 → ∀ c ∈ q ++ [cc], mayCmd (varsOf l) b c = 0 := fun {q b} hq hc c hm => by
      rcases List.mem_append.1 hm with z | z
      · exact firstE_zero.1 hq c z
      · rw [List.mem_singleton.1 z]; exact hc
    refine sameM_self hm ?_ ?_
    · rw [f1]
      split
      · rename_i hev; rw [hev] at hc; exact ad y5 hc
      · exact firstE_zero.1 y5
    · rw [f2]
      split
      · exact firstE_zero.1 y6
      · rename_i hev
        have : ev = false := by simpa using hev
        rw [this] at hc; exact ad y6 hc
  obtain ⟨sr, hsr⟩ : ∃ x, x = T.l (shK t at_ t.len).1 (fun a j => (shK t at_ t.len).2 (0 + a) j) := ⟨_, rfl⟩
  have hkept := shK_kept t at_ t.len (Nat.le_refl _)
  have hKs : KC sr := by rw [hsr]; exact hkept.kc (Nat.le_refl _) hKt
  have hcs : ∀ c ∈ cmdsOf sr, c ∈ cmdsOf t := by rw [hsr]; exact hkept.cmds
  have hsl : sr.len ≤ 12 := by
    have := hkept.1
    rw [hsr]; show (shK t at_ t.len).1 ≤ 12; omega
  obtain ⟨te3, hte3⟩ : ∃ x, x = (if ev = true then sr else te) := ⟨_, rfl⟩
  obtain ⟨ts3, hts3⟩ : ∃ x, x = (if ev = true then ts else sr) := ⟨_, rfl⟩
  have he3 : KC te3 := by rw [hte3]; split; exact hKs; exact he
  have hs3 : KC ts3 := by rw [hts3]; split; exact hs; exact hKs
  have hless : mayM ⟨varsOf l, .mk o1 n1 (kidsOf k1), .mk o2 n2 (kidsOf k2), cmdsOf te3, cmdsOf ts3, kidsOf ta, kidsOf tn, kidsOf tp⟩ = 0 := by
    refine mayM_change hm y2 y3 ?_ ?_ ?_ ?_
    · rw [hte3, cmdsOf_len]; split <;> omega
    · rw [hts3, cmdsOf_len]; split <;> omega
    · rw [hte3]
      split
      · rename_i hev
        rw [htt, if_pos hev] at hcs
        exact firstE_zero.2 fun c hc => firstE_zero.1 y5 c (hcs c hc)
      · exact y5
    · rw [hts3]
      split
      · exact y6
      · rename_i hev
        rw [htt, if_neg hev] at hcs
        exact firstE_zero.2 fun c hc => firstE_zero.1 y6 c (hcs c hc)
  refine Ev.step (Ev.imp4 base (Ev.and (MayM_sp l hl k1 k2 te2 ts2 ta tn tp h1 h2 he2 hs2 ha hn hp) (Ev.ge 200)) (Ev.and (sameM_sp l k1 k2 te2 ts2 ta tn tp l k1 k2 te2 ts2 ta tn tp hl h1 h2 he2 hs2 ha hn hp h1 h2 he2 hs2 ha hn hp) (sameM_sp l k1 k2 te2 ts2 ta tn tp l k1 k2 te ts ta tn tp hl h1 h2 he2 hs2 ha hn hp h1 h2 he hs ha hn hp)) (MayM_sp l hl k1 k2 te3 ts3 ta tn tp h1 h2 he3 hs3 ha hn hp) fun N hb hmN hsame hlN => ?_)
  obtain ⟨⟨hx, hy⟩, ⟨haw, hmc⟩, hr⟩ := hb
  obtain ⟨x, hx⟩ := hx o1 n1 o2 n2
  obtain ⟨y, hy⟩ := hy 0 0 0 0
  obtain ⟨hmN, hN⟩ := hmN
  obtain ⟨hsame1, hsame2⟩ := hsame
  have aw : ((C_parrylaw5_awake (K N)).bind fun r => some (lookR [(0, T.b (r 0).bool)])) = rb true := by rw [haw]; rfl
  have eM := hmN o1 n1 o2 n2
  rw [hmore] at eM
  have eL := hlN o1 n1 o2 n2
  rw [hless] at eL
  have eS := hsame2 o1 n1 o2 n2 o1 n1 o2 n2
  rw [hnsame] at eS
  have eC := hmc co cn ev
  rw [← hcc] at eC
  obtain ⟨ce, hce⟩ : ∃ x, x = mayCmd (varsOf l) ev cc := ⟨_, rfl⟩
  rw [← hce] at eM eC hself
  have b4 : ∀ M want, want = (if 12 ≤ t.len then 7 else ce) → parrylaw5_ModuleMore.B4 (K N) (M + 1) ce want l o1 n1 k1 o2 n2 k2 te ts ta tn tp l o1 n1 k1 o2 n2 k2 te2 ts2 ta tn tp l o1 n1 k1 o2 n2 k2 te3 ts3 ta tn tp = rb true := by
    intro M want hw
    rw [parrylaw5_ModuleMore.B4_eq]
    refine bind_of eM (if_of (by rw [lookR_0, int_i, hw]; exact beq_self_eq_true _) (bind_of eL (if_of rfl ?_)))
    by_cases c : ce = 0
    · have eT := hsame1 o1 n1 o2 n2 o1 n1 o2 n2
      rw [hself c] at eT
      exact if_not (by simpa using c) (bind_of eT (if_of rfl (bind_of eS (if_of rfl aw))))
    · exact if_of (by simpa using c) (bind_of eS (if_of rfl aw))
  have b3 : ∀ M, parrylaw5_ModuleMore.B3 (K N) (M + 2) ce t l o1 n1 k1 o2 n2 k2 te ts ta tn tp l o1 n1 k1 o2 n2 k2 te2 ts2 ta tn tp l o1 n1 k1 o2 n2 k2 te3 ts3 ta tn tp = rb true := by
    intro M
    rw [parrylaw5_ModuleMore.B3_eq]
    by_cases c : 12 ≤ t.len
    · exact if_of (decide_eq_true (by omega)) (b4 M 7 (by rw [if_pos c]))
    · exact if_not (decide_eq_false (by omega)) (b4 M ce (by rw [if_neg c]))
  have b0 : parrylaw5_ModuleMore.B0 (K N) N ev at_ ce t l o1 n1 k1 o2 n2 k2 te ts ta tn tp co cn ck ct l o1 n1 k1 o2 n2 k2 te ts ta tn tp l o1 n1 k1 o2 n2 k2 te ts ta tn tp = rb true := by
    obtain ⟨N', hN'⟩ : ∃ M, N = M + 1 := ⟨N - 1, by omega⟩
    have := parrylaw5_ModuleMore.B0_eq (K N) N' ev at_ ce t l o1 n1 k1 o2 n2 k2 te ts ta tn tp co cn ck ct l o1 n1 k1 o2 n2 k2 te ts ta tn tp l o1 n1 k1 o2 n2 k2 te ts ta tn tp
    rw [← hN'] at this
    rw [this]
    refine if_of (decide_eq_true (by omega)) (if_of (decide_eq_true (by omega)) ?_)
    refine mmB1 (F := 10) t12 (fun M hM => ?_) t.len 0 (by omega) N' (by omega)
    obtain ⟨M, rfl⟩ : ∃ M', M = M' + 3 := ⟨M - 3, by omega⟩
    rw [parrylaw5_ModuleMore.B1_eq]
    refine if_not (decide_eq_false (by omega)) ?_
    have b3 := b3 M
    cases ev with
    | true =>
      rw [if_pos rfl] at htt hte2 hts2 hte3 hts3
      subst htt hte2 hts2 hte3 hts3 hsr
      exact if_of rfl b3
    | false =>
      rw [if_neg (by simp)] at htt hte2 hts2 hte3 hts3
      subst htt hte2 hts2 hte3 hts3 hsr
      exact if_not rfl b3
  rw [C_parrylaw5_ModuleMore_K]
  refine bind_of hx (bind_of hy (if_both (fun _ => aw) fun _ => bind_of (hr o1 n1 o2 n2) (if_not (by rw [hm]; rfl) (bind_of eC ?_))))
  cases ev with
  | true =>
    rw [if_pos rfl] at htt
    rw [htt] at b0
    exact if_of rfl b0
  | false =>
    rw [if_neg (by simp)] at htt
    rw [htt] at b0
    exact if_not rfl b0
end Go.Proofs.Ytnjandhaeojieaa
