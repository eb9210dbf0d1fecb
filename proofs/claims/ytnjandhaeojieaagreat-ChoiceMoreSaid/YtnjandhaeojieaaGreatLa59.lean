/- The law ChoiceMore: with one command more nothing that may be chosen is lost (the whole). -/
import Derived.Test.YtnjandhaeojieaaGreatLa58
set_option linter.unusedVariables false
set_option linter.unusedSimpArgs false
namespace Go.Proofs.YtnjandhaeojieaaGreat
open Go.AM
theorem all_more {l : List Va} {cs : List Cm} {c : Cm} {keeps s n x : Int} : x ∈ allE l (cs ++ [c]) keeps s n ↔ x ∈ allE l cs keeps s n ∨ x ∈ allE l [c] keeps s n := by
  rw [all_mem, all_mem, all_mem]
  constructor
  · rintro ⟨d, hd, h⟩
    rcases List.mem_append.1 hd with hd | hd
    · exact .inl ⟨d, hd, h⟩
    · exact .inr ⟨d, hd, h⟩
  · rintro (⟨d, hd, h⟩ | ⟨d, hd, h⟩)
    · exact ⟨d, List.mem_append.2 (.inl hd), h⟩
    · exact ⟨d, List.mem_append.2 (.inr hd), h⟩
section
variable {h : H} {l : T} {o1 n1 : Int} {k1 : T} {o2 n2 : Int} {k2 te ts ta tn tp : T}
/-- The three lists are held against one another. -/
theorem cmB1 {ev : Bool} {P : Int} {tA tB tD : T} {La Lb Ld : List Int} {Q : Option R} (hA : Ints tA La) (hB : Ints tB Lb) (hD : Ints tD Ld) (lA : La.length ≤ 24) (lB : Lb.length ≤ 24) (lD : Ld.length ≤ 24) (hr : Lb.Pairwise (· < ·)) (hm : ∀ x, x ∈ Lb ↔ x ∈ La ∨ x ∈ Ld)
    (hP : ∀ s, ∃ p, C_dom_Part h l s true = ri p ∧ (s ∈ Lb → if ev = true then p = s else p = P)) (hQ : ((C_parrylaw6_awake h).bind fun r => some (lookR [(0, T.b (r 0).bool)])) = Q) {N : Nat} (hN : 200 ≤ N) :
    parrylaw6_ChoiceMore.B1 h N ev P tA tB tD l o1 n1 k1 o2 n2 k2 te ts ta tn tp = Q := by
  obtain ⟨N, rfl⟩ : ∃ M, N = M + 1 := ⟨N - 1, by omega⟩
  have hnd := addAll_nodup (l := Ld) (addAll_nodup (l := La) (ks := []) (by simp))
  have hlen := more_len (x := noT) hr hm hnd
  rw [parrylaw6_ChoiceMore.B1_eq]
  refine cmB2 (F := 100) hA (by omega) (fun N x hN hx => ?_) La.length 0 (by omega) N noT (by omega) IS.nil
  refine cmB3 (F := 60) hD (by omega) (by rw [hB.1, hlen]) (fun N y hN hy => ?_) Ld.length 0 (by omega) N x (by omega) hx
  refine cmB4 hB (by omega) hy (fun s hs => ?_) hr hP hQ Lb.length 0 (by omega) N (by omega)
  rw [addAll_mem, addAll_mem]
  rcases (hm s).1 hs with q | q
  · exact .inl (.inr q)
  · exact .inr q
end
theorem ChoiceMore_sp (l : T) (o1 n1 : Int) (k1 : T) (o2 n2 : Int) (k2 te ts ta tn tp : T) (co cn : Int) (ck ct : T) (ev : Bool) (st pk : Int) (wl : WT Tryz.prog 22 l) (w1 : WT Tryz.prog 23 k1) (w2 : WT Tryz.prog 23 k2) (we : WT Tryz.prog 26 te) (ws : WT Tryz.prog 26 ts) (wa : WT Tryz.prog 23 ta) (wn : WT Tryz.prog 23 tn) (wp : WT Tryz.prog 23 tp) (wk : WT Tryz.prog 23 ck) (wt : WT Tryz.prog 29 ct) :
    Ev fun N => C_parrylaw6_ChoiceMore (K N) l o1 n1 k1 o2 n2 k2 te ts ta tn tp co cn ck ct ev st pk = rb true := by
  have hl := WT_len wl
  have h1 := WT_KW w1
  have h2 := WT_KW w2
  have he := WT_KC we
  have hs := WT_KC ws
  have ha := WT_KW wa
  have hn := WT_KW wn
  have hp := WT_KW wp
  have hk := WT_KW wk
  have ht := WT_KS wt
  obtain ⟨m, hmd⟩ : ∃ m : Md, m = ⟨varsOf l, .mk o1 n1 (kidsOf k1), .mk o2 n2 (kidsOf k2), cmdsOf te, cmdsOf ts, kidsOf ta, kidsOf tn, kidsOf tp⟩ := ⟨_, rfl⟩
  have base := Ev.and (Ev.and (heavy6_sp l k1 k2 te ts ta tn tp hl h1 h2 he hs ha hn hp) awake6_sp) (Ev.and (refMayM_sp l hl k1 k2 te ts ta tn tp h1 h2 he hs ha hn hp) (Total_sp l hl))
  by_cases good : mayM m = 0 ∧ prodV (varsOf l) ≤ 24
  case neg =>
    refine Ev.step (base.imp fun N hb => ?_)
    obtain ⟨⟨hh, haw⟩, hr, _⟩ := hb
    obtain ⟨y, hy, hy2⟩ := hh o1 n1 o2 n2
    have aw : ((C_parrylaw6_awake (K N)).bind fun r => some (lookR [(0, T.b (r 0).bool)])) = rb true := by rw [haw]; rfl
    rw [C_parrylaw6_ChoiceMore_K]
    refine bind_of hy (if_both (fun _ => aw) fun c0 => bind_of (hr o1 n1 o2 n2) (if_both (fun _ => aw) fun c1 => ?_))
    exfalso
    have c1 : mayM m = 0 := by rw [hmd]; simpa [lookR_0, int_i] using c1
    refine good ⟨c1, hy2 (of_decide_eq_false c0) ?_⟩
    have := (mayM_zero c1).1
    rw [hmd] at this
    exact this
  obtain ⟨hm, hP⟩ := good
  have mv : m.vars = varsOf l := by rw [hmd]
  have cm := (mayM_zero hm).1
  rw [mv] at cm
  obtain ⟨hto, hpos, hP5⟩ := total_prod cm
  have hpp := prodV_pos hpos
  have n12 : te.len ≤ 12 ∧ ts.len ≤ 12 := by
    have := mayM_full hm
    unfold fullM at this
    simp only [Bool.or_eq_false_iff, decide_eq_false_iff_not, hmd, cmdsOf_len] at this
    exact ⟨by omega, by omega⟩
  -- the two other modules, in one
  obtain ⟨te2, hte2⟩ : ∃ x, x = (if ev = true then addC te co cn ck ct else te) := ⟨_, rfl⟩
  obtain ⟨ts2, hts2⟩ : ∃ x, x = (if ev = true then ts else addC ts co cn ck ct) := ⟨_, rfl⟩
  obtain ⟨te3, hte3⟩ : ∃ x, x = (if ev = true then one1C co cn ck ct else te) := ⟨_, rfl⟩
  obtain ⟨ts3, hts3⟩ : ∃ x, x = (if ev = true then ts else one1C co cn ck ct) := ⟨_, rfl⟩
  have he2 : KC te2 := by rw [hte2]; split; exact KC_add he (by omega) hk ht; exact he
  have hs2 : KC ts2 := by rw [hts2]; split; exact hs; exact KC_add hs (by omega) hk ht
  have he3 : KC te3 := by rw [hte3]; split; exact KC_one1 hk ht; exact he
  have hs3 : KC ts3 := by rw [hts3]; split; exact hs; exact KC_one1 hk ht
  obtain ⟨m2, hm2⟩ : ∃ m : Md, m = ⟨varsOf l, .mk o1 n1 (kidsOf k1), .mk o2 n2 (kidsOf k2), cmdsOf te2, cmdsOf ts2, kidsOf ta, kidsOf tn, kidsOf tp⟩ := ⟨_, rfl⟩
  obtain ⟨m3, hm3⟩ : ∃ m : Md, m = ⟨varsOf l, .mk o1 n1 (kidsOf k1), .mk o2 n2 (kidsOf k2), cmdsOf te3, cmdsOf ts3, kidsOf ta, kidsOf tn, kidsOf tp⟩ := ⟨_, rfl⟩
  have hT : mayV (varsOf l) = 0 → prodV (varsOf l) ≤ 24 := fun _ => hP
  have hv3 := heavyM_sp l k1 k2 te3 ts3 ta tn tp hl h1 h2 he3 hs3 ha hn hp
  have hr2 := refMayM_sp l hl k1 k2 te2 ts2 ta tn tp h1 h2 he2 hs2 ha hn hp
  obtain ⟨S, hS⟩ : ∃ S, S = IntKind.wrap .i64 (Int.tmod (IntKind.wrap .u64 st) (IntKind.wrap .u64 (totalE (varsOf l)))) := ⟨_, rfl⟩
  obtain ⟨P, hPq⟩ : ∃ P, P = IntKind.wrap .i64 (Int.tmod (IntKind.wrap .u64 pk) (IntKind.wrap .u64 (totalE (varsOf l)))) := ⟨_, rfl⟩
  have sr := mod_range st (n := totalE (varsOf l)) (by omega) (by omega)
  have pr := mod_range pk (n := totalE (varsOf l)) (by omega) (by omega)
  rw [← hS] at sr
  rw [← hPq] at pr
  have okS : valuesOk (varsOf l) S = true := valuesOk_iff.2 ⟨cm, sr⟩
  have okP : valuesOk (varsOf l) P = true := valuesOk_iff.2 ⟨cm, pr⟩
  have hPr := part_range (env := true) cm okS
  obtain ⟨pkk, _⟩ := part_pick okP
  have a1 := cEnv_sp l k1 k2 te ts ta tn tp hl h1 h2 he hs ha hn hp hT o1 n1 o2 n2
  have a2 := cEnv_sp l k1 k2 te2 ts2 ta tn tp hl h1 h2 he2 hs2 ha hn hp hT o1 n1 o2 n2
  have a3 := cEnv_sp l k1 k2 te3 ts3 ta tn tp hl h1 h2 he3 hs3 ha hn hp hT o1 n1 o2 n2
  have b1 := cSys_sp l k1 k2 te ts ta tn tp hl h1 h2 he hs ha hn hp hT o1 n1 o2 n2
  have b2 := cSys_sp l k1 k2 te2 ts2 ta tn tp hl h1 h2 he2 hs2 ha hn hp hT o1 n1 o2 n2
  have b3 := cSys_sp l k1 k2 te3 ts3 ta tn tp hl h1 h2 he3 hs3 ha hn hp hT o1 n1 o2 n2
  refine Ev.step (Ev.imp4 base (Ev.and hv3 hr2) (Ev.and (Ev.and a1 (Ev.and a2 a3)) (Ev.and b1 (Ev.and b2 b3))) (Ev.and (Part_sp l hl) (Ev.ge 300)) fun N hb hvr hab hpt => ?_)
  obtain ⟨⟨hh, haw⟩, hr, hTot⟩ := hb
  obtain ⟨hv3, hr2⟩ := hvr
  obtain ⟨⟨hA1, hA2, hA3⟩, hB1, hB2, hB3⟩ := hab
  obtain ⟨hPart, hN⟩ := hpt
  obtain ⟨y, hy, hy2⟩ := hh o1 n1 o2 n2
  obtain ⟨z, hz⟩ := hv3 o1 n1 o2 n2
  have aw : ((C_parrylaw6_awake (K N)).bind fun r => some (lookR [(0, T.b (r 0).bool)])) = rb true := by rw [haw]; rfl
  have hu : (!(IntKind.wrap .u64 ((lookR [(0, T.i (totalE (varsOf l)))] 0).int) == 0)) = true := by
    rw [lookR_0, int_i, wrapu_eq (by omega) (by omega)]; simp; omega
  have hB0 : parrylaw6_ChoiceMore.B0 (K N) N ev st pk l o1 n1 k1 o2 n2 k2 te ts ta tn tp l o1 n1 k1 o2 n2 k2 te2 ts2 ta tn tp l o1 n1 k1 o2 n2 k2 te3 ts3 ta tn tp = rb true := by
    obtain ⟨M, hM⟩ : ∃ M, N = M + 1 := ⟨N - 1, by omega⟩
    have e : ∀ h : H, h = K N → parrylaw6_ChoiceMore.B0 h (M + 1) ev st pk l o1 n1 k1 o2 n2 k2 te ts ta tn tp l o1 n1 k1 o2 n2 k2 te2 ts2 ta tn tp l o1 n1 k1 o2 n2 k2 te3 ts3 ta tn tp = rb true := by
      intro h hh
      rw [parrylaw6_ChoiceMore.B0_eq]
      subst hh
      refine bind_of hz (if_both (fun _ => aw) fun _ => bind_of (hr2 o1 n1 o2 n2) (if_both (fun _ => aw) fun c2 => ?_))
      have c2 : mayM m2 = 0 := by rw [hm2]; simpa [lookR_0, int_i] using c2
      obtain ⟨_, q2, q3, q4, q5, q6⟩ := mayM_zero c2
      rw [hm2] at q4 q5
      simp only at q4 q5
      have hm0 := hm
      rw [hmd] at hm0
      have c3 : mayM m3 = 0 := by
        obtain ⟨_, r2, r3, r4, r5, r6⟩ := mayM_zero hm0
        rw [hm3]
        refine mayM_change hm0 r2 r3 ?_ ?_ ?_ ?_
        · rw [hte3]; split
          · rw [cmds_one1]; simp
          · rw [cmdsOf_len]; omega
        · rw [hts3]; split
          · rw [cmdsOf_len]; omega
          · rw [cmds_one1]; simp
        · rw [hte3]
          split
          · rename_i hev
            rw [hte2, if_pos hev, cmds_add] at q4
            rw [cmds_one1]
            exact firstE_zero.2 fun c hc => firstE_zero.1 q4 c (List.mem_append.2 (.inr hc))
          · exact r4
        · rw [hts3]
          split
          · exact r5
          · rename_i hev
            rw [hts2, if_neg hev, cmds_add] at q5
            rw [cmds_one1]
            exact firstE_zero.2 fun c hc => firstE_zero.1 q5 c (List.mem_append.2 (.inr hc))
      refine bind_of hTot (if_of hu (bind_of hTot (if_of hu ?_)))
      rw [lookR_0, int_i, ← hS, ← hPq]
      refine bind_of (hPart P true) ?_
      rw [lookR_0, int_i]
      have hA1 := hA1 S
      have hA2 := hA2 S
      have hA3 := hA3 S
      have hB1 := hB1 S (partE (varsOf l) P true)
      have hB2 := hB2 S (partE (varsOf l) P true)
      have hB3 := hB3 S (partE (varsOf l) P true)
      rw [← hmd] at hA1 hB1
      rw [← hm2] at hA2 hB2
      rw [← hm3] at hA3 hB3
      obtain ⟨t1, e1, i1⟩ := hA1
      obtain ⟨t2, e2, i2⟩ := hA2
      obtain ⟨t3, e3, i3⟩ := hA3
      obtain ⟨s1, f1, j1⟩ := hB1
      obtain ⟨s2, f2, j2⟩ := hB2
      obtain ⟨s3, f3, j3⟩ := hB3
      have v2 : m2.vars = varsOf l := by rw [hm2]
      have v3 : m3.vars = varsOf l := by rw [hm3]
      obtain ⟨x1, _, _⟩ := env_len (m := m) (s := S) (by rw [mv]; exact hT)
      obtain ⟨x2, x3, x4⟩ := env_len (m := m2) (s := S) (by rw [v2]; exact hT)
      obtain ⟨x5, _, _⟩ := env_len (m := m3) (s := S) (by rw [v3]; exact hT)
      obtain ⟨y1, _, _⟩ := sys_len (m := m) (s := S) (p := partE (varsOf l) P true) (by rw [mv]; exact hT)
      obtain ⟨y2, y3, y4⟩ := sys_len (m := m2) (s := S) (p := partE (varsOf l) P true) (by rw [v2]; exact hT)
      obtain ⟨y5, _, _⟩ := sys_len (m := m3) (s := S) (p := partE (varsOf l) P true) (by rw [v3]; exact hT)
      rw [v2] at x4 y4
      refine bind_of e1 (bind_of e2 (bind_of e3 ?_))
      have env1 : ∀ {mm : Md}, mayM mm = 0 → mm.vars = varsOf l → envE mm S = allE (varsOf l) mm.env (partE (varsOf l) S true) S S := by
        intro mm h1 h2
        unfold envE
        rw [if_neg (by simpa using h1), h2, if_neg (by omega)]
      have sys1 : ∀ {mm : Md}, mayM mm = 0 → mm.vars = varsOf l → sysE mm S (partE (varsOf l) P true) = allE (varsOf l) mm.sys (mixedE (varsOf l) S (partE (varsOf l) P true)) S (partE (varsOf l) P true) := by
        intro mm h1 h2
        unfold sysE
        rw [if_neg (by simpa using h1), h2, if_neg (by omega), if_neg (by rw [pkk]; simp)]
      cases ev with
      | true =>
        rw [if_pos rfl] at hte2 hte3
        refine if_not rfl ?_
        simp only [lookR_0]
        refine cmB1 i1 i2 i3 x1 x2 x5 x3 (fun x => ?_) (fun s => ⟨_, hPart s true, fun hs => by rw [if_pos rfl]; exact x4 s hs⟩) aw (by omega)
        rw [env1 hm mv, env1 c2 v2, env1 c3 v3]
        have g1 : m.env = cmdsOf te := by rw [hmd]
        have g2 : m2.env = cmdsOf te ++ [⟨.mk co cn (kidsOf ck), setsOf ct⟩] := by rw [hm2]; show cmdsOf te2 = _; rw [hte2, cmds_add]
        have g3 : m3.env = [⟨.mk co cn (kidsOf ck), setsOf ct⟩] := by rw [hm3]; show cmdsOf te3 = _; rw [hte3, cmds_one1]
        rw [g1, g2, g3]
        exact all_more
      | false =>
        rw [if_neg (by simp)] at hts2 hts3
        refine if_of rfl (bind_of f1 (bind_of f2 (bind_of f3 ?_)))
        simp only [lookR_0]
        refine cmB1 j1 j2 j3 y1 y2 y5 y3 (fun x => ?_) (fun s => ⟨_, hPart s true, fun hs => by rw [if_neg (by simp)]; exact y4 s hs⟩) aw (by omega)
        rw [sys1 hm mv, sys1 c2 v2, sys1 c3 v3]
        have g1 : m.sys = cmdsOf ts := by rw [hmd]
        have g2 : m2.sys = cmdsOf ts ++ [⟨.mk co cn (kidsOf ck), setsOf ct⟩] := by rw [hm2]; show cmdsOf ts2 = _; rw [hts2, cmds_add]
        have g3 : m3.sys = [⟨.mk co cn (kidsOf ck), setsOf ct⟩] := by rw [hm3]; show cmdsOf ts3 = _; rw [hts3, cmds_one1]
        rw [g1, g2, g3]
        exact all_more
    have := e (K N) rfl
    rw [← hM] at this
    exact this
  rw [C_parrylaw6_ChoiceMore_K]
  refine bind_of hy (if_both (fun _ => aw) fun c0 => bind_of (hr o1 n1 o2 n2) (if_both (fun _ => aw) fun c1 => bind_of hTot (if_both (fun _ => aw) fun _ => ?_)))
  cases ev with
  | true =>
    rw [if_pos rfl] at hte2 hts2 hte3 hts3
    refine if_of rfl (if_of (decide_eq_true (by omega)) (if_of (decide_eq_true (by omega)) ?_))
    subst hte2 hts2 hte3 hts3
    exact hB0
  | false =>
    rw [if_neg (by simp)] at hte2 hts2 hte3 hts3
    refine if_not rfl (if_of (decide_eq_true (by omega)) (if_of (decide_eq_true (by omega)) ?_))
    subst hte2 hts2 hte3 hts3
    exact hB0
end Go.Proofs.YtnjandhaeojieaaGreat
