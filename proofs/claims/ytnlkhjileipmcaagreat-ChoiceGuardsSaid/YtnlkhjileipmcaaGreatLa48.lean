/- The law ChoiceGuards: a command whose guard is false does nothing; one that sets nothing keeps all that is its side's. -/
import Derived.Test.YtnlkhjileipmcaaGreatLa47
set_option linter.unusedVariables false
set_option linter.unusedSimpArgs false
namespace Go.AM
open Go.Proofs.YtnlkhjileipmcaaGreat
theorem mask_mask {env : Bool} : ∀ (l : List Va) (xs : List Int), maskE env l (maskE env l xs) = maskE env l xs
  | [], _ => by simp [maskE]
  | _ :: _, [] => by simp [maskE]
  | v :: r, x :: xs => by
    have ih := mask_mask (env := env) r xs
    unfold maskE at ih ⊢
    simp only [List.zipWith_cons_cons, ih]
    congr 1
    split <;> rfl
theorem mask_mix_t : ∀ {l : List Va} {xs ys : List Int}, xs.length = l.length → ys.length = l.length → maskE true l (mixE l xs (maskE true l ys)) = maskE true l ys
  | [], _, _, _, _ => by simp [maskE]
  | _ :: _, [], _, h, _ => by simp at h
  | _ :: _, _ :: _, [], _, h => by simp at h
  | v :: r, x :: xs, y :: ys, h, k => by
    have ih := mask_mix_t (l := r) (xs := xs) (ys := ys) (by simpa using h) (by simpa using k)
    unfold maskE at ih ⊢
    simp only [List.zipWith_cons_cons, mixE, ih]
    congr 1
    split <;> rfl
theorem mask_mix_f : ∀ {l : List Va} {xs ys : List Int}, xs.length = l.length → ys.length = l.length → maskE false l (mixE l xs ys) = maskE false l xs
  | [], _, _, _, _ => by simp [maskE]
  | _ :: _, [], _, h, _ => by simp at h
  | _ :: _, _ :: _, [], _, h => by simp at h
  | v :: r, x :: xs, y :: ys, h, k => by
    have ih := mask_mix_f (l := r) (xs := xs) (ys := ys) (by simpa using h) (by simpa using k)
    unfold maskE at ih ⊢
    simp only [List.zipWith_cons_cons, mixE, ih]
    congr 1
    cases c : v.env <;> simp
theorem ok_state {l : List Va} (hm : mayV l = 0) {xs : List Int} (hr : InR l xs) : valuesOk l (stateFrom l xs) = true := by
  obtain ⟨ht, hp, hP⟩ := total_prod hm
  obtain ⟨a, b⟩ := state_range hp hr
  exact valuesOk_iff.2 ⟨hm, a, by rw [ht]; exact b⟩
theorem part_state {l : List Va} (hm : mayV l = 0) {xs : List Int} (hr : InR l xs) (env : Bool) : partE l (stateFrom l xs) env = stateFrom l (maskE env l xs) := by
  obtain ⟨ht, hp, hP⟩ := total_prod hm
  unfold partE
  rw [if_pos (ok_state hm hr), values_state hp hr]
theorem part_of {l : List Va} {s : Int} (h : valuesOk l s = true) (env : Bool) : partE l s env = stateFrom l (maskE env l (valuesFrom l s)) := by
  unfold partE
  rw [if_pos h]
theorem part_pick {l : List Va} {s : Int} (h : valuesOk l s = true) : pickE l (partE l s true) = true ∧ valuesOk l (partE l s true) = true := by
  obtain ⟨hm, s0, s1⟩ := valuesOk_iff.1 h
  obtain ⟨ht, hp, hP⟩ := total_prod hm
  have hr := InR_mask (env := true) hp (InR_values hp s0)
  have e : partE l (partE l s true) true = partE l s true := by
    rw [part_of h, part_state hm hr, mask_mask]
  have r := part_range (env := true) hm h
  refine ⟨?_, ?_⟩
  · unfold pickE
    rw [e, decide_eq_true r.1]
    simp
  · rw [part_of h]; exact ok_state hm hr
theorem part_mixed {l : List Va} {s p : Int} (h : valuesOk l s = true) (k : valuesOk l p = true) : partE l (mixedE l s (partE l p true)) true = partE l p true ∧ partE l (mixedE l s (partE l p true)) false = partE l s false := by
  obtain ⟨hm, s0, s1⟩ := valuesOk_iff.1 h
  obtain ⟨_, p0, p1⟩ := valuesOk_iff.1 k
  obtain ⟨ht, hp, hP⟩ := total_prod hm
  have hr := InR_values hp s0
  have hq := InR_values hp p0
  have hq' := InR_mask (env := true) hp hq
  have e : mixedE l s (partE l p true) = stateFrom l (mixE l (valuesFrom l s) (maskE true l (valuesFrom l p))) := by
    unfold mixedE
    rw [part_of k, values_state hp hq']
  rw [e, part_state hm (InR_mix hr hq'), part_state hm (InR_mix hr hq'), mask_mix_t hr.len hq.len, mask_mix_f hr.len hq'.len, part_of k, part_of h]
  exact ⟨rfl, rfl⟩
theorem all_bare (l : List Va) (g : Ex) (keeps now next : Int) : allE l [⟨g, []⟩] keeps now next = if trueE l g now next = true then [keeps] else [] := by
  unfold allE
  simp only [List.flatMap_cons, List.flatMap_nil, List.append_nil]
  have e : leadsE l ⟨g, []⟩ keeps now next = if trueE l g now next = true then [keeps] else [] := rfl
  rw [e]
  split
  · rw [List.mergeSort_singleton]; rfl
  · rw [List.mergeSort_nil]; rfl
end Go.AM
namespace Go.Proofs.YtnlkhjileipmcaaGreat
open Go.AM
theorem ChoiceGuards_sp (l : T) (o1 n1 : Int) (k1 : T) (o2 n2 : Int) (k2 te ts ta tn tp : T) (go gn : Int) (gk : T) (st v : Int) (wl : WT Tryz.prog 22 l) (w1 : WT Tryz.prog 23 k1) (w2 : WT Tryz.prog 23 k2) (we : WT Tryz.prog 26 te) (ws : WT Tryz.prog 26 ts) (wa : WT Tryz.prog 23 ta) (wn : WT Tryz.prog 23 tn) (wp : WT Tryz.prog 23 tp) (wk : WT Tryz.prog 23 gk) :
    Ev fun N => C_parrylaw6_ChoiceGuards (K N) l o1 n1 k1 o2 n2 k2 te ts ta tn tp go gn gk st v = rb true := by
  have hl := WT_len wl
  have h1 := WT_KW w1
  have h2 := WT_KW w2
  have he := WT_KC we
  have hs := WT_KC ws
  have ha := WT_KW wa
  have hn := WT_KW wn
  have hp := WT_KW wp
  have hk := WT_KW wk
  have hno : KC noT := ⟨by show 0 ≤ _; omega, fun i hi => absurd hi (Nat.not_lt_zero _)⟩
  have hsn : KS noT := ⟨by show 0 ≤ _; omega, fun i hi => absurd hi (Nat.not_lt_zero _)⟩
  have hC : KC (oneC go gn gk noT) := KC_one rfl hk hsn
  have base := Ev.imp4 (Ev.and (heavy6_sp l k1 k2 te ts ta tn tp hl h1 h2 he hs ha hn hp) (heavyM_sp noT gk noT noT noT noT noT noT (by show 0 ≤ _; omega) hk KW_noT hno hno KW_noT KW_noT KW_noT)) (Ev.and (refMayM_sp l hl k1 k2 te ts ta tn tp h1 h2 he hs ha hn hp) (refMayM_sp l hl k1 k2 (oneC go gn gk noT) (oneC go gn gk noT) ta tn tp h1 h2 hC hC ha hn hp)) (Total_sp l hl) awake6_sp fun N a b c d => (⟨a, b, c, d⟩ : _ ∧ _ ∧ _ ∧ _)
  by_cases good : mayM ⟨varsOf l, .mk o1 n1 (kidsOf k1), .mk o2 n2 (kidsOf k2), cmdsOf (oneC go gn gk noT), cmdsOf (oneC go gn gk noT), kidsOf ta, kidsOf tn, kidsOf tp⟩ = 0 ∧ prodV (varsOf l) ≤ 24
  case neg =>
    refine Ev.step (base.imp fun N hb => ?_)
    obtain ⟨⟨hh, hh2⟩, ⟨hr, hr2⟩, htot, haw⟩ := hb
    obtain ⟨y, hy, hy2⟩ := hh o1 n1 o2 n2
    obtain ⟨z, hz⟩ := hh2 go gn 0 0
    have aw : ((C_parrylaw6_awake (K N)).bind fun r => some (lookR [(0, T.b (r 0).bool)])) = rb true := by rw [haw]; rfl
    rw [C_parrylaw6_ChoiceGuards_K]
    refine bind_of hy (if_both (fun _ => aw) fun c0 => bind_of hz (if_both (fun _ => aw) fun _ => bind_of (hr o1 n1 o2 n2) (if_both (fun _ => aw) fun c1 => bind_of htot (if_both (fun _ => aw) fun _ => bind_of (hr2 o1 n1 o2 n2) (if_both (fun _ => aw) fun c2 => ?_)))))
    exfalso
    have c0 : ¬ 0 < y := of_decide_eq_false c0
    have c1 : mayM ⟨varsOf l, .mk o1 n1 (kidsOf k1), .mk o2 n2 (kidsOf k2), cmdsOf te, cmdsOf ts, kidsOf ta, kidsOf tn, kidsOf tp⟩ = 0 := by simpa [lookR_0, int_i] using c1
    have c2 : mayM ⟨varsOf l, .mk o1 n1 (kidsOf k1), .mk o2 n2 (kidsOf k2), cmdsOf (oneC go gn gk noT), cmdsOf (oneC go gn gk noT), kidsOf ta, kidsOf tn, kidsOf tp⟩ = 0 := by simpa [lookR_0, int_i] using c2
    exact good ⟨c2, hy2 c0 (mayM_zero c1).1⟩
  obtain ⟨c2, hP⟩ := good
  have cm := (mayM_zero c2).1
  simp only at cm
  obtain ⟨hto, hpos, hP5⟩ := total_prod cm
  have hpp := prodV_pos hpos
  obtain ⟨S, hS⟩ : ∃ S, S = IntKind.wrap .i64 (Int.tmod (IntKind.wrap .u64 st) (IntKind.wrap .u64 (totalE (varsOf l)))) := ⟨_, rfl⟩
  obtain ⟨P, hPq⟩ : ∃ P, P = IntKind.wrap .i64 (Int.tmod (IntKind.wrap .u64 v) (IntKind.wrap .u64 (totalE (varsOf l)))) := ⟨_, rfl⟩
  have sr := mod_range st (n := totalE (varsOf l)) (by omega) (by omega)
  have pr := mod_range v (n := totalE (varsOf l)) (by omega) (by omega)
  rw [← hS] at sr
  rw [← hPq] at pr
  have okS : valuesOk (varsOf l) S = true := valuesOk_iff.2 ⟨cm, sr⟩
  have okP : valuesOk (varsOf l) P = true := valuesOk_iff.2 ⟨cm, pr⟩
  have mA := cEnv_sp l k1 k2 (oneC go gn gk noT) (oneC go gn gk noT) ta tn tp hl h1 h2 hC hC ha hn hp (fun _ => hP) o1 n1 o2 n2
  have mB := cSys_sp l k1 k2 (oneC go gn gk noT) (oneC go gn gk noT) ta tn tp hl h1 h2 hC hC ha hn hp (fun _ => hP) o1 n1 o2 n2
  have hPr := part_range (env := true) cm okS
  obtain ⟨pk, pk2⟩ := part_pick okP
  have eA : envE ⟨varsOf l, .mk o1 n1 (kidsOf k1), .mk o2 n2 (kidsOf k2), cmdsOf (oneC go gn gk noT), cmdsOf (oneC go gn gk noT), kidsOf ta, kidsOf tn, kidsOf tp⟩ S = if trueE (varsOf l) (.mk go gn (kidsOf gk)) S S = true then [partE (varsOf l) S true] else [] := by
    unfold envE
    rw [if_neg (by simpa using c2), if_neg (by show ¬ partE (varsOf l) S true < 0; omega)]
    exact all_bare ..
  have eB : sysE ⟨varsOf l, .mk o1 n1 (kidsOf k1), .mk o2 n2 (kidsOf k2), cmdsOf (oneC go gn gk noT), cmdsOf (oneC go gn gk noT), kidsOf ta, kidsOf tn, kidsOf tp⟩ S (partE (varsOf l) P true) = if trueE (varsOf l) (.mk go gn (kidsOf gk)) S (partE (varsOf l) P true) = true then [mixedE (varsOf l) S (partE (varsOf l) P true)] else [] := by
    unfold sysE
    rw [if_neg (by simpa using c2), if_neg (by show ¬ partE (varsOf l) S true < 0; omega), if_neg (by show ¬ pickE (varsOf l) (partE (varsOf l) P true) = false; rw [pk]; simp)]
    exact all_bare ..
  obtain ⟨q1, q2⟩ := part_mixed okS okP
  refine Ev.step (Ev.imp4 base (Ev.and mA mB) (Ev.and (Part_sp l hl) (True_sp l hl gk hk)) (Ev.ge 20) fun N hb hAB hPT hN => ?_)
  obtain ⟨⟨hh, hh2⟩, ⟨hr, hr2⟩, htot, haw⟩ := hb
  obtain ⟨hA, hB⟩ := hAB
  obtain ⟨hPart, hTrue⟩ := hPT
  obtain ⟨y, hy, hy2⟩ := hh o1 n1 o2 n2
  obtain ⟨z, hz⟩ := hh2 go gn 0 0
  have aw : ((C_parrylaw6_awake (K N)).bind fun r => some (lookR [(0, T.b (r 0).bool)])) = rb true := by rw [haw]; rfl
  have hA := hA S
  have hB := hB S (partE (varsOf l) P true)
  rw [eA] at hA
  rw [eB] at hB
  obtain ⟨tA, eA, lA, iA⟩ := hA
  obtain ⟨tB, eB, lB, iB⟩ := hB
  have hu : (!(IntKind.wrap .u64 ((lookR [(0, T.i (totalE (varsOf l)))] 0).int) == 0)) = true := by
    rw [lookR_0, int_i, wrapu_eq (by omega) (by omega)]; simp; omega
  rw [C_parrylaw6_ChoiceGuards_K]
  refine bind_of hy (if_both (fun _ => aw) fun c0 => bind_of hz (if_both (fun _ => aw) fun _ => bind_of (hr o1 n1 o2 n2) (if_both (fun _ => aw) fun c1 => bind_of htot (if_both (fun _ => aw) fun _ => bind_of (hr2 o1 n1 o2 n2) (if_not (by simp [lookR_0, int_i, c2]) (bind_of htot (if_of hu (bind_of htot (if_of hu ?_)))))))))
  rw [lookR_0, int_i, ← hS, ← hPq]
  refine bind_of (hPart P true) ?_
  rw [lookR_0, int_i]
  refine bind_of eA (bind_of eB (bind_of (hTrue go gn S S) ?_))
  simp only [lookR_0]
  have fin : parrylaw6_ChoiceGuards.B0 (K N) N S (partE (varsOf l) P true) tB l o1 n1 k1 o2 n2 k2 (oneC go gn gk noT) (oneC go gn gk noT) ta tn tp go gn gk = rb true := by
    obtain ⟨N, rfl⟩ : ∃ M, N = M + 1 := ⟨N - 1, by omega⟩
    rw [parrylaw6_ChoiceGuards.B0_eq]
    refine bind_of (hTrue go gn S (partE (varsOf l) P true)) ?_
    rw [lookR_0]
    show (bif !(trueE (varsOf l) (.mk go gn (kidsOf gk)) S (partE (varsOf l) P true)) then _ else _) = _
    cases d : trueE (varsOf l) (.mk go gn (kidsOf gk)) S (partE (varsOf l) P true) with
    | false =>
      rw [d, if_neg (by simp)] at lB
      have lB : tB.len = 0 := lB
      exact if_of rfl (if_of (by rw [lB]; rfl) aw)
    | true =>
      rw [d, if_pos rfl] at lB iB
      have lB : tB.len = 1 := lB
      have iB : (tB.el 0 0).int = mixedE (varsOf l) S (partE (varsOf l) P true) := iB 0 _ rfl
      rw [iB]
      refine if_not rfl (if_of (by rw [lB]; rfl) (if_of (by rw [lB]; rfl) (bind_of (hPart _ true) ?_)))
      rw [lookR_0, int_i, q1]
      refine if_of (beq_self_eq_true _) (if_of (by rw [lB]; rfl) (bind_of (hPart _ false) (bind_of (hPart S false) (if_of ?_ aw))))
      simp only [lookR_0, int_i, q2]
      exact beq_self_eq_true _
  show (bif !(trueE (varsOf l) (.mk go gn (kidsOf gk)) S S) then _ else _) = _
  cases d : trueE (varsOf l) (.mk go gn (kidsOf gk)) S S with
  | false =>
    rw [d, if_neg (by simp)] at lA
    have lA : tA.len = 0 := lA
    exact if_of rfl (if_not (by rw [lA]; rfl) fin)
  | true =>
    rw [d, if_pos rfl] at lA iA
    have lA : tA.len = 1 := lA
    have iA : (tA.el 0 0).int = partE (varsOf l) S true := iA 0 _ rfl
    refine if_not rfl (if_not (by rw [lA]; rfl) (if_of (decide_eq_true (by show (0 : Int) < (tA.len : Int); omega)) (bind_of (hPart S true) (if_not ?_ fin))))
    rw [lookR_0, int_i, iA]
    simp
end Go.Proofs.YtnlkhjileipmcaaGreat
