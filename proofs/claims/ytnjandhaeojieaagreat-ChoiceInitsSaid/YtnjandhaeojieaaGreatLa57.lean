/- The law ChoiceInits: the beginnings are just the states where both inits are true. -/
import Derived.Test.YtnjandhaeojieaaGreatLa56
import Derived.Test.YtnjandhaeojieaaGreatLa50
import Derived.Test.YtnjandhaeojieaaGreatMp1
set_option linter.unusedVariables false
set_option linter.unusedSimpArgs false
namespace Go.Proofs.YtnjandhaeojieaaGreat
open Go.AM
theorem upFrom_nodup (m : Nat) (i : Int) : (upFrom i m).Nodup := (upFrom_rise m i).imp fun h e => by omega
theorem initEnv_mem {m : Md} (h : mayM m = 0) {p : Int} : p ∈ initEnvE m ↔ (0 ≤ p ∧ p < totalE m.vars) ∧ pickE m.vars p = true ∧ trueE m.vars m.ie p p = true := by
  unfold initEnvE
  rw [if_neg (by simpa using h), List.mem_filter, upFrom_mem, Bool.and_eq_true]
  constructor <;> rintro ⟨h1, h2⟩ <;> exact ⟨by omega, h2⟩
theorem initSys_mem {m : Md} (h : mayM m = 0) {p s : Int} (hp : pickE m.vars p = true) : s ∈ initSysE m p ↔ (0 ≤ s ∧ s < totalE m.vars) ∧ partE m.vars s true = p ∧ trueE m.vars m.is s s = true := by
  unfold initSysE
  rw [if_neg (by simpa using h), if_neg (by simp [hp]), List.mem_filter, upFrom_mem, Bool.and_eq_true, beq_iff_eq]
  constructor <;> rintro ⟨h1, h2⟩ <;> exact ⟨by omega, h2⟩
theorem initEnv_nodup (m : Md) : (initEnvE m).Nodup := by
  unfold initEnvE
  split
  · simp
  · exact (upFrom_nodup ..).filter _
theorem initSys_nodup (m : Md) (p : Int) : (initSysE m p).Nodup := by
  unfold initSysE
  split
  · simp
  · split
    · simp
    · exact (upFrom_nodup ..).filter _
section
variable {h : H} {l : T} {o1 n1 : Int} {k1 : T} {o2 n2 : Int} {k2 te ts ta tn tp : T}
theorem ciB1 {a : Nat} {p A i : Int} {gA : Nat → Nat → T} {t : T} {Lb : List Int} (ht : Ints t Lb) (hb : Lb.length ≤ 24) (hP : ∀ s ∈ Lb, C_dom_Part h l s true = ri p) (hn : Lb.Nodup) (hi : 0 ≤ i) (hi2 : i ≤ 1000) :
    ∀ (m j : Nat), j + m = Lb.length → ∀ (M : Nat) (x : T) (ks : List Int), IS x ks → (∀ s ∈ Lb.drop j, s ∉ ks) →
      ∃ x', IS x' (ks ++ Lb.drop j) ∧ parrylaw6_ChoiceInits.B1 h (m + 1 + M) a t.len p A i (t.len : Int) (j : Int) l o1 n1 k1 o2 n2 k2 te ts ta tn tp x gA (fun i j => t.el i j) = parrylaw6_ChoiceInits.B0 h M a A (i + 1) l o1 n1 k1 o2 n2 k2 te ts ta tn tp x' gA
  | 0, j, hj, M, x, ks, hx, hk => by
    refine ⟨x, by rw [List.drop_eq_nil_of_le (by omega), List.append_nil]; exact hx, ?_⟩
    rw [Nat.zero_add, Nat.add_comm 1 M, parrylaw6_ChoiceInits.B1_eq, wrap_eq (a := i + 1) (by omega) (by omega)]
    exact if_not (decide_eq_false (by rw [ht.1]; omega)) rfl
  | m + 1, j, hj, M, x, ks, hx, hk => by
    have hlt : j < Lb.length := by omega
    have hl : t.len = Lb.length := ht.1
    have hs := ht.el0 hlt
    have hd : Lb.drop j = Lb[j] :: Lb.drop (j + 1) := List.drop_eq_getElem_cons hlt
    have hnk : Lb[j] ∉ ks := hk _ (by rw [hd]; exact List.mem_cons_self ..)
    have hx2 := hx.set (b := Lb[j])
    rw [if_neg hnk] at hx2
    have hnd : (Lb.drop j).Nodup := hn.sublist (List.drop_sublist j Lb)
    rw [hd, List.nodup_cons] at hnd
    obtain ⟨x', h1, h2⟩ := ciB1 ht hb hP hn hi hi2 m (j + 1) (by omega) M _ _ hx2 (fun s hsm => by
      rw [List.mem_append, List.mem_singleton]
      rintro (q | q)
      · exact hk s (by rw [hd]; exact List.mem_cons_of_mem _ hsm) q
      · subst q; exact hnd.1 hsm)
    refine ⟨x', by rw [hd]; simpa using h1, ?_⟩
    rw [← h2, show m + 1 + 1 + M = (m + 1 + M) + 1 by omega, parrylaw6_ChoiceInits.B1_eq, wrap_eq (a := (j : Int) + 1) (by omega) (by omega)]
    refine if_of (decide_eq_true (by omega)) (if_of (by simp; omega) (if_of (decide_eq_true (by simp; omega)) ?_))
    simp only [Int.toNat_natCast, Nat.zero_add, hs]
    refine if_not ?_ (bind_of (hP _ (List.getElem_mem hlt)) (if_not ?_ rfl))
    · rw [hx.get, if_neg hnk]; rfl
    · rw [lookR_0, int_i]; simp
end
section
variable (l k1 k2 te ts ta tn tp : T) (hl : l.len ≤ 9223372036854775807) (h1 : KW k1) (h2 : KW k2) (he : KC te) (hs : KC ts) (ha : KW ta) (hn : KW tn) (hp : KW tp)
theorem ciB0 {h : H} {o1 n1 o2 n2 : Int} {m : Md} {t : T} {La : List Int} {Q : Option R} (hm : mayM m = 0) (hT : totalE m.vars ≤ 24) (hLa : La = initEnvE m) (hlen : La.length ≤ 24) (hlenB : ∀ p, (initSysE m p).length ≤ 24) (ht : Ints t La) (hP : ∀ s, C_dom_Part h l s true = ri (partE m.vars s true))
    (hS : ∀ p, Gives (initSysE m p) (C_choice_InitSys h l o1 n1 k1 o2 n2 k2 te ts ta tn tp p)) (hE : ∀ x M, 100 ≤ M → IS x (La.flatMap (initSysE m)) → (C_parryref1_Total h l).bind (fun r => parrylaw6_ChoiceInits.B2 h M ((r 0).int) (0 : Int) l o1 n1 k1 o2 n2 k2 te ts ta tn tp x) = Q) :
    ∀ (k i : Nat), i + k = La.length → ∀ (N : Nat) (x : T), 200 + 30 * k ≤ N → IS x ((La.take i).flatMap (initSysE m)) → parrylaw6_ChoiceInits.B0 h N t.len (t.len : Int) (i : Int) l o1 n1 k1 o2 n2 k2 te ts ta tn tp x (fun i j => t.el i j) = Q
  | 0, i, hi, N, x, hN, hx => by
    obtain ⟨N, rfl⟩ : ∃ M, N = M + 1 := ⟨N - 1, by omega⟩
    rw [parrylaw6_ChoiceInits.B0_eq]
    rw [List.take_of_length_le (by omega)] at hx
    exact if_not (decide_eq_false (by rw [ht.1]; omega)) (hE x N (by omega) hx)
  | k + 1, i, hi, N, x, hN, hx => by
    obtain ⟨N, rfl⟩ : ∃ M, N = M + 1 := ⟨N - 1, by omega⟩
    have hlt : i < La.length := by omega
    have hl : t.len = La.length := ht.1
    have hs := ht.el0 hlt
    have hmem : La[i] ∈ initEnvE m := hLa ▸ List.getElem_mem hlt
    obtain ⟨r1, r2, r3⟩ := (initEnv_mem hm).1 hmem
    have hpart : partE m.vars La[i] true = La[i] := by
      have := r2
      unfold pickE at this
      rw [Bool.and_eq_true] at this
      exact eq_of_beq this.2
    obtain ⟨tb, eb, lb, ib⟩ := hS La[i]
    have hnd : La.Nodup := hLa ▸ initEnv_nodup m
    obtain ⟨x', q1, q2⟩ := ciB1 (h := h) (l := l) (o1 := o1) (n1 := n1) (k1 := k1) (o2 := o2) (n2 := n2) (k2 := k2) (te := te) (ts := ts) (ta := ta) (tn := tn) (tp := tp) (a := t.len) (p := La[i]) (A := (t.len : Int)) (i := (i : Int)) (gA := fun i j => t.el i j) (t := tb) ⟨lb, ib⟩ (hlenB _)
      (fun s hsm => by rw [hP, ((initSys_mem hm r2).1 hsm).2.1]) (initSys_nodup m _) (by omega) (by omega) (initSysE m La[i]).length 0 (by omega) (N - ((initSysE m La[i]).length + 1)) x _ hx (fun s hsm hk => by
        rw [List.drop_zero] at hsm
        obtain ⟨p', hp', hs'⟩ := List.mem_flatMap.1 hk
        have e1 := ((initSys_mem hm r2).1 hsm).2.1
        have r2' := ((initEnv_mem hm).1 (hLa ▸ List.mem_of_mem_take hp')).2.1
        have e2 := ((initSys_mem hm r2').1 hs').2.1
        rw [e1] at e2
        obtain ⟨q, hq, hq2⟩ := List.getElem_of_mem hp'
        rw [List.getElem_take] at hq2
        have hq3 : q < i := by simp at hq; omega
        have := (List.getElem_inj (h₀ := hlt) (h₁ := (by omega : q < La.length)) hnd).1 (e2.trans hq2.symm)
        omega)
    rw [List.drop_zero] at q1
    have hx' : IS x' ((La.take (i + 1)).flatMap (initSysE m)) := by
      rw [List.take_succ_eq_append_getElem hlt, List.flatMap_append]
      simpa using q1
    have ih := ciB0 hm hT hLa hlen hlenB ht hP hS hE k (i + 1) (by omega) (N - ((initSysE m La[i]).length + 1)) x' (by have := hlenB La[i]; omega) hx'
    rw [show (initSysE m La[i]).length + 1 + (N - ((initSysE m La[i]).length + 1)) = N by have := hlenB La[i]; omega] at q2
    rw [parrylaw6_ChoiceInits.B0_eq]
    refine if_of (decide_eq_true (by omega)) (if_of (by simp; omega) (if_of (decide_eq_true (by simp; omega)) ?_))
    simp only [Int.toNat_natCast, Nat.zero_add, hs]
    refine bind_of (hP La[i]) (if_not (by rw [lookR_0, int_i, hpart]; simp) (bind_of eb ?_))
    simp only [lookR_0]
    exact q2.trans ih
theorem ciB2 {h : H} {o1 n1 o2 n2 : Int} {m : Md} {x : T} {La : List Int} {Q : Option R} (hm : mayM m = 0) (hT : totalE m.vars ≤ 24) (hLa : La = initEnvE m) (hx : IS x (La.flatMap (initSysE m))) (hP : ∀ s, C_parryref1_Part h l s true = ri (partE m.vars s true))
    (hE1 : ∀ p, C_eval_True h l o1 n1 k1 p p = rb (trueE m.vars m.ie p p)) (hE2 : ∀ p, C_eval_True h l o2 n2 k2 p p = rb (trueE m.vars m.is p p)) (hQ : ((C_parrylaw6_awake h).bind fun r => some (lookR [(0, T.b (r 0).bool)])) = Q) :
    ∀ (k i : Nat), (i + k : Int) = totalE m.vars → ∀ (N : Nat), 2 * k + 2 ≤ N → parrylaw6_ChoiceInits.B2 h N (totalE m.vars) (i : Int) l o1 n1 k1 o2 n2 k2 te ts ta tn tp x = Q
  | 0, i, hi, N, hN => by
    obtain ⟨N, rfl⟩ : ∃ M, N = M + 1 := ⟨N - 1, by omega⟩
    rw [parrylaw6_ChoiceInits.B2_eq]
    exact if_not (decide_eq_false (by omega)) hQ
  | k + 1, i, hi, N, hN => by
    obtain ⟨N, rfl⟩ : ∃ M, N = M + 2 := ⟨N - 2, by omega⟩
    have ih := ciB2 hm hT hLa hx hP hE1 hE2 hQ k (i + 1) (by omega) N (by omega)
    have b3 : parrylaw6_ChoiceInits.B3 h (N + 1) (totalE m.vars) (i : Int) l o1 n1 k1 o2 n2 k2 te ts ta tn tp x = Q := by
      rw [parrylaw6_ChoiceInits.B3_eq, wrap_eq (a := (i : Int) + 1) (by omega) (by omega)]
      exact ih
    have cm := (mayM_zero hm).1
    have okS : valuesOk m.vars (i : Int) = true := valuesOk_iff.2 ⟨cm, by omega, by omega⟩
    have pr := part_range (env := true) cm okS
    have pk := (part_pick okS).1
    have key : (i : Int) ∈ La.flatMap (initSysE m) ↔ trueE m.vars m.ie (partE m.vars i true) (partE m.vars i true) = true ∧ trueE m.vars m.is i i = true := by
      rw [List.mem_flatMap, hLa]
      constructor
      · rintro ⟨p, hp1, hp2⟩
        obtain ⟨_, q2, q3⟩ := (initEnv_mem hm).1 hp1
        obtain ⟨_, q5, q6⟩ := (initSys_mem hm q2).1 hp2
        rw [q5]
        exact ⟨q3, q6⟩
      · rintro ⟨q1, q2⟩
        exact ⟨partE m.vars i true, (initEnv_mem hm).2 ⟨pr, pk, q1⟩, (initSys_mem hm pk).2 ⟨⟨by omega, by omega⟩, rfl, q2⟩⟩
    rw [parrylaw6_ChoiceInits.B2_eq]
    refine if_of (decide_eq_true (by omega)) (bind_of (hP i) ?_)
    rw [lookR_0, int_i]
    refine bind_of (hE1 _) ?_
    rw [lookR_0]
    show (bif trueE m.vars m.ie (partE m.vars i true) (partE m.vars i true) then _ else _) = _
    have hg := hx.get (b := (i : Int))
    cases c1 : trueE m.vars m.ie (partE m.vars i true) (partE m.vars i true) with
    | true =>
      refine if_of rfl (bind_of (hE2 _) ?_)
      rw [lookR_0, hg]
      refine if_not ?_ b3
      show (!(((if (i : Int) ∈ La.flatMap (initSysE m) then (1 : Int) else 0) == 1) == trueE m.vars m.is i i)) = false
      by_cases c2 : trueE m.vars m.is i i = true
      · rw [if_pos (key.2 ⟨c1, c2⟩), c2]; rfl
      · rw [if_neg (fun q => c2 (key.1 q).2), Bool.eq_false_iff.2 c2]; rfl
    | false =>
      refine if_not rfl (if_not ?_ b3)
      rw [hg, if_neg (fun q => by rw [(key.1 q).1] at c1; cases c1)]
      rfl
end
theorem ChoiceInits_sp (l : T) (o1 n1 : Int) (k1 : T) (o2 n2 : Int) (k2 te ts ta tn tp : T) (wl : WT Tryz.prog 22 l) (w1 : WT Tryz.prog 23 k1) (w2 : WT Tryz.prog 23 k2) (we : WT Tryz.prog 26 te) (ws : WT Tryz.prog 26 ts) (wa : WT Tryz.prog 23 ta) (wn : WT Tryz.prog 23 tn) (wp : WT Tryz.prog 23 tp) :
    Ev fun N => C_parrylaw6_ChoiceInits (K N) l o1 n1 k1 o2 n2 k2 te ts ta tn tp = rb true := by
  have hl := WT_len wl
  have h1 := WT_KW w1
  have h2 := WT_KW w2
  have he := WT_KC we
  have hs := WT_KC ws
  have ha := WT_KW wa
  have hn := WT_KW wn
  have hp := WT_KW wp
  obtain ⟨m, hmd⟩ : ∃ m : Md, m = ⟨varsOf l, .mk o1 n1 (kidsOf k1), .mk o2 n2 (kidsOf k2), cmdsOf te, cmdsOf ts, kidsOf ta, kidsOf tn, kidsOf tp⟩ := ⟨_, rfl⟩
  have base := Ev.and (Ev.and (heavy6_sp l k1 k2 te ts ta tn tp hl h1 h2 he hs ha hn hp) awake6_sp) (refMayM_sp l hl k1 k2 te ts ta tn tp h1 h2 he hs ha hn hp)
  by_cases good : mayM m = 0 ∧ prodV (varsOf l) ≤ 24
  case neg =>
    refine Ev.step (base.imp fun N hb => ?_)
    obtain ⟨⟨hh, haw⟩, hr⟩ := hb
    obtain ⟨y, hy, hy2⟩ := hh o1 n1 o2 n2
    have aw : ((C_parrylaw6_awake (K N)).bind fun r => some (lookR [(0, T.b (r 0).bool)])) = rb true := by rw [haw]; rfl
    rw [C_parrylaw6_ChoiceInits_K]
    refine bind_of hy (if_both (fun _ => aw) fun c0 => bind_of (hr o1 n1 o2 n2) (if_both (fun _ => aw) fun c1 => ?_))
    exfalso
    have c1 : mayM m = 0 := by rw [hmd]; simpa [lookR_0, int_i] using c1
    refine good ⟨c1, hy2 (of_decide_eq_false c0) ?_⟩
    have := (mayM_zero c1).1
    rw [hmd] at this
    exact this
  obtain ⟨hm, hP⟩ := good
  have mv : m.vars = varsOf l := by rw [hmd]
  have cm := (mayM_zero hm).1
  rw [mv] at cm
  have hto := (total_prod cm).1
  have a1 := InitEnv_sp l k1 k2 te ts ta tn tp hl h1 h2 he hs ha hn hp
  have b1 := InitSys_sp l k1 k2 te ts ta tn tp hl h1 h2 he hs ha hn hp
  have lA : (initEnvE m).length ≤ 24 := by
    unfold initEnvE
    rw [if_neg (by simpa using hm)]
    exact filt24 (by rw [mv]; exact cm) (by rw [mv]; exact hP)
  have lB : ∀ p, (initSysE m p).length ≤ 24 := by
    intro p
    unfold initSysE
    rw [if_neg (by simpa using hm)]
    split
    · simp
    · exact filt24 (by rw [mv]; exact cm) (by rw [mv]; exact hP)
  refine Ev.step (Ev.imp4 base (Ev.and a1 b1) (Ev.and (Ev.and (Part_sp l hl) (refPart_sp l hl cm)) (refTotal_sp l hl cm)) (Ev.and (Ev.and (True_sp l hl k1 h1) (True_sp l hl k2 h2)) (Ev.ge 2000)) fun N hb hab hpt htn => ?_)
  obtain ⟨⟨hh, haw⟩, hr⟩ := hb
  obtain ⟨hA, hB⟩ := hab
  obtain ⟨⟨hPart, hRP⟩, hTot⟩ := hpt
  obtain ⟨⟨hT1, hT2⟩, hN⟩ := htn
  obtain ⟨y, hy, hy2⟩ := hh o1 n1 o2 n2
  have aw : ((C_parrylaw6_awake (K N)).bind fun r => some (lookR [(0, T.b (r 0).bool)])) = rb true := by rw [haw]; rfl
  have hA := hA o1 n1 o2 n2
  rw [← hmd] at hA
  obtain ⟨t, et, lt, it⟩ := hA
  rw [C_parrylaw6_ChoiceInits_K]
  refine bind_of hy (if_both (fun _ => aw) fun c0 => bind_of (hr o1 n1 o2 n2) (if_both (fun _ => aw) fun c1 => bind_of et ?_))
  simp only [lookR_0]
  refine ciB0 (m := m) (La := initEnvE m) l k1 k2 te ts ta tn tp hm (by rw [mv]; omega) rfl lA lB ⟨lt, it⟩ (fun s => by rw [mv]; exact hPart s true) (fun p => by have := hB o1 n1 o2 n2 p; rw [← hmd] at this; exact this) (fun x M hM hx => ?_) (initEnvE m).length 0 (by omega) N noT (by omega) IS.nil
  refine bind_of hTot ?_
  rw [lookR_0, int_i, ← mv]
  have htn := (mayM_zero hm).1
  have := (total_prod htn).2.2
  have tpos : 0 ≤ totalE m.vars := by have := prodV_pos (total_prod htn).2.1; have := (total_prod htn).1; omega
  refine ciB2 (m := m) (La := initEnvE m) l k1 k2 te ts ta tn tp hm (by rw [mv]; omega) rfl hx (fun s => by rw [mv]; exact hRP s true) (fun p => ?_) (fun p => ?_) aw (totalE m.vars).toNat 0 (by omega) M (by rw [mv] at *; omega)
  · have := hT1 o1 n1 p p
    rw [hmd]; exact this
  · have := hT2 o2 n2 p p
    rw [hmd]; exact this
end Go.Proofs.YtnjandhaeojieaaGreat
