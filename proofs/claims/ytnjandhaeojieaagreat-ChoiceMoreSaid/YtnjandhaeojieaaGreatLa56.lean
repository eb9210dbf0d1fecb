/- The law ChoiceForms: what may be chosen is what the document says. -/
import Derived.Test.YtnjandhaeojieaaGreatLa55
set_option linter.unusedVariables false
set_option linter.unusedSimpArgs false
namespace Go.AM
open Go.Proofs.YtnjandhaeojieaaGreat
theorem all_mem {l : List Va} {cs : List Cm} {keeps now next x : Int} : x ∈ allE l cs keeps now next ↔ ∃ c ∈ cs, x ∈ leadsE l c keeps now next := by
  unfold allE
  rw [(sortUp _).2, List.mem_flatMap]
theorem leads_range {l : List Va} {c : Cm} {keeps now next x : Int} (hp : Pos l) (hk : 0 ≤ keeps ∧ keeps < prodV l) (hin : SetsIn l c.sets) (h : x ∈ leadsE l c keeps now next) : 0 ≤ x ∧ x < prodV l := by
  unfold leadsE at h
  split at h
  · exact sts_leads hp (fun y hy => by rw [List.mem_singleton.1 hy]; exact hk) hin x h
  · cases h
theorem all_filter {l : List Va} {cs : List Cm} {b : Bool} {keeps s n : Int} {f : Cm → Int → Bool} (hm : mayV l = 0) (hc : ∀ c ∈ cs, mayCmd l b c = 0) (hk : 0 ≤ keeps ∧ keeps < prodV l)
    (hf : ∀ c ∈ cs, ∀ x, 0 ≤ x → x < prodV l → (x ∈ leadsE l c keeps s n ↔ f c x = true)) : allE l cs keeps s n = (upFrom 0 (prodV l).toNat).filter fun x => cs.any fun c => f c x := by
  obtain ⟨_, hp, _⟩ := total_prod hm
  have h0 := prodV_pos hp
  refine rise_ext (sortUp _).1 ((upFrom_rise _ _).filter _) fun x => ?_
  rw [all_mem, List.mem_filter, upFrom_mem, List.any_eq_true]
  constructor
  · rintro ⟨c, hcs, h⟩
    have hx := leads_range hp hk (mayCmd_in (hc c hcs)).1 h
    exact ⟨⟨hx.1, by omega⟩, c, hcs, (hf c hcs x hx.1 hx.2).1 h⟩
  · rintro ⟨hx, c, hcs, h⟩
    exact ⟨c, hcs, (hf c hcs x hx.1 (by omega)).2 h⟩
theorem env_ref (m : Md) (s : Int) : envE m s = refEnvE m s := by
  unfold envE refEnvE
  by_cases c : mayM m = 0
  case neg => rw [if_pos c, if_pos c]
  have hc : ¬ (mayM m ≠ 0) := by simpa using c
  rw [if_neg hc, if_neg hc]
  obtain ⟨cm, _, _, ce, _, _⟩ := mayM_zero c
  have ce := firstE_zero.1 ce
  obtain ⟨ht, hp, _⟩ := total_prod cm
  cases hok : valuesOk m.vars s with
  | false =>
    have : partE m.vars s true = -1 := by unfold partE; rw [hok]; rfl
    rw [if_pos (by rw [this]; decide), if_pos rfl]
  | true =>
    have pr := part_range (env := true) cm hok
    rw [ht] at pr
    have sr := (valuesOk_iff.1 hok).2
    rw [ht] at sr
    rw [if_neg (by omega), if_neg (by simp), ht]
    refine all_filter (b := true) (f := fun c p => pickE m.vars p && doesE m.vars c true s s p) cm ce pr fun c hc x h0 h1 => ?_
    rw [Bool.and_eq_true]
    have hrs := InR_values hp sr.1
    refine leads_does cm (ce c hc) pr sr ⟨h0, h1⟩ (fun k h e => ?_) (pick_iff cm hok h0 h1)
    rw [part_of hok, values_state hp (InR_mask hp hrs), mask_get h hrs.len, if_pos e]
theorem sys_ref (m : Md) (s p : Int) : sysE m s p = refSysE m s p := by
  unfold sysE refSysE
  by_cases c : mayM m = 0
  case neg => rw [if_pos c, if_pos c]
  have hc : ¬ (mayM m ≠ 0) := by simpa using c
  rw [if_neg hc, if_neg hc]
  obtain ⟨cm, _, _, _, ce, _⟩ := mayM_zero c
  have ce := firstE_zero.1 ce
  obtain ⟨ht, hp, _⟩ := total_prod cm
  cases hok : valuesOk m.vars s with
  | false =>
    have : partE m.vars s true = -1 := by unfold partE; rw [hok]; rfl
    rw [if_pos (by rw [this]; decide), if_pos rfl]
  | true =>
    have pr := part_range (env := true) cm hok
    have sr := (valuesOk_iff.1 hok).2
    rw [ht] at sr
    rw [if_neg (show ¬ partE m.vars s true < 0 by omega), if_neg (show ¬ (true = false) by simp)]
    cases hpk : pickE m.vars p with
    | false => rw [if_pos rfl, if_pos rfl]
    | true =>
      rw [if_neg (show ¬ (true = false) by simp), if_neg (show ¬ (true = false) by simp), ht]
      have okP := Go.Proofs.YtnjandhaeojieaaGreat.pick_ok hpk
      have ep : partE m.vars p true = p := by
        unfold pickE at hpk
        rw [Bool.and_eq_true] at hpk
        exact eq_of_beq hpk.2
      have mr := mixed_range cm hok okP
      refine all_filter (b := false) (f := fun c x => (partE m.vars x true == p) && doesE m.vars c false s p x) cm ce mr fun c hc x h0 h1 => ?_
      rw [Bool.and_eq_true]
      have hrs := InR_values hp sr.1
      have hrp := InR_values hp (valuesOk_iff.1 okP).2.1
      have F := of_pick_iff (S := s) (P := p) cm hok okP h0 h1
      rw [ep] at F
      refine leads_does cm (ce c hc) mr sr ⟨h0, h1⟩ (fun k h e => ?_) F
      have e2 : valuesFrom m.vars (mixedE m.vars s p) = mixE m.vars (valuesFrom m.vars s) (valuesFrom m.vars p) := by
        unfold mixedE
        exact values_state hp (InR_mix hrs hrp)
      rw [e2, mixE_get h (by rw [hrs.len]; exact h) (by rw [hrp.len]; exact h), if_neg (by rw [e]; simp), List.getElem?_eq_getElem (by rw [hrs.len]; exact h)]
theorem filt24 {l : List Va} {f : Int → Bool} (hm : mayV l = 0) (hT : prodV l ≤ 24) : ((upFrom 0 (totalE l).toNat).filter f).length ≤ 24 := by
  refine Nat.le_trans (List.length_filter_le _ _) ?_
  rw [upFrom_len, (total_prod hm).1]
  omega
end Go.AM
namespace Go.Proofs.YtnjandhaeojieaaGreat
open Go.AM
end Go.Proofs.YtnjandhaeojieaaGreat
