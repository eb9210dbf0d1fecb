/- ExprJoins: two expressions side by side have their nodes, and one more. -/
import Derived.Test.YtfejbgnbganolaaLa6
set_option linter.unusedVariables false
set_option linter.unusedSimpArgs false
namespace Go.AM
mutual
/-- How many nodes there are. -/
def cntE : Ex → Int
  | .mk _ _ ks => 1 + cntL ks
def cntL : List Ex → Int
  | [] => 0
  | k :: ks => cntE k + cntL ks
end
mutual
theorem cntE_nonneg : ∀ e : Ex, 0 ≤ cntE e
  | .mk _ _ ks => by simp only [cntE]; have := cntL_nonneg ks; omega
theorem cntL_nonneg : ∀ l : List Ex, 0 ≤ cntL l
  | [] => Int.le_refl _
  | k :: ks => by simp only [cntL]; have := cntE_nonneg k; have := cntL_nonneg ks; omega
end
mutual
theorem goesE_cnt : ∀ (e : Ex) (d n m : Int) (b : Bool), goesE e d n b = (m, false) → m ≤ 60 → b = false ∧ m = n + cntE e
  | .mk _ _ ks, d, n, m, b, h, hm => by
    simp only [goesE] at h
    split at h
    · cases h
    · split at h
      · cases h; omega
      · obtain ⟨h1, h2⟩ := goesL_cnt ks d (n + 1) m b h hm
        exact ⟨h1, by simp only [cntE]; omega⟩
theorem goesL_cnt : ∀ (l : List Ex) (d n m : Int) (b : Bool), goesL l d n b = (m, false) → m ≤ 60 → b = false ∧ m = n + cntL l
  | [], d, n, m, b, h, hm => by
    simp only [goesL] at h
    cases h
    exact ⟨rfl, by simp [cntL]⟩
  | k :: ks, d, n, m, b, h, hm => by
    simp only [goesL] at h
    split at h
    · cases h; omega
    · obtain ⟨h1, h2⟩ := goesL_cnt ks d _ m _ h hm
      have h3 := cntL_nonneg ks
      obtain ⟨h4, h5⟩ := goesE_cnt k (d + 1) n (goesE k (d + 1) n b).1 b (by rw [← h1]) (by omega)
      exact ⟨h4, by simp only [cntL]; omega⟩
end
theorem light_cnt {e : Ex} (h : lightE e = true) : nodesE e = cntE e ∧ nodesE e ≤ 60 := by
  unfold lightE at h
  rw [Bool.and_eq_true] at h
  obtain ⟨h1, h2⟩ := h
  have h1 : nodesE e ≤ 60 := of_decide_eq_true h1
  have h2 : (goesE e 1 0 false).2 = false := by simpa using h2
  have := goesE_cnt e 1 0 (nodesE e) false (Prod.ext rfl h2) h1
  exact ⟨by omega, h1⟩
theorem mayE_inv {e : Ex} (h : mayE e = 0) : soundE e = true ∧ lightE e = true := by
  unfold mayE at h
  split at h
  · split at h
    · exact ⟨by assumption, by assumption⟩
    · cases h
  · cases h
end Go.AM
namespace Go.Proofs.Ytfejbgnbganolaa
open Go.AM
theorem joins_may {a b : Ex} (ha : mayE a = 0) (hb : mayE b = 0) : (mayE (.mk 6 0 [a, b]) = 0 ∧ nodesE (.mk 6 0 [a, b]) = nodesE a + nodesE b + 1 ∧ nodesE a + nodesE b + 1 ≤ 60) ∨ mayE (.mk 6 0 [a, b]) = 7 := by
  obtain ⟨sa, la⟩ := mayE_inv ha
  obtain ⟨sb, lb⟩ := mayE_inv hb
  have hs : soundE (.mk 6 0 [a, b]) = true := by simp [soundE, soundL, numberE, show kidsN 6 = 2 from rfl, sa, sb]
  unfold mayE
  cases hl : lightE (.mk 6 0 [a, b]) with
  | false => exact .inr rfl
  | true =>
    rw [if_pos rfl, if_pos hs]
    obtain ⟨h1, h2⟩ := light_cnt hl
    obtain ⟨h3, _⟩ := light_cnt la
    obtain ⟨h4, _⟩ := light_cnt lb
    simp only [cntE, cntL] at h1
    exact .inl ⟨rfl, by omega, by omega⟩
theorem Joins_sp (a0 a1 : Int) (ak : T) (b0 b1 : Int) (bk : T) (ha : WT Try.prog 28 ak) (hb : WT Try.prog 28 bk) : Ev fun N => C_parrylaw2_ExprJoins (K N) a0 a1 ak b0 b1 bk = rb true := by
  have hka := WT_KW ha
  have hkb := WT_KW hb
  have k2 : KW (kid2 (a0, a1, ak) (b0, b1, bk)) := KW_kid2 hka hkb
  refine Ev.step (Ev.imp4 (Ev.and (heavyE_sp ak hka) (heavyE_sp bk hkb)) (Ev.and (May_sp ak hka) (May_sp bk hkb)) (Ev.and (Nodes_sp ak hka) (Nodes_sp bk hkb)) (Ev.and awake2_sp (Ev.and (May_sp _ k2) (Nodes_sp _ k2))) fun N h1 h2 h3 h4 => ?_)
  obtain ⟨hy, hz⟩ := h1
  obtain ⟨hma, hmb⟩ := h2
  obtain ⟨hna, hnb⟩ := h3
  obtain ⟨haw, hmc, hnc⟩ := h4
  obtain ⟨y, hy⟩ := hy a0 a1
  obtain ⟨z, hz⟩ := hz b0 b1
  have aw : ((C_parrylaw2_awake (K N)).bind fun r => some (lookR [(0, T.b (r 0).bool)])) = rb true := by rw [haw]; rfl
  rw [C_parrylaw2_ExprJoins_K]
  refine bind_of hy (bind_of hz (if_both (fun _ => aw) fun _ => bind_of (hma _ _) (if_both (fun _ => aw) fun c1 => bind_of (hmb _ _) (if_both (fun _ => aw) fun c2 => bind_of (hna _ _) (bind_of (hnb _ _) (bind_of (hmc _ _) ?_))))))
  simp only [lookR_0, int_i, bne_eq_false_iff_eq] at c1 c2
  rw [kidsOf_kid2]
  have xa : exOf (a0, a1, ak) = Ex.mk a0 a1 (kidsOf ak) := rfl
  have xb : exOf (b0, b1, bk) = Ex.mk b0 b1 (kidsOf bk) := rfl
  have hnc' := hnc 6 0
  rw [kidsOf_kid2, xa, xb] at hnc'
  rw [xa, xb]
  have hj := joins_may c1 c2
  have ra := light_cnt (mayE_inv c1).2
  have rb' := light_cnt (mayE_inv c2).2
  have na := cntE_nonneg (Ex.mk a0 a1 (kidsOf ak))
  have nb := cntE_nonneg (Ex.mk b0 b1 (kidsOf bk))
  revert hj hnc' ra rb' na nb
  generalize nodesE (Ex.mk a0 a1 (kidsOf ak)) = p
  generalize nodesE (Ex.mk b0 b1 (kidsOf bk)) = q
  generalize nodesE (Ex.mk 6 0 [Ex.mk a0 a1 (kidsOf ak), Ex.mk b0 b1 (kidsOf bk)]) = s
  generalize mayE (Ex.mk 6 0 [Ex.mk a0 a1 (kidsOf ak), Ex.mk b0 b1 (kidsOf bk)]) = e
  generalize cntE (Ex.mk a0 a1 (kidsOf ak)) = u
  generalize cntE (Ex.mk b0 b1 (kidsOf bk)) = v
  intro hnc' hj ra rb' na nb
  have hw : IntKind.wrap .i64 (IntKind.wrap .i64 (p + q) + 1) = p + q + 1 := by rw [wrap_eq (a := p + q) (by omega) (by omega), wrap_eq (a := p + q + 1) (by omega) (by omega)]
  rcases hj with ⟨rfl, rfl, hle⟩ | rfl
  · exact if_not (decide_eq_false (by show ¬ (IntKind.wrap .i64 (IntKind.wrap .i64 (p + q) + 1) > 60); rw [hw]; omega)) (if_of rfl (if_not rfl (bind_of hnc' (if_of (by show (p + q + 1 == IntKind.wrap .i64 (IntKind.wrap .i64 (p + q) + 1)) = true; rw [hw]; exact beq_self_eq_true _) aw))))
  · exact if_both (fun _ => if_of rfl aw) fun _ => if_not rfl (if_of rfl (if_of rfl aw))
end Go.Proofs.Ytfejbgnbganolaa
