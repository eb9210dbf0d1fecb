/- MachineRaw, MachineBack. -/
import Derived.Test.YtnjandhaeojieaaDoorMc10
set_option linter.unusedVariables false
set_option linter.unusedSimpArgs false
namespace Go.Proofs.YtnjandhaeojieaaDoor
open Go.AM
theorem PAll_none {c : Option R} {o : Option (Int × List Q × List Q)} (h : PAll c o) (ho : o = none) : c = eP 2 := by rw [ho] at h; exact h
theorem awake_end {N : Nat} (hA : C_parrylaw25_awake (K N) = rb true) : (C_parrylaw25_awake (K N)).bind (fun r => some (lookR [(0, (T.b ((r 0).bool)))])) = rb true := bind_of hA rfl
theorem MachineRaw_all : Ev fun N => ∀ s : ByteArray, C_parrylaw25_MachineRaw (K N) s = rb true := by
  refine Ev.step (Ev.imp4 Parse_sp Text_all May_all awake25_sp fun N hP hT hM hA s => ?_)
  rw [C_parrylaw25_MachineRaw_K]
  by_cases c0 : 3000 < s.size
  · exact if_of (decide_eq_true (by omega)) (awake_end hA)
  refine if_not (decide_eq_false (by omega)) ?_
  have zero : (IntKind.wrap .i64 ((((T.l 0 (fun i j => ((fun _ _ => T.b false) (0 + i) j)) : T).len : Nat) : Int) + (((T.l 0 (fun i j => ((fun _ _ => T.b false) (0 + i) j)) : T).len : Nat) : Int)) == (0 : Int)) = true := by decide
  have hp := hP s (by omega)
  have alt : (∃ e, C_machine_Parse (K N) s = eP e ∧ (e = 1 ∨ e = 2 ∨ e = 7)) ∨ ∃ w tb tr, mayMc w tb tr = 0 ∧ textM w tb tr = s.data.toList ∧ C_machine_Parse (K N) s = some (lookR [(0, .i w), (1, tb), (2, tr), (3, .i 0)]) := by
    cases hs : scanM s.data.toList with
    | none =>
      rw [hs] at hp
      exact .inl ⟨2, hp, .inr (.inl rfl)⟩
    | some x =>
      obtain ⟨w, B, L⟩ := x
      rw [hs] at hp
      obtain ⟨_, tb, tr, hb, hr, e⟩ := hp
      by_cases c1 : mayMc w tb tr = 0
      · rw [if_pos c1] at e
        exact .inr ⟨w, tb, tr, c1, by rw [textM_eq hb hr, scan_text hs], e⟩
      · rw [if_neg c1] at e
        refine .inl ⟨_, e, ?_⟩
        rcases may_vals w tb tr with h | h | h
        · exact absurd h c1
        · exact .inl h
        · exact .inr (.inr h)
  rcases alt with ⟨e, he, h⟩ | ⟨w, tb, tr, c1, ht, e⟩
  · refine bind_of he ?_
    rcases h with rfl | rfl | rfl
    · exact if_of rfl (if_not rfl (if_of rfl (if_of zero (awake_end hA))))
    · exact if_of rfl (if_of rfl (if_of zero (awake_end hA)))
    · exact if_of rfl (if_not rfl (if_not rfl (if_of rfl (if_of zero (awake_end hA)))))
  · refine bind_of e (if_not rfl (bind_of (hM tb tr w) (if_of ?_ (bind_of (hT tb tr w) (if_of ?_ (awake_end hA))))))
    · rw [lookR_0, int_i, c1]; rfl
    · rw [lookR_0, if_pos c1, strEq_eq]
      show ((textM w tb tr).toArray.toList == s.data.toList) = true
      rw [ht]
      simp
theorem MachineRaw_sp (s : ByteArray) : Ev fun N => C_parrylaw25_MachineRaw (K N) s = rb true := MachineRaw_all.imp fun N h => h s
theorem Heavy_at (N : Nat) (w : Int) (b r : T) : ∃ x, C_parrylaw25_Heavy (K (N + 1)) w b r = ri x ∧ (x = 0 ∨ x = 1) ∧ (b.len ≤ 512 → r.len ≤ 12000 → x = 0 → b.len + r.len ≤ 600) := by
  rw [C_parrylaw25_Heavy_K]
  cases c : decide ((IntKind.wrap .i64 (((b.len : Nat) : Int) + ((r.len : Nat) : Int))) > (600 : Int))
  · refine ⟨0, rfl, .inl rfl, fun h1 h2 _ => ?_⟩
    have := of_decide_eq_false c
    rw [wrap_eq (by omega) (by omega)] at this
    omega
  · exact ⟨1, rfl, .inr rfl, fun _ _ h => by cases h⟩
theorem line_len (f : List UInt8) {q : Q} (hf : f.length ≤ 6) (hq : q.ok) : (lineB f q).length ≤ 40 := by
  have h1 := digits_len 5 _ hq.2.1
  have h2 := digits_len 5 _ hq.2.2.1
  have h3 := digits_len 5 _ hq.2.2.2
  unfold lineB
  simp only [joinL, List.length_append, List.length_cons, List.length_nil]
  omega
theorem lines_len {L : List (List UInt8)} (h : ∀ l, l ∈ L → l.length ≤ 40) : (L.flatMap (· ++ [10])).length ≤ 41 * L.length := by
  induction L with
  | nil => simp
  | cons l L ih =>
    have h1 := h l (List.mem_cons_self ..)
    have h2 := ih fun x hx => h x (List.mem_cons_of_mem _ hx)
    rw [List.flatMap_cons, List.length_append, List.length_append]
    simp only [List.length_cons, List.length_nil]
    omega
theorem text_len (w : Int) {B R : List Q} (hB : ∀ q, q ∈ B → q.ok) (hR : ∀ q, q ∈ R → q.ok) : (textQ w B R).length ≤ 20 + 41 * (B.length + R.length) := by
  have h1 : (headW w).length ≤ 20 := by unfold headW; split <;> decide
  have h2 := lines_len (L := B.map begB ++ R.map rwB) fun l hl => by
    rcases List.mem_append.1 hl with hl | hl
    · obtain ⟨q, hq, rfl⟩ := List.mem_map.1 hl
      exact line_len _ (by decide) (hB q hq)
    · obtain ⟨q, hq, rfl⟩ := List.mem_map.1 hl
      exact line_len _ (digits_len 5 _ (hR q hq).1) (hR q hq)
  unfold textQ
  rw [List.length_append]
  simp only [List.length_append, List.length_map] at h2 ⊢
  omega
theorem MachineBack_sp (w : Int) (b r : T) (w' : Int) (b' r' : T) (_ : WT Tryd.prog 22 b) (_ : WT Tryd.prog 22 r) (_ : WT Tryd.prog 22 b') (_ : WT Tryd.prog 22 r') : Ev fun N => C_parrylaw25_MachineBack (K N) w b r w' b' r' = rb true := by
  refine Ev.step (Ev.imp2 (Ev.imp4 Parse_sp Text_all Same_all awake25_sp fun N hP hT hS hA => And.intro (And.intro hP hT) (And.intro hS hA)) (Ev.imp3 (refMay_sp b r) (refMay_sp b' r') (Ev.ge 1) fun N h1 h2 hN => And.intro (And.intro h1 h2) hN) fun N hh hm => ?_)
  obtain ⟨⟨hP, hT⟩, hS, hA⟩ := hh
  obtain ⟨⟨hm1, hm2⟩, hN⟩ := hm
  obtain ⟨M, hM⟩ : ∃ M, N = M + 1 := ⟨N - 1, by omega⟩
  obtain ⟨x, ex, hx, hx'⟩ := Heavy_at M w b r
  obtain ⟨y, ey, hy, hy'⟩ := Heavy_at M w' b' r'
  rw [← hM] at ex ey
  rw [C_parrylaw25_MachineBack_K]
  refine bind_of ex (bind_of ey ?_)
  rw [lookR_0, lookR_0, int_i, int_i, wrap_eq (by omega) (by omega)]
  by_cases c0 : x + y > 0
  · exact if_of (decide_eq_true c0) (awake_end hA)
  refine if_not (decide_eq_false c0) (bind_of (hm1 w) ?_)
  rw [lookR_0, int_i]
  by_cases c1 : mayMc w b r = 0
  case neg => exact if_of (by simpa using c1) (awake_end hA)
  refine if_not (by simpa using c1) (bind_of (hm2 w') ?_)
  rw [lookR_0, int_i]
  by_cases c2 : mayMc w' b' r' = 0
  case neg => exact if_of (by simpa using c2) (awake_end hA)
  obtain ⟨hw, lb, lr, ob, or'⟩ := may_inv c1
  obtain ⟨hw', lb', lr', ob', or''⟩ := may_inv c2
  have hx0 := hx' lb lr (by omega)
  obtain ⟨qb, okb⟩ := Qs_toQs ob
  obtain ⟨qr, okr⟩ := Qs_toQs or'
  obtain ⟨qb', okb'⟩ := Qs_toQs ob'
  obtain ⟨qr', okr'⟩ := Qs_toQs or''
  have hsc := text_scan hw (B := toQs b) (R := toQs r) (fun q hq => ⟨(okb q hq).1, (okb q hq).2 rfl⟩) (fun q hq => (okr q hq).1)
  have hsc' := text_scan hw' (B := toQs b') (R := toQs r') (fun q hq => ⟨(okb' q hq).1, (okb' q hq).2 rfl⟩) (fun q hq => (okr' q hq).1)
  have hlen := text_len w (B := toQs b) (R := toQs r) (fun q hq => (okb q hq).1) (fun q hq => (okr q hq).1)
  rw [← qb.1, ← qr.1] at hlen
  have hp := hP ⟨(textQ w (toQs b) (toQs r)).toArray⟩ (by rw [size_list]; show (textQ w (toQs b) (toQs r)).toArray.toList.length ≤ _; simp; omega)
  have hp : PAll (C_machine_Parse (K N) ⟨(textQ w (toQs b) (toQs r)).toArray⟩) (scanM (textQ w (toQs b) (toQs r))) := hp
  rw [hsc] at hp
  obtain ⟨_, tb, tr, hb, hr, e⟩ := hp
  rw [mayMc_congr hb qb hr qr, if_pos c1] at e
  have et : C_machine_Text (K N) w b r = some (lookR [(0, T.s ⟨(textQ w (toQs b) (toQs r)).toArray⟩)]) := by rw [hT b r w, if_pos c1, textM_eq qb qr]
  have et' : C_machine_Text (K N) w' b' r' = some (lookR [(0, T.s ⟨(textQ w' (toQs b') (toQs r')).toArray⟩)]) := by rw [hT b' r' w', if_pos c2, textM_eq qb' qr']
  refine if_not (by simpa using c2) (bind_of et (bind_of e (if_of rfl (bind_of (hS tb tr b r (by rw [hb.1, ← qb.1]; omega) (by rw [hr.1, ← qr.1]; omega) (by omega) (by omega) w w) (if_of ?_ (bind_of et (bind_of et' (bind_of (hS b r b' r' (by omega) (by omega) (by omega) (by omega) w w') (if_of ?_ (awake_end hA))))))))))
  · show ((w == w) && (rowsEq tb b && rowsEq tr r)) = true
    rw [Qs_rowsEq hb qb, Qs_rowsEq hr qr]
    simp
  · rw [lookR_0, lookR_0, lookR_0, strEq_eq]
    show (((textQ w (toQs b) (toQs r)).toArray.toList == (textQ w' (toQs b') (toQs r')).toArray.toList) == ((w == w') && (rowsEq b b' && rowsEq r r'))) = true
    rw [beq_iff_eq]
    by_cases c : textQ w (toQs b) (toQs r) = textQ w' (toQs b') (toQs r')
    · rw [c] at hsc
      obtain ⟨rfl, h2⟩ := Prod.mk.inj (Option.some.inj (hsc.symm.trans hsc'))
      obtain ⟨h3, h4⟩ := Prod.mk.inj h2
      rw [← h3] at qb'
      rw [← h4] at qr'
      rw [Qs_rowsEq qb qb', Qs_rowsEq qr qr', c]
      simp
    · have : ((w == w') && (rowsEq b b' && rowsEq r r')) = false := by
        cases hh : ((w == w') && (rowsEq b b' && rowsEq r r')) with
        | false => rfl
        | true =>
          rw [Bool.and_eq_true, Bool.and_eq_true, beq_iff_eq] at hh
          obtain ⟨rfl, h3, h4⟩ := hh
          exact absurd ((textM_eq (rowsEq_Qs h3 qb) (rowsEq_Qs h4 qr)).symm.trans (textM_eq qb' qr')) c
      rw [this]
      simpa using c
end Go.Proofs.YtnjandhaeojieaaDoor
