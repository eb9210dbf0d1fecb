/- Parse, as it is run. -/
import Derived.Test.YtnjandhaeojieaaDoorMc8
set_option linter.unusedVariables false
set_option linter.unusedSimpArgs false
namespace Go.Proofs.YtnjandhaeojieaaDoor
open Go.AM
def eP (e : Int) : Option R := some (lookR [(0, (T.i 0)), (1, (T.l 0 (fun i j => ((fun _ _ => .b false) (0 + i) j)))), (2, (T.l 0 (fun i j => ((fun _ _ => .b false) (0 + i) j)))), (3, (T.i e))])
def PRes (c : Option R) (w : Int) : Option (List Q × List Q) → Prop
  | none => c = eP 2
  | some (B, L) => ∃ tb tr, Qs tb B ∧ Qs tr L ∧ c = if mayMc w tb tr = 0 then some (lookR [(0, .i w), (1, tb), (2, tr), (3, .i 0)]) else eP (mayMc w tb tr)
theorem loop_sp : Ev fun N => ∀ (w : Int) (m : Nat) (g : Nat → Nat → T), m ≤ 400000 → (∀ i, i < m + 2 → ((g i 0).str).size ≤ 400000) → ∀ (ls : List (List UInt8)) (i : Nat) (B Rs : List Q) (gb gr : Nat → Nat → T) (L : Nat), (∀ k l, ls[k]? = some l → ((g (1 + (i + k)) 0).str).data.toList = l) → i + ls.length = m → QsUp gb B → QsUp gr Rs → B.length ≤ i → Rs.length ≤ i → 2 * ls.length + 1 ≤ L → PRes (machine_Parse.B1 (K N) L B.length Rs.length (m + 2) 1 m (m : Int) (i : Int) 0 w gb gr g) w (scanRows ls B Rs) := by
  refine (row_sp.imp2 May_all fun N hR hM w m g hm hg ls => ?_)
  induction ls with
  | nil =>
    intro i B Rs gb gr L hl hi hb hr bl rl hL
    obtain ⟨L, rfl⟩ : ∃ L', L = L' + 1 := ⟨L - 1, by omega⟩
    have hi : i = m := by simpa using hi
    subst hi
    refine ⟨T.l B.length (fun i j => gb (0 + i) j), T.l Rs.length (fun i j => gr (0 + i) j), ⟨rfl, fun k q h => ?_⟩, ⟨rfl, fun k q h => ?_⟩, ?_⟩
    · have := hb k q h
      unfold IsQ at this ⊢
      show (gb (0 + k) 0).int = _ ∧ (gb (0 + k) 1).int = _ ∧ (gb (0 + k) 2).int = _ ∧ (gb (0 + k) 3).int = _
      rw [Nat.zero_add]
      exact this
    · have := hr k q h
      unfold IsQ at this ⊢
      show (gr (0 + k) 0).int = _ ∧ (gr (0 + k) 1).int = _ ∧ (gr (0 + k) 2).int = _ ∧ (gr (0 + k) 3).int = _
      rw [Nat.zero_add]
      exact this
    rw [machine_Parse.B1_eq]
    refine if_not (decide_eq_false (by omega)) (bind_of (hM _ _ _) ?_)
    rw [lookR_0, int_i]
    by_cases c : mayMc w (T.l B.length (fun i j => gb (0 + i) j)) (T.l Rs.length (fun i j => gr (0 + i) j)) = 0
    · rw [if_pos c]
      exact if_not (by simpa using c) rfl
    · rw [if_neg c]
      exact if_of (by simpa using c) rfl
  | cons l ls ih =>
    intro i B Rs gb gr L hl hi hb hr bl rl hL
    obtain ⟨L, rfl⟩ : ∃ L', L = L' + 2 := ⟨L - 2, by simp at hL; omega⟩
    have hi : i + (ls.length + 1) = m := by simpa using hi
    have h0 := hl 0 l rfl
    rw [Nat.add_zero] at h0
    have hrow := hR (g (1 + i) 0).str (hg _ (by omega))
    rw [h0] at hrow
    have b2 : ∀ (a b : Nat) (gb gr : Nat → Nat → T), machine_Parse.B2 (K N) (L + 1) a b (m + 2) 1 m (m : Int) (i : Int) 0 w gb gr g = machine_Parse.B1 (K N) L a b (m + 2) 1 m (m : Int) ((i + 1 : Nat) : Int) 0 w gb gr g := by
      intro a b gb gr
      rw [machine_Parse.B2_eq, wrap_eq (a := (i : Int) + 1) (by omega) (by omega)]
      rfl
    have hl' : ∀ k l, ls[k]? = some l → ((g (1 + (i + 1 + k)) 0).str).data.toList = l := by
      intro k l' h
      rw [show i + 1 + k = i + (k + 1) by omega]
      exact hl (k + 1) l' h
    have go : ∀ {X : Option R} {o : Option (List Q × List Q)}, (C_machine_row (K N) (g (1 + i) 0).str).bind (fun r606 => (bif (!((r606 5).bool)) then some (lookR [(0, (T.i 0)), (1, (T.l 0 (fun i607 j608 => ((fun _ _ => .b false) (0 + i607) j608)))), (2, (T.l 0 (fun i609 j610 => ((fun _ _ => .b false) (0 + i609) j610)))), (3, (T.i 2))]) else (bif (r606 4).bool then (bif decide (((Rs.length : Nat) : Int) > (0 : Int)) then some (lookR [(0, (T.i 0)), (1, (T.l 0 (fun i611 j612 => ((fun _ _ => .b false) (0 + i611) j612)))), (2, (T.l 0 (fun i613 j614 => ((fun _ _ => .b false) (0 + i613) j614)))), (3, (T.i 2))]) else (bif (r606 4).bool then (bif decide ((B.length + 1) * 32 ≤ 140737488355328) then machine_Parse.B2 (K N) (L + 1) (B.length + 1) Rs.length (m + 2) 1 m (m : Int) (i : Int) 0 w (fun i615 j616 => (bif Nat.blt i615 B.length then (gb i615 j616) else ((([[(T.i ((r606 0).int)), (T.i ((r606 1).int)), (T.i ((r606 2).int)), (T.i ((r606 3).int))]] : List (List T)).getD (0 + (i615 - B.length)) []).getD j616 (.b false)))) gr g else none) else (bif decide ((Rs.length + 1) * 32 ≤ 140737488355328) then machine_Parse.B2 (K N) (L + 1) B.length (Rs.length + 1) (m + 2) 1 m (m : Int) (i : Int) 0 w gb (fun i617 j618 => (bif Nat.blt i617 Rs.length then (gr i617 j618) else ((([[(T.i ((r606 0).int)), (T.i ((r606 1).int)), (T.i ((r606 2).int)), (T.i ((r606 3).int))]] : List (List T)).getD (0 + (i617 - Rs.length)) []).getD j618 (.b false)))) g else none))) else (bif (r606 4).bool then (bif decide ((B.length + 1) * 32 ≤ 140737488355328) then machine_Parse.B2 (K N) (L + 1) (B.length + 1) Rs.length (m + 2) 1 m (m : Int) (i : Int) 0 w (fun i619 j620 => (bif Nat.blt i619 B.length then (gb i619 j620) else ((([[(T.i ((r606 0).int)), (T.i ((r606 1).int)), (T.i ((r606 2).int)), (T.i ((r606 3).int))]] : List (List T)).getD (0 + (i619 - B.length)) []).getD j620 (.b false)))) gr g else none) else (bif decide ((Rs.length + 1) * 32 ≤ 140737488355328) then machine_Parse.B2 (K N) (L + 1) B.length (Rs.length + 1) (m + 2) 1 m (m : Int) (i : Int) 0 w gb (fun i621 j622 => (bif Nat.blt i621 Rs.length then (gr i621 j622) else ((([[(T.i ((r606 0).int)), (T.i ((r606 1).int)), (T.i ((r606 2).int)), (T.i ((r606 3).int))]] : List (List T)).getD (0 + (i621 - Rs.length)) []).getD j622 (.b false)))) g else none))))) = X → PRes X w o → PRes (machine_Parse.B1 (K N) (L + 2) B.length Rs.length (m + 2) 1 m (m : Int) (i : Int) 0 w gb gr g) w o := by
      intro X o h1 h2
      rw [machine_Parse.B1_eq, Int.toNat_natCast]
      have := if_of (y := none) (show (decide ((0 : Int) ≤ (i : Int)) && decide ((i : Int) < ((m : Nat) : Int))) = true by simp; omega) (if_of (y := none) (show decide (1 + i < m + 2) = true from decide_eq_true (by omega)) h1)
      rw [if_of (show decide ((i : Int) < (m : Int)) = true from decide_eq_true (by omega)) this]
      exact h2
    unfold scanRows
    cases hrm : rowM l with
    | none =>
      rw [hrm] at hrow
      exact go (bind_of hrow (if_of rfl rfl)) rfl
    | some qf =>
      obtain ⟨q, f⟩ := qf
      rw [hrm] at hrow
      have hq : IsQ (lookR [(0, .i q.s), (1, .i q.i), (2, .i q.o), (3, .i q.t), (4, .b f), (5, .b true)]) q := ⟨rfl, rfl, rfl, rfl⟩
      cases f with
      | true =>
        by_cases c : Rs.length = 0
        · have c' : ¬ Rs.length ≠ 0 := by omega
          simp only [if_neg c']
          have hn := ih (i + 1) (B ++ [q]) Rs _ gr L hl' (by omega) (hb.put hq rfl) hr (by simp; omega) (by omega) (by simp at hL; omega)
          refine go (bind_of hrow (if_not rfl (if_of rfl (if_not (decide_eq_false (by omega)) (if_of rfl (if_of (decide_eq_true (by omega)) ((b2 _ _ _ _).trans rfl))))))) ?_
          rw [List.length_append] at hn
          exact hn
        · simp only [if_pos c]
          exact go (bind_of hrow (if_not rfl (if_of rfl (if_of (decide_eq_true (by omega)) rfl)))) rfl
      | false =>
        have hn := ih (i + 1) B (Rs ++ [q]) gb _ L hl' (by omega) hb (hr.put hq rfl) (by omega) (by simp; omega) (by simp at hL; omega)
        refine go (bind_of hrow (if_not rfl (if_not rfl (if_not rfl (if_of (decide_eq_true (by omega)) ((b2 _ _ _ _).trans rfl)))))) ?_
        rw [List.length_append] at hn
        exact hn
theorem strs_size {t : T} {L : List (List UInt8)} (h : Strs t L) {i : Nat} (hi : i < L.length) : ((t.el i 0).str).data.toList = L[i] := h.2 i _ (List.getElem?_eq_getElem hi)
theorem mem_len {c : UInt8} : ∀ (s l : List UInt8), l ∈ splitL c s → l.length ≤ s.length
  | [], l, h => by simp [splitL] at h; simp [h]
  | x :: s, l, h => by
    obtain ⟨a, r, e⟩ := splitL_cons c s
    have ih := mem_len (c := c) s
    rw [e] at ih
    rw [splitL, e] at h
    by_cases hx : x = c
    · rw [if_pos hx] at h
      rcases List.mem_cons.1 h with rfl | h
      · simp
      · have := ih l h
        simp
        omega
    · rw [if_neg hx] at h
      rcases List.mem_cons.1 h with rfl | h
      · have := ih a (List.mem_cons_self ..)
        simpa using this
      · have := ih l (List.mem_cons_of_mem _ h)
        simp
        omega
def PAll (c : Option R) : Option (Int × List Q × List Q) → Prop
  | none => c = eP 2
  | some (w, p) => (w = 0 ∨ w = 1) ∧ PRes c w (some p)
theorem PAll_map {c : Option R} {w : Int} (hw : w = 0 ∨ w = 1) {o : Option (List Q × List Q)} (h : PRes c w o) : PAll c (o.map fun p => (w, p)) := by
  cases o with
  | none => exact h
  | some p => exact ⟨hw, h⟩
theorem Parse_sp : Ev fun N => ∀ s : ByteArray, s.size ≤ 400000 → PAll (C_machine_Parse (K N) s) (scanM s.data.toList) := by
  refine Ev.step (Ev.imp3 Split_sp loop_sp (Ev.ge 2000000) fun N hS hL hN s hs => ?_)
  obtain ⟨t, e, h1, h2⟩ := hS s 10 hs
  have hsz := size_list s
  have hcl : s.data.toList.count 10 ≤ s.size := by rw [size_list]; exact List.count_le_length
  have hlen := splitL_len 10 s.data.toList
  have hmem : ∀ (i : Nat) (l : List UInt8), (splitL 10 s.data.toList)[i]? = some l → l.length ≤ 400000 := fun i l h => by
    have := mem_len _ _ (List.mem_of_getElem? h)
    omega
  unfold scanM
  generalize hLs : splitL 10 s.data.toList = Ls at h1 h2 hlen hmem
  obtain ⟨h, r, rfl⟩ : ∃ h r, Ls = h :: r := by
    rcases Ls with _ | ⟨h, r⟩
    · simp at hlen
    · exact ⟨h, r, rfl⟩
  have h1 : t.len = r.length + 1 := h1
  have hr : r.length ≤ 400000 := by rw [List.length_cons] at hlen; omega
  have e1 : IntKind.wrap .i64 (((t.len : Nat) : Int) - 1) = (r.length : Int) := by rw [wrap_eq (by omega) (by omega)]; omega
  have start : ∀ {X : Option R}, ((bif decide ((0 : Int) ≤ (IntKind.wrap .i64 (((t.len : Nat) : Int) - (1 : Int)))) && decide ((IntKind.wrap .i64 (((t.len : Nat) : Int) - (1 : Int))) < ((t.len : Nat) : Int)) then (bif decide ((0 + (IntKind.wrap .i64 (((t.len : Nat) : Int) - (1 : Int))).toNat) < t.len) then (bif (!strEq ((t.el (0 + (IntKind.wrap .i64 (((t.len : Nat) : Int) - (1 : Int))).toNat) 0).str) (ByteArray.mk #[])) then eP 2 else (bif decide ((0 : Int) < ((t.len : Nat) : Int)) then (bif decide (0 < t.len) then (bif (strEq ((t.el 0 0).str) (ByteArray.mk #[99, 111, 110, 116, 114, 111, 108, 108, 101, 114])) then machine_Parse.B0 (K N) N t.len (0 : Int) (fun i598 j599 => (t.el i598 j599)) (1 : Int) else (bif (strEq ((t.el 0 0).str) (ByteArray.mk #[102, 111, 105, 108])) then machine_Parse.B0 (K N) N t.len (0 : Int) (fun i600 j601 => (t.el i600 j601)) (0 : Int) else eP 2)) else none) else none)) else none) else none) = X) → C_machine_Parse (K (N + 1)) s = X := by
    intro X hX
    rw [C_machine_Parse_K]
    exact if_not (decide_eq_false (by omega)) (bind_of e hX)
  have hlast : (h :: r).getLast? = some ((h :: r)[r.length]'(by simp)) := by
    rw [List.getLast?_eq_getElem?]
    show (h :: r)[r.length]? = _
    exact List.getElem?_eq_getElem _
  have hl2 := h2 r.length _ (List.getElem?_eq_getElem (by simp : r.length < (h :: r).length))
  have fr : ∀ {X : Option R}, ((bif (!(((h :: r)[r.length]'(by simp)) == [])) then eP 2 else (bif (h == ctlW) then machine_Parse.B0 (K N) N t.len (0 : Int) (fun i598 j599 => (t.el i598 j599)) (1 : Int) else (bif (h == foilW) then machine_Parse.B0 (K N) N t.len (0 : Int) (fun i600 j601 => (t.el i600 j601)) (0 : Int) else eP 2))) = X) → C_machine_Parse (K (N + 1)) s = X := by
    intro X hX
    refine start (if_of (by rw [e1]; simp; omega) (if_of (decide_eq_true (by rw [e1]; simp; omega)) ?_))
    rw [e1, Nat.zero_add, Int.toNat_natCast, strEq_eq, strEq_eq, strEq_eq, hl2, h2 0 h rfl]
    rw [← hX]
    show (bif _ then _ else (bif decide ((0 : Int) < ((t.len : Nat) : Int)) then (bif decide (0 < t.len) then _ else none) else none)) = _
    rw [h1]
    rw [show decide ((0 : Int) < ((r.length + 1 : Nat) : Int)) = true from decide_eq_true (by omega), show decide (0 < r.length + 1) = true from decide_eq_true (by omega)]
    rfl
  show PAll _ (if (h :: r).getLast? ≠ some [] then none else if h = ctlW then (scanRows r.dropLast [] []).map fun p => (1, p) else if h = foilW then (scanRows r.dropLast [] []).map fun p => (0, p) else none)
  rw [hlast]
  by_cases c1 : ((h :: r)[r.length]'(by simp)) = []
  case neg =>
    rw [if_pos (fun e' => c1 (Option.some.inj e'))]
    exact fr (if_of (by simpa using c1) rfl)
  rw [if_neg (by rw [c1]; simp)]
  have mid : ∀ w : Int, h ≠ [] → PRes (machine_Parse.B0 (K N) N t.len (0 : Int) (fun i j => t.el i j) w) w (scanRows r.dropLast [] []) := by
    intro w hne
    have hrne : r ≠ [] := by
      rintro rfl
      exact hne c1
    obtain ⟨m, hm⟩ : ∃ m, r.length = m + 1 := ⟨r.length - 1, by have := List.length_pos_iff.2 hrne; omega⟩
    obtain ⟨L, hL'⟩ : ∃ L, N = L + 1 := ⟨N - 1, by omega⟩
    have e2 : t.len = m + 2 := by omega
    have e3 : IntKind.wrap .i64 (((m + 2 : Nat) : Int) - 1) = ((m + 1 : Nat) : Int) := by rw [wrap_eq (by omega) (by omega)]; omega
    have hb : machine_Parse.B0 (K N) N t.len (0 : Int) (fun i j => t.el i j) w = machine_Parse.B1 (K N) L 0 0 (m + 2) 1 m (m : Int) ((0 : Nat) : Int) 0 w (fun _ _ => .b false) (fun _ _ => .b false) (fun i j => t.el i j) := by
      rw [show machine_Parse.B0 (K N) N t.len (0 : Int) (fun i j => t.el i j) w = machine_Parse.B0 (K N) (L + 1) t.len (0 : Int) (fun i j => t.el i j) w by rw [← hL'], machine_Parse.B0_eq, e2, e3, Int.toNat_natCast, Nat.add_sub_cancel]
      exact if_of (by simp; omega) rfl
    rw [hb]
    refine hL w m (fun i j => t.el i j) (by omega) (fun i hi => ?_) r.dropLast 0 [] [] _ _ L (fun k l hk => ?_) (by simp; omega) (fun i q hi => by cases hi) (fun i q hi => by cases hi) (by simp) (by simp) (by simp; omega)
    · have hi' : i < (h :: r).length := by simp; omega
      have := h2 i _ (List.getElem?_eq_getElem hi')
      show ((t.el i 0).str).size ≤ 400000
      rw [size_list, this]
      exact hmem i _ (List.getElem?_eq_getElem hi')
    · show ((t.el (1 + (0 + k)) 0).str).data.toList = l
      refine h2 _ _ ?_
      rw [show 1 + (0 + k) = k + 1 by omega, List.getElem?_cons_succ]
      have hlt : k < r.dropLast.length := (List.getElem?_eq_some_iff.1 hk).1
      rw [List.dropLast_eq_take, List.getElem?_take] at hk
      simp at hlt
      rw [if_pos (by omega)] at hk
      exact hk
  by_cases c2 : h = ctlW
  · rw [if_pos c2]
    refine PAll_map (.inr rfl) ?_
    have := mid 1 (by rw [c2]; decide)
    rw [fr (if_not (by rw [c1]; rfl) (if_of (by simpa using c2) rfl))]
    exact this
  rw [if_neg c2]
  by_cases c3 : h = foilW
  · rw [if_pos c3]
    refine PAll_map (.inl rfl) ?_
    have := mid 0 (by rw [c3]; decide)
    rw [fr (if_not (by rw [c1]; rfl) (if_not (by simpa using c2) (if_of (by simpa using c3) rfl)))]
    exact this
  · rw [if_neg c3]
    exact fr (if_not (by rw [c1]; rfl) (if_not (by simpa using c2) (if_not (by simpa using c3) rfl)))
end Go.Proofs.YtnjandhaeojieaaDoor
