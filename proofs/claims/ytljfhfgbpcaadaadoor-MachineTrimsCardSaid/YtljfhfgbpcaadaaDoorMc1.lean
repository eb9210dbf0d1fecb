/- Machines: how a row is found, and how they run. -/
import Derived.Test.YtljfhfgbpcaadaaDoorMc0
set_option linter.unusedVariables false
set_option linter.unusedSimpArgs false
namespace Go.AM
open Go.Proofs.YtljfhfgbpcaadaaDoor
def bsF (c : Nat → Int) : Nat → Nat → Nat → Nat
  | 0, i, _ => i
  | f + 1, i, j => if i < j then (if c ((i + j) / 2) < 0 then bsF c f ((i + j) / 2 + 1) j else bsF c f i ((i + j) / 2)) else i
def ordAt (t : T) (s x : Int) (h : Nat) : Int := ordI (t.el h 0).int (t.el h 1).int s x
def bsM (t : T) (s x : Int) : Nat := bsF (ordAt t s x) (t.len + 1) 0 t.len
def findM (t : T) (s x : Int) : Option (Int × Int) := if bsM t s x < t.len ∧ ordAt t s x (bsM t s x) = 0 then some ((t.el (bsM t s x) 2).int, (t.el (bsM t s x) 3).int) else none
def runL (r : T) : T → Int → List Int → List Int
  | _, _, [] => []
  | l, s, x :: xs => match findM l s x with
    | none => []
    | some (o, th) => o :: runL r r th xs
theorem runL_len (r : T) : ∀ (xs : List Int) (l : T) (s : Int), (runL r l s xs).length ≤ xs.length
  | [], l, s => by simp [runL]
  | x :: xs, l, s => by
    simp only [runL]
    split
    · simp
    · simp only [List.length_cons]
      have := runL_len r xs r
      exact Nat.succ_le_succ (this _)
theorem wrapU_eq {a : Int} (h1 : 0 ≤ a) (h2 : a ≤ 9223372036854775807) : IntKind.wrap .u64 a = a := by
  simp only [IntKind.wrap, IntKind.signed, IntKind.bits]
  simp
  omega
theorem mid_eq {i j : Nat} (hi : i ≤ 12000) (hj : j ≤ 12000) : IntKind.wrap .i64 (shrOf .u64 (IntKind.wrap .u64 (IntKind.wrap .i64 ((i : Int) + (j : Int)))) 1) = (((i + j) / 2 : Nat) : Int) := by
  rw [wrap_eq (a := (i : Int) + j) (by omega) (by omega), wrapU_eq (by omega) (by omega)]
  have e : shrOf .u64 ((i : Int) + (j : Int)) 1 = (((i + j) / 2 : Nat) : Int) := by
    unfold shrOf
    rw [show (2 : Int) ^ (min (1 : Int).toNat IntKind.u64.bits) = 2 by rfl, Int.fdiv_eq_ediv_of_nonneg _ (by omega)]
    omega
  rw [e, wrap_eq (by omega) (by omega)]
theorem bsF_le (c : Nat → Int) : ∀ f i j, i ≤ j → bsF c f i j ≤ j
  | 0, i, j, h => h
  | f + 1, i, j, h => by
    unfold bsF
    split
    · split
      · exact bsF_le c f _ _ (by omega)
      · exact Nat.le_trans (bsF_le c f _ _ (by omega)) (by omega)
    · exact h
end Go.AM
namespace Go.Proofs.YtljfhfgbpcaadaaDoor
open Go.AM
theorem bs_sp (t : T) (ht : t.len ≤ 12000) : Ev fun N => ∀ s x, C_slices_BinarySearchFunc_Row_by_machine_order (K N) t s x 0 0 = some (lookR [(0, T.i (bsM t s x)), (1, T.b (decide (bsM t s x < t.len) && (ordAt t s x (bsM t s x) == 0)))]) := by
  refine Ev.step (order_sp.imp2 (Ev.ge 13000) fun N ho hN s x => ?_)
  rw [C_slices_BinarySearchFunc_Row_by_machine_order_K]
  have key : ∀ f i j, i ≤ j → j ≤ t.len → j - i < f → ∀ L, f ≤ L → slices_BinarySearchFunc_Row_by_machine_order.B0 (K N) L t (t.len : Int) (i : Int) (j : Int) s x 0 0 = some (lookR [(0, T.i (bsF (ordAt t s x) f i j : Nat)), (1, T.b (decide (bsF (ordAt t s x) f i j < t.len) && (ordAt t s x (bsF (ordAt t s x) f i j) == 0)))]) := by
    intro f
    induction f with
    | zero => intro i j _ _ h; omega
    | succ f ih =>
      intro i j hij hj hf L hL
      obtain ⟨L, rfl⟩ : ∃ M, L = M + 1 := ⟨L - 1, by omega⟩
      rw [slices_BinarySearchFunc_Row_by_machine_order.B0_eq]
      unfold bsF
      by_cases c : i < j
      · rw [if_pos c, mid_eq (by omega) (by omega), Int.toNat_natCast]
        refine if_of (decide_eq_true (by omega)) (if_of (by simp; omega) (bind_of (ho _ _ _ _ _ _ _ _) ?_))
        by_cases d : ordAt t s x ((i + j) / 2) < 0
        · rw [if_pos d, wrap_eq (a := (((i + j) / 2 : Nat) : Int) + 1) (by omega) (by omega)]
          exact if_of (decide_eq_true d) (ih ((i + j) / 2 + 1) j (by omega) hj (by omega) L (by omega))
        · rw [if_neg d]
          exact if_not (decide_eq_false d) (ih i ((i + j) / 2) (by omega) (by omega) (by omega) L (by omega))
      · rw [if_neg c, Int.toNat_natCast]
        refine if_not (decide_eq_false (by omega)) ?_
        by_cases d : i < t.len
        · rw [decide_eq_true d, Bool.true_and]
          exact if_of (decide_eq_true (by omega)) (if_of (by simp; omega) (bind_of (ho _ _ _ _ _ _ _ _) rfl))
        · rw [decide_eq_false d, Bool.false_and]
          exact if_not (decide_eq_false (by omega)) rfl
  exact key (t.len + 1) 0 t.len (by omega) (by omega) (by omega) N (by omega)
theorem find_sp (t : T) (ht : t.len ≤ 12000) : Ev fun N => ∀ s x, ∃ r, C_machine_find (K N) t s x = some r ∧ (r 4).bool = (findM t s x).isSome ∧ ∀ o th, findM t s x = some (o, th) → (r 2).int = o ∧ (r 3).int = th := by
  refine Ev.step ((bs_sp t ht).imp fun N hb s x => ?_)
  have hb := hb s x
  rw [C_machine_find_K]
  unfold findM
  by_cases c : bsM t s x < t.len
  · rw [decide_eq_true c, Bool.true_and] at hb
    by_cases d : ordAt t s x (bsM t s x) = 0
    · rw [if_pos ⟨c, d⟩]
      refine ⟨_, bind_of hb (if_not (by show (!(ordAt t s x (bsM t s x) == 0)) = false; simp [d]) (if_of (by simp only [lookR_0, int_i]; simp; omega) rfl)), rfl, fun o th h => ?_⟩
      cases h
      simp only [lookR_0, int_i, Int.toNat_natCast]
      exact ⟨rfl, rfl⟩
    · rw [if_neg (fun e => d e.2)]
      exact ⟨_, bind_of hb (if_of (by show (!(ordAt t s x (bsM t s x) == 0)) = true; simpa using d) rfl), rfl, fun o th h => by cases h⟩
  · rw [decide_eq_false c, Bool.false_and] at hb
    rw [if_neg (fun e => c e.1)]
    exact ⟨_, bind_of hb (if_of rfl rfl), rfl, fun o th h => by cases h⟩
def pushI (n : Nat) (g : Nat → Nat → T) (v : Int) : Nat → Nat → T := fun i j => (bif Nat.blt i n then (g i j) else ((([[(T.i v)]] : List (List T)).getD (0 + (i - n)) []).getD j (.b false)))
theorem Ints_push {n : Nat} {g : Nat → Nat → T} {l : List Int} (h : Ints (T.l n g) l) (v : Int) : Ints (T.l (n + 1) (pushI n g v)) (l ++ [v]) := by
  have hn : n = l.length := h.1
  refine ⟨by simp [T.len, hn], fun i u hi => ?_⟩
  show (pushI n g v i 0).int = u
  unfold pushI
  by_cases c : i < l.length
  · rw [show Nat.blt i n = true by rw [Nat.blt_eq]; omega]
    rw [List.getElem?_append_left c] at hi
    exact h.2 i u hi
  · have hl := (List.getElem?_eq_some_iff.1 hi).1
    simp at hl
    obtain rfl : i = l.length := by omega
    rw [show Nat.blt l.length n = false by cases hb : Nat.blt l.length n with | false => rfl | true => rw [Nat.blt_eq] at hb; omega]
    simp at hi
    subst hi
    rw [hn, Nat.sub_self]
    rfl
theorem Run_sp (b r : T) : Ev fun N => ∀ w q xs, Ints q xs → xs.length ≤ 1000 → ∃ n g, C_machine_Run (K N) w b r q = some (lookR [(0, T.l n g)]) ∧ Ints (T.l n g) (if mayMc w b r = 0 then runL r b 0 xs else []) := by
  by_cases hb : b.len ≤ 12000 ∧ r.len ≤ 12000
  case neg =>
    refine Ev.step ((May_sp b r).imp fun N hm w q xs hq hl => ?_)
    have hn : mayMc w b r ≠ 0 := by
      unfold mayMc
      split
      · omega
      · rw [if_pos (by omega)]
        omega
    rw [C_machine_Run_K, if_neg hn]
    exact ⟨_, _, bind_of (hm w) (if_of (by simpa [lookR_0, int_i] using hn) rfl), rfl, by simp⟩
  refine Ev.step (Ev.imp4 (May_sp b r) (find_sp b hb.1) (find_sp r hb.2) (Ev.ge 3000) fun N hm hf1 hf2 hN w q xs hq hl => ?_)
  rw [C_machine_Run_K]
  by_cases hn : mayMc w b r = 0
  case neg =>
    rw [if_neg hn]
    exact ⟨_, _, bind_of (hm w) (if_of (by simpa [lookR_0, int_i] using hn) rfl), rfl, by simp⟩
  rw [if_pos hn]
  have hq1 := hq.1
  have stop : ∀ L n g, machine_Run.B1 (K N) (L + 1) n g = some (lookR [(0, T.l n g)]) := fun L n g => by rw [machine_Run.B1_eq]
  have key : ∀ (k i : Nat), i + k = xs.length → ∀ (l : T) (s : Int) (n : Nat) (g : Nat → Nat → T) (acc : List Int) (L : Nat), (∀ s x, ∃ r, C_machine_find (K N) l s x = some r ∧ (r 4).bool = (findM l s x).isSome ∧ ∀ o th, findM l s x = some (o, th) → (r 2).int = o ∧ (r 3).int = th) →
      Ints (T.l n g) acc → acc.length ≤ i → k + 2 ≤ L → ∃ n' g', machine_Run.B0 (K N) L n l s q (q.len : Int) (i : Int) w b r g = some (lookR [(0, T.l n' g')]) ∧ Ints (T.l n' g') (acc ++ runL r l s (xs.drop i)) := by
    intro k
    induction k with
    | zero =>
      intro i hi l s n g acc L hf hg ha hL
      obtain ⟨L, rfl⟩ : ∃ M, L = M + 2 := ⟨L - 2, by omega⟩
      refine ⟨n, g, ?_, ?_⟩
      · rw [machine_Run.B0_eq]
        exact if_not (decide_eq_false (by omega)) (stop L n g)
      · rw [List.drop_eq_nil_of_le (by omega), show runL r l s [] = [] by simp [runL], List.append_nil]
        exact hg
    | succ k ih =>
      intro i hi l s n g acc L hf hg ha hL
      obtain ⟨L, rfl⟩ : ∃ M, L = M + 2 := ⟨L - 2, by omega⟩
      have hlt : i < xs.length := by omega
      obtain ⟨z, hz, z1, z2⟩ := hf s xs[i]
      have hx : (q.el i 0).int = xs[i] := hq.2 i _ (List.getElem?_eq_getElem hlt)
      have hgn : n = acc.length := hg.1
      rw [show L + 2 = L + 1 + 1 by rfl, machine_Run.B0_eq, Int.toNat_natCast, hx, List.drop_eq_getElem_cons hlt]
      simp only [runL]
      cases hfm : findM l s xs[i] with
      | none =>
        rw [hfm] at z1
        refine ⟨n, g, if_of (decide_eq_true (by omega)) (if_of (by simp; omega) (bind_of hz (if_of (by rw [z1]; rfl) (stop L n g)))), ?_⟩
        rw [List.append_nil]
        exact hg
      | some p =>
        obtain ⟨o, th⟩ := p
        rw [hfm] at z1
        obtain ⟨y1, y2⟩ := z2 o th hfm
        obtain ⟨n', g', e, hI⟩ := ih (i + 1) (by omega) r th (n + 1) (pushI n g o) (acc ++ [o]) (L + 1) hf2 (Ints_push hg o) (by simp; omega) (by omega)
        refine ⟨n', g', if_of (decide_eq_true (by omega)) (if_of (by simp; omega) (bind_of hz (if_not (by rw [z1]; rfl) (if_of (decide_eq_true (by omega)) ?_)))), ?_⟩
        · rw [y1, y2, wrap_eq (a := (i : Int) + 1) (by omega) (by omega)]
          exact e
        · rw [List.append_assoc] at hI
          exact hI
  obtain ⟨n', g', e, hI⟩ := key xs.length 0 (by omega) b 0 0 (fun _ _ => .b false) [] N hf1 ⟨rfl, by simp⟩ (by simp) (by omega)
  exact ⟨n', g', bind_of (hm w) (if_not (by rw [lookR_0, int_i, hn]; rfl) e), by simpa using hI⟩
end Go.Proofs.YtljfhfgbpcaadaaDoor
