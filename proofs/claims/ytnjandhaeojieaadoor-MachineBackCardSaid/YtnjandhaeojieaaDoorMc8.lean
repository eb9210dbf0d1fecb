/- A machine is read. -/
import Derived.Test.YtnjandhaeojieaaDoorMc7
set_option linter.unusedVariables false
set_option linter.unusedSimpArgs false
namespace Go.AM
open Go.Proofs.YtnjandhaeojieaaDoor
structure Q where
  s : Nat
  i : Nat
  o : Nat
  t : Nat
def rowM (l : List UInt8) : Option (Q × Bool) := match splitL 32 l with
  | [a, b, c, d, e] => if c = [45, 62] then (match digM (if a = begW then [48] else a), digM b, digM d, digM e with
    | some a', some b', some d', some e' => some (⟨a', b', d', e'⟩, decide (a = begW))
    | _, _, _, _ => none) else none
  | _ => none
def scanRows : List (List UInt8) → List Q → List Q → Option (List Q × List Q)
  | [], B, R => some (B, R)
  | l :: ls, B, R => match rowM l with
    | none => none
    | some (q, true) => if R.length ≠ 0 then none else scanRows ls (B ++ [q]) R
    | some (q, false) => scanRows ls B (R ++ [q])
def ctlW : List UInt8 := [99, 111, 110, 116, 114, 111, 108, 108, 101, 114]
def foilW : List UInt8 := [102, 111, 105, 108]
def scanM (s : List UInt8) : Option (Int × List Q × List Q) := match splitL 10 s with
  | [] => none
  | h :: r => if (h :: r).getLast? ≠ some [] then none else if h = ctlW then (scanRows r.dropLast [] []).map fun p => (1, p) else if h = foilW then (scanRows r.dropLast [] []).map fun p => (0, p) else none
def IsQ (f : Nat → T) (q : Q) : Prop := (f 0).int = (q.s : Int) ∧ (f 1).int = (q.i : Int) ∧ (f 2).int = (q.o : Int) ∧ (f 3).int = (q.t : Int)
def QsUp (g : Nat → Nat → T) (L : List Q) : Prop := ∀ i q, L[i]? = some q → IsQ (g i) q
def Qs (t : T) (L : List Q) : Prop := t.len = L.length ∧ ∀ i q, L[i]? = some q → IsQ (t.el i) q
theorem QsUp.put {g : Nat → Nat → T} {acc : List Q} (h : QsUp g acc) {r : R} {q : Q} (hq : IsQ r q) {n : Nat} (hn : n = acc.length) : QsUp (fun i j => (bif Nat.blt i n then (g i j) else ((([[(T.i ((r 0).int)), (T.i ((r 1).int)), (T.i ((r 2).int)), (T.i ((r 3).int))]] : List (List T)).getD (0 + (i - n)) []).getD j (.b false)))) (acc ++ [q]) := by
  intro i p hi
  unfold IsQ
  by_cases c : i < n
  · simp only [show Nat.blt i n = true by rw [Nat.blt_eq]; exact c, cond_true]
    rw [List.getElem?_append_left (by omega)] at hi
    exact h i p hi
  · simp only [show Nat.blt i n = false by cases hb : Nat.blt i n with | false => rfl | true => rw [Nat.blt_eq] at hb; omega, cond_false]
    have hlt : i < (acc ++ [q]).length := (List.getElem?_eq_some_iff.1 hi).1
    simp at hlt
    obtain rfl : i = n := by omega
    rw [List.getElem?_append_right (by omega), hn, Nat.sub_self] at hi
    obtain rfl := Option.some.inj hi
    rw [Nat.sub_self]
    exact hq
end Go.AM
namespace Go.Proofs.YtnjandhaeojieaaDoor
open Go.AM
def rRow (o : Option (Q × Bool)) : Option R := match o with
  | some (q, f) => some (lookR [(0, .i q.s), (1, .i q.i), (2, .i q.o), (3, .i q.t), (4, .b f), (5, .b true)])
  | none => some (lookR [(0, (T.i 0)), (1, (T.i 0)), (2, (T.i 0)), (3, (T.i 0)), (4, (T.b false)), (5, (T.b false))])
theorem row_sp : Ev fun N => ∀ s : ByteArray, s.size ≤ 400000 → C_machine_row (K N) s = rRow (rowM s.data.toList) := by
  refine Ev.step (Ev.imp3 Split_sp digits_sp (Ev.ge 100) fun N hS hD hN s hs => ?_)
  obtain ⟨t, e, h1, h2⟩ := hS s 32 hs
  rw [C_machine_row_K]
  refine bind_of e ?_
  rw [lookR_0]
  unfold rowM
  generalize hL : splitL 32 s.data.toList = L at h1 h2
  by_cases hlen : L.length = 5
  case neg =>
    have : (match L with
      | [a, b, c, d, e] => if c = [45, 62] then (match digM (if a = begW then [48] else a), digM b, digM d, digM e with
        | some a', some b', some d', some e' => some ((⟨a', b', d', e'⟩ : Q), decide (a = begW))
        | _, _, _, _ => none) else none
      | _ => none) = none := by
      split
      · simp at hlen
      · rfl
    rw [this]
    exact if_of (by rw [h1]; simp; omega) rfl
  obtain ⟨a, b, c, d, e', rfl⟩ : ∃ a b c d e', L = [a, b, c, d, e'] := by
    rcases L with _ | ⟨a, _ | ⟨b, _ | ⟨c, _ | ⟨d, _ | ⟨e', _ | ⟨f, L⟩⟩⟩⟩⟩⟩ <;> simp at hlen
    exact ⟨_, _, _, _, _, rfl⟩
  have ha := h2 0 a rfl
  have hb := h2 1 b rfl
  have hc := h2 2 c rfl
  have hd := h2 3 d rfl
  have he := h2 4 e' rfl
  have h1 : t.len = 5 := h1
  refine if_not (by rw [h1]; rfl) (if_of (by rw [h1]; rfl) (if_of (by rw [h1]; rfl) ?_))
  rw [strEq_eq, hc]
  show (bif !(c == [45, 62]) then _ else _) = rRow (if c = [45, 62] then _ else none)
  by_cases hc' : c = [45, 62]
  case neg =>
    rw [if_neg hc']
    exact if_of (by simpa using hc') rfl
  rw [if_pos hc']
  refine if_not (by simpa using hc') (if_of (by rw [h1]; rfl) (if_of (by rw [h1]; rfl) ?_))
  have hE : strEq ((t.el 0 0).str) (ByteArray.mk #[98, 101, 103, 105, 110]) = decide (a = begW) := by
    rw [strEq_eq, ha]
    show (a == begW) = _
    by_cases h : a = begW <;> simp [h]
  rw [hE]
  have dig : ∀ (s : ByteArray) (l : List UInt8), s.data.toList = l → C_machine_digits (K N) s = (match digM l with
      | some v => some (lookR [(0, T.i (v : Int)), (1, T.b true)])
      | none => some (lookR [(0, T.i 0), (1, T.b false)])) := by
    intro s l h
    rw [hD, h]
    cases digM l <;> rfl
  have main : ∀ (g : Nat → Nat → T) (L : Nat) (a1 : List UInt8), ((g 0 0).str).data.toList = a1 → ((g 1 0).str).data.toList = b → ((g 3 0).str).data.toList = d → ((g 4 0).str).data.toList = e' → machine_row.B0 (K N) (L + 11) 5 (decide (a = begW)) 0 0 0 0 g = rRow (match digM a1, digM b, digM d, digM e' with
      | some a', some b', some d', some e' => some (⟨a', b', d', e'⟩, decide (a = begW))
      | _, _, _, _ => none) := by
    intro g L a1 g0 g1 g3 g4
    rw [machine_row.B0_eq]
    refine if_of rfl (if_of rfl (if_of rfl (if_of rfl (if_of rfl (if_of rfl (if_of rfl (if_of rfl ?_)))))))
    have next : ∀ (L i : Nat) (x y z u : Int) (g : Nat → Nat → T), i < 4 → machine_row.B2 (K N) (L + 1) 4 (decide (a = begW)) 4 (i : Int) 0 0 0 0 x y z u g = machine_row.B1 (K N) L 4 (decide (a = begW)) 4 ((i + 1 : Nat) : Int) 0 0 0 0 x y z u g := by
      intro L i x y z u g hi
      rw [machine_row.B2_eq, wrap_eq (a := (i : Int) + 1) (by omega) (by omega)]
      rfl
    cases c0 : digM a1 with
    | none =>
      have d0 : C_machine_digits (K N) ((g 0 0).str) = some (lookR [(0, T.i 0), (1, T.b false)]) := by rw [dig _ _ g0, c0]
      rw [machine_row.B1_eq]
      exact if_of rfl (if_of rfl (if_of rfl (bind_of d0 (if_of rfl rfl))))
    | some v0 =>
    have d0 : C_machine_digits (K N) ((g 0 0).str) = some (lookR [(0, T.i (v0 : Int)), (1, T.b true)]) := by rw [dig _ _ g0, c0]
    rw [machine_row.B1_eq]
    refine if_of rfl (if_of rfl (if_of rfl (bind_of d0 (if_not rfl (if_of rfl ((next _ 0 _ _ _ _ _ (by decide)).trans ?_))))))
    cases c1 : digM b with
    | none =>
      have d1 : C_machine_digits (K N) ((g 1 0).str) = some (lookR [(0, T.i 0), (1, T.b false)]) := by rw [dig _ _ g1, c1]
      rw [machine_row.B1_eq]
      exact if_of rfl (if_of rfl (if_of rfl (bind_of d1 (if_of rfl rfl))))
    | some v1 =>
    have d1 : C_machine_digits (K N) ((g 1 0).str) = some (lookR [(0, T.i (v1 : Int)), (1, T.b true)]) := by rw [dig _ _ g1, c1]
    rw [machine_row.B1_eq]
    refine if_of rfl (if_of rfl (if_of rfl (bind_of d1 (if_not rfl (if_not rfl (if_of rfl ((next _ 1 _ _ _ _ _ (by decide)).trans ?_)))))))
    cases c2 : digM d with
    | none =>
      have d2 : C_machine_digits (K N) ((g 3 0).str) = some (lookR [(0, T.i 0), (1, T.b false)]) := by rw [dig _ _ g3, c2]
      rw [machine_row.B1_eq]
      exact if_of rfl (if_of rfl (if_of rfl (bind_of d2 (if_of rfl rfl))))
    | some v2 =>
    have d2 : C_machine_digits (K N) ((g 3 0).str) = some (lookR [(0, T.i (v2 : Int)), (1, T.b true)]) := by rw [dig _ _ g3, c2]
    rw [machine_row.B1_eq]
    refine if_of rfl (if_of rfl (if_of rfl (bind_of d2 (if_not rfl (if_not rfl (if_not rfl (if_of rfl ((next _ 2 _ _ _ _ _ (by decide)).trans ?_))))))))
    cases c3 : digM e' with
    | none =>
      have d3 : C_machine_digits (K N) ((g 4 0).str) = some (lookR [(0, T.i 0), (1, T.b false)]) := by rw [dig _ _ g4, c3]
      rw [machine_row.B1_eq]
      exact if_of rfl (if_of rfl (if_of rfl (bind_of d3 (if_of rfl rfl))))
    | some v3 =>
    have d3 : C_machine_digits (K N) ((g 4 0).str) = some (lookR [(0, T.i (v3 : Int)), (1, T.b true)]) := by rw [dig _ _ g4, c3]
    rw [machine_row.B1_eq]
    refine if_of rfl (if_of rfl (if_of rfl (bind_of d3 (if_not rfl (if_not rfl (if_not rfl (if_not rfl (if_of rfl ((next _ 3 _ _ _ _ _ (by decide)).trans ?_)))))))))
    rw [machine_row.B1_eq]
    exact if_not rfl rfl
  obtain ⟨L, hL'⟩ : ∃ L, N = L + 11 := ⟨N - 11, by omega⟩
  have hB : ∀ g, machine_row.B0 (K N) N t.len (decide (a = begW)) 0 0 0 0 g = machine_row.B0 (K N) (L + 11) 5 (decide (a = begW)) 0 0 0 0 g := fun g => by rw [h1, ← hL']
  by_cases hbeg : a = begW
  · refine if_of (decide_eq_true hbeg) (if_of (by rw [h1]; rfl) (if_of (by rw [h1]; rfl) ((hB _).trans ?_)))
    rw [if_pos hbeg]
    exact main _ L [48] rfl hb hd he
  · refine if_not (decide_eq_false hbeg) ((hB _).trans ?_)
    rw [if_neg hbeg]
    exact main _ L a ha hb hd he
end Go.Proofs.YtnjandhaeojieaaDoor
