/- What every program must know of machines; both answers whether one may be; inputs that are held against each other. -/
import Derived.Test.YtljfhfgbpcaadaaDoorMc2
set_option linter.unusedVariables false
set_option linter.unusedSimpArgs false
namespace Go.AM
open Go.Proofs.YtljfhfgbpcaadaaDoor
def aB : T := T.l 1 (fun i j => ((([[(T.i 0), (T.i 0), (T.i 1), (T.i 0)]] : List (List T)).getD (0 + i) []).getD j (.b false)))
def aR : T := T.l 1 (fun i j => ((([[(T.i 0), (T.i 2), (T.i 3), (T.i 0)]] : List (List T)).getD (0 + i) []).getD j (.b false)))
def aI : T := T.l 4 (fun i j => ((([[(T.i 0)], [(T.i 2)], [(T.i 2)], [(T.i 1)]] : List (List T)).getD (0 + i) []).getD j (.b false)))
theorem aI_ints : Ints aI [0, 2, 2, 1] := ⟨rfl, fun i v h => by
  match i, h with
  | 0, h => cases h; rfl
  | 1, h => cases h; rfl
  | 2, h => cases h; rfl
  | 3, h => cases h; rfl
  | i + 4, h => simp at h⟩
theorem a_may : mayMc 1 aB aR = 0 := by rfl
theorem a_run : runL aR aB 0 [0, 2, 2, 1] = [1, 3, 3] := by rfl
theorem dig (u : Nat) (h : u < 10) : Lib.decDigits u = [UInt8.ofNat (48 + u)] := by rw [Lib.decDigits, dif_pos h]
theorem a_text : textM 1 aB aR = [99, 111, 110, 116, 114, 111, 108, 108, 101, 114, 10, 98, 101, 103, 105, 110, 32, 48, 32, 45, 62, 32, 49, 32, 48, 10, 48, 32, 50, 32, 45, 62, 32, 51, 32, 48, 10] := by
  have i0 : Lib.itoa 0 = [48] := by unfold Lib.itoa; rw [if_neg (by decide)]; exact dig 0 (by decide)
  have i1 : Lib.itoa 1 = [49] := by unfold Lib.itoa; rw [if_neg (by decide)]; exact dig 1 (by decide)
  have i2 : Lib.itoa 2 = [50] := by unfold Lib.itoa; rw [if_neg (by decide)]; exact dig 2 (by decide)
  have i3 : Lib.itoa 3 = [51] := by unfold Lib.itoa; rw [if_neg (by decide)]; exact dig 3 (by decide)
  have e1 : linesM (begL aB) aB.len = lineM begW 0 1 0 := by show [begL aB 0].flatten = _; simp only [List.flatten_cons, List.flatten_nil, List.append_nil]; rfl
  have e2 : linesM (rowL aR) aR.len = lineM (Lib.itoa 0) 2 3 0 := by show [rowL aR 0].flatten = _; simp only [List.flatten_cons, List.flatten_nil, List.append_nil]; rfl
  unfold textM
  rw [e1, e2, line_eq, line_eq, i0, i1, i2, i3]
  rfl
end Go.AM
namespace Go.Proofs.YtljfhfgbpcaadaaDoor
open Go.AM
theorem strEq_self (s : ByteArray) : strEq s s = true := by unfold strEq; exact beq_self_eq_true _
theorem awake25_sp : Ev fun N => C_parrylaw25_awake (K N) = rb true := by
  refine Ev.step (Ev.imp3 (Run_sp aB aR) (Text_sp aB aR) (May_sp aB aR) fun N h1 h2 h3 => ?_)
  obtain ⟨n, g, e1, hI⟩ := h1 1 aI _ aI_ints (by decide)
  have e2 := h2 1
  have e3 := h3 1
  rw [if_pos a_may, a_run] at hI
  rw [if_pos a_may, a_text] at e2
  rw [a_may] at e3
  have hn : n = 3 := hI.1
  have g0 : (g 0 0).int = 1 := hI.2 0 1 rfl
  have g2 : (g 2 0).int = 3 := hI.2 2 3 rfl
  rw [C_parrylaw25_awake_K]
  refine bind_of e1 (bind_of e2 (if_of (strEq_self _) ?_))
  simp only [lookR_0, len_l, el_l, g0, g2, hn]
  exact if_of rfl (if_of rfl (if_of rfl (if_of rfl (if_of rfl (if_of rfl (if_of rfl (bind_of e3 rfl)))))))
theorem cmpLoop {n : Nat} {B : Nat → Int → Option R} (hEnd : ∀ N, B (N + 1) (n : Int) = rb true) (hStep : ∀ N i, i < n → B (N + 1) (i : Int) = B N ((i + 1 : Nat) : Int)) : ∀ k i, i + k = n → ∀ N, k < N → B N (i : Int) = rb true
  | 0, i, hi, N, hN => by
    obtain ⟨N, rfl⟩ : ∃ M, N = M + 1 := ⟨N - 1, by omega⟩
    obtain rfl : i = n := by omega
    exact hEnd N
  | k + 1, i, hi, N, hN => by
    obtain ⟨N, rfl⟩ : ∃ M, N = M + 1 := ⟨N - 1, by omega⟩
    rw [hStep N i (by omega)]
    exact cmpLoop hEnd hStep k (i + 1) (by omega) N (by omega)
theorem SameInts_sp : Ev fun N => ∀ s t xs, Ints s xs → Ints t xs → xs.length ≤ 3000 → C_parryref9_SameInts (K N) s t = rb true := by
  refine Ev.step ((Ev.ge 3002).imp fun N hN s t xs hs ht hl => ?_)
  have h1 := hs.1
  have h2 := ht.1
  rw [C_parryref9_SameInts_K]
  refine if_not (by simp [h1, h2]) ?_
  refine cmpLoop (n := s.len) (B := fun M i => parryref9_SameInts.B0 (K N) M s t (s.len : Int) i) (fun M => ?_) (fun M i hi => ?_) s.len 0 (by omega) N (by omega)
  · show parryref9_SameInts.B0 (K N) (M + 1) s t (s.len : Int) (s.len : Int) = _
    rw [parryref9_SameInts.B0_eq]
    exact if_not (decide_eq_false (by omega)) rfl
  · obtain ⟨x, hx⟩ : ∃ x, xs[i]? = some x := ⟨_, List.getElem?_eq_getElem (by omega)⟩
    show parryref9_SameInts.B0 (K N) (M + 1) s t (s.len : Int) (i : Int) = _
    rw [parryref9_SameInts.B0_eq, Int.toNat_natCast, hs.2 i x hx, ht.2 i x hx]
    refine if_of (decide_eq_true (by omega)) (if_of (by simp; omega) (if_of (by simp; omega) (if_not (by simp) ?_)))
    rw [wrap_eq (a := (i : Int) + 1) (by omega) (by omega)]
    rfl
theorem Heavy_sp (N : Nat) (w : Int) (b r : T) (hb : b.len ≤ 9223372036854775807) (hr : r.len ≤ 9223372036854775807) : ∃ x, C_parrylaw25_Heavy (K (N + 1)) w b r = ri x ∧ (x = 0 ∨ x = 1) := by
  rw [C_parrylaw25_Heavy_K]
  cases c : decide ((IntKind.wrap .i64 (((b.len : Nat) : Int) + ((r.len : Nat) : Int))) > (600 : Int))
  · exact ⟨0, rfl, .inl rfl⟩
  · exact ⟨1, rfl, .inr rfl⟩
end Go.Proofs.YtljfhfgbpcaadaaDoor
