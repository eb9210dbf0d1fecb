/- The laws' own small values, and what every program must know. -/
import Derived.Test.YtnjandhaeojieaaSp7
import Derived.Test.YtnjandhaeojieaaTop0
set_option linter.unusedVariables false
set_option linter.unusedSimpArgs false
namespace Go.Proofs.Ytnjandhaeojieaa
open Go.AM
theorem bind_of {α β : Type} {x : Option α} {r : α} {f : α → Option β} {y : Option β} (h : x = some r) (k : f r = y) : x.bind f = y := by rw [h]; exact k
theorem if_of {α : Type} {c : Bool} {x y z : α} (h : c = true) (k : x = z) : (bif c then x else y) = z := by rw [h]; exact k
theorem if_not {α : Type} {c : Bool} {x y z : α} (h : c = false) (k : y = z) : (bif c then x else y) = z := by rw [h]; exact k
theorem KW_noT : KW noT := ⟨by omega, fun i hi => absurd hi (Nat.not_lt_zero _)⟩
def xyV : List Va := [⟨⟨#[120]⟩, true, 1, 0, 0⟩, ⟨⟨#[121]⟩, false, 2, 1, 3⟩]
theorem v1 : valueE xyV (.mk 12 0 [.mk 1 2 [], .mk 3 1 []]) 5 0 = (5, 0) := by decide +kernel
theorem v2 : valueE xyV (.mk 12 0 [.mk 1 1000 [], .mk 1 1 []]) 0 0 = (0, 6) := by decide +kernel
theorem v3 : trueE xyV (.mk 10 0 [.mk 1 1 [], .mk 1 2 []]) 0 0 = true := by decide +kernel
end Go.Proofs.Ytnjandhaeojieaa
set_option linter.unusedVariables false
set_option linter.unusedSimpArgs false
namespace Go.Proofs.Ytnjandhaeojieaa
open Go.AM
end Go.Proofs.Ytnjandhaeojieaa
set_option linter.unusedVariables false
set_option linter.unusedSimpArgs false
namespace Go.Proofs.Ytnjandhaeojieaa
open Go.AM
end Go.Proofs.Ytnjandhaeojieaa
set_option linter.unusedVariables false
set_option linter.unusedSimpArgs false
namespace Go.Proofs.Ytnjandhaeojieaa
open Go.AM
theorem strEq_self (s : ByteArray) : strEq s s = true := by unfold strEq; exact beq_self_eq_true _
end Go.Proofs.Ytnjandhaeojieaa
set_option linter.unusedVariables false
set_option linter.unusedSimpArgs false
namespace Go.Proofs.Ytnjandhaeojieaa
open Go.AM
theorem un28 : Try.prog.underlying 23 = some (.slice 25) := by kernel_rfl
theorem WT_kids : ∀ {t : TypeId} {x : T}, WT Try.prog t x → t = 23 → KW x := by
  intro t x h
  induction h with
  | int h hw => intro e; subst e; rw [un28] at h; cases h
  | bool h => intro e; subst e; rw [un28] at h; cases h
  | str h hs => intro e; subst e; rw [un28] at h; cases h
  | @sl t e n g h hn hg ih =>
    intro he
    subst he
    rw [un28] at h
    have e30 : e = 25 := by injection h with h; injection h with h; exact h.symm
    subst e30
    have h2 : lv Try.prog 25 = [3, 3, 23] := by kernel_rfl
    refine ⟨Nat.le_trans hn (Nat.le_refl _), fun i hi => ih i 2 23 hi (by rw [h2]; rfl) rfl⟩
theorem WT_KW {x : T} (h : WT Try.prog 23 x) : KW x := WT_kids h rfl
theorem WT_len {t : TypeId} {x : T} (h : WT Try.prog t x) : x.len ≤ 9223372036854775807 := by
  cases h with
  | sl h hn hg => exact Nat.le_trans hn (Nat.le_refl _)
  | _ => exact Nat.zero_le _
theorem heavyB {h : H} {l : T} (hl : l.len ≤ 9223372036854775807) : ∀ (m i : Nat), i + m = l.len → ∀ N, m < N → ∃ x, parrylaw1_Heavy.B0 h N l (l.len : Int) (i : Int) = ri x
  | 0, i, hi, N, hN => by
    obtain ⟨N, rfl⟩ : ∃ M, N = M + 1 := ⟨N - 1, by omega⟩
    rw [parrylaw1_Heavy.B0_eq]
    exact ⟨0, if_not (decide_eq_false (by omega)) rfl⟩
  | m + 1, i, hi, N, hN => by
    obtain ⟨N, rfl⟩ : ∃ M, N = M + 1 := ⟨N - 1, by omega⟩
    obtain ⟨x, hx⟩ := heavyB (h := h) hl m (i + 1) (by omega) N (by omega)
    rw [parrylaw1_Heavy.B0_eq, wrap_eq (a := (i : Int) + 1) (by omega) (by omega)]
    have hx : parrylaw1_Heavy.B0 h N l (l.len : Int) ((i : Int) + 1) = ri x := hx
    rw [hx]
    by_cases c1 : (i : Int) ≥ 10
    · exact ⟨_, if_of (decide_eq_true (by omega)) (if_of (by simp; omega) (if_of (decide_eq_true c1) rfl))⟩
    · by_cases c2 : (((l.el (i : Int).toNat 0).str.size : Nat) : Int) > 100
      · exact ⟨_, if_of (decide_eq_true (by omega)) (if_of (by simp; omega) (if_not (decide_eq_false c1) (if_of (decide_eq_true c2) rfl)))⟩
      · exact ⟨x, if_of (decide_eq_true (by omega)) (if_of (by simp; omega) (if_not (decide_eq_false c1) (if_not (decide_eq_false c2) rfl)))⟩
theorem heavyV_sp (l : T) (hl : l.len ≤ 9223372036854775807) : Ev fun N => ∃ x, C_parrylaw1_Heavy (K N) l = ri x := by
  refine Ev.step ((Ev.ge (l.len + 1)).imp fun N hN => ?_)
  rw [C_parrylaw1_Heavy_K]
  exact heavyB hl l.len 0 (by omega) N (by omega)
theorem weighB {h : H} {k : T} (hk : KW k) {d r : Int} (hc : ∀ i, i < k.len → ∀ op n d r, ∃ x, C_parrylaw2_weigh h op n (k.el i 2) d r = ri x) : ∀ (m i : Nat), i + m = k.len → ∀ N n, m < N → ∃ x, parrylaw2_weigh.B0 h N d r n k (k.len : Int) (i : Int) = ri x
  | 0, i, hi, N, n, hN => by
    obtain ⟨N, rfl⟩ : ∃ M, N = M + 1 := ⟨N - 1, by omega⟩
    rw [parrylaw2_weigh.B0_eq]
    exact ⟨n, if_not (decide_eq_false (by omega)) rfl⟩
  | m + 1, i, hi, N, n, hN => by
    obtain ⟨N, rfl⟩ : ∃ M, N = M + 1 := ⟨N - 1, by omega⟩
    have hl := hk.len
    obtain ⟨y, hy⟩ := hc i (by omega) (k.el i 0).int (k.el i 1).int (IntKind.wrap .i64 (d + 1)) (IntKind.wrap .i64 (r - n))
    obtain ⟨x, hx⟩ := weighB (h := h) (d := d) (r := r) hk hc m (i + 1) (by omega) N (IntKind.wrap .i64 (n + y)) (by omega)
    rw [parrylaw2_weigh.B0_eq, wrap_eq (a := (i : Int) + 1) (by omega) (by omega), Int.toNat_natCast, hy, ri_bind, lookR_0, int_i]
    have hx : parrylaw2_weigh.B0 h N d r (IntKind.wrap .i64 (n + y)) k (k.len : Int) ((i : Int) + 1) = ri x := hx
    rw [hx]
    by_cases c1 : IntKind.wrap .i64 (n + y) > r
    · exact ⟨_, if_of (decide_eq_true (by omega)) (if_of (by simp; omega) (if_of (decide_eq_true c1) rfl))⟩
    · exact ⟨x, if_of (decide_eq_true (by omega)) (if_of (by simp; omega) (if_not (decide_eq_false c1) rfl))⟩
theorem weigh_sp : ∀ k, KW k → Ev fun N => ∀ op n d r, ∃ x, C_parrylaw2_weigh (K N) op n k d r = ri x := by
  refine kids_ind fun k ih hk => ?_
  refine Ev.step ((Ev.all (k := k.len) fun i hi => ih i hi (hk.el hi)).imp2 (Ev.ge (k.len + 1)) fun N hc hN op n d r => ?_)
  rw [C_parrylaw2_weigh_K]
  by_cases c1 : d > 40
  · exact ⟨1000, if_of (decide_eq_true c1) rfl⟩
  · by_cases c2 : r < 1
    · exact ⟨1000, if_not (decide_eq_false c1) (if_of (decide_eq_true c2) rfl)⟩
    · obtain ⟨x, hx⟩ := weighB (d := d) (r := r) hk hc k.len 0 (by omega) N 1 (by omega)
      exact ⟨x, if_not (decide_eq_false c1) (if_not (decide_eq_false c2) hx)⟩
theorem heavyE_sp (k : T) (hk : KW k) : Ev fun N => ∀ op n, ∃ x, C_parrylaw2_Heavy (K N) op n k = ri x := by
  refine Ev.step ((weigh_sp k hk).imp fun N h op n => ?_)
  obtain ⟨x, hx⟩ := h op n 0 500
  rw [C_parrylaw2_Heavy_K, hx, ri_bind, lookR_0, int_i]
  by_cases c : x > 300
  · exact ⟨x, if_of (decide_eq_true c) rfl⟩
  · exact ⟨0, if_not (decide_eq_false c) rfl⟩
theorem if_both {α : Type} {c : Bool} {x y z : α} (h : c = true → x = z) (k : c = false → y = z) : (bif c then x else y) = z := by
  cases c with
  | true => exact h rfl
  | false => exact k rfl
theorem sort_of {l : List Va} {e : Ex} {s : Int} (hm : mayV l = 0) (he : mayE e = 0) (ht : Typed l e s) : sortE l e = (s, 0) := by
  have hs : soundE e = true := by
    unfold mayE at he
    split at he
    · split at he
      · assumption
      · cases he
    · cases he
  unfold sortE
  rw [if_neg (by simp [hm]), if_neg (by simp [he])]
  exact (ofE_typed (mayV_sorts hm) e hs).2 _ ht
end Go.Proofs.Ytnjandhaeojieaa
set_option linter.unusedVariables false
set_option linter.unusedSimpArgs false
namespace Go.Proofs.Ytnjandhaeojieaa
open Go.AM
end Go.Proofs.Ytnjandhaeojieaa
set_option linter.unusedVariables false
set_option linter.unusedSimpArgs false
namespace Go.Proofs.Ytnjandhaeojieaa
open Go.AM
end Go.Proofs.Ytnjandhaeojieaa
