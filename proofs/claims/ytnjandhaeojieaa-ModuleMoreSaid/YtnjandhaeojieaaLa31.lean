/- awake of the laws of modules. -/
import Derived.Test.YtnjandhaeojieaaLa32
set_option linter.unusedVariables false
set_option linter.unusedSimpArgs false
set_option maxRecDepth 100000
namespace Go.Proofs.Ytnjandhaeojieaa
open Go.AM
theorem KW_none (t : T) (h : t.len = 0) : KW t := by
  cases t with
  | l n g =>
    have h : n = 0 := h
    subst h
    exact ⟨by omega, fun i hi => absurd hi (Nat.not_lt_zero _)⟩
  | _ => trivial
theorem KS_one {t : T} (h : t.len = 1) (k : KW (t.el 0 4)) : KS t := ⟨by omega, fun i hi => by
  obtain rfl : i = 0 := by omega
  exact k⟩
theorem KC_one {t : T} (h : t.len = 1) (k : KW (t.el 0 2)) (s : KS (t.el 0 3)) : KC t := ⟨by omega, fun i hi => by
  obtain rfl : i = 0 := by omega
  exact ⟨k, s⟩⟩
def smR : R := lookR [(0, (T.l 2 (fun i j => ((([[(T.s (ByteArray.mk #[120])), (T.b true), (T.i 1), (T.i 0), (T.i 0)], [(T.s (ByteArray.mk #[121])), (T.b false), (T.i 1), (T.i 0), (T.i 0)]] : List (List T)).getD i []).getD j (.b false))))), (1, (T.i 2)), (2, (T.i 1)), (3, noT), (4, (T.i 2)), (5, (T.i 1)), (6, noT), (7, (T.l 1 (fun i j => ((([[(T.i 2), (T.i 1), noT, (T.l 1 (fun i j => ((([[(T.i 0), (T.b true), (T.i 0), (T.i 0), noT]] : List (List T)).getD (0 + i) []).getD j (.b false))))]] : List (List T)).getD i []).getD j (.b false))))), (8, (T.l 1 (fun i j => ((([[(T.i 2), (T.i 1), noT, (T.l 1 (fun i j => ((([[(T.i 1), (T.b false), (T.i 4), (T.i 0), noT]] : List (List T)).getD (0 + i) []).getD j (.b false))))]] : List (List T)).getD i []).getD j (.b false))))), (9, noT), (10, noT), (11, noT)]
theorem small5_sp (n : Nat) : C_parrylaw5_small (K (n + 2)) = some smR := by
  rw [C_parrylaw5_small_K]
  have e : C_parrylaw5_yes (K (n + 1)) = some (lookR [(0, .i 2), (1, .i 1), (2, noT)]) := by rw [C_parrylaw5_yes_K]
  exact bind_of e (bind_of e (bind_of e (bind_of e rfl)))
def cut (t : T) : T := T.l t.len fun i j => t.el (0 + i) j
def smV : List Va := [⟨⟨#[120]⟩, true, 1, 0, 0⟩, ⟨⟨#[121]⟩, false, 1, 0, 0⟩]
def yesE : Ex := .mk 2 1 []
def nxtE : Ex := .mk 4 0 []
def smM : Md := ⟨smV, yesE, yesE, [⟨yesE, [⟨0, true, .mk 0 0 []⟩]⟩], [⟨yesE, [⟨1, false, nxtE⟩]⟩], [], [], []⟩
def smN : Md := ⟨smV, yesE, yesE, [⟨nxtE, [⟨0, true, .mk 0 0 []⟩]⟩], [⟨yesE, [⟨1, false, nxtE⟩]⟩], [], [], []⟩
theorem mayV_sm : mayV smV = 0 := by decide +kernel
theorem needs_yes {l : List Va} (hm : mayV l = 0) (now env sys : Bool) : needsE l yesE 1 now env sys = 0 := by
  have hs := sort_of (l := l) (e := yesE) (s := 1) hm (by decide +kernel) (.bool (.inr rfl))
  have z : ∀ t, t = 3 ∨ t = 4 → readsE t yesE = [] := fun t ht => (readsE_nil (by decide +kernel)).2 (by rcases ht with rfl | rfl <;> rfl)
  refine needsE_of (by rw [hs]) (by rw [hs]) (fun x hx => ?_) (fun x hx => ?_)
  · rw [z 4 (.inr rfl)] at hx; cases hx
  · rw [z 3 (.inl rfl)] at hx; cases hx
theorem nxt_may : mayE nxtE = 0 := by decide +kernel
theorem sort_nxt : sortE smV nxtE = (1, 0) := by
  have := sort_of (l := smV) (e := nxtE) (s := 1) mayV_sm nxt_may (Typed.var (l := smV) (op := 4) (i := 0) (v := ⟨⟨#[120]⟩, true, 1, 0, 0⟩) (.inr rfl) rfl (by omega))
  exact this
theorem reads_nxt4 (x : Int) : x ∈ readsE 4 nxtE ↔ x = 0 := by
  rw [readsE_mem nxt_may]
  show x ∈ ([0] : List Int) ↔ x = 0
  simp
theorem reads_nxt3 (x : Int) : ¬ x ∈ readsE 3 nxtE := by
  rw [readsE_mem nxt_may]
  show ¬ x ∈ ([] : List Int)
  simp
theorem needs_nxt_ok : needsE smV nxtE 1 true true false = 0 := by
  refine needsE_of (by rw [sort_nxt]) (by rw [sort_nxt]) (fun x hx => ?_) (fun x hx => absurd hx (reads_nxt3 x))
  rw [(reads_nxt4 x).1 hx]
  rfl
theorem needs_nxt_no : needsE smV nxtE 1 true false false = 5 := by
  have h : (readsE 4 nxtE).any (nextBad smV false false) = true := List.any_eq_true.2 ⟨0, (reads_nxt4 0).2 rfl, rfl⟩
  unfold needsE
  rw [sort_nxt, if_neg (by simp), if_neg (by simp), h]
  rfl
theorem mayM_of {m : Md} (h1 : mayV m.vars = 0) (h2 : needsE m.vars m.ie 1 false false false = 0) (h3 : needsE m.vars m.is 1 true false false = 0) (h4 : fullM m = false) (h5 : firstE (mayCmd m.vars true) m.env = 0) (h6 : firstE (mayCmd m.vars false) m.sys = 0) (h7 : ¬ (0 < m.prio.length ∧ 0 < m.assume.length + m.ensure.length)) (h8 : firstE (fun e => needsE m.vars e 1 true false false) (m.assume ++ m.ensure ++ m.prio) = 0) : mayM m = 0 := by
  unfold mayM
  rw [if_neg (by simp [h1]), if_neg (by simp [h2]), if_neg (by simp [h3]), if_neg (by simp [h4]), if_neg (by simp [h5]), if_neg (by simp [h6]), if_neg h7, h8]
theorem mayM_env {m : Md} {e : Int} (h1 : mayV m.vars = 0) (h2 : needsE m.vars m.ie 1 false false false = 0) (h3 : needsE m.vars m.is 1 true false false = 0) (h4 : fullM m = false) (h5 : firstE (mayCmd m.vars true) m.env = e) (he : e ≠ 0) : mayM m = e := by
  unfold mayM
  rw [if_neg (by simp [h1]), if_neg (by simp [h2]), if_neg (by simp [h3]), if_neg (by simp [h4]), if_pos (by rw [h5]; exact he), h5]
theorem mayCmd_of {l : List Va} {env : Bool} {c : Cm} (h1 : mayV l = 0) (h2 : needsE l c.guard 1 true (!env) false = 0) (h3 : c.sets.length ≤ 6) (h4 : setsGo l env c.sets [] = 0) : mayCmd l env c = 0 := by
  unfold mayCmd
  rw [if_neg (by simp [h1]), if_neg (by simp [h2]), if_neg (by omega), h4]
theorem mayM_sm : mayM smM = 0 := by
  have y := fun a b c => needs_yes mayV_sm a b c
  have c1 : mayCmd smV true ⟨yesE, [⟨0, true, .mk 0 0 []⟩]⟩ = 0 := mayCmd_of mayV_sm (y _ _ _) (by decide) rfl
  have c2 : mayCmd smV false ⟨yesE, [⟨1, false, nxtE⟩]⟩ = 0 := by
    refine mayCmd_of mayV_sm (y _ _ _) (by decide) ?_
    have e : setE smV false [] ⟨1, false, nxtE⟩ = 0 := by
      unfold setE
      rw [if_neg (by decide), if_neg (by simp), if_neg (by simp)]
      exact needs_nxt_ok
    simp only [setsGo, e]
    rfl
  exact mayM_of mayV_sm (y _ _ _) (y _ _ _) rfl (firstE_zero.2 fun x hx => by
    obtain rfl : x = _ := by simpa [smM] using hx
    exact c1) (firstE_zero.2 fun x hx => by
    obtain rfl : x = _ := by simpa [smM] using hx
    exact c2) (by decide) rfl
theorem mayM_sn : mayM smN = 5 := by
  have y := fun a b c => needs_yes mayV_sm a b c
  have c1 : mayCmd smV true ⟨nxtE, [⟨0, true, .mk 0 0 []⟩]⟩ = 5 := by
    have h := needs_nxt_no
    unfold mayCmd
    rw [if_neg (by simp [mayV_sm])]
    show (if needsE smV nxtE 1 true false false ≠ 0 then needsE smV nxtE 1 true false false else _) = 5
    rw [if_pos (by rw [h]; decide), h]
  refine mayM_env mayV_sm (y _ _ _) (y _ _ _) rfl ?_ (by decide)
  show (if mayCmd smV true ⟨nxtE, [⟨0, true, .mk 0 0 []⟩]⟩ ≠ 0 then mayCmd smV true ⟨nxtE, [⟨0, true, .mk 0 0 []⟩]⟩ else _) = 5
  rw [if_pos (by rw [c1]; decide), c1]
theorem same_mm : sameM smM smM = true := by decide +kernel
theorem same_mn : sameM smM smN = false := by decide +kernel
def smE2 : T := T.l ((smR 7).len) (fun i j => (bif (0 + i) == 0 && Nat.ble 0 j && Nat.blt j (0 + ([(T.i 4), (T.i 0), noT] : List T).length) then ([(T.i 4), (T.i 0), noT] : List T).getD (j - 0) (.b false) else ((smR 7).el (0 + i) j)))
theorem awake5_sp : Ev fun N => C_parrylaw5_awake (K N) = rb true := by
  have k3 : KW (smR 3) := KW_noT
  have k6 : KW (smR 6) := KW_noT
  have s7 : KC (cut (smR 7)) := KC_one rfl KW_noT (KS_one rfl KW_noT)
  have s8 : KC (cut (smR 8)) := KC_one rfl KW_noT (KS_one rfl KW_noT)
  have sE : KC smE2 := KC_one rfl KW_noT (KS_one rfl KW_noT)
  have k9 : KW (cut (smR 9)) := KW_none _ rfl
  have k10 : KW (cut (smR 10)) := KW_none _ rfl
  have k11 : KW (cut (smR 11)) := KW_none _ rfl
  have hl : (cut (smR 0)).len ≤ 9223372036854775807 := by show 2 ≤ _; omega
  have m1 := MayM_sp (cut (smR 0)) hl (smR 3) (smR 6) (cut (smR 7)) (cut (smR 8)) (cut (smR 9)) (cut (smR 10)) (cut (smR 11)) k3 k6 s7 s8 k9 k10 k11
  have m2 := MayM_sp (cut (smR 0)) hl (smR 3) (smR 6) smE2 (cut (smR 8)) (cut (smR 9)) (cut (smR 10)) (cut (smR 11)) k3 k6 sE s8 k9 k10 k11
  have t1 := sameM_sp (cut (smR 0)) (smR 3) (smR 6) (cut (smR 7)) (cut (smR 8)) (cut (smR 9)) (cut (smR 10)) (cut (smR 11)) (cut (smR 0)) (smR 3) (smR 6) (cut (smR 7)) (cut (smR 8)) (cut (smR 9)) (cut (smR 10)) (cut (smR 11)) hl k3 k6 s7 s8 k9 k10 k11 k3 k6 s7 s8 k9 k10 k11
  have t2 := sameM_sp (cut (smR 0)) (smR 3) (smR 6) (cut (smR 7)) (cut (smR 8)) (cut (smR 9)) (cut (smR 10)) (cut (smR 11)) (cut (smR 0)) (smR 3) (smR 6) smE2 (cut (smR 8)) (cut (smR 9)) (cut (smR 10)) (cut (smR 11)) hl k3 k6 s7 s8 k9 k10 k11 k3 k6 sE s8 k9 k10 k11
  refine Ev.step (Ev.imp4 (Ev.and m1 m2) t1 t2 (Ev.ge 5) fun N h1 h2 h3 hN => ?_)
  obtain ⟨N, rfl⟩ : ∃ M, N = M + 2 := ⟨N - 2, by omega⟩
  have a1 : C_module_May (K (N + 2)) (cut (smR 0)) 2 1 (smR 3) 2 1 (smR 6) (cut (smR 7)) (cut (smR 8)) (cut (smR 9)) (cut (smR 10)) (cut (smR 11)) = ri 0 := (h1.1 2 1 2 1).trans (congrArg ri mayM_sm)
  have a2 : C_module_May (K (N + 2)) (cut (smR 0)) 2 1 (smR 3) 2 1 (smR 6) smE2 (cut (smR 8)) (cut (smR 9)) (cut (smR 10)) (cut (smR 11)) = ri 5 := (h1.2 2 1 2 1).trans (congrArg ri mayM_sn)
  have b1 := (h2 2 1 2 1 2 1 2 1).trans (congrArg rb same_mm)
  have b2 := (h3 2 1 2 1 2 1 2 1).trans (congrArg rb same_mn)
  have s := small5_sp N
  rw [C_parrylaw5_awake_K]
  exact bind_of s (bind_of s (if_of rfl (if_of rfl (bind_of a1 (if_of rfl (bind_of a2 (if_of rfl (bind_of s (bind_of b1 (if_of rfl (bind_of b2 rfl)))))))))))
end Go.Proofs.Ytnjandhaeojieaa
