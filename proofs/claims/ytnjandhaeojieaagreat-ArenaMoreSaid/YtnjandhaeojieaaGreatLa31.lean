/- awake of the laws of modules. -/
import Derived.Test.YtnjandhaeojieaaGreatLa32
set_option linter.unusedVariables false
set_option linter.unusedSimpArgs false
set_option maxRecDepth 100000
namespace Go.Proofs.YtnjandhaeojieaaGreat
open Go.AM
theorem KS_one {t : T} (h : t.len = 1) (k : KW (t.el 0 4)) : KS t := ⟨by omega, fun i hi => by
  obtain rfl : i = 0 := by omega
  exact k⟩
theorem KC_one {t : T} (h : t.len = 1) (k : KW (t.el 0 2)) (s : KS (t.el 0 3)) : KC t := ⟨by omega, fun i hi => by
  obtain rfl : i = 0 := by omega
  exact ⟨k, s⟩⟩
def cut (t : T) : T := T.l t.len fun i j => t.el (0 + i) j
def smV : List Va := [⟨⟨#[120]⟩, true, 1, 0, 0⟩, ⟨⟨#[121]⟩, false, 1, 0, 0⟩]
def yesE : Ex := .mk 2 1 []
def nxtE : Ex := .mk 4 0 []
def smM : Md := ⟨smV, yesE, yesE, [⟨yesE, [⟨0, true, .mk 0 0 []⟩]⟩], [⟨yesE, [⟨1, false, nxtE⟩]⟩], [], [], []⟩
theorem mayV_sm : mayV smV = 0 := by decide +kernel
theorem needs_yes {l : List Va} (hm : mayV l = 0) (now env sys : Bool) : needsE l yesE 1 now env sys = 0 := by
  have hs := sort_of (l := l) (e := yesE) (s := 1) hm (by decide +kernel) (.bool (.inr rfl))
  have z : ∀ t, t = 3 ∨ t = 4 → readsE t yesE = [] := fun t ht => (readsE_nil (by decide +kernel)).2 (by rcases ht with rfl | rfl <;> rfl)
  refine needsE_of (by rw [hs]) (by rw [hs]) (fun x hx => ?_) (fun x hx => ?_)
  · rw [z 4 (.inr rfl)] at hx; cases hx
  · rw [z 3 (.inl rfl)] at hx; cases hx
theorem nxt_may : mayE nxtE = 0 := by decide +kernel
theorem sort_nxt : sortE smV nxtE = (1, 0) := by
  have := sort_of (l := smV) (e := nxtE) (s := 1) mayV_sm nxt_may (Typed.var (l := smV) (op := 4) (i := 0) (v := ⟨⟨#[120]⟩, true, 1, 0, 0⟩) (.inr rfl) rfl (by omega))
  exact this
theorem reads_nxt4 (x : Int) : x ∈ readsE 4 nxtE ↔ x = 0 := by
  rw [readsE_mem nxt_may]
  show x ∈ ([0] : List Int) ↔ x = 0
  simp
theorem reads_nxt3 (x : Int) : ¬ x ∈ readsE 3 nxtE := by
  rw [readsE_mem nxt_may]
  show ¬ x ∈ ([] : List Int)
  simp
theorem needs_nxt_ok : needsE smV nxtE 1 true true false = 0 := by
  refine needsE_of (by rw [sort_nxt]) (by rw [sort_nxt]) (fun x hx => ?_) (fun x hx => absurd hx (reads_nxt3 x))
  rw [(reads_nxt4 x).1 hx]
  rfl
theorem mayM_of {m : Md} (h1 : mayV m.vars = 0) (h2 : needsE m.vars m.ie 1 false false false = 0) (h3 : needsE m.vars m.is 1 true false false = 0) (h4 : fullM m = false) (h5 : firstE (mayCmd m.vars true) m.env = 0) (h6 : firstE (mayCmd m.vars false) m.sys = 0) (h7 : ¬ (0 < m.prio.length ∧ 0 < m.assume.length + m.ensure.length)) (h8 : firstE (fun e => needsE m.vars e 1 true false false) (m.assume ++ m.ensure ++ m.prio) = 0) : mayM m = 0 := by
  unfold mayM
  rw [if_neg (by simp [h1]), if_neg (by simp [h2]), if_neg (by simp [h3]), if_neg (by simp [h4]), if_neg (by simp [h5]), if_neg (by simp [h6]), if_neg h7, h8]
theorem mayCmd_of {l : List Va} {env : Bool} {c : Cm} (h1 : mayV l = 0) (h2 : needsE l c.guard 1 true (!env) false = 0) (h3 : c.sets.length ≤ 6) (h4 : setsGo l env c.sets [] = 0) : mayCmd l env c = 0 := by
  unfold mayCmd
  rw [if_neg (by simp [h1]), if_neg (by simp [h2]), if_neg (by omega), h4]
theorem mayM_sm : mayM smM = 0 := by
  have y := fun a b c => needs_yes mayV_sm a b c
  have c1 : mayCmd smV true ⟨yesE, [⟨0, true, .mk 0 0 []⟩]⟩ = 0 := mayCmd_of mayV_sm (y _ _ _) (by decide) rfl
  have c2 : mayCmd smV false ⟨yesE, [⟨1, false, nxtE⟩]⟩ = 0 := by
    refine mayCmd_of mayV_sm (y _ _ _) (by decide) ?_
    have e : setE smV false [] ⟨1, false, nxtE⟩ = 0 := by
      unfold setE
      rw [if_neg (by decide), if_neg (by simp), if_neg (by simp)]
      exact needs_nxt_ok
    simp only [setsGo, e]
    rfl
  exact mayM_of mayV_sm (y _ _ _) (y _ _ _) rfl (firstE_zero.2 fun x hx => by
    obtain rfl : x = _ := by simpa [smM] using hx
    exact c1) (firstE_zero.2 fun x hx => by
    obtain rfl : x = _ := by simpa [smM] using hx
    exact c2) (by decide) rfl
end Go.Proofs.YtnjandhaeojieaaGreat
