/- Maps, told by the list of their keys and by what they hold. -/
import Derived.Test.YtnjandhaeojieaaEng16
set_option linter.unusedVariables false
set_option linter.unusedSimpArgs false
namespace Go.AM
def ik (l : List Int) : List T := l.map .i
theorem eqLeaves_ik {g : Nat → T} : ∀ {b : List Int} {j0 : Nat}, eqLeaves g j0 (ik b) = true ↔ ∀ j v, b[j]? = some v → (g (j0 + j)).int = v
  | [], j0 => by simp [ik, eqLeaves]
  | a :: b, j0 => by
    have ih := eqLeaves_ik (g := g) (b := b) (j0 := j0 + 1)
    simp only [ik, List.map_cons, eqLeaves, Bool.and_eq_true] at ih ⊢
    rw [ih]
    constructor
    · rintro ⟨h1, h2⟩ j v hj
      cases j with
      | zero =>
        obtain rfl : a = v := by simpa using hj
        simpa [eqLeaf] using h1
      | succ j =>
        have := h2 j v (by simpa using hj)
        rwa [show j0 + 1 + j = j0 + (j + 1) by omega] at this
    · intro h
      refine ⟨by simpa [eqLeaf] using h 0 a rfl, fun j v hj => ?_⟩
      have := h (j + 1) v (by simpa using hj)
      rwa [show j0 + (j + 1) = j0 + 1 + j by omega] at this
structure MK (kl : Nat) (x : T) (l : List (List Int)) (f : Nat → Int) : Prop where
  len : x.len = l.length
  wid : ∀ k ∈ l, k.length = kl
  key : ∀ i k, l[i]? = some k → ∀ j v, k[j]? = some v → (x.el i j).int = v
  val : ∀ i, i < l.length → (x.el i kl).int = f i
  nd : l.Nodup
theorem MK.nil (kl : Nat) (f : Nat → Int) : MK kl noT [] f := ⟨rfl, by simp, by simp, by simp, by simp⟩
section
variable {kl : Nat} {x : T} {l : List (List Int)} {f : Nat → Int} {b : List Int}
theorem MK.hit (h : MK kl x l f) (hb : b.length = kl) {i : Nat} (hi : i < l.length) : eqLeaves (x.el i) 0 (ik b) = true ↔ l[i] = b := by
  rw [eqLeaves_ik]
  have hk := h.key i _ (List.getElem?_eq_getElem hi)
  have hw := h.wid _ (List.getElem_mem hi)
  constructor
  · intro q
    apply List.ext_getElem
    · omega
    · intro j h1 h2
      have e1 := hk j _ (List.getElem?_eq_getElem h1)
      have e2 := q j _ (List.getElem?_eq_getElem h2)
      rw [Nat.zero_add] at e2
      rw [← e1, e2]
  · rintro rfl j v hj
    rw [Nat.zero_add]
    exact hk j v hj
theorem MK.find (h : MK kl x l f) (hb : b.length = kl) : mfind x (ik b) = if b ∈ l then some (l.idxOf b) else none := by
  unfold mfind
  rw [h.len]
  by_cases hm : b ∈ l
  · rw [if_pos hm]
    have hp : l.idxOf b < l.length := List.idxOf_lt_length_iff.2 hm
    cases hf : firstK x (ik b) l.length 0 with
    | none =>
      have := firstK_none hf (l.idxOf b) (Nat.zero_le _) (by omega)
      rw [(h.hit hb hp).2 (List.getElem_idxOf hp)] at this
      cases this
    | some j =>
      obtain ⟨_, h2, h3⟩ := firstK_some hf
      have hj : j < l.length := by omega
      have e := (h.hit hb hj).1 h3
      congr 1
      exact (List.getElem_inj (h₀ := hj) (h₁ := hp) h.nd).1 (e.trans (List.getElem_idxOf hp).symm)
  · rw [if_neg hm]
    cases hf : firstK x (ik b) l.length 0 with
    | none => rfl
    | some j =>
      obtain ⟨_, h2, h3⟩ := firstK_some hf
      have hj : j < l.length := by omega
      exact absurd ((h.hit hb hj).1 h3 ▸ List.getElem_mem hj) hm
theorem MK.get (h : MK kl x l f) (hb : b.length = kl) {z : Int} : (mget x kl (ik b) [.i z] 0).int = if b ∈ l then f (l.idxOf b) else z := by
  unfold mget
  rw [h.find hb]
  by_cases hm : b ∈ l
  · rw [if_pos hm, if_pos hm]
    exact h.val _ (List.idxOf_lt_length_iff.2 hm)
  · rw [if_neg hm, if_neg hm]
    rfl
theorem MK.at (h : MK kl x l f) (hb : b.length = kl) : mat x (ik b) = l.idxOf b := by
  unfold mat
  rw [h.find hb]
  by_cases hm : b ∈ l
  · rw [if_pos hm]
  · rw [if_neg hm, List.idxOf_eq_length hm, h.len]
end
def IS (x : T) (ks : List Int) : Prop := MK 1 x (ks.map fun k => [k]) fun _ => 1
theorem IS.nil : IS noT [] := MK.nil 1 _
theorem mem_one {ks : List Int} {b : Int} : [b] ∈ (ks.map fun k => [k]) ↔ b ∈ ks := by simp
section
variable {x : T} {ks : List Int} {b : Int}
theorem IS.len (h : IS x ks) : x.len = ks.length := by have := MK.len h; simpa using this
theorem IS.nd (h : IS x ks) : ks.Nodup := by
  have := MK.nd h
  rw [List.Nodup, List.pairwise_map] at this
  exact this.imp fun h e => h (by rw [e])
theorem IS.get (h : IS x ks) : (mget x 1 ([(T.i b)] : List T) ([(T.i 0)] : List T) 0).int = if b ∈ ks then 1 else 0 := by
  have := MK.get (b := [b]) h rfl (z := 0)
  simp only [mem_one] at this
  exact this
end
end Go.AM
