/- Maps, told by the list of their keys and by what they hold. -/
import Derived.Test.YtljfhfgbpcaadaaDoorEng16
set_option linter.unusedVariables false
set_option linter.unusedSimpArgs false
namespace Go.AM
def ik (l : List Int) : List T := l.map .i
theorem eqLeaves_ik {g : Nat → T} : ∀ {b : List Int} {j0 : Nat}, eqLeaves g j0 (ik b) = true ↔ ∀ j v, b[j]? = some v → (g (j0 + j)).int = v
  | [], j0 => by simp [ik, eqLeaves]
  | a :: b, j0 => by
    have ih := eqLeaves_ik (g := g) (b := b) (j0 := j0 + 1)
    simp only [ik, List.map_cons, eqLeaves, Bool.and_eq_true] at ih ⊢
    rw [ih]
    constructor
    · rintro ⟨h1, h2⟩ j v hj
      cases j with
      | zero =>
        obtain rfl : a = v := by simpa using hj
        simpa [eqLeaf] using h1
      | succ j =>
        have := h2 j v (by simpa using hj)
        rwa [show j0 + 1 + j = j0 + (j + 1) by omega] at this
    · intro h
      refine ⟨by simpa [eqLeaf] using h 0 a rfl, fun j v hj => ?_⟩
      have := h (j + 1) v (by simpa using hj)
      rwa [show j0 + (j + 1) = j0 + 1 + j by omega] at this
structure MK (kl : Nat) (x : T) (l : List (List Int)) (f : Nat → Int) : Prop where
  len : x.len = l.length
  wid : ∀ k ∈ l, k.length = kl
  key : ∀ i k, l[i]? = some k → ∀ j v, k[j]? = some v → (x.el i j).int = v
  val : ∀ i, i < l.length → (x.el i kl).int = f i
  nd : l.Nodup
theorem MK.nil (kl : Nat) (f : Nat → Int) : MK kl noT [] f := ⟨rfl, by simp, by simp, by simp, by simp⟩
section
variable {kl : Nat} {x : T} {l : List (List Int)} {f : Nat → Int} {b : List Int}
theorem MK.hit (h : MK kl x l f) (hb : b.length = kl) {i : Nat} (hi : i < l.length) : eqLeaves (x.el i) 0 (ik b) = true ↔ l[i] = b := by
  rw [eqLeaves_ik]
  have hk := h.key i _ (List.getElem?_eq_getElem hi)
  have hw := h.wid _ (List.getElem_mem hi)
  constructor
  · intro q
    apply List.ext_getElem
    · omega
    · intro j h1 h2
      have e1 := hk j _ (List.getElem?_eq_getElem h1)
      have e2 := q j _ (List.getElem?_eq_getElem h2)
      rw [Nat.zero_add] at e2
      rw [← e1, e2]
  · rintro rfl j v hj
    rw [Nat.zero_add]
    exact hk j v hj
theorem MK.find (h : MK kl x l f) (hb : b.length = kl) : mfind x (ik b) = if b ∈ l then some (l.idxOf b) else none := by
  unfold mfind
  rw [h.len]
  by_cases hm : b ∈ l
  · rw [if_pos hm]
    have hp : l.idxOf b < l.length := List.idxOf_lt_length_iff.2 hm
    cases hf : firstK x (ik b) l.length 0 with
    | none =>
      have := firstK_none hf (l.idxOf b) (Nat.zero_le _) (by omega)
      rw [(h.hit hb hp).2 (List.getElem_idxOf hp)] at this
      cases this
    | some j =>
      obtain ⟨_, h2, h3⟩ := firstK_some hf
      have hj : j < l.length := by omega
      have e := (h.hit hb hj).1 h3
      congr 1
      exact (List.getElem_inj (h₀ := hj) (h₁ := hp) h.nd).1 (e.trans (List.getElem_idxOf hp).symm)
  · rw [if_neg hm]
    cases hf : firstK x (ik b) l.length 0 with
    | none => rfl
    | some j =>
      obtain ⟨_, h2, h3⟩ := firstK_some hf
      have hj : j < l.length := by omega
      exact absurd ((h.hit hb hj).1 h3 ▸ List.getElem_mem hj) hm
theorem MK.get (h : MK kl x l f) (hb : b.length = kl) {z : Int} : (mget x kl (ik b) [.i z] 0).int = if b ∈ l then f (l.idxOf b) else z := by
  unfold mget
  rw [h.find hb]
  by_cases hm : b ∈ l
  · rw [if_pos hm, if_pos hm]
    exact h.val _ (List.idxOf_lt_length_iff.2 hm)
  · rw [if_neg hm, if_neg hm]
    rfl
theorem MK.at (h : MK kl x l f) (hb : b.length = kl) : mat x (ik b) = l.idxOf b := by
  unfold mat
  rw [h.find hb]
  by_cases hm : b ∈ l
  · rw [if_pos hm]
  · rw [if_neg hm, List.idxOf_eq_length hm, h.len]
theorem MK.set (h : MK kl x l f) (hb : b.length = kl) (v : Int) : MK kl (mset x kl (ik b) [.i v]) (if b ∈ l then l else l ++ [b]) (fun i => if i = l.idxOf b then v else f i) := by
  unfold mset
  rw [h.find hb]
  by_cases hm : b ∈ l
  · rw [if_pos hm, if_pos hm]
    refine ⟨h.len, h.wid, fun i k hi j u hj => ?_, fun i hi => ?_, h.nd⟩
    · have hjl : j < kl := by rw [← h.wid k (List.mem_of_getElem? hi)]; exact (List.getElem?_eq_some_iff.1 hj).1
      have : Nat.ble kl j = false := by
        cases hc : Nat.ble kl j with
        | false => rfl
        | true => have := Nat.le_of_ble_eq_true hc; omega
      show (bif i == _ && Nat.ble kl j then _ else x.el i j).int = u
      rw [this, Bool.and_false, cond_false]
      exact h.key i k hi j u hj
    · show (bif i == l.idxOf b && Nat.ble kl kl then ([T.i v] : List T).getD (kl - kl) (.b false) else x.el i kl).int = _
      have hbb : Nat.ble kl kl = true := Nat.ble_eq_true_of_le (Nat.le_refl _)
      rw [hbb, Bool.and_true, Nat.sub_self]
      by_cases hij : i = l.idxOf b
      · rw [if_pos hij, hij, beq_self_eq_true, cond_true]
        rfl
      · rw [if_neg hij, show (i == l.idxOf b) = false by simpa using hij, cond_false]
        exact h.val i hi
  · rw [if_neg hm, if_neg hm]
    have hx := h.len
    have hix : l.idxOf b = l.length := List.idxOf_eq_length hm
    have hkl : (ik b).length = kl := by simp [ik, hb]
    refine ⟨by show x.len + 1 = _; simp [hx], fun k hk => ?_, fun i k hi j u hj => ?_, fun i hi => ?_, ?_⟩
    · rcases List.mem_append.1 hk with hk | hk
      · exact h.wid k hk
      · rw [List.mem_singleton.1 hk, hb]
    · show (bif i == x.len then (ik b ++ [T.i v]).getD j (.b false) else x.el i j).int = u
      by_cases hil : i < l.length
      · rw [List.getElem?_append_left hil] at hi
        rw [show (i == x.len) = false by simp; omega, cond_false]
        exact h.key i k hi j u hj
      · rw [List.getElem?_append_right (by omega)] at hi
        have h0 : i = l.length := by
          have := (List.getElem?_eq_some_iff.1 hi).1
          simp at this
          omega
        subst h0
        rw [Nat.sub_self] at hi
        obtain rfl : b = k := by simpa using hi
        rw [show (l.length == x.len) = true by simp [hx], cond_true]
        have hjb : j < b.length := (List.getElem?_eq_some_iff.1 hj).1
        rw [List.getD_eq_getElem?_getD, List.getElem?_append_left (by omega)]
        simp [ik, hj, T.int]
    · show (bif i == x.len then (ik b ++ [T.i v]).getD kl (.b false) else x.el i kl).int = _
      by_cases hil : i < l.length
      · rw [show (i == x.len) = false by simp; omega, cond_false, if_neg (by omega)]
        exact h.val i hil
      · have h0 : i = l.length := by simp at hi; omega
        rw [show (i == x.len) = true by simp; omega, cond_true, if_pos (by omega), List.getD_eq_getElem?_getD, List.getElem?_append_right (by omega), hkl, Nat.sub_self]
        rfl
    · rw [List.nodup_append]
      exact ⟨h.nd, by simp, fun a ha c hc => by rw [List.mem_singleton.1 hc]; rintro rfl; exact hm ha⟩
end
def IS (x : T) (ks : List Int) : Prop := MK 1 x (ks.map fun k => [k]) fun _ => 1
theorem IS.nil : IS noT [] := MK.nil 1 _
theorem mem_one {ks : List Int} {b : Int} : [b] ∈ (ks.map fun k => [k]) ↔ b ∈ ks := by simp
section
variable {x : T} {ks : List Int} {b : Int}
theorem IS.len (h : IS x ks) : x.len = ks.length := by have := MK.len h; simpa using this
theorem IS.nd (h : IS x ks) : ks.Nodup := by
  have := MK.nd h
  rw [List.Nodup, List.pairwise_map] at this
  exact this.imp fun h e => h (by rw [e])
theorem IS.get (h : IS x ks) : (mget x 1 ([(T.i b)] : List T) ([(T.i 0)] : List T) 0).int = if b ∈ ks then 1 else 0 := by
  have := MK.get (b := [b]) h rfl (z := 0)
  simp only [mem_one] at this
  exact this
theorem IS.set (h : IS x ks) : IS (mset x 1 ([(T.i b)] : List T) ([(T.i 1)] : List T)) (if b ∈ ks then ks else ks ++ [b]) := by
  have := MK.set (b := [b]) h rfl 1
  have e1 : (fun i => if i = (ks.map fun k => [k]).idxOf [b] then (1 : Int) else (fun _ => 1) i) = fun _ => 1 := by funext i; split <;> rfl
  rw [e1] at this
  by_cases hm : b ∈ ks
  · rw [if_pos (mem_one.2 hm)] at this
    rw [if_pos hm]
    exact this
  · rw [if_neg (fun q => hm (mem_one.1 q))] at this
    rw [if_neg hm]
    unfold IS
    rw [List.map_append]
    exact this
end
end Go.AM
