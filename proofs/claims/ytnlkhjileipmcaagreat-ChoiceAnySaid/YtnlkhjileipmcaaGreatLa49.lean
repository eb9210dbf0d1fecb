/- Commands that set all to any: what they lead to, and how many states that are. -/
import Derived.Test.YtnlkhjileipmcaaGreatLa48
set_option linter.unusedVariables false
set_option linter.unusedSimpArgs false
namespace Go.AM
open Go.Proofs.YtnlkhjileipmcaaGreat
def sidesFrom : List Va → Int → Bool → List Se
  | [], _, _ => []
  | v :: r, i, b => if v.env = b then ⟨i, true, .mk 0 0 []⟩ :: sidesFrom r (i + 1) b else sidesFrom r (i + 1) b
theorem sides_mem : ∀ {l : List Va} {i : Int} {b : Bool} {s : Se}, s ∈ sidesFrom l i b ↔ ∃ j, ∃ h : j < l.length, l[j].env = b ∧ s = ⟨i + (j : Int), true, .mk 0 0 []⟩
  | [], i, b, s => by simp [sidesFrom]
  | v :: r, i, b, s => by
    have ih := sides_mem (l := r) (i := i + 1) (b := b) (s := s)
    constructor
    · intro h
      have : (v.env = b ∧ s = ⟨i, true, .mk 0 0 []⟩) ∨ s ∈ sidesFrom r (i + 1) b := by
        unfold sidesFrom at h
        split at h
        · rename_i c
          rcases List.mem_cons.1 h with h | h
          · exact .inl ⟨c, h⟩
          · exact .inr h
        · exact .inr h
      rcases this with ⟨c, rfl⟩ | h
      · exact ⟨0, by simp, c, by simp⟩
      · obtain ⟨j, hj, c, rfl⟩ := ih.1 h
        exact ⟨j + 1, by simpa using hj, by simpa using c, by simp only [Int.natCast_add]; congr 1; omega⟩
    · rintro ⟨j, hj, c, rfl⟩
      unfold sidesFrom
      cases j with
      | zero =>
        rw [if_pos (by simpa using c)]
        simp
      | succ j =>
        have : (⟨i + ((j + 1 : Nat) : Int), true, .mk 0 0 []⟩ : Se) ∈ sidesFrom r (i + 1) b := by
          have := (sides_mem (l := r) (i := i + 1) (b := b) (s := ⟨i + 1 + (j : Int), true, .mk 0 0 []⟩)).2 ⟨j, by simpa using hj, by simpa using c, rfl⟩
          rw [show i + ((j + 1 : Nat) : Int) = i + 1 + (j : Int) by omega]
          exact this
        split
        · exact List.mem_cons_of_mem _ this
        · exact this
theorem sides_len : ∀ (l : List Va) (i : Int) (b : Bool), (sidesFrom l i b).length ≤ l.length
  | [], _, _ => Nat.le_refl _
  | v :: r, i, b => by
    have := sides_len r (i + 1) b
    unfold sidesFrom
    split <;> simp <;> omega
theorem sides_pair : ∀ (l : List Va) (i : Int) (b : Bool), ((sidesFrom l i b).map Se.var).Pairwise (· ≠ ·)
  | [], _, _ => List.Pairwise.nil
  | v :: r, i, b => by
    have ih := sides_pair r (i + 1) b
    unfold sidesFrom
    split
    · refine List.Pairwise.cons (fun x hx => ?_) ih
      obtain ⟨s, hs, rfl⟩ := List.mem_map.1 hx
      obtain ⟨j, hj, c, rfl⟩ := sides_mem.1 hs
      show i ≠ i + 1 + (j : Int)
      omega
    · exact ih
theorem setsGo_zero {l : List Va} {env : Bool} : ∀ {ss : List Se} {was : List Int}, (∀ s ∈ ss, 0 ≤ s.var ∧ s.var < (l.length : Int) ∧ envAt l s.var = env ∧ s.any = true ∧ bareE s.e = true) → (ss.map Se.var).Pairwise (· ≠ ·) → (∀ s ∈ ss, s.var ∉ was) → setsGo l env ss was = 0
  | [], _, _, _, _ => rfl
  | s :: r, was, h, hp, hw => by
    obtain ⟨a, b, c, d, e⟩ := h s (List.mem_cons_self ..)
    have z : setE l env was s = 0 := by
      unfold setE
      rw [if_neg, if_neg, if_pos d]
      · rintro ⟨_, q⟩; rw [e] at q; cases q
      · rintro (q | q | q | q)
        · omega
        · omega
        · exact q c
        · exact hw s (List.mem_cons_self ..) q
    simp only [setsGo]
    rw [if_neg (by simpa using z)]
    simp only [List.map_cons, List.pairwise_cons] at hp
    refine setsGo_zero (fun x hx => h x (List.mem_cons_of_mem _ hx)) hp.2 fun x hx q => ?_
    rcases List.mem_append.1 q with q | q
    · exact hw x (List.mem_cons_of_mem _ hx) q
    · rw [List.mem_singleton] at q
      exact hp.1 x.var (List.mem_map_of_mem hx) q.symm
theorem envAt_get {l : List Va} {v : Int} (h : v.toNat < l.length) : envAt l v = l[v.toNat].env := by
  unfold envAt
  rw [List.getElem?_eq_getElem h]; rfl
theorem mayCmd_sides {l : List Va} (hm : mayV l = 0) (env : Bool) : mayCmd l env ⟨yesE, sidesFrom l 0 env⟩ = 0 := by
  have h6 := totalE_len (mayV_total hm)
  refine mayCmd_of hm (needs_yes hm _ _ _) (Nat.le_trans (sides_len ..) h6) (setsGo_zero (fun s hs => ?_) (sides_pair ..) fun s hs => List.not_mem_nil)
  obtain ⟨j, hj, c, rfl⟩ := sides_mem.1 hs
  refine ⟨by show 0 ≤ 0 + (j : Int); omega, by show 0 + (j : Int) < _; omega, ?_, rfl, rfl⟩
  show envAt l (0 + (j : Int)) = env
  have hj' : (0 + (j : Int)).toNat < l.length := by omega
  rw [envAt_get hj']
  have : (0 + (j : Int)).toNat = j := by omega
  simp only [this]
  exact c
/-! What they lead to -/
theorem mem_step {l : List Va} {now next x : Int} {out : List Int} {s : Se} (hp : Pos l) (ho : Sts l out) (hs : 0 ≤ s.var ∧ s.var < (l.length : Int)) (ha : s.any = true) :
    x ∈ stepE l now next out s ↔ (0 ≤ x ∧ x < prodV l) ∧ ∃ st ∈ out, ∀ k, s.var.toNat ≠ k → (valuesFrom l x)[k]? = (valuesFrom l st)[k]? := by
  constructor
  · intro h
    have hx := sts_step hp ho hs x h
    refine ⟨hx, ?_⟩
    unfold stepE at h
    obtain ⟨y, hy, h⟩ := List.mem_flatMap.1 h
    obtain ⟨st, hst, rfl⟩ := List.mem_map.1 h
    refine ⟨st, hst, fun k hk => ?_⟩
    unfold withE
    rw [values_state hp (with_range hp (ho st hst).1 hs.1 hs.2 (valuesS_in hy)), List.getElem?_set_ne hk]
  · rintro ⟨hx, st, hst, h⟩
    have hr := InR_values hp hx.1
    have hr' := InR_values hp (ho st hst).1
    have hv : s.var.toNat < l.length := by omega
    have hv1 : s.var.toNat < (valuesFrom l x).length := by rw [hr.len]; exact hv
    have hv2 : s.var.toNat < (valuesFrom l st).length := by rw [hr'.len]; exact hv
    have e : vaOf l s.var = l[s.var.toNat] := by unfold vaOf; rw [List.getElem?_eq_getElem hv]; rfl
    obtain ⟨g1, g2⟩ := hr.get hv hv1
    unfold stepE
    refine List.mem_flatMap.2 ⟨(valuesFrom l x)[s.var.toNat], ?_, List.mem_map.2 ⟨st, hst, ?_⟩⟩
    · unfold valuesS
      rw [if_pos ha, e]
      have := hp _ (List.getElem_mem hv)
      exact upFrom_mem.2 ⟨g1, by omega⟩
    · unfold withE
      have : (valuesFrom l st).set s.var.toNat (valuesFrom l x)[s.var.toNat] = valuesFrom l x := by
        apply List.ext_getElem?
        intro k
        by_cases c : s.var.toNat = k
        · subst c
          rw [List.getElem?_set_self hv2, List.getElem?_eq_getElem hv1]
        · rw [List.getElem?_set_ne c, h k c]
      rw [this]
      exact state_values hp hx.1 hx.2
theorem state_eq {l : List Va} {x y : Int} (hp : Pos l) (hx : 0 ≤ x ∧ x < prodV l) (hy : 0 ≤ y ∧ y < prodV l) (h : ∀ k : Nat, (valuesFrom l x)[k]? = (valuesFrom l y)[k]?) : x = y := by
  rw [← state_values hp hx.1 hx.2, ← state_values hp hy.1 hy.2, List.ext_getElem? h]
theorem mem_any {l : List Va} {now next x : Int} (hp : Pos l) : ∀ {ss : List Se} {out : List Int}, Sts l out → SetsIn l ss → (∀ s ∈ ss, s.any = true) →
    (x ∈ ss.foldl (stepE l now next) out ↔ (0 ≤ x ∧ x < prodV l) ∧ ∃ st ∈ out, ∀ k, (∀ s ∈ ss, s.var.toNat ≠ k) → (valuesFrom l x)[k]? = (valuesFrom l st)[k]?)
  | [], out, ho, _, _ => by
    rw [List.foldl_nil]
    constructor
    · intro h
      exact ⟨ho x h, x, h, fun k _ => rfl⟩
    · rintro ⟨hx, st, hst, h⟩
      rw [state_eq hp hx (ho st hst) fun k => h k fun s hs => absurd hs List.not_mem_nil]
      exact hst
  | s :: ss, out, ho, hs, ha => by
    have h1 := hs s (List.mem_cons_self ..)
    have h2 := ha s (List.mem_cons_self ..)
    rw [List.foldl_cons, mem_any hp (sts_step hp ho h1) (fun y hy => hs y (List.mem_cons_of_mem _ hy)) fun y hy => ha y (List.mem_cons_of_mem _ hy)]
    constructor
    · rintro ⟨hx, st', hst', h⟩
      obtain ⟨_, st, hst, k'⟩ := (mem_step hp ho h1 h2).1 hst'
      refine ⟨hx, st, hst, fun k hk => ?_⟩
      rw [h k fun y hy => hk y (List.mem_cons_of_mem _ hy), k' k (hk s (List.mem_cons_self ..))]
    · rintro ⟨hx, st, hst, h⟩
      have hr := InR_values hp hx.1
      have hr' := InR_values hp (ho st hst).1
      have hv : s.var.toNat < l.length := by omega
      have hv1 : s.var.toNat < (valuesFrom l x).length := by rw [hr.len]; exact hv
      have hv2 : s.var.toNat < (valuesFrom l st).length := by rw [hr'.len]; exact hv
      have e : vaOf l s.var = l[s.var.toNat] := by unfold vaOf; rw [List.getElem?_eq_getElem hv]; rfl
      have hg := hr.get hv hv1
      rw [← e] at hg
      have hw := with_range (x := (valuesFrom l x)[s.var.toNat]) hp (ho st hst).1 h1.1 h1.2 hg
      have hst' := state_range hp hw
      refine ⟨hx, stateFrom l ((valuesFrom l st).set s.var.toNat (valuesFrom l x)[s.var.toNat]), (mem_step hp ho h1 h2).2 ⟨hst', st, hst, fun k hk => ?_⟩, fun k hk => ?_⟩
      · rw [values_state hp hw, List.getElem?_set_ne hk]
      · rw [values_state hp hw]
        by_cases c : s.var.toNat = k
        · subst c
          rw [List.getElem?_set_self hv2, List.getElem?_eq_getElem hv1]
        · rw [List.getElem?_set_ne c]
          refine h k fun y hy => ?_
          rcases List.mem_cons.1 hy with rfl | hy
          · exact c
          · exact hk y hy
theorem sides_in (l : List Va) (b : Bool) : SetsIn l (sidesFrom l 0 b) ∧ ∀ s ∈ sidesFrom l 0 b, s.any = true := by
  refine ⟨fun s hs => ?_, fun s hs => ?_⟩
  · obtain ⟨j, hj, c, rfl⟩ := sides_mem.1 hs
    exact ⟨by show 0 ≤ 0 + (j : Int); omega, by show 0 + (j : Int) < _; omega⟩
  · obtain ⟨j, hj, c, rfl⟩ := sides_mem.1 hs
    rfl
theorem sides_not {l : List Va} {b : Bool} {k : Nat} (hk : k < l.length) : (∀ s ∈ sidesFrom l 0 b, s.var.toNat ≠ k) ↔ l[k].env ≠ b := by
  constructor
  · intro h c
    exact h ⟨0 + (k : Int), true, .mk 0 0 []⟩ (sides_mem.2 ⟨k, hk, c, rfl⟩) (by show (0 + (k : Int)).toNat = k; omega)
  · intro h s hs q
    obtain ⟨j, hj, c, rfl⟩ := sides_mem.1 hs
    have q : (0 + (j : Int)).toNat = k := q
    obtain rfl : j = k := by omega
    exact h c
theorem all_sides {l : List Va} {g : Ex} {keeps now next x : Int} {b : Bool} (hp : Pos l) (hk : 0 ≤ keeps ∧ keeps < prodV l) (ht : trueE l g now next = true) :
    x ∈ allE l [⟨g, sidesFrom l 0 b⟩] keeps now next ↔ (0 ≤ x ∧ x < prodV l) ∧ ∀ k (h : k < l.length), l[k].env ≠ b → (valuesFrom l x)[k]? = (valuesFrom l keeps)[k]? := by
  unfold allE
  rw [(sortUp _).2]
  simp only [List.flatMap_cons, List.flatMap_nil, List.append_nil]
  have e : leadsE l ⟨g, sidesFrom l 0 b⟩ keeps now next = (sidesFrom l 0 b).foldl (stepE l now next) [keeps] := by
    unfold leadsE
    rw [if_pos ht]
  rw [e, mem_any hp (fun y hy => by rw [List.mem_singleton.1 hy]; exact hk) (sides_in l b).1 (sides_in l b).2]
  refine and_congr_right fun hx => ?_
  have hr := InR_values hp hx.1
  have hr' := InR_values hp hk.1
  constructor
  · rintro ⟨st, hst, h⟩ k hk' c
    rw [List.mem_singleton.1 hst] at h
    exact h k ((sides_not hk').2 c)
  · intro h
    refine ⟨keeps, List.mem_singleton_self _, fun k hk' => ?_⟩
    by_cases c : k < l.length
    · exact h k c ((sides_not c).1 hk')
    · rw [List.getElem?_eq_none (by rw [hr.len]; omega), List.getElem?_eq_none (by rw [hr'.len]; omega)]
end Go.AM
