/- How long a slice in a struct may be: as the reading's weight says. -/
import Derived.Test.YtnjandhaeojieaaDoorTop0
set_option linter.unusedSimpArgs false
set_option linter.unusedVariables false
namespace Go.AM
open Go.WideShapes Go.ChangeShapes
section
variable {H : Type} {enc : TypeId × Value → H} {P : Program} {w : World} {spare : Nat → Bool} {held : Bool}
theorem weights_in : ∀ {ts : List TypeId} {ds : List (DataW H)} {i : Nat} {t : TypeId} {d : DataW H}, ts[i]? = some t → ds[i]? = some d → ∀ z ∈ d.weights P t, z ∈ DataW.weightsEach P ts ds
  | [], _, _, _, _, h, _, _, _ => by simp at h
  | _ :: _, [], _, _, _, _, h, _, _ => by simp at h
  | t0 :: ts, d0 :: ds, 0, t, d, h1, h2, z, hz => by
    cases h1
    cases h2
    unfold DataW.weightsEach
    exact List.mem_append_left _ hz
  | t0 :: ts, d0 :: ds, i + 1, t, d, h1, h2, z, hz => by
    unfold DataW.weightsEach
    exact List.mem_append_right _ (weights_in (by simpa using h1) (by simpa using h2) z hz)
theorem field_len {t : TypeId} {fs : Array Field} {v : Value} {d : DataW H} {ps : List MemPlace} (ht : P.underlying t = some (.struct fs)) (h : DataW.Trod enc P w 0 spare held t v d ps) {i : Nat} {f : Field} (hf : fs[i]? = some f) {e : TypeId} (he : P.underlying f.type = some (.slice e)) (hc : P.cellsOf f.type = 1)
    {xs : List T} (ra : RA P w [] (b0 fun _ => False) hd0 (loadT P t fun j => xs.getD j (.b false)) v) (hag : isAg P t = true) (hlv : (lv P t)[f.offset]? = some f.type) {B : Nat} (hw : ∀ z ∈ d.weights P t, z ≤ B) : (xs.getD f.offset (.b false)).len * P.bytesOf e ≤ B := by
  obtain ⟨fuel, hfu⟩ := h
  obtain ⟨ys, n, _, hx, hl, hlen, hfi⟩ := DataW.trod_struct ht hfu
  have h1 := hfi i f hf
  have hi : i < ys.length := by rw [hlen]; exact (Array.getElem?_eq_some_iff.1 hf).1
  rw [List.getElem?_eq_getElem hi, hc] at h1
  unfold loadT at ra
  rw [hag] at ra
  obtain ⟨vs, hv, hvl, hcs⟩ := RA.ag_inv ra
  subst hv
  have r1 := hcs f.offset (ofT P f.type (xs.getD f.offset (.b false))) (by rw [List.getElem?_mapIdx, hlv]; rfl)
  have e1 : ofT P f.type (xs.getD f.offset (.b false)) = .sl e (xs.getD f.offset (.b false)) := by unfold ofT; rw [he]
  rw [e1] at r1
  obtain ⟨_, A, c, _, hu, _, _⟩ := RA.sl_inv (.c r1)
  have hoff : f.offset < vs.size := by
    rw [← hvl]
    have := (List.getElem?_eq_some_iff.1 hlv).1
    simpa using this
  have hcell : ((Value.agg vs).cells.toList.drop f.offset).take 1 = [vs.getD f.offset undef] := by
    show (vs.toList.drop f.offset).take 1 = _
    rw [List.drop_eq_getElem_cons (by simpa using hoff)]
    simp [Array.getD_eq_getD_getElem?, Array.getElem?_eq_getElem hoff]
  rw [hcell, hu] at h1
  rcases DataW.trod_slice he h1 with ⟨hn, _⟩ | ⟨a, len, cap, elems, rest, m, _, hn, hy, _, _, _, hel, _⟩
  · simp only [List.cons.injEq, Value.slice.injEq, and_true] at hn
    rw [hn.2.1, Nat.zero_mul]
    exact Nat.zero_le _
  · simp only [List.cons.injEq, Value.slice.injEq, and_true] at hn
    have hd : d = .agg (ys.map (·.1)) := congrArg Prod.fst hx
    have hmem : (elems.length + rest.length) * P.bytesOf e ∈ d.weights P t := by
      rw [hd]
      unfold DataW.weights
      rw [ht]
      refine weights_in (i := i) (t := f.type) (d := ys[i].1) ?_ ?_ _ ?_
      · rw [List.getElem?_map, Array.getElem?_toList, hf]; rfl
      · rw [List.getElem?_map, List.getElem?_eq_getElem hi]; rfl
      · have hy1 : ys[i].1 = .slice (elems.map (·.1)) (rest.map (·.1)) := congrArg Prod.fst hy
        rw [hy1]
        unfold DataW.weights
        rw [he]
        simp
    have := hw _ hmem
    rw [hn.2.1, ← hel]
    exact Nat.le_trans (Nat.mul_le_mul_right _ (Nat.le_add_right _ _)) this
end
end Go.AM
