/- The way in: arguments that read as data are data of the engine's. -/
import Derived.Test.YtljfhfgbpcaadaaDoorEng16
import Derived.WalkKit
import Derived.ProofKit
import Derived.ChangeOld
import Derived.DataReads
set_option linter.unusedSimpArgs false
set_option linter.unusedVariables false
namespace Go.AM
open Go.RowKit (Below)
open Go.WideShapes Go.ChangeShapes
inductive WT (P : Program) : TypeId → T → Prop
  | int {t : TypeId} {k : IntKind} {n : Int} (h : P.underlying t = some (.int k)) (hw : (Lit.int k n).wf = true) : WT P t (.i n)
  | bool {t : TypeId} {b : Bool} (h : P.underlying t = some .bool) : WT P t (.b b)
  | str {t : TypeId} {s : ByteArray} (h : P.underlying t = some .string) (hs : s.size ≤ maxLen) : WT P t (.s s)
  | sl {t e : TypeId} {n : Nat} {g : Nat → Nat → T} (h : P.underlying t = some (.slice e)) (hn : n ≤ maxLen) (hg : ∀ i j τ, i < n → (lv P e)[j]? = some τ → WT P τ (g i j)) : WT P t (.l n g)
def fieldsOk (P : Program) (ts : List TypeId) : List Field → Nat → Option Nat
  | [], n => some n
  | f :: fs, n => bif f.offset == n && ts.contains f.type then fieldsOk P ts fs (n + P.cellsOf f.type) else none
def tyGood (P : Program) (ts : List TypeId) : Bool := ts.all fun t => ((lv P t).length == P.cellsOf t) && match P.underlying t with
  | some (.int _) | some .bool | some .string => lv P t == [t]
  | some (.slice e) => lv P t == [t] && ts.contains e && Nat.blt 0 (lv P e).length
  | some (.struct fs) => fieldsOk P ts fs.toList 0 == some (P.cellsOf t) && lv P t == fs.toList.flatMap fun f => lv P f.type
  | _ => false
section
variable {H : Type} {enc : TypeId × Value → H} {P : Program} {w : World} {spare : Nat → Bool} {held : Bool} {ts : List TypeId}
def Leaves (P : Program) (w : World) (τs : List TypeId) (cs : List Value) (xs : List T) : Prop :=
  cs.length = τs.length ∧ xs.length = τs.length ∧ ∀ (j : Nat) (τ : TypeId), τs[j]? = some τ → ∃ (x : T) (v : Value), xs[j]? = some x ∧ cs[j]? = some v ∧ RT P w (fun _ => False) τ x v ∧ WT P τ x
theorem Leaves.nil : Leaves P w [] [] [] := ⟨rfl, rfl, fun j τ h => by simp at h⟩
theorem Leaves.app {a b : List TypeId} {cs ds : List Value} {xs ys : List T} (h : Leaves P w a cs xs) (k : Leaves P w b ds ys) : Leaves P w (a ++ b) (cs ++ ds) (xs ++ ys) := by
  obtain ⟨h1, h2, h3⟩ := h
  obtain ⟨k1, k2, k3⟩ := k
  refine ⟨by simp [h1, k1], by simp [h2, k2], fun j τ hj => ?_⟩
  rw [List.getElem?_append] at hj
  rw [List.getElem?_append, List.getElem?_append]
  by_cases hlt : j < a.length
  · rw [if_pos hlt] at hj
    rw [if_pos (by omega), if_pos (by omega)]
    exact h3 j τ hj
  · rw [if_neg hlt] at hj
    rw [if_neg (by omega), if_neg (by omega), h1, h2]
    exact k3 _ τ hj
theorem Leaves.one {τ : TypeId} {v : Value} {x : T} (h : RT P w (fun _ => False) τ x v) (hw : WT P τ x) : Leaves P w [τ] [v] [x] := by
  refine ⟨rfl, rfl, fun j t hj => ?_⟩
  cases j with
  | zero =>
    obtain rfl : τ = t := by simpa using hj
    exact ⟨x, v, rfl, rfl, h, hw⟩
  | succ j => simp at hj
theorem tyGood_at (hg : tyGood P ts = true) {t : TypeId} (ht : t ∈ ts) : (lv P t).length = P.cellsOf t ∧ (match P.underlying t with
  | some (.int _) | some .bool | some .string => lv P t == [t]
  | some (.slice e) => lv P t == [t] && ts.contains e && Nat.blt 0 (lv P e).length
  | some (.struct fs) => fieldsOk P ts fs.toList 0 == some (P.cellsOf t) && lv P t == fs.toList.flatMap fun f => lv P f.type
  | _ => false) = true := by
  have h := List.all_eq_true.1 hg t ht
  rw [Bool.and_eq_true] at h
  exact ⟨eq_of_beq h.1, h.2⟩
theorem fields_leaves (hg : tyGood P ts = true) {fuel : Nat} (ih : ∀ t, t ∈ ts → ∀ cs d ps, DataW.trod enc P w 0 spare held fuel t cs = some (d, ps) → ∃ xs, Leaves P w (lv P t) cs xs) {cs : List Value} : ∀ (fs : List Field) (n m : Nat) (ys : List (DataW H × List MemPlace)), fieldsOk P ts fs n = some m →
    fs.mapM (fun f => DataW.trod enc P w 0 spare held fuel f.type ((cs.drop f.offset).take (P.cellsOf f.type))) = some ys → n ≤ m ∧ ∃ xs, Leaves P w (fs.flatMap fun f => lv P f.type) ((cs.drop n).take (m - n)) xs
  | [], n, m, ys, h, _ => by
    simp only [fieldsOk, Option.some.injEq] at h
    subst h
    exact ⟨Nat.le_refl _, [], by simpa using Leaves.nil⟩
  | f :: fs, n, m, ys, h, hm => by
    simp only [fieldsOk] at h
    obtain ⟨hc, h1⟩ := bif_inv h
    rw [Bool.and_eq_true] at hc
    obtain ⟨hc1, hc2⟩ := hc
    have hoff : f.offset = n := eq_of_beq hc1
    have hmem := List.contains_iff_mem.1 hc2
    rw [List.mapM_cons] at hm
    cases hf : DataW.trod enc P w 0 spare held fuel f.type ((cs.drop f.offset).take (P.cellsOf f.type)) with
    | none => rw [hf] at hm; simp at hm
    | some y =>
      rw [hf] at hm
      cases hr : fs.mapM (fun f => DataW.trod enc P w 0 spare held fuel f.type ((cs.drop f.offset).take (P.cellsOf f.type))) with
      | none => rw [hr] at hm; simp at hm
      | some ys2 =>
        obtain ⟨h2, xs, h3⟩ := fields_leaves hg ih fs _ m ys2 h1 hr
        obtain ⟨xs0, h4⟩ := ih f.type hmem _ _ _ hf
        rw [hoff] at h4
        refine ⟨by omega, xs0 ++ xs, ?_⟩
        have e : (cs.drop n).take (m - n) = (cs.drop n).take (P.cellsOf f.type) ++ (cs.drop (n + P.cellsOf f.type)).take (m - (n + P.cellsOf f.type)) := by
          rw [show m - n = P.cellsOf f.type + (m - (n + P.cellsOf f.type)) by omega, List.take_add, List.drop_drop]
        rw [e, List.flatMap_cons]
        exact h4.app h3
theorem trod_leaves (hg : tyGood P ts = true) : ∀ (fuel : Nat) (t : TypeId), t ∈ ts → ∀ (cs : List Value) (d : DataW H) (ps : List MemPlace), DataW.trod enc P w 0 spare held fuel t cs = some (d, ps) → ∃ xs, Leaves P w (lv P t) cs xs
  | 0, t, _, cs, d, ps, h => by simp [DataW.trod] at h
  | fuel + 1, t, ht, cs, d, ps, h => by
    obtain ⟨hlen, hty⟩ := tyGood_at hg ht
    have ih := trod_leaves hg fuel
    cases hu : P.underlying t with
    | none => rw [hu] at hty; cases hty
    | some u =>
      rw [hu] at hty
      cases u with
      | int k =>
        rw [eq_of_beq hty]
        obtain ⟨n, rfl, _, hw⟩ := DataW.trod_int hu h
        exact ⟨[.i n], Leaves.one (.int (x := .i n) hu) (.int hu hw)⟩
      | bool =>
        rw [eq_of_beq hty]
        unfold DataW.trod at h
        rw [hu] at h
        split at h <;> simp_all
        exact ⟨_, Leaves.one (.bool (x := .b _) hu) (.bool hu)⟩
      | string =>
        rw [eq_of_beq hty]
        unfold DataW.trod at h
        rw [hu] at h
        split at h <;> simp_all
        exact ⟨_, Leaves.one (.str (x := .s _) hu) (.str hu h.1)⟩
      | slice e =>
        simp only [Bool.and_eq_true] at hty
        obtain ⟨⟨hty1, hty2⟩, hty3⟩ := hty
        rw [eq_of_beq hty1]
        have hmem := List.contains_iff_mem.1 hty2
        have hpos : 0 < (lv P e).length := by simpa using hty3
        have hle := (tyGood_at hg hmem).1
        rcases DataW.trod_slice hu h with ⟨rfl, _⟩ | ⟨a, len, cap, elems, rest, n, hn, rfl, _, _, hl, hm, hel, hat, _⟩
        · exact ⟨[noT], Leaves.one (.sl (x := noT) (A := none) (c := 0) hu (Nat.le_refl _) 0 0 (fun _ _ => undef) (fun h0 => absurd h0 (by simp [noT, T.len])) (fun i j τ hi _ => absurd hi (by simp [noT, T.len])) (fun i j τ hi _ => absurd hi (by simp [noT, T.len]))) (.sl hu (Nat.zero_le _) (fun i j τ hi _ => absurd hi (Nat.not_lt_zero _)))⟩
        · obtain rfl : fuel = n := by omega
          have each : ∀ i, ∃ (ci : List Value) (xi : List T), i < len → w.cells? 0 (a.add (i * P.cellsOf e)) (P.cellsOf e) = some ci ∧ Leaves P w (lv P e) ci xi := by
            intro i
            by_cases hi : i < len
            · have h1 := hat i hi
              have h2 : elems[i]? = some elems[i] := List.getElem?_eq_getElem (by omega)
              rw [h2] at h1
              cases hc : w.cells? 0 (a.add (i * P.cellsOf e)) (P.cellsOf e) with
              | none => rw [hc] at h1; cases h1
              | some ci =>
                rw [hc] at h1
                obtain ⟨xi, hxi⟩ := ih e hmem ci elems[i].1 elems[i].2 h1
                exact ⟨ci, xi, fun _ => ⟨rfl, hxi⟩⟩
            · exact ⟨[], [], fun h => absurd h hi⟩
          let cf : Nat → List Value := fun i => (each i).choose
          let xf : Nat → List T := fun i => (each i).choose_spec.choose
          have hcx : ∀ i, i < len → w.cells? 0 (a.add (i * P.cellsOf e)) (P.cellsOf e) = some (cf i) ∧ Leaves P w (lv P e) (cf i) (xf i) := fun i hi => (each i).choose_spec.choose_spec hi
          have hcell : ∀ i j τ, i < len → (lv P e)[j]? = some τ → ∃ x v, (xf i)[j]? = some x ∧ (cf i)[j]? = some v ∧ w.cell? ((a.add (i * P.cellsOf e)).add j) = some v ∧ RT P w (fun _ => False) τ x v ∧ WT P τ x := by
            intro i j τ hi hj
            obtain ⟨h1, h2, h3, h4⟩ := hcx i hi
            obtain ⟨x, v, h5, h6, h7, h8⟩ := h4 j τ hj
            obtain ⟨_, _, h9⟩ := World.cells?_some h1
            have hjl : j < P.cellsOf e := by rw [← hle]; exact (List.getElem?_eq_some_iff.1 hj).1
            exact ⟨x, v, h5, h6, by rw [h9 j hjl]; exact h6, h7, h8⟩
          have hspot : 0 < len → a.spot = none ∧ a.block < w.heap.size := by
            intro h0
            obtain ⟨τ, hτ⟩ : ∃ τ, (lv P e)[0]? = some τ := ⟨(lv P e)[0], List.getElem?_eq_getElem hpos⟩
            obtain ⟨x, v, _, _, h3, _, _⟩ := hcell 0 0 τ h0 hτ
            have e0 : (a.add (0 * P.cellsOf e)).add 0 = a := by simp [Addr.add]
            rw [e0] at h3
            unfold World.cell? at h3
            split at h3
            · rename_i c t' fr hb
              have hb : w.heap[a.block]? = some (.cells c t' fr) := hb
              split at h3
              · cases h3
              · rename_i hs
                refine ⟨?_, (Array.getElem?_eq_some_iff.1 hb).1⟩
                have hs : ¬ a.spot.isSome = true := hs
                cases hsp : a.spot with
                | none => rfl
                | some _ => rw [hsp] at hs; simp at hs
            · cases h3
          have hadd : ∀ i j, 0 < len → (a.add (i * P.cellsOf e)).add j = ⟨a.block, a.off + i * (lv P e).length + j, none⟩ := by
            intro i j h0
            have h1 := (hspot h0).1
            have e1 : a = ⟨a.block, a.off, none⟩ := by rw [← h1]
            rw [hle, e1, add_eq, add_eq]
          refine ⟨[.l len fun i j => (xf i).getD j (.b false)], Leaves.one (.sl (x := .l len fun i j => (xf i).getD j (.b false)) (A := some a) (c := cap) hu hl a.block a.off (fun i j => (cf i).getD j undef) (fun h0 => ?_) (fun i j τ hi hj => ?_) (fun i j τ hi hj => ?_)) (.sl hu (by omega) (fun i j τ hi hj => ?_))⟩
          · have h0 : 0 < len := h0
            obtain ⟨h1, h2⟩ := hspot h0
            refine ⟨?_, h2, fun h => h⟩
            cases a
            simp only at h1
            subst h1
            rfl
          · have hi : i < len := hi
            obtain ⟨x, v, _, h2, h3, _, _⟩ := hcell i j τ hi hj
            rw [hadd i j (by omega)] at h3
            rw [h3, List.getD_eq_getElem?_getD, h2]
            rfl
          · have hi : i < len := hi
            obtain ⟨x, v, h1, h2, _, h4, _⟩ := hcell i j τ hi hj
            show RT P w _ τ ((xf i).getD j (.b false)) ((cf i).getD j undef)
            rw [List.getD_eq_getElem?_getD, List.getD_eq_getElem?_getD, h1, h2]
            exact h4
          · obtain ⟨x, v, h1, _, _, _, h5⟩ := hcell i j τ hi hj
            rw [List.getD_eq_getElem?_getD, h1]
            exact h5
      | struct fs =>
        simp only [Bool.and_eq_true] at hty
        obtain ⟨hty1, hty2⟩ := hty
        rw [eq_of_beq hty2]
        unfold DataW.trod at h
        rw [hu] at h
        simp only at h
        split at h
        · rename_i hcl
          cases hm : fs.toList.mapM (fun f => DataW.trod enc P w 0 spare held fuel f.type ((cs.drop f.offset).take (P.cellsOf f.type))) with
          | none => rw [hm] at h; simp at h
          | some ys =>
            obtain ⟨_, xs, h3⟩ := fields_leaves hg ih fs.toList 0 _ ys (eq_of_beq hty1) hm
            refine ⟨xs, ?_⟩
            have e : (cs.drop 0).take (P.cellsOf t - 0) = cs := by rw [List.drop_zero, Nat.sub_zero]; exact List.take_of_length_le (by omega)
            rwa [e] at h3
        · cases h
      | _ => simp at hty
theorem arg_rel (hg : tyGood P ts = true) {t : TypeId} (ht : t ∈ ts) {v : Value} {d : DataW H} {ps : List MemPlace} {rch : Reach} {b : Nat} (hv : Value.okWide P w rch b t v) (h : DataW.Trod enc P w 0 spare held t v d ps) :
    ∃ xs : List T, xs.length = (lv P t).length ∧ (∀ (j : Nat) (τ : TypeId), (lv P t)[j]? = some τ → ∃ x : T, xs[j]? = some x ∧ WT P τ x) ∧ RA P w [] (b0 fun _ => False) hd0 (loadT P t fun j => xs.getD j (.b false)) v := by
  obtain ⟨fuel, hf⟩ := h
  obtain ⟨xs, h1, h2, h3⟩ := trod_leaves hg fuel t ht _ _ _ hf
  refine ⟨xs, h2, fun j τ hj => by obtain ⟨x, _, h4, _, _, h5⟩ := h3 j τ hj; exact ⟨x, h4, h5⟩, ?_⟩
  obtain ⟨_, hty⟩ := tyGood_at hg ht
  have cell : ∀ j τ, (lv P t)[j]? = some τ → RC P w [] (b0 fun _ => False) hd0 (ofT P τ (xs.getD j (.b false))) (v.cells.toList.getD j undef) := by
    intro j τ hj
    obtain ⟨x, u, h4, h5, h6, _⟩ := h3 j τ hj
    rw [List.getD_eq_getElem?_getD, List.getD_eq_getElem?_getD, h4, h5]
    exact ofT_rel h6.closed
  cases hu : P.underlying t with
  | none => rw [hu] at hty; cases hty
  | some u =>
    rw [hu] at hty
    have plain : isAg P t = false → v.cells = #[v] → lv P t = [t] → RA P w [] (b0 fun _ => False) hd0 (loadT P t fun j => xs.getD j (.b false)) v := by
      intro ha hc hl
      unfold loadT
      rw [ha, cond_false]
      have := cell 0 t (by rw [hl]; rfl)
      rw [hc] at this
      exact .c this
    cases u with
    | int k =>
      obtain ⟨n, rfl⟩ := okWide_int hu hv
      exact plain (by simp [isAg, hu]) rfl (eq_of_beq hty)
    | bool =>
      obtain ⟨n, rfl⟩ := okWide_bool hu hv
      exact plain (by simp [isAg, hu]) rfl (eq_of_beq hty)
    | string =>
      obtain ⟨n, rfl⟩ := okWide_string hu hv
      exact plain (by simp [isAg, hu]) rfl (eq_of_beq hty)
    | slice e =>
      obtain ⟨a, len, cap, rfl⟩ := okWide_slice hu hv
      simp only [Bool.and_eq_true] at hty
      exact plain (by simp [isAg, hu]) rfl (eq_of_beq hty.1.1)
    | struct fs =>
      obtain ⟨cs, rfl, hcs⟩ := okWide_struct hu hv
      have ha : isAg P t = true := by simp [isAg, hu]
      unfold loadT
      rw [ha, cond_true]
      refine .ag (by simpa [Value.cells] using h1.symm) fun j x hj => ?_
      simp only [List.getElem?_mapIdx, Option.map_eq_some_iff] at hj
      obtain ⟨τ, hτ, rfl⟩ := hj
      have := cell j τ hτ
      simpa [Value.cells, Array.getD_eq_getD_getElem?, List.getD_eq_getElem?_getD] using this
    | _ => simp at hty
theorem law_calls {pl : Plan} {fr : Fr} {ext : FuncId → Option (List AV → Store → Option R)} (hmix : P.follows .mixedOrders = true) (hext : ∀ f F args M r, ext f = some F → F args M = some r → FSound P fr f args M r) {n : Nat} {f : FuncId} {fn : Func} (hf : P.funcs[f]? = some fn)
    {args : List AV} {r : R} (hr : call P pl fr ext n f args [] = some r) (ht : fr.tpl f = ⟨[.b 0], [], []⟩) (h1 : (r 0).bool = true) {vals : Array Value} (hl : args.length = vals.size) (ha : ∀ j x, args[j]? = some x → RA P w [] (b0 fun _ => False) hd0 x (vals.getD j undef))
    (htab : ∀ g, P.globalNamed "internal/strconv.uint64pow10" = some g → g < w.heap.size ∧ Lib.TabIs P w "internal/strconv.uint64pow10" .u64 Lib.pow10Tab) :
    Calls P f vals w fun e w' => e = .returned (.bool true) ∧ Below w.heap.size w w' := by
  have hno : ∀ k b, ¬ Owns [] (b0 fun _ => False) hd0 k b := by
    rintro k b (⟨t, cs, h, _⟩ | ⟨e, n, g, h, _⟩) <;> cases h
  have hargs : ArgsOk P ⟨w, [], b0 fun _ => False, hd0⟩ args vals :=
    ⟨⟨Under.refl, fun k b h => absurd h (hno k b), fun k k' b h => absurd h (hno k b), fun b h => h.elim, (fun k t cs h => by cases h), (fun k e n g h => by cases h), fun g hg => ⟨fun ⟨k, hk⟩ => hno k g hk, (htab g hg).1, (htab g hg).2⟩⟩, fun q h => absurd rfl h, hl, ha⟩
  refine (calls_ok hmix hext n f args [] r hr ⟨w, [], b0 fun _ => False, hd0⟩ vals rfl hargs fn hf).mono ?_
  rintro e w' ⟨us, rfl, hlen, β, hd, hβ, hs, hx, hv⟩
  rw [ht] at hlen hv hs
  match us, hlen, hv with
  | [u], _, hv =>
    have h2 := hv 0 _ rfl
    have h3 : RA P w' (Tpl.M ⟨[.b 0], [], []⟩ r) β hd (.b (r 0).bool) u := h2
    have h4 := h3.b_inv
    refine ⟨by rw [show outV [u] = u from rfl, h4, h1], hs.below.os, hs.below.tape, hs.below.output, UStep.size hs.below, fun b hb => hs.below.block b ?_⟩
    rintro (h5 | ⟨k, h5⟩)
    · exact absurd hb (Nat.not_lt.2 h5)
    · exact hno k b h5
end
end Go.AM
