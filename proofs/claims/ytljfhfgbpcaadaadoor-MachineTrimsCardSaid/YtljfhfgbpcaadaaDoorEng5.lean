/- The engine, part 5: slices cut, values built, structs compared. -/
import Derived.Test.YtljfhfgbpcaadaaDoorEng4
import Derived.Laws.StructEq
set_option linter.unusedSimpArgs false
set_option linter.unusedVariables false
namespace Go.AM
open Go.RowKit (Below)
section
variable {P : Program} {w : World}
theorem run_bounds (isS : Bool) (len cap : Nat) (hlc : len ≤ cap) (lo hi : Option Int) (k1 k2 : IntKind) (h0 : 0 ≤ lo.getD 0) (h1 : lo.getD 0 ≤ hi.getD (len : Int)) (h2 : hi.getD (len : Int) ≤ (len : Int)) :
    (Instr.sliceBounds isS len cap (lo.map fun x => .int k1 x) (hi.map fun x => .int k2 x) none).run P w = .ok ((lo.getD 0).toNat, (hi.getD (len : Int)).toNat, cap) w := by
  have hb : ∀ (k : IntKind) (x : Int) (y : Nat) (code : BoundsCode), 0 ≤ x → x ≤ y → (Instr.sliceBound (.int k x) y code).run P w = .ok x.toNat w := by
    intro k x y code hx hy
    simp [Instr.sliceBound, asIntOf, hx, hy]
  cases hi with
  | none =>
    simp only [Option.getD_none] at h1 h2
    cases lo with
    | none => simp [Instr.sliceBounds]
    | some l =>
      simp only [Option.getD_some] at h0 h1
      simp [Instr.sliceBounds, hb k1 l len _ h0 h1]
  | some q =>
    simp only [Option.getD_some] at h1 h2
    have hq : (Instr.sliceBound (.int k2 q) cap (if isS = true then .sliceAcap else .sliceAlen)).run P w = .ok q.toNat w := hb k2 q cap _ (by omega) (by omega)
    cases lo with
    | none =>
      simp only [Option.getD_none] at h1
      simp [Instr.sliceBounds, hq]
    | some l =>
      simp only [Option.getD_some] at h0 h1
      simp [Instr.sliceBounds, hq, hb k1 l q.toNat _ h0 (by omega)]
end
section
variable {ρ : Type} {P : Program} {w0 : Fr0} {w : World} {M : Store} {β : Bn} {hd : Nat → Value} {sl : List AV} {a : Act} {κ : Kk ρ} {r : ρ}
variable (C : Ctx P w0 w M β hd sl a)
include C
variable {os : List (Nat × Option Ob)} (hos : ∀ k ob, lk os k = some ob → M.get k = some ob)
include hos
omit C in
theorem sliceAt_ok {t : TypeId} {x : AV} {v : Value} (hx : RA P w M β hd x v) (lo hi : Option Int) (k1 k2 : IntKind) (h : eSliceAt P t os x lo hi κ = some r) :
    ∃ y u, κ y [] = some r ∧ (Instr.sliceAt t v (lo.map fun x => .int k1 x) (hi.map fun x => .int k2 x) none).run P w = .ok u w ∧ RA P w M β hd y u := by
  unfold eSliceAt at h
  split at h
  · rename_i y
    split at h
    · rename_i hu
      obtain ⟨hc, h⟩ := iff_inv h
      rw [Bool.and_eq_true, Bool.and_eq_true] at hc
      obtain ⟨⟨hc1, hc2⟩, hc3⟩ := hc
      have hb := run_bounds (P := P) (w := w) false y.size y.size (Nat.le_refl _) lo hi k1 k2 (of_decide_eq_true hc1) (of_decide_eq_true hc2) (of_decide_eq_true hc3)
      refine ⟨_, .string (y.extract (lo.getD 0).toNat (hi.getD (y.size : Int)).toNat), h, ?_, .c (.s _)⟩
      simp [Instr.sliceAt, Instr.slice, run_underlying hu, hx.s_inv, hb]
    · cases h
  · rename_i e' y
    split at h
    · rename_i e hu
      obtain ⟨hb0, h'⟩ := bif_inv h
      clear h
      rw [Bool.and_eq_true, Bool.and_eq_true] at hb0
      obtain ⟨⟨hee, hsz⟩, hpos⟩ := hb0
      obtain rfl : e = e' := eq_of_beq hee
      have hsz : (lv P e).length = sizeT P e := eq_of_beq hsz
      have hpos : 0 < sizeT P e := by simpa using hpos
      obtain ⟨hc, h⟩ := iff_inv h'
      rw [Bool.and_eq_true, Bool.and_eq_true] at hc
      obtain ⟨⟨hc1, hc2⟩, hc3⟩ := hc
      have hc1 := of_decide_eq_true hc1
      have hc2 := of_decide_eq_true hc2
      have hc3 := of_decide_eq_true hc3
      obtain ⟨t', A, cc, ht', hv, hle, hr⟩ := hx.sl_inv
      have hb := run_bounds (P := P) (w := w) true y.len cc hle lo hi k1 k2 hc1 hc2 hc3
      rw [hv] at hr
      cases hr with
      | @sl _ e2 _ _ _ hu2 hc2' b off vs ha hvs hrr =>
        rw [hu2] at ht'
        cases ht'
        generalize hL : (lo.getD 0).toNat = L at *
        generalize hH : (hi.getD (y.len : Int)).toNat = Hh at *
        have hLH : L ≤ Hh := by omega
        have hHl : Hh ≤ y.len := by omega
        refine ⟨_, .slice (if cc = L then A else A.map (·.add (L * sizeT P e))) (Hh - L) (cc - L), h, ?_, ?_⟩
        · simp [Instr.sliceAt, Instr.slice, run_underlying hu, hv, hb, run_sizeT' hpos]
        · have hrt : RT P w (Own M β hd) t' (.l (Hh - L) fun i j => y.el (L + i) j) (.slice (if cc = L then A else A.map (·.add (L * sizeT P e))) (T.l (Hh - L) fun i j => y.el (L + i) j).len (cc - L)) := by
            refine .sl hu2 (by show Hh - L ≤ cc - L; omega) b (off + L * (lv P e).length) (fun i j => vs (L + i) j) (fun h0 => ?_) (fun i j τ hi hj => ?_) (fun i j τ hi hj => ?_)
            · have h0 : 0 < Hh - L := h0
              obtain ⟨h1, h2, h3⟩ := ha (by omega)
              refine ⟨?_, h2, h3⟩
              rw [if_neg (by omega), h1, ← hsz]
              simp [add_eq]
            · have hi : i < Hh - L := hi
              have := hvs (L + i) j τ (by omega) hj
              rw [← this]
              congr 3
              simp [Nat.add_mul, Nat.add_assoc]
            · have hi : i < Hh - L := hi
              exact hrr (L + i) j τ (by omega) hj
          exact .c (.sl hu2 hrt)
    · cases h
  · rename_i k off len
    split at h
    · rename_i e hu
      split at h
      · rename_i e' n g hlk
        have hm := hos _ _ hlk
        obtain ⟨hb0, h'⟩ := bif_inv h
        clear h
        rw [Bool.and_eq_true, Bool.and_eq_true] at hb0
        obtain ⟨⟨hee, hsz⟩, hpos⟩ := hb0
        obtain rfl : e = e' := eq_of_beq hee
        have hsz : (lv P e).length = sizeT P e := eq_of_beq hsz
        have hpos : 0 < sizeT P e := by simpa using hpos
        obtain ⟨hc, h⟩ := iff_inv h'
        rw [Bool.and_eq_true, Bool.and_eq_true] at hc
        obtain ⟨⟨hc1, hc2⟩, hc3⟩ := hc
        have hc1 := of_decide_eq_true hc1
        have hc2 := of_decide_eq_true hc2
        have hc3 := of_decide_eq_true hc3
        rcases hx.rowv_inv hm with ⟨hh, ⟨A, hv⟩, h0, hl0⟩ | ⟨gb, cap, ad, hhd, hcap, hol, hv, had⟩
        · subst h0 hl0
          have hb := run_bounds (P := P) (w := w) true 0 0 (Nat.le_refl _) lo hi k1 k2 hc1 hc2 hc3
          have e1 : (lo.getD 0).toNat = 0 := by omega
          have e2 : (hi.getD ((0 : Nat) : Int)).toNat = 0 := by omega
          rw [e1, e2] at hb
          rw [e1, e2] at h
          refine ⟨_, .slice A 0 0, h, ?_, .c (.row (by simp [hm]) rfl fun e' n' g' hm' => .inl ⟨hh, ⟨A, rfl⟩, rfl, rfl⟩)⟩
          simp [Instr.sliceAt, Instr.slice, run_underlying hu, hv, hb, run_sizeT' hpos]
        · have hb := run_bounds (P := P) (w := w) true len (cap - off) (by omega) lo hi k1 k2 hc1 hc2 hc3
          generalize hL : (lo.getD 0).toNat = L at *
          generalize hH : (hi.getD (len : Int)).toNat = Hh at *
          have hLH : L ≤ Hh := by omega
          have hHl : Hh ≤ len := by omega
          refine ⟨_, .slice (some (if cap - off = L then ad else ad.add (L * sizeT P e))) (Hh - L) (cap - off - L), h, ?_, .c (.row (by simp [hm]) rfl fun e' n' g' hm' => ?_)⟩
          · have e3 : (if cap - off = L then some ad else some (ad.add (L * sizeT P e))) = some (if cap - off = L then ad else ad.add (L * sizeT P e)) := by split <;> rfl
            simp [Instr.sliceAt, Instr.slice, run_underlying hu, hv, hb, run_sizeT' hpos, e3]
          · rw [hm] at hm'
            cases hm'
            refine .inr ⟨gb, cap, _, hhd, hcap, by omega, by rw [Nat.sub_sub], fun hor => ?_⟩
            rcases hor with hor | hor
            · rw [if_neg (by omega), had (.inl (by omega)), add_eq, ← hsz, Nat.add_mul]
            · have ho : off = 0 := by omega
              have hl : L = 0 := by omega
              subst ho hl
              rw [had (.inr rfl)]
              split <;> simp [add_eq]
      · cases h
    · cases h
  · split at h
    · rename_i e hu
      obtain ⟨hpos, h'⟩ := bif_inv h
      clear h
      have hpos : 0 < sizeT P e := by simpa using hpos
      obtain ⟨hc, h⟩ := iff_inv h'
      rw [Bool.and_eq_true, Bool.and_eq_true] at hc
      obtain ⟨⟨hc1, hc2⟩, hc3⟩ := hc
      have hc1 := of_decide_eq_true hc1
      have hc2 := of_decide_eq_true hc2
      have hc3 := of_decide_eq_true hc3
      have hb := run_bounds (P := P) (w := w) true 0 0 (Nat.le_refl _) lo hi k1 k2 hc1 hc2 hc3
      have e1 : (lo.getD 0).toNat = 0 := by omega
      have e2 : (hi.getD ((0 : Nat) : Int)).toNat = 0 := by have : hi.getD ((0 : Nat) : Int) = hi.getD 0 := rfl; omega
      rw [e1, e2] at hb
      obtain ⟨A, hA⟩ := hx.nl_inv
      refine ⟨_, .slice A 0 0, h, ?_, .c .nl⟩
      simp [Instr.sliceAt, Instr.slice, run_underlying hu, hA, hb, run_sizeT' hpos]
    · cases h
  · cases h
theorem slice_ok {o : Oper} {t : TypeId} {x : Operand} {lo hi mx : Option Operand} (ho : o.op = .slice t x lo hi mx) (h : eSlice P t os lo hi mx κ ((#[x] ++ lo.toArray ++ hi.toArray ++ mx.toArray).toList.map (evO sl)) = some r) : Good P w0 w M β hd a o κ r := by
  have hx := rel1 C x
  have fin : ∀ (l h' : Option Int) (k1 k2 : IntKind), eSliceAt P t os (evO sl x) l h' κ = some r → (lo.map a.eval = l.map fun q => .int k1 q) → (hi.map a.eval = h'.map fun q => .int k2 q) → mx = none → Good P w0 w M β hd a o κ r := by
    intro l h' k1 k2 he hlo hhi hmx
    obtain ⟨y, u, hk, hrun, hrel⟩ := sliceAt_ok hos hx l h' k1 k2 he
    refine good_pure C hk ?_ hrel
    simp [execOp, ho, hlo, hhi, hmx, hrun]
  have hi_of : ∀ {p : Operand} {k : IntKind} {n : Int}, evO sl p = .i k n → a.eval p = .int k n := fun hp => (hp ▸ rel1 C _).i_inv
  cases mx with
  | some m =>
    cases lo with
    | some p => simp [eSlice] at h
    | none =>
      cases hi with
      | none => simp [eSlice] at h
      | some q =>
        cases hq : evO sl q
        case i k n =>
          cases hm : evO sl m
          case i k' n' =>
            simp only [eSlice, Option.toArray_none, Option.toArray_some, Array.append_empty, List.append_toArray, List.cons_append, List.nil_append, List.map_cons, List.map_nil, hq, hm] at h
            obtain ⟨hc, hk⟩ := bif_inv h
            rw [Bool.and_eq_true, Bool.and_eq_true] at hc
            obtain ⟨hb, h0, h1⟩ := hc
            have h0 : n = 0 := by simpa using h0
            have h1 : n' = 0 := by simpa using h1
            subst h0 h1
            unfold bareOk at hb
            split at hb
            case h_2 => cases hb
            rename_i e hu
            rw [Bool.and_eq_true] at hb
            obtain ⟨hpos, hb⟩ := hb
            have hpos : 0 < sizeT P e := by simpa using hpos
            have hA : ∃ A len c, a.eval x = .slice A len c := by
              split at hb
              · rename_i kk off len heq
                rw [heq] at hx
                obtain ⟨e', n', g, hmm⟩ := isRow_inv hos hb
                obtain ⟨A, c, hv⟩ := (hx.rowv_inv hmm).slice
                exact ⟨A, _, c, hv⟩
              · rename_i heq
                rw [heq] at hx
                obtain ⟨A, hA⟩ := hx.nl_inv
                exact ⟨A, 0, 0, hA⟩
              · cases hb
            obtain ⟨A, len, c, hA⟩ := hA
            refine good_pure C hk (x := .slice A 0 0) ?_ (.c .nl)
            simp [execOp, ho, Instr.sliceAt, Instr.slice, run_underlying hu, hA, hi_of hq, hi_of hm, Instr.sliceBounds, Instr.sliceBound, asIntOf, run_sizeT' hpos]
          all_goals simp [eSlice, hq, hm] at h
        all_goals simp [eSlice, hq] at h
  | none =>
    cases lo with
    | none =>
      cases hi with
      | none =>
        simp [eSlice] at h
        exact fin none none .i64 .i64 h rfl rfl rfl
      | some q =>
        cases hq : evO sl q
        case i k n =>
          simp [eSlice, hq] at h
          exact fin none (some n) .i64 k h rfl (by simp [hi_of hq]) rfl
        all_goals simp [eSlice, hq] at h
    | some p =>
      cases hp : evO sl p
      case i k n =>
        cases hi with
        | none =>
          simp [eSlice, hp] at h
          exact fin (some n) none k .i64 h (by simp [hi_of hp]) rfl rfl
        | some q =>
          cases hq : evO sl q
          case i k' n' =>
            simp [eSlice, hp, hq] at h
            exact fin (some n) (some n') k k' h (by simp [hi_of hp]) (by simp [hi_of hq]) rfl
          all_goals simp [eSlice, hp, hq] at h
      all_goals (cases hi <;> simp [eSlice, hp] at h)
omit hos
omit C in
theorem eqCell_run (d : Nat) {t : TypeId} {us vs : Array Value} {j : Nat} {x y : AV} {c : Bool} (h : eqCell P t x y = some c) (hju : j < us.size) (hjv : j < vs.size)
    (hx : RC P w M β hd x (us.getD j undef)) (hy : RC P w M β hd y (vs.getD j undef)) :
    (part t us j).run P w = .ok (us.getD j undef) w ∧ (part t vs j).run P w = .ok (vs.getD j undef) w ∧ (Op.equalIn (d + 1) t (us.getD j undef) (vs.getD j undef)).run P w = .ok c w := by
  have hp : ∀ {dd : TypeDesc} {zs : Array Value}, P.underlying t = some dd → (match dd with | .struct _ | .array _ _ => true | _ => false) = false → j < zs.size → (part t zs j).run P w = .ok (zs.getD j undef) w := by
    intro dd zs hd1 hn hz
    unfold part isAgg
    simp only [Sem.run_bind, run_underlying hd1, Result.andThen_ok]
    cases dd <;> simp_all [Array.getD_eq_getD_getElem?]
  unfold eqCell at h
  split at h
  · rename_i q hu
    split at h
    · rename_i k m k' n
      obtain ⟨hk, h'⟩ := bif_inv h
      clear h
      obtain rfl := eq_of_beq hk
      obtain rfl : (m == n) = c := by simpa using h'
      refine ⟨hp hu rfl hju, hp hu rfl hjv, ?_⟩
      generalize us.getD j undef = u at *
      generalize vs.getD j undef = v at *
      cases hx; cases hy
      exact Go.run_equalIn_int w d t k q m n hu
    · cases h
  · rename_i hu
    split at h
    · rename_i m n
      obtain rfl : (m == n) = c := by simpa using h
      refine ⟨hp hu rfl hju, hp hu rfl hjv, ?_⟩
      generalize us.getD j undef = u at *
      generalize vs.getD j undef = v at *
      cases hx; cases hy
      exact Go.run_equalIn_bool w d t m n hu
    · cases h
  · rename_i hu
    split at h
    · rename_i m n
      obtain rfl : strEq m n = c := by simpa using h
      refine ⟨hp hu rfl hju, hp hu rfl hjv, ?_⟩
      generalize us.getD j undef = u at *
      generalize vs.getD j undef = v at *
      cases hx; cases hy
      exact Go.run_equalIn_string w d t m n hu
    · cases h
  · cases h
omit C in
theorem eqF_run (d : Nat) {us vs : Array Value} : ∀ (fs : List Field) (j : Nat) (xs ys : List AV) (c : Bool), eqF P fs j xs ys = some c → j + xs.length ≤ us.size → j + ys.length ≤ vs.size →
    (∀ q x, xs[q]? = some x → RC P w M β hd x (us.getD (j + q) undef)) → (∀ q y, ys[q]? = some y → RC P w M β hd y (vs.getD (j + q) undef)) → (Op.eqFields (d + 1) us vs fs).run P w = .ok c w
  | [], j, [], [], c, hc, _, _, _, _ => by
    simp [eqF] at hc
    subst hc
    simp [Op.eqFields]
  | [], _, _ :: _, _, _, hc, _, _, _, _ => by simp [eqF] at hc
  | [], _, [], _ :: _, _, hc, _, _, _, _ => by simp [eqF] at hc
  | _ :: _, _, [], _, _, hc, _, _, _, _ => by simp [eqF] at hc
  | _ :: _, _, _ :: _, [], _, hc, _, _, _, _ => by simp [eqF] at hc
  | f :: fs, j, x :: xs, y :: ys, c, hc, hu, hv, hx, hy => by
    simp only [List.length_cons] at hu hv
    have hx0 := hx 0 x rfl
    have hy0 := hy 0 y rfl
    simp only [Nat.add_zero] at hx0 hy0
    simp only [eqF] at hc
    obtain ⟨hb, hc⟩ := bif_inv hc
    rw [Bool.and_eq_true] at hb
    have hoff : f.offset = j := eq_of_beq hb.1
    have hname : f.name ≠ "_" := by simpa using hb.2
    split at hc
    · rename_i c1 c2 h1 h2
      have hc : (c1 && c2) = c := by simpa using hc
      have ih := eqF_run d (us := us) (vs := vs) fs (j + 1) xs ys c2 h2 (by omega) (by omega) (fun q x' hq => by have := hx (q + 1) x' hq; rwa [show j + (q + 1) = j + 1 + q by omega] at this) (fun q y' hq => by have := hy (q + 1) y' hq; rwa [show j + (q + 1) = j + 1 + q by omega] at this)
      obtain ⟨p1, p2, p3⟩ := eqCell_run (w := w) (M := M) (β := β) (hd := hd) d h1 (show j < us.size by omega) (show j < vs.size by omega) hx0 hy0
      simp only [Op.eqFields, if_pos hname, Sem.run_bind, hoff, p1, p2, p3, Result.andThen_ok]
      cases c1
      · simp only [Bool.false_and] at hc
        subst hc
        simp
      · simp only [Bool.true_and] at hc
        subst hc
        simpa using ih
    · cases hc
theorem bin_ag {o : Oper} {op : BinOp} {t yt : TypeId} {x y : Operand} {xs ys : List AV} (ho : o.op = .binOp op t x y yt) (hx : evO sl x = .ag xs) (hy : evO sl y = .ag ys) (h : evAg P op t xs ys κ = some r) : Good P w0 w M β hd a o κ r := by
  obtain ⟨us, hv1, hl1, hr1⟩ := (hx ▸ rel1 C x).ag_inv
  obtain ⟨vs, hv2, hl2, hr2⟩ := (hy ▸ rel1 C y).ag_inv
  unfold evAg at h
  split at h
  · rename_i fs hf
    unfold flat at hf
    split at hf
    · rename_i fa hu
      obtain ⟨hb, hf⟩ := bif_inv hf
      rw [Bool.and_eq_true] at hb
      have hst : P.stoodInHeld t = false := by simpa using hb.1
      have hgd : P.eqGuardType P.depth t = false := by simpa using hb.2
      have hff : P.fieldsOf t = fa := by simp [Program.fieldsOf, hu]
      obtain rfl : fa.toList = fs := by simpa using hf
      split at h
      · rename_i c hc
        have hrun : (Op.equalIn 10000 t (.agg us) (.agg vs)).run P w = .ok c w := by
          have := Go.run_equalIn_struct (P := P) w 9999 t us vs (by rw [hff]; exact hu) hst
          rw [this, hff]
          exact eqF_run (w := w) (M := M) (β := β) (hd := hd) 9998 fa.toList 0 xs ys c hc (by omega) (by omega) (fun q x' hq => by simpa using hr1 q x' hq) (fun q y' hq => by simpa using hr2 q y' hq)
        have hg : (eqGuard op t x y (a.eval x) (a.eval y)).run P w = .ok () w := by
          rw [hv1, hv2]
          exact Go.run_eqGuard_agg w op t x y us vs hgd
        split at h
        · refine good_pure C h (run_op_bin ho hg ?_) (.c (.b _))
          rw [hv1, hv2, Go.run_eql_struct, hrun]
          rfl
        · refine good_pure C h (run_op_bin ho hg ?_) (.c (.b _))
          rw [hv1, hv2, Go.run_neq_struct, hrun]
          rfl
        · cases h
      · cases h
    · cases hf
  · cases h
theorem bin_ok {o : Oper} {op : BinOp} {t yt : TypeId} {x y : Operand} (ho : o.op = .binOp op t x y yt) (h : eBin P op t κ [evO sl x, evO sl y] = some r) : Good P w0 w M β hd a o κ r := by
  simp only [eBin] at h
  unfold evBin at h
  split at h
  · exact bin_int C ho ‹_› ‹_› h
  · exact bin_bool C ho ‹_› ‹_› h
  · exact bin_str C ho ‹_› ‹_› h
  · exact bin_ag C ho ‹_› ‹_› h
  · cases h
end
end Go.AM
