/- The engine, part 8m: maps. -/
import Derived.Test.YtljfhfgbpcaadaaDoorEng8
import GoSem.Instr.MakeMap
import GoSem.Instr.MapEntry
set_option linter.unusedSimpArgs false
set_option linter.unusedVariables false
namespace Go.AM
open Go.RowKit (Below)
theorem firstK_none {x : T} {key : List T} : ∀ {n i : Nat}, firstK x key n i = none → ∀ j, i ≤ j → j < i + n → eqLeaves (x.el j) 0 key = false
  | 0, i, _, j, h1, h2 => by omega
  | n + 1, i, h, j, h1, h2 => by
    simp only [firstK] at h
    cases hc : eqLeaves (x.el i) 0 key with
    | true => rw [hc] at h; cases h
    | false =>
      rw [hc] at h
      by_cases hij : i = j
      · exact hij ▸ hc
      · exact firstK_none h j (by omega) (by omega)
theorem firstK_some {x : T} {key : List T} : ∀ {n i j : Nat}, firstK x key n i = some j → i ≤ j ∧ j < i + n ∧ eqLeaves (x.el j) 0 key = true
  | 0, i, j, h => by cases h
  | n + 1, i, j, h => by
    simp only [firstK] at h
    cases hc : eqLeaves (x.el i) 0 key with
    | true =>
      rw [hc] at h
      obtain rfl : i = j := by simpa using h
      exact ⟨Nat.le_refl _, by omega, hc⟩
    | false =>
      rw [hc] at h
      obtain ⟨h1, h2, h3⟩ := firstK_some (n := n) (i := i + 1) h
      exact ⟨by omega, by omega, h3⟩
section
variable {P : Program} {os : List (Nat × Option Ob)}
theorem frz_keys {v : AV} {x : T} {k : Nat} (h : frz os v = some x) (hk : k ∈ rowKeys [v]) : ∃ ob, lk os k = some ob := by
  cases v with
  | row q off len =>
    obtain rfl : k = q := by simpa [rowKeys] using hk
    simp only [frz] at h
    split at h
    · rename_i q' e n g hq
      exact ⟨.row e n g, by simp only [lk, hq]⟩
    · cases h
  | _ => simp [rowKeys] at hk
theorem rowKeys_cons {v : AV} {vs : List AV} {k : Nat} (h : k ∈ rowKeys (v :: vs)) : k ∈ rowKeys [v] ∨ k ∈ rowKeys vs := by
  cases v <;> simp [rowKeys] at h ⊢ <;> exact h
theorem frzs_keys : ∀ {ts : List TypeId} {vs : List AV} {xs : List T} {k : Nat}, frzs P os ts vs = some xs → k ∈ rowKeys vs → ∃ ob, lk os k = some ob
  | [], [], _, _, _, hk => by simp [rowKeys] at hk
  | [], _ :: _, _, _, h, _ => by simp [frzs] at h
  | _ :: _, [], _, _, h, _ => by simp [frzs] at h
  | t :: ts, v :: vs, xs, k, h, hk => by
    simp only [frzs] at h
    obtain ⟨hc, h⟩ := bif_inv h
    split at h
    · rename_i x hx
      split at h
      · rename_i ys hys
        rcases rowKeys_cons hk with hk | hk
        · exact frz_keys hx hk
        · exact frzs_keys hys hk
      · cases h
    · cases h
end
section
variable {P : Program} {w : World} {O : Nat → Prop}
inductive KeyLeaf (P : Program) (t : TypeId) : T → Value → Prop
  | i {k : IntKind} {n : Int} (h : P.underlying t = some (.int k)) : KeyLeaf P t (.i n) (.int k n)
  | b {x : Bool} (h : P.underlying t = some .bool) : KeyLeaf P t (.b x) (.bool x)
  | s {x : ByteArray} (h : P.underlying t = some .string) : KeyLeaf P t (.s x) (.string x)
theorem bytes_eq {a b : ByteArray} (h : (a.toList == b.toList) = true) : a = b := by
  have : (a == b) = true := by rw [beq_toListBytes]; exact h
  obtain ⟨x⟩ := a
  obtain ⟨y⟩ := b
  have e : x = y := by simpa using (show (x == y) = true from this)
  rw [e]
theorem KeyLeaf.equal {t : TypeId} {x y : T} {u v : Value} (h : KeyLeaf P t x u) (r : RT P w O t y v) (d : Nat) : (Op.equalIn (d + 1) t u v).run P w = .ok (eqLeaf y x) w ∧ (eqLeaf y x = true → v = u) := by
  cases h with
  | @i k n h =>
    cases r with
    | int h2 =>
      rw [h] at h2
      cases h2
      refine ⟨?_, fun he => ?_⟩
      · rw [Go.run_equalIn_int w d t k k n y.int h]
        show Result.ok (n == y.int) w = .ok (y.int == n) w
        rw [Bool.beq_comm]
      · have : y.int = n := by simpa [eqLeaf] using he
        rw [this]
    | bool h2 => rw [h] at h2; cases h2
    | str h2 => rw [h] at h2; cases h2
    | sl h2 => rw [h] at h2; cases h2
  | @b x h =>
    cases r with
    | bool h2 =>
      refine ⟨?_, fun he => ?_⟩
      · rw [Go.run_equalIn_bool w d t x y.bool h]
        show Result.ok (x == y.bool) w = .ok (y.bool == x) w
        rw [Bool.beq_comm]
      · have : y.bool = x := by simpa [eqLeaf] using he
        rw [this]
    | int h2 => rw [h] at h2; cases h2
    | str h2 => rw [h] at h2; cases h2
    | sl h2 => rw [h] at h2; cases h2
  | @s x h =>
    cases r with
    | str h2 =>
      refine ⟨?_, fun he => ?_⟩
      · rw [Go.run_equalIn_string w d t x y.str h]
        show Result.ok (x.toList == y.str.toList) w = .ok (y.str.toList == x.toList) w
        rw [Bool.beq_comm]
      · have : y.str = x := bytes_eq he
        rw [this]
    | bool h2 => rw [h] at h2; cases h2
    | int h2 => rw [h] at h2; cases h2
    | sl h2 => rw [h] at h2; cases h2
theorem KeyLeaf.now {t : TypeId} {x y : T} {u v : Value} (h : KeyLeaf P t x u) (r : RT P w O t y v) : ∃ dd, P.underlying t = some dd ∧ Instr.sameNow dd u v = some (eqLeaf y x) := by
  cases h with
  | @i k n h =>
    cases r with
    | int h2 =>
      rw [h] at h2
      cases h2
      refine ⟨_, h, ?_⟩
      show (if k = k then some (n == y.int) else none) = some (y.int == n)
      rw [if_pos rfl, Bool.beq_comm]
    | bool h2 => rw [h] at h2; cases h2
    | str h2 => rw [h] at h2; cases h2
    | sl h2 => rw [h] at h2; cases h2
  | @b x h =>
    cases r with
    | bool h2 =>
      refine ⟨_, h, ?_⟩
      show some (x == y.bool) = some (y.bool == x)
      rw [Bool.beq_comm]
    | int h2 => rw [h] at h2; cases h2
    | str h2 => rw [h] at h2; cases h2
    | sl h2 => rw [h] at h2; cases h2
  | @s x h =>
    cases r with
    | str h2 =>
      refine ⟨_, h, ?_⟩
      show some (x == y.str) = some (y.str.toList == x.toList)
      rw [beq_toListBytes, Bool.beq_comm]
    | bool h2 => rw [h] at h2; cases h2
    | int h2 => rw [h] at h2; cases h2
    | sl h2 => rw [h] at h2; cases h2
theorem KeyLeaf.same {t : TypeId} {x : T} {u : Value} (h : KeyLeaf P t x u) (n : Nat) : Instr.sameBits n u u = true := by
  cases h with
  | i h => cases n <;> simp [Instr.sameBits]
  | b h => cases n <;> simp [Instr.sameBits]
  | @s x h =>
    have : (x == x) = true := by rw [beq_toListBytes]; simp
    cases n <;> simp [Instr.sameBits, this]
theorem KeyLeaf.under {t : TypeId} {x : T} {u : Value} (h : KeyLeaf P t x u) : ∃ dd, P.underlying t = some dd ∧ (match dd with | .struct _ | .array _ _ | .interface _ => true | _ => false) = false := by
  cases h with
  | i h => exact ⟨_, h, rfl⟩
  | b h => exact ⟨_, h, rfl⟩
  | s h => exact ⟨_, h, rfl⟩
theorem KeyLeaf.check {t : TypeId} {x : T} {u : Value} (h : KeyLeaf P t x u) (e : Bool) (n : Nat) : (Instr.checkKey e (n + 1) t u).run P w = .ok () w := by
  obtain ⟨dd, h1, h2⟩ := h.under
  unfold Instr.checkKey
  simp only [Sem.run_bind, run_underlying h1, Result.andThen]
  cases dd <;> first | (cases h2; done) | (cases h <;> rfl)
def KeyV (P : Program) (kt : TypeId) (ks : List T) (u : Value) : Prop :=
  (isAg P kt = false ∧ ∃ x, ks = [x] ∧ KeyLeaf P kt x u) ∨
  (isAg P kt = true ∧ ∃ fa us, P.underlying kt = some (.struct fa) ∧ P.stoodInHeld kt = false ∧ u = .agg us ∧ us.size = fa.toList.length ∧ ks.length = fa.toList.length ∧ keyF P 0 fa.toList = true ∧ lv P kt = fa.toList.map (·.type) ∧
    ∀ j f, fa.toList[j]? = some f → ∃ x, ks[j]? = some x ∧ KeyLeaf P f.type x (us.getD j undef))
theorem keyF_at : ∀ {fs : List Field} {j0 : Nat}, keyF P j0 fs = true → ∀ j f, fs[j]? = some f → f.offset = j0 + j ∧ f.name ≠ "_" ∧ basicT P f.type = true
  | [], _, _, j, f, h => by simp at h
  | g :: fs, j0, hk, j, f, h => by
    simp only [keyF, Bool.and_eq_true] at hk
    cases j with
    | zero =>
      obtain rfl : g = f := by simpa using h
      exact ⟨by simpa using hk.1.1, by simpa using hk.1.2, hk.2.1⟩
    | succ j =>
      have := keyF_at hk.2.2 j f (by simpa using h)
      exact ⟨by omega, this.2⟩
theorem leafOf {M : Store} {β : Bn} {hd : Nat → Value} {os : List (Nat × Option Ob)} {t : TypeId} {v : AV} {x : T} {u : Value} (hb : basicT P t = true) (hc : conf P os t v = true) (hf : frz os v = some x) (hr : RC P w M β hd v u) : KeyLeaf P t x u := by
  unfold basicT at hb
  unfold conf at hc
  split at hc
  · rename_i k k' n hu
    obtain rfl := eq_of_beq hc
    cases hr
    obtain rfl : T.i n = x := by simpa [frz] using hf
    exact .i hu
  · rename_i b hu
    cases hr
    obtain rfl : T.b b = x := by simpa [frz] using hf
    exact .b hu
  · rename_i s hu
    cases hr
    obtain rfl : T.s s = x := by simpa [frz] using hf
    exact .s hu
  · rename_i hu; rw [hu] at hb; cases hb
  · rename_i hu; rw [hu] at hb; cases hb
  · rename_i hu; rw [hu] at hb; cases hb
  · cases hc
theorem frzs_at {os : List (Nat × Option Ob)} : ∀ {ts : List TypeId} {vs : List AV} {xs : List T}, frzs P os ts vs = some xs → xs.length = ts.length ∧ vs.length = ts.length ∧ ∀ (j : Nat) (t : TypeId), ts[j]? = some t → ∃ v x, vs[j]? = some v ∧ xs[j]? = some x ∧ conf P os t v = true ∧ frz os v = some x
  | [], [], xs, h => by
    obtain rfl : ([] : List T) = xs := by simpa [frzs] using h
    exact ⟨rfl, rfl, fun j t hj => by simp at hj⟩
  | [], _ :: _, _, h => by simp [frzs] at h
  | _ :: _, [], _, h => by simp [frzs] at h
  | t :: ts, v :: vs, xs, h => by
    simp only [frzs] at h
    obtain ⟨hc, h⟩ := bif_inv h
    split at h
    · rename_i x hx
      split at h
      · rename_i ys hys
        obtain rfl : x :: ys = xs := by simpa using h
        obtain ⟨h1, h2, h3⟩ := frzs_at hys
        refine ⟨by simp [h1], by simp [h2], fun j t' hj => ?_⟩
        cases j with
        | zero =>
          obtain rfl : t = t' := by simpa using hj
          exact ⟨v, x, rfl, rfl, hc, hx⟩
        | succ j => exact h3 j t' hj
      · cases h
    · cases h
theorem basic_notAg {t : TypeId} (h : basicT P t = true) : isAg P t = false := by
  unfold basicT at h
  unfold isAg
  split at h <;> first | (rename_i h1; rw [h1]; done) | cases h
theorem flat_inv {t : TypeId} {fs : List Field} (h : flat P t = some fs) : ∃ fa, P.underlying t = some (.struct fa) ∧ P.stoodInHeld t = false ∧ fa.toList = fs := by
  unfold flat at h
  split at h
  · rename_i fa hu
    obtain ⟨hb, hf⟩ := bif_inv h
    rw [Bool.and_eq_true] at hb
    exact ⟨fa, hu, by simpa using hb.1, by simpa using hf⟩
  · cases h
theorem keyT_rel {M : Store} {β : Bn} {hd : Nat → Value} {kt : TypeId} {v : AV} {ks : List T} {u : Value} (h : keyT P kt v = some ks) (hr : RA P w M β hd v u) : KeyV P kt ks u := by
  unfold keyT at h
  obtain ⟨hb, h⟩ := bif_inv h
  rw [Bool.and_eq_true] at hb
  obtain ⟨hk, hs⟩ := hb
  obtain ⟨f1, f2, f3⟩ := frzs_at h
  unfold keyOk at hk
  rw [Bool.or_eq_true] at hk
  rcases hk with hk | hk
  · have hna := basic_notAg hk
    have hl := not_ag_lv hna
    refine .inl ⟨hna, ?_⟩
    obtain ⟨v', x, h1, h2, h3, h4⟩ := f3 0 kt (by rw [hl]; rfl)
    have hv : cellsOf v = [v] ∧ isCell v = true := by
      rw [hna] at hs
      cases v <;> first | exact ⟨rfl, rfl⟩ | cases hs
    rw [hv.1] at h1
    obtain rfl : v = v' := by simpa using h1
    refine ⟨x, ?_, leafOf hk h3 h4 (hr.cell hv.2)⟩
    rw [hl] at f1
    match ks, f1, h2 with
    | [y], _, h2 => simpa using h2
  · split at hk
    · rename_i fs hf
      obtain ⟨fa, hu, hst, rfl⟩ := flat_inv hf
      rw [Bool.and_eq_true] at hk
      have hag : isAg P kt = true := by unfold isAg; rw [hu]
      have hl : lv P kt = fa.toList.map (·.type) := eq_of_beq hk.2
      rw [hag] at hs
      cases v with
      | ag cs =>
        obtain ⟨us, hu2, hcl, hcr⟩ := hr.ag_inv
        have e1 : (lv P kt).length = fa.toList.length := by rw [hl, List.length_map]
        refine .inr ⟨hag, fa, us, hu, hst, hu2, by rw [← hcl]; have := f2; simp only [cellsOf] at this; omega, by omega, hk.1, hl, fun j f hj => ?_⟩
        obtain ⟨v', x, h1, h2, h3, h4⟩ := f3 j f.type (by rw [hl, List.getElem?_map, hj]; rfl)
        exact ⟨x, h2, leafOf (keyF_at hk.1 j f hj).2.2 h3 h4 (hcr j v' h1)⟩
      | _ => cases hs
    · cases hk
theorem part_leaf {t : TypeId} {zs : Array Value} {j : Nat} {x : T} {u : Value} (h : KeyLeaf P t x u) (hz : j < zs.size) : (part t zs j).run P w = .ok (zs.getD j undef) w := by
  obtain ⟨dd, h1, h2⟩ := h.under
  unfold part isAgg
  simp only [Sem.run_bind, run_underlying h1, Result.andThen_ok]
  cases dd <;> simp_all [Array.getD_eq_getD_getElem?]
theorem eqFields_key (d : Nat) {us vs : Array Value} {g : Nat → T} : ∀ (fs : List Field) (j : Nat) (ks : List T), keyF P j fs = true → ks.length = fs.length → j + fs.length ≤ us.size → j + fs.length ≤ vs.size →
    (∀ q f, fs[q]? = some f → ∃ x, ks[q]? = some x ∧ KeyLeaf P f.type x (us.getD (j + q) undef)) → (∀ q f, fs[q]? = some f → RT P w O f.type (g (j + q)) (vs.getD (j + q) undef)) →
    (Op.eqFields (d + 1) us vs fs).run P w = .ok (eqLeaves g j ks) w ∧ (eqLeaves g j ks = true → ∀ q, q < fs.length → vs.getD (j + q) undef = us.getD (j + q) undef)
  | [], j, ks, _, hl, _, _, _, _ => by
    obtain rfl : ks = [] := List.eq_nil_of_length_eq_zero hl
    exact ⟨by simp [Op.eqFields, eqLeaves], fun _ q hq => absurd hq (Nat.not_lt_zero _)⟩
  | f :: fs, j, ks, hk, hl, hu, hv, hx, hy => by
    match ks, hl with
    | x :: ks, hl =>
      simp only [List.length_cons] at hl hu hv
      have h0 := keyF_at hk 0 f rfl
      simp only [keyF, Bool.and_eq_true] at hk
      obtain ⟨x', hx', hleaf⟩ := hx 0 f rfl
      obtain rfl : x = x' := by simpa using hx'
      have hrt := hy 0 f rfl
      simp only [Nat.add_zero] at hleaf hrt h0
      obtain ⟨ih1, ih2⟩ := eqFields_key d (us := us) (vs := vs) (g := g) fs (j + 1) ks hk.2.2 (by omega) (by omega) (by omega)
        (fun q f' hq => by obtain ⟨y, h1, h2⟩ := hx (q + 1) f' (by simpa using hq); exact ⟨y, by simpa using h1, by rwa [show j + (q + 1) = j + 1 + q by omega] at h2⟩)
        (fun q f' hq => by have := hy (q + 1) f' (by simpa using hq); rwa [show j + (q + 1) = j + 1 + q by omega] at this)
      obtain ⟨e1, e2⟩ := hleaf.equal hrt d
      have p1 := part_leaf (w := w) hleaf (show j < us.size by omega)
      have p2 := part_leaf (w := w) hleaf (show j < vs.size by omega)
      refine ⟨?_, fun he => ?_⟩
      · simp only [Op.eqFields, if_pos h0.2.1, Sem.run_bind, h0.1, p1, p2, e1, Result.andThen_ok, eqLeaves]
        cases eqLeaf (g j) x
        · simp
        · simpa using ih1
      · simp only [eqLeaves, Bool.and_eq_true] at he
        intro q hq
        cases q with
        | zero => exact e2 he.1
        | succ q =>
          have := ih2 he.2 q (by simp at hq; omega)
          rwa [show j + 1 + q = j + (q + 1) by omega] at this
theorem KeyV.equal {kt : TypeId} {ks : List T} {u ev : Value} {g : Nat → T} (h : KeyV P kt ks u) (r : RV P w O kt g ev) : (Op.equal kt u ev).run P w = .ok (eqLeaves g 0 ks) w ∧ (eqLeaves g 0 ks = true → ev = u) := by
  rcases h with ⟨h0, x, rfl, h1⟩ | ⟨h0, fa, us, h1, h2, rfl, h3, h4, h5, h6, h7⟩
  · rcases r with ⟨r0, _⟩ | ⟨_, r1⟩
    · rw [h0] at r0; cases r0
    · obtain ⟨e1, e2⟩ := h1.equal r1 9999
      simp only [eqLeaves, Bool.and_true]
      exact ⟨e1, e2⟩
  · rcases r with ⟨_, vs, rfl, r1, r2⟩ | ⟨r0, _⟩
    · have hff : P.fieldsOf kt = fa := by simp [Program.fieldsOf, h1]
      have e1 : (lv P kt).length = fa.toList.length := by rw [h6, List.length_map]
      obtain ⟨e2, e3⟩ := eqFields_key (P := P) (w := w) (O := O) 9998 (us := us) (vs := vs) (g := g) fa.toList 0 ks h5 h4 (by omega) (by omega)
        (fun q f hq => by rw [Nat.zero_add]; exact h7 q f hq) (fun q f hq => by rw [Nat.zero_add]; exact r2 q f.type (by rw [h6, List.getElem?_map, hq]; rfl))
      refine ⟨?_, fun he => ?_⟩
      · have := Go.run_equalIn_struct (P := P) w 9999 kt us vs (by rw [hff]; exact h1) h2
        show (Op.equalIn 10000 kt (.agg us) (.agg vs)).run P w = _
        rw [this, hff]
        exact e2
      · have e4 := e3 he
        congr 1
        apply Array.ext
        · omega
        · intro i h8 h9
          have := e4 i (by omega)
          simpa [Array.getD_eq_getD_getElem?, h8, h9] using this
    · rw [h0] at r0; cases r0
theorem KeyV.same {kt : TypeId} {ks : List T} {u : Value} (h : KeyV P kt ks u) : Instr.sameBits 10000 u u = true := by
  rcases h with ⟨h0, x, rfl, h1⟩ | ⟨h0, fa, us, h1, h2, rfl, h3, h4, h5, h6, h7⟩
  · exact h1.same _
  · show (us.size == us.size && (us.toList.zip us.toList).all fun (x, y) => Instr.sameBits 9999 x y) = true
    rw [beq_self_eq_true, Bool.true_and, List.all_eq_true]
    rintro ⟨x, y⟩ hxy
    obtain ⟨j, hj⟩ := List.mem_iff_getElem?.1 hxy
    rw [List.getElem?_zip_eq_some] at hj
    obtain ⟨j1, j2⟩ := hj
    simp only at j1 j2
    rw [j1] at j2
    cases j2
    have hjs : j < us.size := by have := (List.getElem?_eq_some_iff.1 j1).1; simpa using this
    have hjf : j < fa.toList.length := by omega
    obtain ⟨x', _, hl⟩ := h7 j _ (List.getElem?_eq_getElem hjf)
    have e : us.getD j undef = x := by
      rw [Array.getElem?_toList] at j1
      simp [Array.getD_eq_getD_getElem?, j1]
    rw [e] at hl
    exact hl.same _
theorem KeyV.check {kt : TypeId} {ks : List T} {u : Value} (h : KeyV P kt ks u) (e : Bool) : (Instr.checkKey e 10000 kt u).run P w = .ok () w := by
  rcases h with ⟨h0, x, rfl, h1⟩ | ⟨h0, fa, us, h1, h2, rfl, h3, h4, h5, h6, h7⟩
  · exact h1.check e 9999
  · show (Instr.checkKey e (9999 + 1) kt (.agg us)).run P w = _
    unfold Instr.checkKey
    simp only [Sem.run_bind, run_underlying h1, Result.andThen_ok]
    rw [← Array.forIn_toList]
    have main : ∀ (fs : List Field), (∀ f ∈ fs, ∃ x, f.offset < us.size ∧ KeyLeaf P f.type x (us.getD f.offset undef)) →
        (forIn fs PUnit.unit fun f (_ : PUnit) => (if f.name ≠ "_" then do
            Instr.checkKey e 9999 f.type (← part f.type us f.offset)
            pure (ForInStep.yield PUnit.unit)
          else pure (ForInStep.yield PUnit.unit) : Sem (ForInStep PUnit))).run P w = .ok PUnit.unit w := by
      intro fs
      induction fs with
      | nil => intro _; rfl
      | cons f fs ih =>
        intro hh
        obtain ⟨x, hlt, hl⟩ := hh f (by simp)
        rw [List.forIn_cons]
        by_cases hn : f.name ≠ "_"
        · simp only [if_pos hn, Sem.run_bind, part_leaf hl hlt, Result.andThen_ok, hl.check e 9998, Sem.run_pure]
          exact ih fun g hg => hh g (by simp [hg])
        · simp only [if_neg hn, Sem.run_bind, Result.andThen_ok, Sem.run_pure]
          exact ih fun g hg => hh g (by simp [hg])
    have hm := main fa.toList fun f hf => by
      obtain ⟨j, hj⟩ := List.mem_iff_getElem?.1 hf
      obtain ⟨x, _, hl⟩ := h7 j f hj
      have ho := (keyF_at h5 j f hj).1
      rw [Nat.zero_add] at ho
      have hjl := (List.getElem?_eq_some_iff.1 hj).1
      exact ⟨x, by omega, by rw [ho]; exact hl⟩
    first
      | exact hm
      | (simp only [Sem.run_bind, hm, Result.andThen_ok]; rfl)
      | simpa using hm
end
end Go.AM
set_option linter.unusedSimpArgs false
set_option linter.unusedVariables false
namespace Go.AM
open Go.RowKit (Below)
section
variable {P : Program} {w : World} {O : Nat → Prop}
def Found (x : T) (ks : List T) (u : Value) (l : List MapEntry) (i : Nat) (o : Option (Nat × Value)) : Prop :=
  (firstK x ks l.length i = none → o = none) ∧ ∀ j, firstK x ks l.length i = some j → ∃ e, i ≤ j ∧ l[j - i]? = some e ∧ e.key = u ∧ o = some (j, e.val)
theorem Found.hit {x : T} {ks : List T} {e : MapEntry} {l : List MapEntry} {i : Nat} (h : eqLeaves (x.el i) 0 ks = true) : Found x ks e.key (e :: l) i (some (i, e.val)) := by
  refine ⟨fun h1 => ?_, fun j hj => ?_⟩
  · simp [firstK, h] at h1
  · simp only [List.length_cons, firstK, h, cond_true, Option.some.injEq] at hj
    subst hj
    exact ⟨e, Nat.le_refl _, by simp, rfl, rfl⟩
theorem Found.miss {x : T} {ks : List T} {u : Value} {e : MapEntry} {l : List MapEntry} {i : Nat} {o : Option (Nat × Value)} (h : eqLeaves (x.el i) 0 ks = false) (hf : Found x ks u l (i + 1) o) : Found x ks u (e :: l) i o := by
  refine ⟨fun h1 => ?_, fun j hj => ?_⟩
  · simp only [List.length_cons, firstK, h, cond_false] at h1
    exact hf.1 h1
  · simp only [List.length_cons, firstK, h, cond_false] at hj
    obtain ⟨e', h1, h2, h3, h4⟩ := hf.2 j hj
    refine ⟨e', by omega, ?_, h3, h4⟩
    rw [show j - i = (j - (i + 1)) + 1 by omega]
    simpa using h2
theorem findNow_key {kt : TypeId} {x0 : T} {u : Value} {dd : TypeDesc} {x : T} (h : KeyLeaf P kt x0 u) (hd : P.underlying kt = some dd) (hag : isAg P kt = false) : ∀ (l : List MapEntry) (i : Nat), (∀ j e, l[j]? = some e → RV P w O kt (x.el (i + j)) e.key) →
    ∃ o, Instr.findNow dd u l i = some o ∧ Found x [x0] u l i o
  | [], i, _ => ⟨none, rfl, fun _ => rfl, fun j hj => by cases hj⟩
  | e :: l, i, hl => by
    have h0 := hl 0 e rfl
    have hrt : RT P w O kt (x.el i 0) e.key := by
      rcases h0 with ⟨h1, _⟩ | ⟨_, h1⟩
      · rw [hag] at h1; cases h1
      · exact h1
    obtain ⟨dd', h1, h2⟩ := h.now hrt
    rw [hd] at h1
    cases h1
    have he : eqLeaves (x.el i) 0 [x0] = eqLeaf (x.el i 0) x0 := by simp [eqLeaves]
    cases hc : eqLeaf (x.el i 0) x0 with
    | true =>
      have hk : e.key = u := (h.equal (w := w) hrt 0).2 hc
      refine ⟨some (i, e.val), by simp [Instr.findNow, h2, hc], ?_⟩
      rw [← hk]
      exact Found.hit (by rw [he, hc])
    | false =>
      obtain ⟨o, h3, h4⟩ := findNow_key h hd hag l (i + 1) (fun j e' hj => by have := hl (j + 1) e' (by simpa using hj); rwa [show i + (j + 1) = i + 1 + j by omega] at this)
      exact ⟨o, by simp [Instr.findNow, h2, hc, h3], Found.miss (by rw [he, hc]) h4⟩
theorem findAsking_key {kt : TypeId} {ks : List T} {u : Value} {x : T} (h : KeyV P kt ks u) : ∀ (l : List MapEntry) (i : Nat), (∀ j e, l[j]? = some e → RV P w O kt (x.el (i + j)) e.key) →
    ∃ o, (Instr.findAsking kt u l i).run P w = .ok o w ∧ Found x ks u l i o
  | [], i, _ => ⟨none, rfl, fun _ => rfl, fun j hj => by cases hj⟩
  | e :: l, i, hl => by
    have hrv := hl 0 e rfl
    rw [Nat.add_zero] at hrv
    obtain ⟨h1, h2⟩ := h.equal (w := w) hrv
    cases hc : eqLeaves (x.el i) 0 ks with
    | true =>
      have hk := h2 hc
      refine ⟨some (i, e.val), by simp [Instr.findAsking, h1, hc, Result.andThen], ?_⟩
      rw [← hk]
      exact Found.hit hc
    | false =>
      obtain ⟨o, h3, h4⟩ := findAsking_key h l (i + 1) (fun j e' hj => by have := hl (j + 1) e' (by simpa using hj); rwa [show i + (j + 1) = i + 1 + j by omega] at this)
      exact ⟨o, by simp [Instr.findAsking, h1, hc, Result.andThen, h3], Found.miss hc h4⟩
theorem run_findKey {kt : TypeId} {ks : List T} {u : Value} {x : T} (h : KeyV P kt ks u) (l : List MapEntry) (hl : ∀ j e, l[j]? = some e → RV P w O kt (x.el j) e.key) :
    ∃ o, (Instr.findKey kt u l).run P w = .ok o w ∧ Found x ks u l 0 o := by
  have hl' : ∀ j e, l[j]? = some e → RV P w O kt (x.el (0 + j)) e.key := fun j e hj => by rw [Nat.zero_add]; exact hl j e hj
  have h0 := h
  rcases h with ⟨h0', x0, rfl, h1⟩ | ⟨h0', fa, us, h1, h2, rfl, _⟩
  · obtain ⟨dd, hd, _⟩ := h1.under
    obtain ⟨o, h3, h4⟩ := findNow_key (w := w) (O := O) h1 hd h0' l 0 hl'
    exact ⟨o, by simp [Instr.findKey, run_underlying hd, Result.andThen, h3], h4⟩
  · cases l with
    | nil => exact ⟨none, by simp [Instr.findKey, run_underlying h1, Result.andThen, Instr.findNow], fun _ => rfl, fun j hj => by cases hj⟩
    | cons e l =>
      obtain ⟨o, h3, h4⟩ := findAsking_key (w := w) (O := O) h0 (e :: l) 0 hl'
      refine ⟨o, ?_, h4⟩
      have : Instr.findNow (.struct fa) (.agg us) (e :: l) 0 = none := by simp [Instr.findNow, Instr.sameNow]
      simp [Instr.findKey, run_underlying h1, Result.andThen, this, h3]
theorem RV.congr {t : TypeId} {g g' : Nat → T} {v : Value} (h : ∀ j, j < (lv P t).length → g' j = g j) (r : RV P w O t g v) : RV P w O t g' v := by
  rcases r with ⟨h0, vs, h1, h2, h3⟩ | ⟨h0, h1⟩
  · exact .inl ⟨h0, vs, h1, h2, fun j τ hj => by rw [h j (List.getElem?_eq_some_iff.1 hj).1]; exact h3 j τ hj⟩
  · refine .inr ⟨h0, ?_⟩
    rw [h 0 (by rw [not_ag_lv h0]; simp)]
    exact h1
theorem KeyLeaf.rt {t : TypeId} {x : T} {u : Value} (h : KeyLeaf P t x u) : RT P w O t x u := by
  cases h with
  | @i k n h => exact .int (x := .i n) h
  | @b y h => exact .bool (x := .b y) h
  | @s y h => exact .str (x := .s y) h
theorem KeyV.len {kt : TypeId} {ks : List T} {u : Value} (h : KeyV P kt ks u) : ks.length = (lv P kt).length := by
  rcases h with ⟨h0, x, rfl, h1⟩ | ⟨h0, fa, us, h1, h2, rfl, h3, h4, h5, h6, h7⟩
  · rw [not_ag_lv h0]; rfl
  · rw [h6, List.length_map, h4]
theorem KeyV.rv {kt : TypeId} {ks : List T} {u : Value} (h : KeyV P kt ks u) : RV P w O kt (fun j => ks.getD j (.b false)) u := by
  rcases h with ⟨h0, x, rfl, h1⟩ | ⟨h0, fa, us, h1, h2, rfl, h3, h4, h5, h6, h7⟩
  · exact .inr ⟨h0, h1.rt⟩
  · refine .inl ⟨h0, us, rfl, by rw [h6, List.length_map, h3], fun j τ hj => ?_⟩
    rw [h6, List.getElem?_map, Option.map_eq_some_iff] at hj
    obtain ⟨f, hf, rfl⟩ := hj
    obtain ⟨x, hx, hl⟩ := h7 j f hf
    show RT P w O f.type (ks.getD j (.b false)) _
    rw [List.getD_eq_getElem?_getD, hx]
    exact hl.rt
theorem cells_one {v : Value} (h : v.oneCell' = true) : v.cells = #[v] := by cases v <;> first | rfl | cases h
theorem rv_of {t : TypeId} {xs : List T} {u : Value} (hag : isAg P t = true → ∃ us, u = .agg us) (hna : isAg P t = false → u.cells = #[u]) (hsz : u.cells.size = (lv P t).length)
    (h : ∀ j τ, (lv P t)[j]? = some τ → ∃ x, xs[j]? = some x ∧ RT P w O τ x (u.cells.getD j undef)) : RV P w O t (fun j => xs.getD j (.b false)) u := by
  cases hc : isAg P t with
  | true =>
    obtain ⟨us, rfl⟩ := hag hc
    refine .inl ⟨hc, us, rfl, hsz, fun j τ hj => ?_⟩
    obtain ⟨x, h1, h2⟩ := h j τ hj
    show RT P w O τ (xs.getD j (.b false)) _
    rw [List.getD_eq_getElem?_getD, h1]
    exact h2
  | false =>
    refine .inr ⟨hc, ?_⟩
    obtain ⟨x, h1, h2⟩ := h 0 t (by rw [not_ag_lv hc]; rfl)
    rw [hna hc] at h2
    show RT P w O t (xs.getD 0 (.b false)) _
    rw [List.getD_eq_getElem?_getD, h1]
    simpa using h2
end
section
variable {P : Program} {w0 : Fr0} {w : World} {M : Store} {β : Bn} {hd : Nat → Value}
theorem loadT_rv {t : TypeId} {g : Nat → T} {v : Value} (r : RV P w (Own M β hd) t g v) : RA P w M β hd (loadT P t g) v := by
  unfold loadT
  rcases r with ⟨h0, vs, rfl, h2, h3⟩ | ⟨h0, h1⟩
  · rw [h0]
    refine .ag (by simp [h2]) fun j x hj => ?_
    simp only [List.getElem?_mapIdx, Option.map_eq_some_iff] at hj
    obtain ⟨τ, hτ, rfl⟩ := hj
    exact ofT_rel (h3 j τ hτ)
  · rw [h0]
    exact .c (ofT_rel h1)
theorem zero_rv (hs : Sim P w0 w M β hd) {O' : Nat → Prop} (hO : ∀ b, O' b → Own M β hd b) {t : TypeId} {zs : List T} (hv : valOk P t = true) (hz : zeroT P t = some zs) : ∃ z, (zeroValue t).run P w = .ok z w ∧ RV P w O' t (fun j => zs.getD j (.b false)) z ∧ zs.length = (lv P t).length := by
  unfold zeroT at hz
  split at hz
  · rename_i zc hzc
    obtain ⟨i, z, hi, hzv, hcs⟩ := zeroCells_rel (w := w) (M := M) (β := β) (hd := hd) hzc
    obtain ⟨f1, f2, f3⟩ := frzs_rel (O' := O') hs (os := []) (fun q ob hq => by simp [lk] at hq) hO (us := z.cells) 0 (lv P t) zc zs 0 hz (fun q b hq ho => by obtain ⟨ob, hob⟩ := frzs_keys hz hq; simp [lk] at hob) (fun j x hj => by simpa using hcs.2 j x hj)
    refine ⟨z, by simp [zeroValue, typeInfo, hi, hzv], rv_of (fun hag => ?_) (fun hna => ?_) (by rw [← hcs.1, f2]) (fun j τ hj => by obtain ⟨x, h1, h2⟩ := f3 j τ hj; exact ⟨x, h1, by simpa using h2⟩), f1⟩
    · unfold valOk at hv
      rw [hi] at hv
      simp only [hzv] at hv
      cases z with
      | agg cs => exact ⟨cs, rfl⟩
      | _ => rw [hag] at hv; cases hv
    · unfold valOk at hv
      rw [hi] at hv
      simp only [hzv] at hv
      cases z with
      | agg cs => simp [hna] at hv
      | tuple vs => simp [one1] at hv
      | _ => rfl
  · cases hz
theorem upd_map (h : Sim P w0 w M β hd) {k : Nat} {t t0 kt vt : TypeId} {cs : List AV} {x : T} {es : Array MapEntry} {o : Obj} (hm : M.get k = some (.box t cs)) (hmt : isMapT t = true) (ht : t = MB + t0) (hu : P.underlying t0 = some (.map kt vt)) (hk1 : keyOk P kt = true) (hv1 : valOk P vt = true)
    (ho : w.heap[β k]? = some o) (hes : es.size = x.len) (hent : ∀ i e, es[i]? = some e → e.born = i ∧ RV P w (Own M β hd) kt (x.el i) e.key ∧ RV P w (Own M β hd) vt (fun j => x.el i ((lv P kt).length + j)) e.val) :
    ∀ v y, RA P w M β hd v y → Done P w0 w M β hd v [(k, .box t [.sl t x])] y { w with heap := w.heap.setIfInBounds (β k) (.map es x.len) } := by
  intro v y hvx
  have hlt : β k < w.heap.size := (Array.getElem?_eq_some_iff.1 ho).1
  have hother : ∀ b, b ≠ β k → (w.heap.setIfInBounds (β k) (.map es x.len))[b]? = w.heap[b]? := fun b hb => by simp [Ne.symm hb]
  have hM : ∀ q, (M.set k (.box t [.sl t x])).get q = if k = q then some (.box t [.sl t x]) else M.get q := Store.get_set M k _
  have howns : ∀ q b, Owns (M.set k (.box t [.sl t x])) β hd q b → Owns M β hd q b := by
    intro q b ho
    unfold Owns at ho ⊢
    rw [hM] at ho
    by_cases hq : k = q
    · subst hq
      rw [if_pos rfl] at ho
      rcases ho with ⟨_, _, _, h2⟩ | ⟨_, _, _, h1, _⟩
      · exact .inl ⟨t, cs, hm, h2⟩
      · cases h1
    · rw [if_neg hq] at ho
      exact ho
  have hown : Owns M β hd k (β k) := .inl ⟨t, cs, hm, rfl⟩
  have hk : Keeps w (Own M β hd) { w with heap := w.heap.setIfInBounds (β k) (.map es x.len) } (Own (M.set k (.box t [.sl t x])) β hd) :=
    ⟨by simp, fun b hb hob => ⟨hother b (fun e => hob (.inl ⟨k, e ▸ hown⟩)), fun ho => hob (ho.imp (fun ⟨q, ho⟩ => ⟨q, howns q b ho⟩) id)⟩⟩
  have he : Ext M β hd (M.set k (.box t [.sl t x])) β hd := by
    refine ⟨fun q hq => ?_, fun q t' cs' hq h0 => ?_, fun q e n g hq h0 => ?_, rfl⟩
    · rw [hM]; split <;> simp_all
    · rw [hM] at hq
      by_cases hkq : k = q
      · subst hkq; rw [if_pos rfl] at hq; cases hq; exact ⟨⟨cs, hm⟩, rfl⟩
      · rw [if_neg hkq] at hq; exact ⟨⟨cs', hq⟩, rfl⟩
    · rw [hM] at hq
      by_cases hkq : k = q
      · rw [if_pos hkq] at hq; cases hq
      · rw [if_neg hkq] at hq; exact ⟨⟨g, hq⟩, rfl⟩
  have hblk : ∀ q b, q ≠ k → Owns M β hd q b → (w.heap.setIfInBounds (β k) (.map es x.len))[b]? = w.heap[b]? := fun q b hq ho =>
    hother b (fun e => hq (h.inj q k b ho (e ▸ hown)))
  refine ⟨β, hd, hvx.keep hk he, ?_, he, hk⟩
  refine h.evolve ?_ hk he (fun q b ho => ?_) (fun q q' b h1 h2 => h.inj q q' b (howns q b h1) (howns q' b h2)) (fun q t' cs' hq => ?_) (fun q e n g hq => ?_)
  · exact h.below.trans ⟨rfl, rfl, rfl, by simp, fun b hb => hother b (fun e => hb (e ▸ (h.ge k (β k) hown).1))⟩
  · have := h.ge q b (howns q b ho)
    simpa using this
  · rw [Store.sets_one, hM] at hq
    by_cases hkq : k = q
    · subst hkq
      rw [if_pos rfl] at hq
      cases hq
      refine .inr (.inr ⟨hmt, t0, kt, vt, x, es, ht, hu, hk1, hv1, rfl, by simp [hlt], hes, fun i e hi => ?_⟩)
      obtain ⟨e1, e2, e3⟩ := hent i e hi
      exact ⟨e1, e2.keep hk, e3.keep hk⟩
    · rw [if_neg hkq] at hq
      exact .inl ⟨hq, rfl, hblk q _ (fun e => hkq e.symm) (.inl ⟨t', cs', hq, rfl⟩)⟩
  · rw [Store.sets_one, hM] at hq
    by_cases hkq : k = q
    · rw [if_pos hkq] at hq; cases hq
    · rw [if_neg hkq] at hq
      exact .inl ⟨hq, rfl, fun b hb => hblk q b (fun e => hkq e.symm) (.inr ⟨e, n, g, hq, hb⟩)⟩
theorem new_map (h : Sim P w0 w M β hd) {d : Nat} {t0 kt vt : TypeId} (hd0 : M.get d = none) (hu : P.underlying t0 = some (.map kt vt)) (hk1 : keyOk P kt = true) (hv1 : valOk P vt = true) :
    Done P w0 w M β hd (.ptr d 0) [(d, .box (MB + t0) [.sl (MB + t0) noT])] (.map (some w.heap.size)) (w.alloc (.map #[] 0)) := by
  have hmt : isMapT (MB + t0) = true := by unfold isMapT; exact Nat.ble_eq_true_of_le (Nat.le_add_right _ _)
  have hM : ∀ k, (M.set d (.box (MB + t0) [.sl (MB + t0) noT])).get k = if d = k then some (.box (MB + t0) [.sl (MB + t0) noT]) else M.get k := Store.get_set M d _
  have hother : ∀ k, M.get k ≠ none → d ≠ k := fun k hk e => hk (e ▸ hd0)
  have hown : ∀ k b, Owns (M.set d (.box (MB + t0) [.sl (MB + t0) noT])) ⟨fun k => if k = d then w.heap.size else β k, β.O⟩ hd k b → (k = d ∧ b = w.heap.size) ∨ (k ≠ d ∧ Owns M β hd k b) := by
    intro k b ho
    by_cases hkd : k = d
    · left
      refine ⟨hkd, ?_⟩
      rcases ho with ⟨t', cs', h1, h2⟩ | ⟨e, n, g, h1, h2⟩
      · simpa [hkd] using h2.symm
      · rw [hM, if_pos hkd.symm] at h1; cases h1
    · right
      refine ⟨hkd, ?_⟩
      rcases ho with ⟨t', cs', h1, h2⟩ | ⟨e, n, g, h1, h2⟩
      · rw [hM, if_neg (fun e => hkd e.symm)] at h1
        exact .inl ⟨t', cs', h1, by simpa [hkd] using h2⟩
      · rw [hM, if_neg (fun e => hkd e.symm)] at h1
        exact .inr ⟨e, n, g, h1, h2⟩
  have hsz : (w.alloc (.map #[] 0)).heap.size = w.heap.size + 1 := by
    show (w.heap.push _).size = _
    simp
  have hk : Keeps w (Own M β hd) (w.alloc (.map #[] 0)) (Own (M.set d (.box (MB + t0) [.sl (MB + t0) noT])) ⟨fun k => if k = d then w.heap.size else β k, β.O⟩ hd) := by
    refine ⟨by rw [hsz]; omega, fun b hb hob => ⟨heap_alloc_old w _ b hb, ?_⟩⟩
    rintro (⟨k, ho⟩ | ho)
    · rcases hown k b ho with ⟨_, rfl⟩ | ⟨_, ho⟩
      · omega
      · exact hob (.inl ⟨k, ho⟩)
    · exact hob (.inr ho)
  have he : Ext M β hd (M.set d (.box (MB + t0) [.sl (MB + t0) noT])) ⟨fun k => if k = d then w.heap.size else β k, β.O⟩ hd := by
    refine ⟨fun k hk => ?_, fun k t' cs' hm h0 => ?_, fun k e n g hm h0 => ?_, rfl⟩
    · rw [hM]; split <;> simp_all
    · have hdk := hother k h0
      rw [hM, if_neg hdk] at hm
      exact ⟨⟨cs', hm⟩, if_neg (fun e => hdk e.symm)⟩
    · have hdk := hother k h0
      rw [hM, if_neg hdk] at hm
      exact ⟨⟨g, hm⟩, rfl⟩
  refine ⟨⟨fun k => if k = d then w.heap.size else β k, β.O⟩, hd, ?_, ?_, he, hk⟩
  · refine .c (.ptr (by rw [Store.sets_one, hM, if_pos rfl]; simp) rfl fun t' cs' hm => ?_)
    rw [Store.sets_one, hM, if_pos rfl] at hm
    cases hm
    rw [ptrV_map hmt]
    simp
  · refine h.evolve (h.below.alloc _) hk he ?_ ?_ ?_ ?_
    · intro k b ho
      rw [hsz]
      rcases hown k b ho with ⟨_, rfl⟩ | ⟨_, ho⟩
      · exact ⟨.inl h.below.size, by omega⟩
      · have := h.ge k b ho; exact ⟨this.1, by omega⟩
    · intro k k' b ho ho'
      rcases hown k b ho with ⟨rfl, rfl⟩ | ⟨h1, h2⟩ <;> rcases hown k' _ ho' with ⟨rfl, h3⟩ | ⟨h3, h4⟩
      · rfl
      · have := (h.ge k' _ h4).2; omega
      · have := (h.ge k _ h2).2; omega
      · exact h.inj k k' b h2 h4
    · intro k t' cs' hm
      rw [Store.sets_one, hM] at hm
      by_cases hkd : d = k
      · rw [if_pos hkd] at hm
        cases hm
        refine .inr (.inr ⟨hmt, t0, kt, vt, noT, #[], rfl, hu, hk1, hv1, rfl, ?_, rfl, fun i e hi => by simp at hi⟩)
        show (w.alloc _).heap[if k = d then w.heap.size else β k]? = _
        rw [if_pos hkd.symm]
        exact heap_alloc_new w _
      · rw [if_neg hkd] at hm
        have hlt := (h.ge k (β k) (.inl ⟨t', cs', hm, rfl⟩)).2
        exact .inl ⟨hm, if_neg (fun e => hkd e.symm), heap_alloc_old w _ _ hlt⟩
    · intro k e n g hm
      rw [Store.sets_one, hM] at hm
      by_cases hkd : d = k
      · rw [if_pos hkd] at hm; cases hm
      · rw [if_neg hkd] at hm
        refine .inl ⟨hm, rfl, fun b hb => heap_alloc_old w _ b (h.ge k b (.inr ⟨e, n, g, hm, hb⟩)).2⟩
end
section
variable {ρ : Type} {P : Program} {w0 : Fr0} {w : World} {M : Store} {β : Bn} {hd : Nat → Value} {sl : List AV} {a : Act} {κ : Kk ρ} {r : ρ}
variable (C : Ctx P w0 w M β hd sl a)
include C
variable {os : List (Nat × Option Ob)} (hos : ∀ k ob, lk os k = some ob → M.get k = some ob)
omit C in
theorem mapT_inv {t : TypeId} {x : TypeId × TypeId} (h : mapT P t = some x) : P.underlying t = some (.map x.1 x.2) := by
  unfold mapT at h
  split at h
  · cases h; assumption
  · cases h
theorem makeMap_ok {o : Oper} {t : TypeId} {d : Nat} {res : Option Operand} (hfree : free os d = true → M.get d = none) (ho : o.op = .makeMap t res) (h : eMakeMap P d t res os κ (opVals sl o.op) = some r) : Good P w0 w M β hd a o κ r := by
  unfold eMakeMap at h
  split at h
  · split at h
    · rename_i kt vt hmt
      obtain ⟨hb, h⟩ := bif_inv h
      rw [Bool.and_eq_true, Bool.and_eq_true] at hb
      refine good_done h ?_ (new_map C.sim (hfree hb.1.1) (mapT_inv hmt) hb.1.2 hb.2)
      simp [execOp, ho, Instr.makeMap]
    · cases h
  · cases h
omit C in
theorem map_at (hs : Sim P w0 w M β hd) {k off : Nat} {bt t e : TypeId} {x : T} {v : Value} {kv : TypeId × TypeId} (hm : M.get k = some (.box bt [.sl e x])) (hbt : bt = MB + t) (hv : RA P w M β hd (.ptr k off) v) (hmt : mapT P t = some kv) :
    isMapT bt = true ∧ v = .map (some (β k)) ∧ P.underlying t = some (.map kv.1 kv.2) ∧ ∃ es : Array MapEntry, keyOk P kv.1 = true ∧ valOk P kv.2 = true ∧ w.heap[β k]? = some (.map es x.len) ∧ es.size = x.len ∧
      ∀ i e, es[i]? = some e → e.born = i ∧ RV P w (Own M β hd) kv.1 (x.el i) e.key ∧ RV P w (Own M β hd) kv.2 (fun j => x.el i ((lv P kv.1).length + j)) e.val := by
  have h1 : isMapT bt = true := by rw [hbt]; unfold isMapT; exact Nat.ble_eq_true_of_le (Nat.le_add_right _ _)
  have hu := mapT_inv hmt
  obtain ⟨t0, kt, vt, x', es, q1, q2, q3, q4, q5, q6, q7, q8⟩ := (hs.box k bt _ hm).map h1
  obtain rfl : t = t0 := Nat.add_left_cancel (n := MB) (hbt.symm.trans q1)
  rw [hu] at q2
  cases q2
  cases q5
  exact ⟨h1, hv.map_inv hm h1, hu, es, q3, q4, q6, q7, q8⟩
omit C in
theorem run_get {r n : Nat} {es : Array MapEntry} (h : w.heap[r]? = some (.map es n)) : (getObj r).run P w = .ok (.map es n) w := by
  simp [getObj, Sem.run, h]
omit C in
theorem run_set {r n : Nat} {es : Array MapEntry} (o' : Obj) (h : w.heap[r]? = some (.map es n)) : (setObj r o').run P w = .ok () { w with heap := w.heap.setIfInBounds r o' } := by
  simp [setObj, Sem.run, h]
omit C in
theorem run_stays {kt : TypeId} {ks : List T} {u : Value} (h : KeyV P kt ks u) : (Instr.keyThatStays u u).run P w = .ok u w := by
  simp [Instr.keyThatStays, h.same]
include hos
theorem lookup_ok {o : Oper} {t : TypeId} {m ix : Operand} {ok : Bool} (ho : o.op = .lookup t m ix ok) (h : eLookup P t ok os κ [evO sl m, evO sl ix] = some r) : Good P w0 w M β hd a o κ r := by
  have hx := rel1 C m
  have hy := rel1 C ix
  unfold eLookup at h
  split at h
  · rename_i k off key heq
    injection heq with h1 h2
    injection h2 with h2 _
    rw [h1] at hx
    rw [h2] at hy
    split at h
    · rename_i bt e x kt vt hlk hmt
      have hm := hos _ _ hlk
      obtain ⟨hb, h⟩ := bif_inv h
      rw [Bool.and_eq_true] at hb
      obtain ⟨hnm, hv, hu, es, hk1, hv1, hheap, hsz, hent⟩ := map_at C.sim hm (eq_of_beq hb.1) hx hmt
      simp only at hu hk1 hv1 hent
      split at h
      · rename_i ks zs hks hzs
        have hkv := keyT_rel hks hy
        obtain ⟨f, hf, hfound⟩ := run_findKey (x := x) hkv es.toList (fun j e hj => (hent j e (by simpa using hj)).2.1)
        obtain ⟨z, hz1, hz2, _⟩ := zero_rv C.sim (O' := Own M β hd) (fun b hb => hb) hb.2 hzs
        have hlen : es.toList.length = x.len := by simpa using hsz
        have hchk := hkv.check (w := w) es.isEmpty
        have hres : ∃ v, (Instr.lookup t (.map (some (β k))) (a.eval ix) ok).run P w = .ok (if ok then .tuple #[v, .bool (mhas x ks)] else v) w ∧ RA P w M β hd (loadT P vt (mget x (lv P kt).length ks zs)) v := by
          unfold Found at hfound
          rw [hlen] at hfound
          cases hfk : mfind x ks with
          | none =>
            have := hfound.1 hfk
            subst this
            refine ⟨z, ?_, loadT_rv ?_⟩
            · have e1 : mhas x ks = false := by unfold mhas; rw [hfk]
              rw [e1]
              unfold Instr.lookup
              rw [Sem.run_bind, run_underlying hu, Result.andThen_ok]
              simp only [Sem.run_bind]
              rw [run_get hheap]
              simp only [Result.andThen_ok, Sem.run_pure]
              rw [Sem.run_bind, Sem.run_pure, Result.andThen_ok, Sem.run_bind, hchk, Result.andThen_ok, Sem.run_bind, hf, Result.andThen_ok]
              simp only [Sem.run_bind, hz1, Result.andThen_ok, Sem.run_pure]
            · unfold mget
              rw [hfk]
              exact hz2
          | some j =>
            obtain ⟨e, h3, h4, h5, rfl⟩ := hfound.2 j hfk
            refine ⟨e.val, ?_, loadT_rv ?_⟩
            · have e1 : mhas x ks = true := by unfold mhas; rw [hfk]
              rw [e1]
              unfold Instr.lookup
              rw [Sem.run_bind, run_underlying hu, Result.andThen_ok]
              simp only [Sem.run_bind]
              rw [run_get hheap]
              simp only [Result.andThen_ok, Sem.run_pure]
              rw [Sem.run_bind, Sem.run_pure, Result.andThen_ok, Sem.run_bind, hchk, Result.andThen_ok, Sem.run_bind, hf, Result.andThen_ok]
              simp only [Sem.run_bind, Result.andThen_ok, Sem.run_pure]
            · unfold mget
              rw [hfk]
              exact (hent j e (by simpa using h4)).2.2
        obtain ⟨v, hrun, hr2⟩ := hres
        cases ok with
        | true =>
          refine good_pure C h (x := .tuple #[v, .bool (mhas x ks)]) (by simp [execOp, ho, hv, hrun]) (.tup (by simp) fun j y hj => ?_)
          match j, hj with
          | 0, hj =>
            obtain rfl : loadT P vt (mget x (lv P kt).length ks zs) = y := by simpa using hj
            exact hr2
          | 1, hj =>
            obtain rfl : AV.b (mhas x ks) = y := by simpa using hj
            exact .c (.b _)
        | false => exact good_pure C h (x := v) (by simp [execOp, ho, hv, hrun]) hr2
      · cases h
    · cases h
  · cases h
omit C hos in
theorem mput_len (x : T) (kl i : Nat) (val : List T) : (mput x kl i val).len = x.len := rfl
omit C hos in
theorem mpush_len (x : T) (key val : List T) : (mpush x key val).len = x.len + 1 := rfl
omit C hos in
theorem ent_put {O : Nat → Prop} {kt vt : TypeId} {x : T} {es : Array MapEntry} {i : Nat} {xs : List T} {f : MapEntry → MapEntry} {u : Value} (hsz : es.size = x.len)
    (hent : ∀ i e, es[i]? = some e → e.born = i ∧ RV P w O kt (x.el i) e.key ∧ RV P w O vt (fun j => x.el i ((lv P kt).length + j)) e.val)
    (hf : ∀ e, es[i]? = some e → (f e).born = e.born ∧ (f e).key = e.key ∧ (f e).val = u) (hu : RV P w O vt (fun j => xs.getD j (.b false)) u) :
    (es.modify i f).size = (mput x (lv P kt).length i xs).len ∧ ∀ q e, (es.modify i f)[q]? = some e → e.born = q ∧ RV P w O kt ((mput x (lv P kt).length i xs).el q) e.key ∧ RV P w O vt (fun j => (mput x (lv P kt).length i xs).el q ((lv P kt).length + j)) e.val := by
  refine ⟨by simp [mput, T.len, hsz], fun q e he => ?_⟩
  rw [Array.getElem?_modify] at he
  by_cases hq : i = q
  · subst hq
    rw [if_pos rfl, Option.map_eq_some_iff] at he
    obtain ⟨e0, h1, rfl⟩ := he
    obtain ⟨f1, f2, f3⟩ := hf e0 h1
    obtain ⟨h2, h3, h4⟩ := hent i e0 h1
    refine ⟨f1.trans h2, ?_, ?_⟩
    · rw [f2]
      refine RV.congr (fun j hj => ?_) h3
      show (bif i == i && Nat.ble (lv P kt).length j then _ else x.el i j) = x.el i j
      have : Nat.ble (lv P kt).length j = false := by
        cases hc : Nat.ble (lv P kt).length j with
        | false => rfl
        | true => have := Nat.le_of_ble_eq_true hc; omega
      rw [this, Bool.and_false, cond_false]
    · rw [f3]
      refine RV.congr (fun j hj => ?_) hu
      show (bif i == i && Nat.ble (lv P kt).length ((lv P kt).length + j) then xs.getD ((lv P kt).length + j - (lv P kt).length) (.b false) else _) = _
      rw [Nat.ble_eq_true_of_le (Nat.le_add_right _ _), beq_self_eq_true, Bool.and_true, cond_true, Nat.add_sub_cancel_left]
  · rw [if_neg hq] at he
    obtain ⟨h2, h3, h4⟩ := hent q e he
    have hne : (q == i) = false := by simpa using fun e => hq e.symm
    refine ⟨h2, RV.congr (fun j hj => ?_) h3, RV.congr (fun j hj => ?_) h4⟩
    · show (bif q == i && _ then _ else x.el q j) = _
      rw [hne, Bool.false_and, cond_false]
    · show (bif q == i && _ then _ else x.el q _) = _
      rw [hne, Bool.false_and, cond_false]
omit C hos in
theorem ent_push {O : Nat → Prop} {kt vt : TypeId} {x : T} {es : Array MapEntry} {ks xs : List T} {k u : Value} (hsz : es.size = x.len)
    (hent : ∀ i e, es[i]? = some e → e.born = i ∧ RV P w O kt (x.el i) e.key ∧ RV P w O vt (fun j => x.el i ((lv P kt).length + j)) e.val)
    (hkl : ks.length = (lv P kt).length) (hk : RV P w O kt (fun j => ks.getD j (.b false)) k) (hu : RV P w O vt (fun j => xs.getD j (.b false)) u) :
    (es.push { key := k, val := u, born := x.len }).size = (mpush x ks xs).len ∧ ∀ q e, (es.push { key := k, val := u, born := x.len })[q]? = some e → e.born = q ∧ RV P w O kt ((mpush x ks xs).el q) e.key ∧ RV P w O vt (fun j => (mpush x ks xs).el q ((lv P kt).length + j)) e.val := by
  refine ⟨by simp [mpush, T.len, hsz], fun q e he => ?_⟩
  rw [Array.getElem?_push] at he
  by_cases hq : q = es.size
  · rw [if_pos hq] at he
    cases he
    have hql : (q == x.len) = true := by simp [hq, hsz]
    refine ⟨by simp [hq, hsz], RV.congr (fun j hj => ?_) hk, RV.congr (fun j hj => ?_) hu⟩
    · show (bif q == x.len then (ks ++ xs).getD j (.b false) else _) = _
      rw [hql, cond_true, List.getD_eq_getElem?_getD, List.getD_eq_getElem?_getD, List.getElem?_append_left (by omega)]
    · show (bif q == x.len then (ks ++ xs).getD ((lv P kt).length + j) (.b false) else _) = _
      rw [hql, cond_true, List.getD_eq_getElem?_getD, List.getD_eq_getElem?_getD, List.getElem?_append_right (by omega), hkl, Nat.add_sub_cancel_left]
  · rw [if_neg hq] at he
    obtain ⟨h2, h3, h4⟩ := hent q e he
    have hne : (q == x.len) = false := by
      have : q ≠ x.len := by omega
      simpa using this
    refine ⟨h2, RV.congr (fun j hj => ?_) h3, RV.congr (fun j hj => ?_) h4⟩
    · show (bif q == x.len then _ else x.el q j) = _
      rw [hne, cond_false]
    · show (bif q == x.len then _ else x.el q _) = _
      rw [hne, cond_false]
theorem stored_rv {O' : Nat → Prop} {t : TypeId} {v : AV} {xs : List T} {x : Operand} (hO : ∀ b, O' b → Own M β hd b) (hK : ∀ k b, k ∈ rowKeys (cellsOf v) → Owns M β hd k b → ¬ O' b) (he : evO sl x = v) (hc : cellsOk v = true) (hs : shapeOk (isAg P t) v = true) (hf : frzs P os (lv P t) (cellsOf v) = some xs) :
    RV P w O' t (fun j => xs.getD j (.b false)) (a.eval x) := by
  have hr := rel1 C x
  rw [he] at hr
  have hcs := hr.cellsR hc
  obtain ⟨f1, f2, f3⟩ := frzs_rel (O' := O') C.sim hos hO (us := (a.eval x).cells) 0 (lv P t) (cellsOf v) xs 0 hf hK (fun j y hj => by simpa using hcs.2 j y hj)
  refine rv_of (fun hag => ?_) (fun hna => ?_) (by rw [← hcs.1, f2]) (fun j τ hj => by obtain ⟨y, h1, h2⟩ := f3 j τ hj; exact ⟨y, h1, by simpa using h2⟩)
  · rw [hag] at hs
    cases v with
    | ag cs => obtain ⟨us, h1, _⟩ := hr.ag_inv; exact ⟨us, h1⟩
    | _ => cases hs
  · rw [hna] at hs
    refine cells_one (hr.cell ?_).one
    cases v <;> first | rfl | cases hs
omit hos in
theorem upd_map' {k : Nat} {bt t kt vt : TypeId} {cs : List AV} {x : T} {es : Array MapEntry} {ks : List Nat} {o : Obj} (hm : M.get k = some (.box bt cs)) (hmt : isMapT bt = true) (ht : bt = MB + t) (hu : P.underlying t = some (.map kt vt)) (hk1 : keyOk P kt = true) (hv1 : valOk P vt = true)
    (hnk : k ∉ ks) (ho : w.heap[β k]? = some o) (hes : es.size = x.len) (hent : ∀ i e, es[i]? = some e → e.born = i ∧ RV P w (Own (M.sets (consumed ks)) β hd) kt (x.el i) e.key ∧ RV P w (Own (M.sets (consumed ks)) β hd) vt (fun j => x.el i ((lv P kt).length + j)) e.val) :
    Done P w0 w M β hd .und ((k, .box bt [.sl bt x]) :: consumed ks) undef { w with heap := w.heap.setIfInBounds (β k) (.map es x.len) } := by
  have hm' : (M.sets (consumed ks)).get k = some (.box bt cs) := by rw [get_kills, if_neg hnk]; exact hm
  have hdone := upd_map (C.sim.kills ks) hm' hmt ht hu hk1 hv1 ho hes hent .und undef (.und _)
  exact (Done.then (ext_kills _) (keeps_kills _) hdone).congr (get_late hnk)
omit C hos in
theorem not_row {k : Nat} {vs : List AV} (h : (!((rowKeys vs).contains k)) = true) : k ∉ rowKeys vs := by simpa using h
theorem mapUpdate_ok {o : Oper} {t : TypeId} {m ix y : Operand} (ho : o.op = .mapUpdate t m ix y) (h : eMapUpdate P t os κ [evO sl m, evO sl ix, evO sl y] = some r) : Good P w0 w M β hd a o κ r := by
  have hx := rel1 C m
  have hy := rel1 C ix
  unfold eMapUpdate at h
  split at h
  · rename_i k off key v heq
    injection heq with h1 h2
    injection h2 with h2 h3
    injection h3 with h3 _
    rw [h1] at hx
    rw [h2] at hy
    split at h
    · rename_i bt e x kt vt hlk hmt
      have hm := hos _ _ hlk
      obtain ⟨hb, h⟩ := bif_inv h
      simp only [Bool.and_eq_true] at hb
      obtain ⟨⟨⟨⟨hbt, hvo⟩, hcok⟩, hnr⟩, hsh⟩ := hb
      have hbt := eq_of_beq hbt
      obtain ⟨hnm, hv, hu, es, hk1, hv1, hheap, hsz, hent⟩ := map_at C.sim hm hbt hx hmt
      simp only at hu hk1 hv1 hent
      have hnk := not_row hnr
      split at h
      · rename_i ks xs hks hxs
        have hkv := keyT_rel hks hy
        have hst := stored_rv C hos (O' := Own (M.sets (consumed (rowKeys (cellsOf v)))) β hd) (fun b hb => own_kills hb) (fun q b hq hoo => C.sim.given_up hq hoo) h3 hcok hsh hxs
        have hent' : ∀ i e, es[i]? = some e → e.born = i ∧ RV P w (Own (M.sets (consumed (rowKeys (cellsOf v)))) β hd) kt (x.el i) e.key ∧ RV P w (Own (M.sets (consumed (rowKeys (cellsOf v)))) β hd) vt (fun j => x.el i ((lv P kt).length + j)) e.val :=
          fun i e he => ⟨(hent i e he).1, (hent i e he).2.1.keep (keeps_kills _), (hent i e he).2.2.keep (keeps_kills _)⟩
        obtain ⟨f, hf, hfound⟩ := run_findKey (x := x) hkv es.toList (fun j e hj => (hent j e (by simpa using hj)).2.1)
        have hlen : es.toList.length = x.len := by simpa using hsz
        unfold Found at hfound
        rw [hlen] at hfound
        cases hfk : mfind x ks with
        | none =>
          have := hfound.1 hfk
          subst this
          have e1 : mset x (lv P kt).length ks xs = mpush x ks xs := by unfold mset; rw [hfk]
          rw [e1] at h
          obtain ⟨p1, p2⟩ := ent_push (k := a.eval ix) (u := a.eval y) hsz hent' hkv.len hkv.rv hst
          refine good_skip h ?_ (upd_map' C hm hnm hbt hu hk1 hv1 hnk hheap p1 p2)
          have hrun : (Instr.mapUpdate t (.map (some (β k))) (a.eval ix) (a.eval y)).run P w = .ok () { w with heap := w.heap.setIfInBounds (β k) (.map (es.push { key := a.eval ix, val := a.eval y, born := x.len }) (mpush x ks xs).len) } := by
            unfold Instr.mapUpdate
            rw [Sem.run_bind, run_underlying hu, Result.andThen_ok]
            simp only [Sem.run_bind]
            rw [run_get hheap]
            simp only [Result.andThen_ok]
            rw [Sem.run_bind, hkv.check, Result.andThen_ok, Sem.run_bind, hf, Result.andThen_ok]
            simp only
            rw [run_set _ hheap, mpush_len]
          simp [execOp, ho, hv, hrun]
        | some j =>
          obtain ⟨e, h4, h5, h6, rfl⟩ := hfound.2 j hfk
          have e1 : mset x (lv P kt).length ks xs = mput x (lv P kt).length j xs := by unfold mset; rw [hfk]
          rw [e1] at h
          have h5' : es[j]? = some e := by simpa using h5
          obtain ⟨p1, p2⟩ := ent_put (i := j) (f := fun e => { e with key := a.eval ix, val := a.eval y }) (u := a.eval y) hsz hent' (fun e' he' => by rw [h5'] at he'; cases he'; exact ⟨rfl, h6.symm, rfl⟩) hst
          refine good_skip h ?_ (upd_map' C hm hnm hbt hu hk1 hv1 hnk hheap p1 p2)
          have hrun : (Instr.mapUpdate t (.map (some (β k))) (a.eval ix) (a.eval y)).run P w = .ok () { w with heap := w.heap.setIfInBounds (β k) (.map (es.modify j fun e => { e with key := a.eval ix, val := a.eval y }) (mput x (lv P kt).length j xs).len) } := by
            unfold Instr.mapUpdate
            rw [Sem.run_bind, run_underlying hu, Result.andThen_ok]
            simp only [Sem.run_bind]
            rw [run_get hheap]
            simp only [Result.andThen_ok]
            rw [Sem.run_bind, hkv.check, Result.andThen_ok, Sem.run_bind, hf, Result.andThen_ok]
            simp only [h5', Option.map_some, Option.getD_some, h6]
            rw [Sem.run_bind, run_stays hkv, Result.andThen_ok, run_set _ hheap, mput_len]
          simp [execOp, ho, hv, hrun]
      · cases h
    · cases h
  · cases h
theorem mapEntry_ok {o : Oper} {t : TypeId} {m ix : Operand} (ho : o.op = .mapEntry t m ix) (h : eMapEntry P t os κ [evO sl m, evO sl ix] = some r) : Good P w0 w M β hd a o κ r := by
  have hx := rel1 C m
  have hy := rel1 C ix
  unfold eMapEntry at h
  split at h
  · rename_i k off key heq
    injection heq with h1 h2
    injection h2 with h2 _
    rw [h1] at hx
    rw [h2] at hy
    split at h
    · rename_i bt e x kt vt hlk hmt
      have hm := hos _ _ hlk
      obtain ⟨hb, h⟩ := bif_inv h
      rw [Bool.and_eq_true] at hb
      have hbt := eq_of_beq hb.1
      obtain ⟨hnm, hv, hu, es, hk1, hv1, hheap, hsz, hent⟩ := map_at C.sim hm hbt hx hmt
      simp only at hu hk1 hv1 hent
      split at h
      · rename_i ks zs hks hzs
        have hkv := keyT_rel hks hy
        obtain ⟨f, hf, hfound⟩ := run_findKey (x := x) hkv es.toList (fun j e hj => (hent j e (by simpa using hj)).2.1)
        obtain ⟨z, hz1, hz2, _⟩ := zero_rv C.sim (O' := Own M β hd) (fun b hb => hb) hb.2 hzs
        have hlen : es.toList.length = x.len := by simpa using hsz
        unfold Found at hfound
        rw [hlen] at hfound
        have pair : ∀ {v : Value} {n : Int}, RV P w (Own M β hd) vt (mget x (lv P kt).length ks zs) v → RA P w M β hd (.tup [loadT P vt (mget x (lv P kt).length ks zs), .i .i64 n]) (.tuple #[v, .int .i64 n]) := by
          intro v n hr
          refine .tup (by simp) fun j y hj => ?_
          match j, hj with
          | 0, hj =>
            obtain rfl : loadT P vt (mget x (lv P kt).length ks zs) = y := by simpa using hj
            exact loadT_rv hr
          | 1, hj =>
            obtain rfl : AV.i .i64 n = y := by simpa using hj
            exact .c (.i ..)
        cases hfk : mfind x ks with
        | none =>
          have := hfound.1 hfk
          subst this
          have e1 : mhold x ks zs = mpush x ks zs := by unfold mhold; rw [hfk]
          have e2 : mat x ks = x.len := by unfold mat; rw [hfk]
          have e3 : mget x (lv P kt).length ks zs = fun j => zs.getD j (.b false) := by funext j; unfold mget; rw [hfk]
          have hz3 := hz2
          rw [← e3] at hz3
          rw [e1, e2] at h
          obtain ⟨p1, p2⟩ := ent_push (k := a.eval ix) (u := z) hsz hent hkv.len hkv.rv hz2
          refine good_done h ?_ (upd_map C.sim hm hnm hbt hu hk1 hv1 hheap p1 p2 _ (.tuple #[z, .int .i64 (x.len : Int)]) (pair hz3))
          have hrun : (Instr.mapEntry t (.map (some (β k))) (a.eval ix)).run P w = .ok (.tuple #[z, .int .i64 (x.len : Int)]) { w with heap := w.heap.setIfInBounds (β k) (.map (es.push { key := a.eval ix, val := z, born := x.len }) (mpush x ks zs).len) } := by
            unfold Instr.mapEntry
            rw [Sem.run_bind, run_underlying hu, Result.andThen_ok]
            simp only [Sem.run_bind]
            rw [run_get hheap]
            simp only [Result.andThen_ok]
            rw [Sem.run_bind, hkv.check, Result.andThen_ok, Sem.run_bind, hf, Result.andThen_ok]
            simp only [Sem.run_bind]
            rw [hz1]
            simp only [Result.andThen_ok]
            rw [run_set _ hheap, Result.andThen_ok, mpush_len]
            rfl
          simp [execOp, ho, hv, hrun]
        | some j =>
          obtain ⟨e, h4, h5, h6, rfl⟩ := hfound.2 j hfk
          have e1 : mhold x ks zs = x := by unfold mhold; rw [hfk]
          have e2 : mat x ks = j := by unfold mat; rw [hfk]
          have e3 : mget x (lv P kt).length ks zs = fun q => x.el j ((lv P kt).length + q) := by funext q; unfold mget; rw [hfk]
          have h5' : es[j]? = some e := by simpa using h5
          obtain ⟨q1, q2, q3⟩ := hent j e h5'
          have hz3 := q3
          rw [← e3] at hz3
          rw [e1, e2] at h
          have p : ∀ (q : Nat) (e' : MapEntry), (es.modify j fun e => { e with key := a.eval ix })[q]? = some e' → es[q]? = some e' := by
            intro q e' he
            rw [Array.getElem?_modify] at he
            by_cases hq : j = q
            · subst hq
              rw [if_pos rfl, h5'] at he
              simp only [Option.map_some, Option.some.injEq] at he
              rw [h5', ← he, ← h6]
            · rw [if_neg hq] at he
              exact he
          refine good_done h ?_ (upd_map C.sim hm hnm hbt hu hk1 hv1 hheap (es := es.modify j fun e => { e with key := a.eval ix }) (by simpa using hsz) (fun i e' he => hent i e' (p i e' he)) _ (.tuple #[e.val, .int .i64 (j : Int)]) (pair hz3))
          have hrun : (Instr.mapEntry t (.map (some (β k))) (a.eval ix)).run P w = .ok (.tuple #[e.val, .int .i64 (j : Int)]) { w with heap := w.heap.setIfInBounds (β k) (.map (es.modify j fun e => { e with key := a.eval ix }) x.len) } := by
            unfold Instr.mapEntry
            rw [Sem.run_bind, run_underlying hu, Result.andThen_ok]
            simp only [Sem.run_bind]
            rw [run_get hheap]
            simp only [Result.andThen_ok]
            rw [Sem.run_bind, hkv.check, Result.andThen_ok, Sem.run_bind, hf, Result.andThen_ok]
            simp only [h5', Option.map_some, Option.getD_some, h6]
            rw [Sem.run_bind, run_stays hkv, Result.andThen_ok, Sem.run_bind, run_set _ hheap, Result.andThen_ok, q1]
            rfl
          simp [execOp, ho, hv, hrun]
      · cases h
    · cases h
  · cases h
omit C hos in
theorem find_born {es : Array MapEntry} {n : Nat} (hent : ∀ (i : Nat) (e : MapEntry), es[i]? = some e → e.born = i) (hn : n < es.size) : es.findIdx? (fun e => (e.born : Int) == (n : Int)) = some n := by
  rw [Array.findIdx?_eq_some_iff_getElem]
  refine ⟨hn, ?_, fun j hj => ?_⟩
  · have := hent n _ (Array.getElem?_eq_getElem hn)
    simp [this]
  · have := hent j _ (Array.getElem?_eq_getElem (by omega))
    simp [this]
    omega
theorem entryStore_ok {o : Oper} {t : TypeId} {m ix y : Operand} (ho : o.op = .entryStore t m ix y) (h : eEntryStore P t os κ [evO sl m, evO sl ix, evO sl y] = some r) : Good P w0 w M β hd a o κ r := by
  have hx := rel1 C m
  have hy := rel1 C ix
  unfold eEntryStore at h
  split at h
  · rename_i k off kk n v heq
    injection heq with h1 h2
    injection h2 with h2 h3
    injection h3 with h3 _
    rw [h1] at hx
    rw [h2] at hy
    split at h
    · rename_i bt e x kt vt hlk hmt
      have hm := hos _ _ hlk
      obtain ⟨hb, h⟩ := bif_inv h
      simp only [Bool.and_eq_true] at hb
      obtain ⟨⟨⟨⟨hbt, hvo⟩, hcok⟩, hnr⟩, hsh⟩ := hb
      have hbt := eq_of_beq hbt
      obtain ⟨hnm, hv, hu, es, hk1, hv1, hheap, hsz, hent⟩ := map_at C.sim hm hbt hx hmt
      simp only at hu hk1 hv1 hent
      have hnk := not_row hnr
      split at h
      · rename_i xs hxs
        obtain ⟨hb2, h⟩ := bif_inv h
        rw [Bool.and_eq_true] at hb2
        have hn0 : 0 ≤ n := of_decide_eq_true hb2.1
        have hn1 : n < (x.len : Int) := of_decide_eq_true hb2.2
        have hst := stored_rv C hos (O' := Own (M.sets (consumed (rowKeys (cellsOf v)))) β hd) (fun b hb => own_kills hb) (fun q b hq hoo => C.sim.given_up hq hoo) h3 hcok hsh hxs
        have hent' : ∀ i e, es[i]? = some e → e.born = i ∧ RV P w (Own (M.sets (consumed (rowKeys (cellsOf v)))) β hd) kt (x.el i) e.key ∧ RV P w (Own (M.sets (consumed (rowKeys (cellsOf v)))) β hd) vt (fun j => x.el i ((lv P kt).length + j)) e.val :=
          fun i e he => ⟨(hent i e he).1, (hent i e he).2.1.keep (keeps_kills _), (hent i e he).2.2.keep (keeps_kills _)⟩
        have hfi := find_born (n := n.toNat) (fun i e he => (hent i e he).1) (by omega)
        rw [show ((n.toNat : Nat) : Int) = n by omega] at hfi
        obtain ⟨p1, p2⟩ := ent_put (i := n.toNat) (f := fun e => { e with val := a.eval y }) (u := a.eval y) hsz hent' (fun e' he' => ⟨rfl, rfl, rfl⟩) hst
        refine good_skip h ?_ (upd_map' C hm hnm hbt hu hk1 hv1 hnk hheap p1 p2)
        simp [execOp, ho, hv, hy.i_inv, Instr.entryStore, asInt, asIntOf, run_get hheap, hfi, run_set _ hheap, Result.andThen, mput_len]
      · cases h
    · cases h
  · cases h
end
end Go.AM
