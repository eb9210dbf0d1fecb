/- The engine, part 9: literals; all operations that call nobody. -/
import Derived.Test.YtljfhfgbpcaadaaDoorEng8m
set_option linter.unusedSimpArgs false
set_option linter.unusedVariables false
namespace Go.AM
open Go.RowKit (Below)
section
variable {ρ : Type} {P : Program} {w0 : Fr0} {w : World} {M : Store} {β : Bn} {hd : Nat → Value} {sl : List AV} {a : Act} {κ : Kk ρ} {r : ρ}
variable (C : Ctx P w0 w M β hd sl a)
include C
variable {os : List (Nat × Option Ob)} (hos : ∀ k ob, lk os k = some ob → M.get k = some ob)
include hos
omit hos C in
theorem conf_tup (t : TypeId) (vs : List AV) : conf P os t (.tup vs) = false := by
  cases hu : P.underlying t with
  | none => simp [conf, hu]
  | some d => cases d <;> simp [conf, hu]
omit hos C in
theorem conf_und (t : TypeId) : conf P os t .und = false := by
  cases hu : P.underlying t with
  | none => simp [conf, hu]
  | some d => cases d <;> simp [conf, hu]
omit hos C in
theorem frzs_cellsOk {ts : List TypeId} {v : AV} {xs : List T} (h : frzs P os ts (cellsOf v) = some xs) : cellsOk v = true := by
  cases v with
  | tup vs =>
    cases ts with
    | nil => simp [cellsOf, frzs] at h
    | cons t ts => simp [cellsOf, frzs, conf_tup] at h
  | und =>
    cases ts with
    | nil => simp [cellsOf, frzs] at h
    | cons t ts => simp [cellsOf, frzs, conf_und] at h
  | _ => rfl
theorem fill_lit {e : TypeId} {O' : Nat → Prop} (hO : ∀ b, O' b → Own M β hd b) (hpos : 0 < (lv P e).length) : ∀ (ps : List (Nat × Operand)) (n0 : Nat) (arr : Array Value) (l : List (List T)),
    litElems P os e n0 (ofParts ps (ps.map fun p => evO sl p.2)) = some l → (n0 + ps.length) * (lv P e).length ≤ arr.size → (∀ k b, k ∈ rowKeys ((ps.map fun p => evO sl p.2).flatMap cellsOf) → Owns M β hd k b → ¬ O' b) →
    ∃ arr', Instr.fill (fun i => some (i * (lv P e).length, (lv P e).length)) arr (ps.map fun p => (p.1, a.eval p.2)) = some arr' ∧ arr'.size = arr.size ∧ l.length = ps.length ∧ (∀ q, q < n0 * (lv P e).length → arr'.getD q undef = arr.getD q undef) ∧
      ∀ i j τ, i < ps.length → (lv P e)[j]? = some τ → RT P w O' τ ((l.getD i []).getD j (.b false)) (arr'.getD ((n0 + i) * (lv P e).length + j) undef)
  | [], n0, arr, l, h, _, _ => by
    obtain rfl : ([] : List (List T)) = l := by simpa [ofParts, litElems] using h
    exact ⟨arr, rfl, rfl, rfl, fun _ _ => rfl, fun i j τ hi _ => absurd hi (Nat.not_lt_zero _)⟩
  | p :: ps, n0, arr, l, h, hsz, hK => by
    obtain ⟨i0, x⟩ := p
    simp only [List.map_cons, ofParts, litElems] at h
    obtain ⟨hi0, h⟩ := bif_inv h
    obtain rfl : i0 = n0 := eq_of_beq hi0
    split at h
    · rename_i xs hxs
      split at h
      · rename_i ys hys
        obtain rfl : xs :: ys = l := by simpa using h
        have hcok := frzs_cellsOk hxs
        have hcs := (rel1 C x).cellsR hcok
        generalize hL : (lv P e).length = L at *
        have hmul : i0 * L + L + ps.length * L ≤ arr.size := by
          have : (i0 + (ps.length + 1)) * L = i0 * L + (ps.length * L + L) := by rw [Nat.add_mul, Nat.add_mul, Nat.one_mul]
          simp only [List.length_cons] at hsz
          omega
        have hsub1 : ∀ k, k ∈ rowKeys (cellsOf (evO sl x)) → k ∈ rowKeys (((i0, x) :: ps).map (fun p => evO sl p.2) |>.flatMap cellsOf) := by
          intro k hk
          have happ : ∀ l1 l2 : List AV, rowKeys (l1 ++ l2) = rowKeys l1 ++ rowKeys l2 := by
            intro l1
            induction l1 with
            | nil => intro l2; rfl
            | cons v l1 ih => intro l2; cases v <;> simp [rowKeys, ih]
          simp only [List.map_cons, List.flatMap_cons, happ, List.mem_append]
          exact .inl hk
        have hsub2 : ∀ k, k ∈ rowKeys ((ps.map fun p => evO sl p.2).flatMap cellsOf) → k ∈ rowKeys (((i0, x) :: ps).map (fun p => evO sl p.2) |>.flatMap cellsOf) := by
          intro k hk
          have happ : ∀ l1 l2 : List AV, rowKeys (l1 ++ l2) = rowKeys l1 ++ rowKeys l2 := by
            intro l1
            induction l1 with
            | nil => intro l2; rfl
            | cons v l1 ih => intro l2; cases v <;> simp [rowKeys, ih]
          simp only [List.map_cons, List.flatMap_cons, happ, List.mem_append]
          exact .inr hk
        obtain ⟨hf1, hf2, hf3⟩ := frzs_rel (O' := O') C.sim hos hO (us := (a.eval x).cells) 0 (lv P e) (cellsOf (evO sl x)) xs 0 hxs (fun k b hk ho => hK k b (hsub1 k hk) ho) (fun j c hj => by simpa using hcs.2 j c hj)
        have hvs : (a.eval x).cells.size = L := by rw [← hcs.1]; omega
        obtain ⟨arr', h1, h2, h3, h4, h5⟩ := fill_lit hO (by omega) ps (i0 + 1) (upd arr (i0 * L) (a.eval x).cells) ys hys (by
          rw [upd_size, hL]
          have : (i0 + 1 + ps.length) * L = i0 * L + L + ps.length * L := by rw [Nat.add_mul, Nat.add_mul, Nat.one_mul]
          omega) (fun k b hk ho => hK k b (hsub2 k hk) ho)
        rw [hL] at h1 h4 h5
        refine ⟨arr', ?_, by rw [h2, upd_size], by simp [h3], fun q hq => ?_, fun i j τ hi hj => ?_⟩
        · simp only [List.map_cons, Instr.fill]
          have hc : (((a.eval x).cells.size ≠ L) || (i0 * L + (a.eval x).cells.size > arr.size)) = false := by
            simp [hvs]
            omega
          have hc2 : ¬ ((a.eval x).cells.size ≠ L ∨ i0 * L + (a.eval x).cells.size > arr.size) := by
            rintro (h7 | h7) <;> omega
          simp only [hvs, ne_eq, not_true_eq_false, decide_false, Bool.false_or, gt_iff_lt, decide_eq_true_eq]
          rw [if_neg (by omega)]
          exact h1
        · have h01 : (i0 + 1) * L = i0 * L + L := by rw [Nat.add_mul, Nat.one_mul]
          rw [h4 q (by omega), upd_get, if_neg (by omega)]
        · have hjL : j < L := by rw [← hL]; exact (List.getElem?_eq_some_iff.1 hj).1
          cases i with
          | zero =>
            have h01 : (i0 + 1) * L = i0 * L + L := by rw [Nat.add_mul, Nat.one_mul]
            rw [Nat.add_zero, h4 _ (by omega), upd_get, if_pos (by omega)]
            have h02 : i0 * L + j - i0 * L = j := by omega
            rw [h02]
            obtain ⟨x', h6, h7⟩ := hf3 j τ hj
            simp only [List.getD_cons_zero]
            rw [List.getD_eq_getElem?_getD, h6]
            simpa using h7
          | succ i =>
            have := h5 i j τ (by simp at hi; omega) hj
            rw [List.getD_cons_succ, show i0 + (i + 1) = i0 + 1 + i by omega]
            exact this
      · cases h
    · cases h
theorem buildSlice_ok {o : Oper} {t : TypeId} {n d : Nat} {ps : Array (Nat × Operand)} (hfree : free os d = true → M.get d = none) (ho : o.op = .buildSlice t n ps) (h : eBuildSlice P d t n ps.toList (ps.toList.map fun p => evO sl p.2) os κ = some r) : Good P w0 w M β hd a o κ r := by
  have hbase : 0 ≤ w.heap.size := Nat.zero_le _
  unfold eBuildSlice at h
  obtain ⟨hf, h⟩ := bif_inv h
  rw [Bool.and_eq_true] at hf
  have hn : ps.toList.length = n := eq_of_beq hf.2
  split at h
  · rename_i e hel
    have hu := elemT_inv hel
    obtain ⟨hcc, h⟩ := bif_inv h
    rw [Bool.and_eq_true, Bool.and_eq_true, Bool.and_eq_true] at hcc
    obtain ⟨⟨⟨hsz, hsm⟩, hpos⟩, hzc⟩ := hcc
    have hsz : (lv P e).length = sizeT P e := eq_of_beq hsz
    have hpos : 0 < sizeT P e := by simpa using hpos
    have hsm : n * sizeT P e ≤ 16777216 := Nat.le_of_ble_eq_true hsm
    have hz : ∃ i z, P.info? e = some i ∧ i.zero = some z ∧ z.cells.size = sizeT P e := by
      unfold zeroOk at hzc
      split at hzc
      · rename_i i hi
        split at hzc
        · rename_i z hz
          exact ⟨i, z, hi, hz, eq_of_beq hzc⟩
        · cases hzc
      · cases hzc
    obtain ⟨i, z, hi, hzz, hzs⟩ := hz
    have hisz : i.size = sizeT P e := by simp [sizeT, hi]
    split at h
    · rename_i l hl
      obtain ⟨hll, h⟩ := bif_inv h
      rw [Bool.and_eq_true] at hll
      have hkey0 : d ∉ rowKeys ((ps.toList.map fun p => evO sl p.2).flatMap cellsOf) := by simpa using hll.2
      generalize hks : rowKeys ((ps.toList.map fun p => evO sl p.2).flatMap cellsOf) = ks at *
      obtain ⟨arr', h1, h2, h3, h4, h5⟩ := fill_lit C hos (O' := Own (M.sets (consumed ks)) β hd) (fun b hq => own_kills hq) (by omega) ps.toList 0 ((Array.range (n * i.size)).map (z.cells[· % z.cells.size]!)) l hl (by simp [hn, hisz, hsz])
        (fun k b hk ho => C.sim.given_up (hks ▸ hk) ho)
      have hasz : arr'.size = n * (lv P e).length := by rw [h2]; simp [hisz, hsz]
      have hd0 : (M.sets (consumed ks)).get d = none ∨ d ∈ ks := by
        rw [get_kills]
        by_cases hdk : d ∈ ks
        · exact .inr hdk
        · rw [if_neg hdk]; exact .inl (hfree hf.1)
      have hrun : (Instr.buildSlice t n (ps.map fun (i, x) => (i, a.eval x))).run P w = .ok (.slice (some ⟨w.heap.size, 0, none⟩) n n) (w.alloc (.cells arr' e)) := by
        have hpl : (ps.map fun (i, x) => (i, a.eval x)).toList = ps.toList.map fun p => (p.1, a.eval p.2) := by simp
        rcases Nat.eq_zero_or_pos n with h0 | h0
        · have hps : ps = #[] := by
            apply Array.eq_empty_of_size_eq_zero
            rw [← Array.length_toList, hn, h0]
          subst hps
          subst h0
          have harr : arr' = #[] := Array.eq_empty_of_size_eq_zero (by rw [hasz]; simp)
          subst harr
          simp [Instr.buildSlice, run_underlying hu, sizeOf, typeInfo, hi, newRow, Instr.fill]
          congr 2
          apply Array.eq_empty_of_size_eq_zero
          simp
        · have hnz : 0 < n * i.size := by rw [hisz]; exact Nat.mul_pos h0 hpos
          refine run_buildSlice w t e n _ arr' i z hu hi hzz (by rw [hisz]; omega) (by omega) ?_
          rw [hpl, hisz, ← hsz, ← h1, hisz, hsz]
      have hkey : d ∉ ks := hkey0
      have hd1 : (M.sets (consumed ks)).get d = none := by
        rcases hd0 with h6 | h6
        · exact h6
        · exact absurd h6 hkey
      have hdone := new_row (C.sim.kills ks) (g := fun i j => (l.getD i []).getD j (.b false)) (n := n) (w' := w.alloc (.cells arr' e)) hd1 (by omega) (C.sim.below.alloc _) (World.ownsRow_lit (base := 0) (e := e) (size := (lv P e).length) w arr' n hbase (by simp only [maxLen]; have : n ≤ n * sizeT P e := Nat.le_mul_of_pos_right _ hpos; omega) hasz)
        (fun b hb => by simp [Value.ownBlock] at hb; omega) (fun b hb => heap_alloc_old w _ b hb) (by show w.heap.size ≤ (w.heap.push _).size; simp)
        (fun i j τ hi' hj => by
          have hjL : j < (lv P e).length := (List.getElem?_eq_some_iff.1 hj).1
          have hlt : i * (lv P e).length + j < arr'.size := by
            rw [hasz]
            have : i * (lv P e).length + (lv P e).length ≤ n * (lv P e).length := by rw [← Nat.succ_mul]; exact Nat.mul_le_mul_right _ hi'
            omega
          refine ⟨arr'.getD (i * (lv P e).length + j) undef, by rw [Array.getElem?_toList]; simp [Array.getD_eq_getD_getElem?, hlt], ?_⟩
          have := h5 i j τ (by omega) hj
          rwa [Nat.zero_add] at this)
      refine good_done h ?_ ((Done.then (ext_kills _) (keeps_kills _) hdone).congr (get_late hkey))
      simp [execOp, ho, hrun]
    · cases h
  · cases h
omit hos in
theorem fillA_rel {t : TypeId} {place : Nat → Option (Nat × Nat)} (hplace : ∀ i x, places P t i = some x → place i = some x) : ∀ (ps : List (Nat × Operand)) (cs cs' : List AV) (arr : Array Value), fillA P t cs (ofParts ps (ps.map fun p => evO sl p.2)) = some cs' → (∀ p ∈ ps, cellsOk (evO sl p.2) = true) → Cells P w M β hd cs arr →
    ∃ arr', Instr.fill place arr (ps.map fun p => (p.1, a.eval p.2)) = some arr' ∧ Cells P w M β hd cs' arr'
  | [], cs, cs', arr, h, _, hc => by
    obtain rfl : cs = cs' := by simpa [ofParts, fillA] using h
    exact ⟨arr, rfl, hc⟩
  | (i, x) :: ps, cs, cs', arr, h, hok, hc => by
    simp only [List.map_cons, ofParts, fillA] at h
    split at h
    · rename_i off size hp
      obtain ⟨hb, h⟩ := bif_inv h
      rw [Bool.and_eq_true] at hb
      have hs : (cellsOf (evO sl x)).length = size := eq_of_beq hb.1
      have hle : off + size ≤ cs.length := Nat.le_of_ble_eq_true hb.2
      have hcx := (rel1 C x).cellsR (hok (i, x) (by simp))
      obtain ⟨arr', h1, h2⟩ := fillA_rel hplace ps _ cs' (upd arr off (a.eval x).cells) h (fun p hp => hok p (by simp [hp])) (hc.upd hcx off)
      refine ⟨arr', ?_, h2⟩
      have e1 : (a.eval x).cells.size = size := by rw [← hcx.1]; exact hs
      have e2 : cs.length = arr.size := hc.1
      simp only [List.map_cons, Instr.fill, hplace i _ hp]
      simp only [e1, ne_eq, not_true_eq_false, decide_false, Bool.false_or, gt_iff_lt, decide_eq_true_eq]
      rw [if_neg (by omega)]
      exact h1
    · cases h
omit hos in
theorem build_ok {o : Oper} {t : TypeId} {ps : Array (Nat × Operand)} (ho : o.op = .build t ps) (h : eBuild P t ps.toList (ps.toList.map fun p => evO sl p.2) κ = some r) : Good P w0 w M β hd a o κ r := by
  unfold eBuild at h
  obtain ⟨hb, h⟩ := bif_inv h
  rw [Bool.and_eq_true, Bool.and_eq_true] at hb
  obtain ⟨⟨hbo, hcok⟩, _⟩ := hb
  have hok : ∀ p ∈ ps.toList, cellsOk (evO sl p.2) = true := fun p hp => List.all_eq_true.1 hcok _ (List.mem_map.2 ⟨p, hp, rfl⟩)
  split at h
  · rename_i z hz
    obtain ⟨i, zv, hi, hzv, hzc⟩ := zeroCells_rel (w := w) (M := M) (β := β) (hd := hd) hz
    split at h
    · rename_i cs hf
      have hpl : (ps.map fun (i, x) => (i, a.eval x)).toList = ps.toList.map fun p => (p.1, a.eval p.2) := by simp
      have hbuilt : ∃ arr, P.built t (ps.map fun (i, x) => (i, a.eval x)).toList = some arr ∧ Cells P w M β hd cs arr := by
        rw [hpl]
        unfold buildOk at hbo
        split at hbo
        · rename_i fs hu
          have hall : ∀ f ∈ fs.toList, ∃ q, P.info? f.type = some q ∧ q.size = sizeT P f.type := fun f hf => by
            obtain ⟨d, q, _, h2, h3⟩ := tyOk_inv (List.all_eq_true.1 hbo f hf)
            exact ⟨q, h2, h3⟩
          have hmap : ∀ l : List Field, (∀ f ∈ l, ∃ q, P.info? f.type = some q ∧ q.size = sizeT P f.type) → l.mapM (fun f => (P.info? f.type).map fun q => (f.offset, q.size)) = some (l.map fun f => (f.offset, sizeT P f.type)) := by
            intro l
            induction l with
            | nil => intro _; rfl
            | cons f l ih =>
              intro hh
              obtain ⟨q, h2, h3⟩ := hh f (by simp)
              simp [List.mapM_cons, h2, h3, ih (fun g hg => hh g (by simp [hg]))]
          obtain ⟨arr', h1, h2⟩ := fillA_rel C (place := fun q => ((fs.toList.map fun f => (f.offset, sizeT P f.type)).toArray)[q]?) (t := t) (fun q x hq => by
            unfold places at hq
            rw [hu] at hq
            simp only at hq
            split at hq
            · rename_i f hf
              rw [← hq]
              simp [hf]
            · cases hq) ps.toList z cs zv.cells hf hok hzc
          refine ⟨arr', ?_, h2⟩
          unfold Program.built
          simp only [hi, hu, hzv, hmap fs.toList hall]
          exact h1
        · rename_i m e hu
          obtain ⟨d, q, _, h2, h3⟩ := tyOk_inv hbo
          obtain ⟨arr', h1, h4⟩ := fillA_rel C (place := fun k => some (k * q.size, q.size)) (t := t) (fun k x hk => by
            unfold places at hk
            rw [hu] at hk
            have := (bif_inv hk).2
            rw [h3]
            exact this) ps.toList z cs zv.cells hf hok hzc
          refine ⟨arr', ?_, h4⟩
          unfold Program.built
          simp only [hi, hu, hzv, h2]
          exact h1
        · cases hbo
      obtain ⟨arr, h1, h2⟩ := hbuilt
      refine good_pure C h ?_ (.ag h2.1 h2.2)
      simp [execOp, ho, run_build w t _ arr h1]
    · cases h
  · cases h
omit C hos in
theorem dk_free {ks : List Nat} {d : Nat} (hd : d ∈ ks) (h : free (looks M ks) d = true) : M.get d = none := by
  have hlk : lk (looks M ks) d = M.get d := by
    unfold lk looks
    clear h
    induction ks with
    | nil => cases hd
    | cons q ks ih =>
      simp only [List.map_cons, List.find?_cons]
      by_cases hq : q = d
      · subst hq; simp
      · have h1 : (q == d) = false := by simpa using hq
        simp only [h1]
        rcases List.mem_cons.1 hd with h2 | h2
        · exact absurd h2.symm hq
        · exact ih h2
  unfold free at h
  rw [hlk] at h
  split at h
  · assumption
  · cases h
omit hos in
theorem evalOp_ok {o : Oper} (h : evalOp P o (opVals sl o.op) (looks M (keysOf o (opVals sl o.op))) κ = some r) : Good P w0 w M β hd a o κ r := by
  have hos : ∀ k ob, lk (looks M (keysOf o (opVals sl o.op))) k = some ob → M.get k = some ob := fun k ob => lk_looks
  have hfr : dk o ∈ keysOf o (opVals sl o.op) → free (looks M (keysOf o (opVals sl o.op))) (dk o) = true → M.get (dk o) = none := dk_free
  generalize looks M (keysOf o (opVals sl o.op)) = os at h hos hfr
  have two : ∀ (c : Call) (K : List AV → Option ρ), (∀ x y, c.args = #[x, y] → K [evO sl x, evO sl y] = some r → Good P w0 w M β hd a o κ r) → (∀ l, l.length ≠ 2 → K l = none) → K (c.args.toList.map (evO sl)) = some r → Good P w0 w M β hd a o κ r := by
    intro c K h1 h2 h3
    by_cases hl : c.args.toList.length = 2
    · match hc : c.args.toList, hl with
      | [x, y], _ =>
        rw [hc] at h3
        exact h1 x y (by apply Array.ext'; simpa using hc) h3
    · rw [h2 _ (by simpa using hl)] at h3; cases h3
  cases ho : o.op with
  | move x => simp only [evalOp, ho] at h; exact same_ok C (.inl ho) (by simpa [opVals, Op.operands] using h)
  | assign x => simp only [evalOp, ho] at h; exact same_ok C (.inr ho) (by simpa [opVals, Op.operands] using h)
  | pick c x y => simp only [evalOp, ho] at h; exact pick_ok C ho (by simpa [opVals, Op.operands] using h)
  | alloc t =>
    simp only [evalOp, ho] at h
    exact alloc_ok C (hfr (by simp [keysOf, ho])) ho h
  | box t x =>
    simp only [evalOp, ho] at h
    exact box_ok C (hfr (by simp [keysOf, ho])) ho (by simpa [opVals, Op.operands] using h)
  | build t ps =>
    simp only [evalOp, ho] at h
    exact build_ok C ho (by simpa [opVals, Op.operands, Function.comp_def] using h)
  | buildSlice t n ps =>
    simp only [evalOp, ho] at h
    exact buildSlice_ok C hos (hfr (by simp [keysOf, ho])) ho (by simpa [opVals, Op.operands, Function.comp_def, ho] using h)
  | makeSlice t x y =>
    simp only [evalOp, ho] at h
    exact makeSlice_ok C (hfr (by simp [keysOf, ho])) ho (by simpa [opVals, Op.operands] using h)
  | load t x => simp only [evalOp, ho] at h; exact load_ok C hos ho (by simpa [opVals, Op.operands, ho] using h)
  | store t x y => simp only [evalOp, ho] at h; exact store_ok C hos ho (by simpa [opVals, Op.operands, ho] using h)
  | nilCheck x => simp only [evalOp, ho] at h; exact nilCheck_ok C hos ho (by simpa [opVals, Op.operands, ho] using h)
  | binOp op t x y yt => simp only [evalOp, ho] at h; exact bin_ok C ho (by simpa [opVals, Op.operands] using h)
  | unOp op t x => simp only [evalOp, ho] at h; exact un_ok C ho (by simpa [opVals, Op.operands] using h)
  | convert s d x => simp only [evalOp, ho] at h; exact conv_ok C ho (by simpa [opVals, Op.operands] using h)
  | makeFunc fn first caps => simp only [evalOp, ho] at h; exact makeFunc_ok C ho rfl (by simpa [opVals, Op.operands] using h)
  | slice t x lo hi mx => simp only [evalOp, ho] at h; exact slice_ok C hos ho (by simpa [opVals, Op.operands, ho] using h)
  | fieldAddr t x f => simp only [evalOp, ho] at h; exact fieldAddr_ok C hos ho (by simpa [opVals, Op.operands, ho] using h)
  | field t x f => simp only [evalOp, ho] at h; exact field_ok C ho (by simpa [opVals, Op.operands] using h)
  | indexAddr t x y => simp only [evalOp, ho] at h; exact indexAddr_ok C hos ho (by simpa [opVals, Op.operands, ho] using h)
  | index t x y => simp only [evalOp, ho] at h; exact index_ok C ho (by simpa [opVals, Op.operands] using h)
  | extract x j => simp only [evalOp, ho] at h; exact extract_ok C ho (by simpa [opVals, Op.operands] using h)
  | makeMap t res =>
    simp only [evalOp, ho] at h
    exact makeMap_ok C (hfr (by simp [keysOf, ho])) ho (by rw [ho]; exact h)
  | lookup t m ix ok => simp only [evalOp, ho] at h; exact lookup_ok C hos ho (by simpa [opVals, Op.operands, ho] using h)
  | mapUpdate t m ix y => simp only [evalOp, ho] at h; exact mapUpdate_ok C hos ho (by simpa [opVals, Op.operands, ho] using h)
  | mapEntry t m ix => simp only [evalOp, ho] at h; exact mapEntry_ok C hos ho (by simpa [opVals, Op.operands, ho] using h)
  | entryStore t m s y => simp only [evalOp, ho] at h; exact entryStore_ok C hos ho (by simpa [opVals, Op.operands, ho] using h)
  | call c =>
    simp only [evalOp, ho] at h
    cases hc : c.callee with
    | builtin b =>
      rw [hc] at h
      simp only at h
      have hv : opVals sl o.op = c.args.toList.map (evO sl) := by simp [opVals, Op.operands, Call.operands, ho, hc]
      have hv' : opVals sl (.call c) = c.args.toList.map (evO sl) := by rw [← ho]; exact hv
      unfold eBuiltin at h
      split at h
      · -- len
        split at h
        · rename_i t hts
          have hts' : c.argTypes = #[t] := by apply Array.ext'; simpa using hts
          match hargs : c.args.toList with
          | [x] =>
            have ha : c.args = #[x] := by apply Array.ext'; simpa using hargs
            exact len_ok C hos ho hc ha hts' (by rw [hv', hargs] at h; exact h)
          | [] => rw [hv', hargs] at h; simp [eLen] at h
          | _ :: _ :: _ => rw [hv', hargs] at h; unfold eLen at h; simp at h
        · cases h
      · -- cap
        split at h
        · rename_i t hts
          have hts' : c.argTypes = #[t] := by apply Array.ext'; simpa using hts
          match hargs : c.args.toList with
          | [x] =>
            have ha : c.args = #[x] := by apply Array.ext'; simpa using hargs
            exact cap_ok C ho hc ha hts' (by rw [hv', hargs] at h; exact h)
          | [] => rw [hv', hargs] at h; simp [eCap] at h
          | _ :: _ :: _ => rw [hv', hargs] at h; unfold eCap at h; simp at h
        · cases h
      · rw [hv'] at h
        unfold eMax at h
        cases h3 : Nat.beq (c.args.toList.map (evO sl)).length 3 with
        | true =>
          rw [h3, cond_true] at h
          match hargs : c.args.toList with
          | [x, y, z] =>
            have ha : c.args = #[x, y, z] := by apply Array.ext'; simpa using hargs
            exact max3_ok C ho hc ha (by rw [hargs] at h; exact h)
          | [] => rw [hargs] at h; simp [eMax3] at h
          | [_] => rw [hargs] at h; simp [eMax3] at h
          | [_, _] => rw [hargs] at h; simp [eMax3] at h
          | _ :: _ :: _ :: _ :: _ => rw [hargs] at h; unfold eMax3 at h; simp at h
        | false =>
          rw [h3, cond_false] at h
          refine two c (eMax2 κ) (fun x y ha hk => max_ok C ho hc ha hk) (fun l hl => ?_) h
          unfold eMax2; split <;> first | rfl | simp at hl
      · rw [hv'] at h
        refine two c (eMin κ) (fun x y ha hk => min_ok C ho hc ha hk) (fun l hl => ?_) h
        unfold eMin; split <;> first | rfl | simp at hl
      · -- append
        split at h
        · rename_i t u hts
          have hfree := hfr (by simp [keysOf, ho, hc])
          cases htu : (t == u) with
          | true =>
            rw [htu] at h
            obtain rfl : t = u := eq_of_beq htu
            have hts' : c.argTypes = #[t, t] := by apply Array.ext'; simpa using hts
            rw [hv'] at h
            exact two c (eAppend P (dk o) t os κ) (fun x y ha hk => append_ok C hos hfree ho hc ha hts' hk) (fun l hl => by unfold eAppend; split <;> first | rfl | simp at hl) h
          | false =>
            rw [htu] at h
            have hts' : c.argTypes = #[t, u] := by apply Array.ext'; simpa using hts
            simp only [cond_false] at h
            split at h
            · rename_i kn hun
              rw [hv'] at h
              exact two c (eAppendZ P (dk o) t os κ) (fun x y ha hk => appendZ_ok C hfree ho hc ha hts' hun hk) (fun l hl => by unfold eAppendZ; split <;> first | rfl | simp at hl) h
            · rename_i hun
              rw [hv'] at h
              exact two c (eAppendS P (dk o) t os κ) (fun x y ha hk => appendS_ok C hos hfree ho hc ha hts' hun hk) (fun l hl => by unfold eAppendS; split <;> first | rfl | simp at hl) h
            · cases h
        · cases h
      · cases h
    | value f => rw [hc] at h; cases h
    | invoke x m => rw [hc] at h; cases h
  | _ => simp only [evalOp, ho] at h; cases h
end
end Go.AM
