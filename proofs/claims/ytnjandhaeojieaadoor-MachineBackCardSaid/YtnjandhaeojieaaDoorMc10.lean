/- What is printed is read as it was: the plain law. -/
import Derived.Test.YtnjandhaeojieaaDoorMc9
set_option linter.unusedVariables false
set_option linter.unusedSimpArgs false
namespace Go.AM
open Go.Proofs.YtnjandhaeojieaaDoor
def lineB (f : List UInt8) (q : Q) : List UInt8 := joinL 32 [f, Lib.decDigits q.i, [45, 62], Lib.decDigits q.o, Lib.decDigits q.t]
def begB (q : Q) : List UInt8 := lineB begW q
def rwB (q : Q) : List UInt8 := lineB (Lib.decDigits q.s) q
def textQ (w : Int) (B R : List Q) : List UInt8 := headW w ++ (B.map begB ++ R.map rwB).flatMap (· ++ [10])
def Q.ok (q : Q) : Prop := q.s < 1000000 ∧ q.i < 1000000 ∧ q.o < 1000000 ∧ q.t < 1000000
theorem isD_mem {l : List UInt8} (h : l.all isD = true) {x : UInt8} (hx : x ∈ l) : 48 ≤ x.toNat ∧ x.toNat ≤ 57 := by
  have := List.all_eq_true.1 h x hx
  unfold isD at this
  simpa using this
theorem dec_free {c : UInt8} (hc : c.toNat < 48) {v : Nat} (hv : v < 1000000) : c ∉ Lib.decDigits v := by
  intro h
  have := isD_mem (dec_ok 5 v hv).1 h
  omega
theorem dec_beg {v : Nat} (hv : v < 1000000) : Lib.decDigits v ≠ begW := by
  intro h
  have := isD_mem (dec_ok 5 v hv).1 (x := 98) (by rw [h]; decide)
  have e : (98 : UInt8).toNat = 98 := rfl
  omega
theorem dig_dec {v : Nat} (hv : v < 1000000) : digM (Lib.decDigits v) = some v := (digM_iff _ _).2 ⟨rfl, hv⟩
theorem split_line {f : List UInt8} (hf : (32 : UInt8) ∉ f) {q : Q} (hq : q.ok) : splitL 32 (lineB f q) = [f, Lib.decDigits q.i, [45, 62], Lib.decDigits q.o, Lib.decDigits q.t] := by
  refine split_joinL 32 f _ fun x hx => ?_
  rcases List.mem_cons.1 hx with rfl | hx
  · exact hf
  rcases List.mem_cons.1 hx with rfl | hx
  · exact dec_free (by decide) hq.2.1
  rcases List.mem_cons.1 hx with rfl | hx
  · decide
  rcases List.mem_cons.1 hx with rfl | hx
  · exact dec_free (by decide) hq.2.2.1
  rcases List.mem_cons.1 hx with rfl | hx
  · exact dec_free (by decide) hq.2.2.2
  · cases hx
theorem row_beg {q : Q} (hq : q.ok) (h0 : q.s = 0) : rowM (begB q) = some (q, true) := by
  unfold rowM begB
  rw [split_line (by decide) hq]
  show (if ([45, 62] : List UInt8) = [45, 62] then (match digM (if begW = begW then [48] else begW), digM (Lib.decDigits q.i), digM (Lib.decDigits q.o), digM (Lib.decDigits q.t) with
    | some a', some b', some d', some e' => some ((⟨a', b', d', e'⟩ : Q), decide (begW = begW))
    | _, _, _, _ => none) else none) = _
  rw [if_pos rfl, if_pos rfl, dig_dec hq.2.1, dig_dec hq.2.2.1, dig_dec hq.2.2.2, show digM [48] = some 0 by rfl]
  rcases q with ⟨s, i, o, t⟩
  cases h0
  rfl
theorem row_row {q : Q} (hq : q.ok) : rowM (rwB q) = some (q, false) := by
  unfold rowM rwB
  rw [split_line (dec_free (by decide) hq.1) hq]
  show (if ([45, 62] : List UInt8) = [45, 62] then (match digM (if Lib.decDigits q.s = begW then [48] else Lib.decDigits q.s), digM (Lib.decDigits q.i), digM (Lib.decDigits q.o), digM (Lib.decDigits q.t) with
    | some a', some b', some d', some e' => some ((⟨a', b', d', e'⟩ : Q), decide (Lib.decDigits q.s = begW))
    | _, _, _, _ => none) else none) = _
  rw [if_pos rfl, if_neg (dec_beg hq.1), dig_dec hq.1, dig_dec hq.2.1, dig_dec hq.2.2.1, dig_dec hq.2.2.2, decide_eq_false (dec_beg hq.1)]
theorem row_inv {l : List UInt8} {q : Q} {f : Bool} (h : rowM l = some (q, f)) : q.ok ∧ (f = true → q.s = 0 ∧ l = begB q) ∧ (f = false → l = rwB q) := by
  unfold rowM at h
  split at h
  case h_2 => cases h
  rename_i a b c d e hs
  split at h
  case isFalse => cases h
  rename_i hc
  split at h
  case h_2 => cases h
  rename_i a' b' d' e' ha hb hd he
  obtain ⟨rfl, rfl⟩ := Prod.mk.inj (Option.some.inj h)
  have hl := joinL_split 32 l
  rw [hs] at hl
  obtain ⟨rfl, qb⟩ := (digM_iff _ _).1 hb
  obtain ⟨rfl, qd⟩ := (digM_iff _ _).1 hd
  obtain ⟨rfl, qe⟩ := (digM_iff _ _).1 he
  subst hc
  by_cases hw : a = begW
  · rw [if_pos hw] at ha
    obtain rfl : (0 : Nat) = a' := Option.some.inj ((show digM [48] = some 0 by rfl).symm.trans ha)
    refine ⟨⟨(show 0 < 1000000 by decide), qb, qd, qe⟩, fun _ => ⟨rfl, ?_⟩, fun h' => ?_⟩
    · rw [← hl, hw]; rfl
    · rw [decide_eq_true hw] at h'; cases h'
  · rw [if_neg hw] at ha
    obtain ⟨rfl, qa⟩ := (digM_iff _ _).1 ha
    refine ⟨⟨qa, qb, qd, qe⟩, fun h' => ?_, fun _ => ?_⟩
    · rw [decide_eq_false hw] at h'; cases h'
    · rw [← hl]; rfl
theorem scan_beg : ∀ (B : List Q) (ls : List (List UInt8)) (acc : List Q), (∀ q, q ∈ B → q.ok ∧ q.s = 0) → scanRows (B.map begB ++ ls) acc [] = scanRows ls (acc ++ B) []
  | [], ls, acc, _ => by simp
  | q :: B, ls, acc, h => by
    have hq := h q (List.mem_cons_self ..)
    show (match rowM (begB q) with
      | none => none
      | some (q, true) => if ([] : List Q).length ≠ 0 then none else scanRows (B.map begB ++ ls) (acc ++ [q]) []
      | some (q, false) => scanRows (B.map begB ++ ls) acc ([] ++ [q])) = _
    rw [row_beg hq.1 hq.2]
    show (if ([] : List Q).length ≠ 0 then none else scanRows (B.map begB ++ ls) (acc ++ [q]) []) = _
    rw [if_neg (by simp), scan_beg B ls _ fun x hx => h x (List.mem_cons_of_mem _ hx)]
    simp
theorem scan_row : ∀ (R : List Q) (B acc : List Q), (∀ q, q ∈ R → q.ok) → scanRows (R.map rwB) B acc = some (B, acc ++ R)
  | [], B, acc, _ => by simp [scanRows]
  | q :: R, B, acc, h => by
    have hq := h q (List.mem_cons_self ..)
    show (match rowM (rwB q) with
      | none => none
      | some (q, true) => if acc.length ≠ 0 then none else scanRows (R.map rwB) (B ++ [q]) acc
      | some (q, false) => scanRows (R.map rwB) B (acc ++ [q])) = _
    rw [row_row hq]
    show scanRows (R.map rwB) B (acc ++ [q]) = _
    rw [scan_row R B _ fun x hx => h x (List.mem_cons_of_mem _ hx)]
    simp
theorem scan_inv : ∀ (ls : List (List UInt8)) (B0 R0 B R : List Q), scanRows ls B0 R0 = some (B, R) → ∃ B' R', B = B0 ++ B' ∧ R = R0 ++ R' ∧ ls = B'.map begB ++ R'.map rwB ∧ (R0 ≠ [] → B' = []) ∧ ∀ q, q ∈ B' → q.s = 0
  | [], B0, R0, B, R, h => by
    obtain ⟨rfl, rfl⟩ := Prod.mk.inj (Option.some.inj h)
    exact ⟨[], [], by simp, by simp, rfl, fun _ => rfl, fun q hq => by cases hq⟩
  | l :: ls, B0, R0, B, R, h => by
    unfold scanRows at h
    split at h
    · cases h
    · rename_i q hr
      obtain ⟨_, hb, _⟩ := row_inv hr
      obtain ⟨h0, rfl⟩ := hb rfl
      split at h
      · cases h
      · rename_i hc
        have hR : R0 = [] := List.length_eq_zero_iff.1 (by simpa using hc)
        obtain ⟨B', R', e1, e2, e3, e4, e5⟩ := scan_inv ls _ _ _ _ h
        refine ⟨q :: B', R', by rw [e1]; simp, e2, by rw [e3]; simp, fun hn => absurd hR hn, fun x hx => ?_⟩
        rcases List.mem_cons.1 hx with rfl | hx
        · exact h0
        · exact e5 x hx
    · rename_i q hr
      obtain ⟨_, _, hb⟩ := row_inv hr
      obtain rfl := hb rfl
      obtain ⟨B', R', e1, e2, e3, e4, e5⟩ := scan_inv ls _ _ _ _ h
      obtain rfl := e4 (by simp)
      exact ⟨[], q :: R', e1, by rw [e2]; simp, by rw [e3]; simp, fun _ => rfl, e5⟩
theorem joinL_end (c : UInt8) : ∀ ls : List (List UInt8), joinL c (ls ++ [[]]) = ls.flatMap (· ++ [c])
  | [] => rfl
  | l :: ls => by
    rw [List.cons_append, joinL_cons c l (by simp), joinL_end c ls]
    simp
theorem line_free {f : List UInt8} (hf : (10 : UInt8) ∉ f) {q : Q} (hq : q.ok) : (10 : UInt8) ∉ lineB f q := by
  have h1 := dec_free (c := 10) (by decide) hq.2.1
  have h2 := dec_free (c := 10) (by decide) hq.2.2.1
  have h3 := dec_free (c := 10) (by decide) hq.2.2.2
  unfold lineB
  simp [joinL, hf, h1, h2, h3]
theorem text_scan {w : Int} (hw : w = 0 ∨ w = 1) {B R : List Q} (hB : ∀ q, q ∈ B → q.ok ∧ q.s = 0) (hR : ∀ q, q ∈ R → q.ok) : scanM (textQ w B R) = some (w, B, R) := by
  have hrows : scanRows (B.map begB ++ R.map rwB) [] [] = some (B, R) := by
    rw [scan_beg B _ _ hB, scan_row R _ _ hR]
    rfl
  have hsp : ∀ h : List UInt8, (10 : UInt8) ∉ h → splitL 10 (h ++ ([10] ++ (B.map begB ++ R.map rwB).flatMap (· ++ [10]))) = h :: ((B.map begB ++ R.map rwB) ++ [[]]) := by
    intro h hh
    have e : h ++ ([10] ++ (B.map begB ++ R.map rwB).flatMap (· ++ [10])) = joinL 10 (h :: ((B.map begB ++ R.map rwB) ++ [[]])) := by
      rw [joinL_cons 10 h (by simp), joinL_end]
      rfl
    rw [e]
    refine split_joinL 10 h _ fun x hx => ?_
    rcases List.mem_cons.1 hx with rfl | hx
    · exact hh
    rcases List.mem_append.1 hx with hx | hx
    · rcases List.mem_append.1 hx with hx | hx
      · obtain ⟨q, hq, rfl⟩ := List.mem_map.1 hx
        exact line_free (by decide) (hB q hq).1
      · obtain ⟨q, hq, rfl⟩ := List.mem_map.1 hx
        exact line_free (dec_free (by decide) (hR q hq).1) (hR q hq)
    · obtain rfl : x = [] := by simpa using hx
      exact List.not_mem_nil
  have hl : ∀ h : List UInt8, (h :: ((B.map begB ++ R.map rwB) ++ [[]])).getLast? = some [] := by
    intro h
    rw [← List.cons_append, List.getLast?_append]
    rfl
  unfold scanM textQ
  rcases hw with rfl | rfl
  · rw [show headW 0 ++ (B.map begB ++ R.map rwB).flatMap (· ++ [10]) = foilW ++ ([10] ++ (B.map begB ++ R.map rwB).flatMap (· ++ [10])) by rfl, hsp foilW (by decide)]
    show (if _ then none else if foilW = ctlW then _ else if foilW = foilW then (scanRows ((B.map begB ++ R.map rwB) ++ [[]]).dropLast [] []).map (fun p => ((0 : Int), p)) else none) = _
    rw [if_neg (by rw [hl]; simp), if_neg (by decide), if_pos rfl, List.dropLast_concat, hrows]
    rfl
  · rw [show headW 1 ++ (B.map begB ++ R.map rwB).flatMap (· ++ [10]) = ctlW ++ ([10] ++ (B.map begB ++ R.map rwB).flatMap (· ++ [10])) by rfl, hsp ctlW (by decide)]
    show (if _ then none else if ctlW = ctlW then (scanRows ((B.map begB ++ R.map rwB) ++ [[]]).dropLast [] []).map (fun p => ((1 : Int), p)) else _) = _
    rw [if_neg (by rw [hl]; simp), if_pos rfl, List.dropLast_concat, hrows]
    rfl
theorem scan_text {s : List UInt8} {w : Int} {B R : List Q} (h : scanM s = some (w, B, R)) : textQ w B R = s := by
  unfold scanM at h
  have hj := joinL_split 10 s
  split at h
  · cases h
  rename_i a r hs
  rw [hs] at hj
  split at h
  · cases h
  rename_i hl
  have hl : (a :: r).getLast? = some [] := by simpa using hl
  have body : ∀ (p : List Q × List Q), a ≠ [] → scanRows r.dropLast [] [] = some p → s = a ++ ([10] ++ (p.1.map begB ++ p.2.map rwB).flatMap (· ++ [10])) := by
    rintro ⟨B, R⟩ ha hp
    obtain ⟨B', R', rfl, rfl, e3, _, _⟩ := scan_inv _ _ _ _ _ hp
    have hr : r = r.dropLast ++ [[]] := by
      rcases List.eq_nil_or_concat r with rfl | ⟨r', x, rfl⟩
      · exact absurd (by simpa using hl) ha
      · rw [List.concat_eq_append] at hl ⊢
        rw [← List.cons_append, List.getLast?_concat] at hl
        rw [Option.some.inj hl, List.dropLast_concat]
    rw [← hj, hr, e3, joinL_cons 10 a (by simp), joinL_end]
    rfl
  split at h
  · rename_i hc
    cases hp : scanRows r.dropLast [] [] with
    | none => rw [hp] at h; cases h
    | some p =>
      rw [hp] at h
      obtain ⟨rfl, rfl⟩ := Prod.mk.inj (Option.some.inj h)
      rw [body _ (by rw [hc]; decide) hp, hc]
      rfl
  · split at h
    · rename_i hc
      cases hp : scanRows r.dropLast [] [] with
      | none => rw [hp] at h; cases h
      | some p =>
        rw [hp] at h
        obtain ⟨rfl, rfl⟩ := Prod.mk.inj (Option.some.inj h)
        rw [body _ (by rw [hc]; decide) hp, hc]
        rfl
    · cases h
def toQ (f : Nat → T) : Q := ⟨(f 0).int.toNat, (f 1).int.toNat, (f 2).int.toNat, (f 3).int.toNat⟩
def toQs (t : T) : List Q := (List.range t.len).map fun i => toQ (t.el i)
theorem Qs_get {t : T} {L : List Q} (h : Qs t L) {i : Nat} (hi : i < t.len) : ∃ q, L[i]? = some q ∧ IsQ (t.el i) q := by
  have hi' : i < L.length := by rw [← h.1]; exact hi
  exact ⟨L[i], List.getElem?_eq_getElem hi', h.2 i _ (List.getElem?_eq_getElem hi')⟩
theorem itoa_nat (v : Nat) : Lib.itoa (v : Int) = Lib.decDigits v := by
  unfold Lib.itoa
  rw [if_neg (by omega)]
  rfl
theorem lineM_eq (f : List UInt8) (q : Q) : lineM f (q.i : Int) (q.o : Int) (q.t : Int) = lineB f q ++ [10] := by
  rw [line_eq, itoa_nat, itoa_nat, itoa_nat]
  simp [lineB, joinL]
theorem lines_eq {t : T} {L : List Q} (h : Qs t L) {f : Nat → List UInt8} {g : Q → List UInt8} (hfg : ∀ i q, IsQ (t.el i) q → f i = g q) : linesM f t.len = L.flatMap g := by
  have : (List.range t.len).map f = L.map g := by
    apply List.ext_getElem?
    intro i
    rw [List.getElem?_map, List.getElem?_map]
    by_cases c : i < t.len
    · obtain ⟨q, e, hq⟩ := Qs_get h c
      rw [List.getElem?_range c, e]
      exact congrArg some (hfg i q hq)
    · rw [List.getElem?_eq_none (by simp; omega), List.getElem?_eq_none (by rw [← h.1]; omega)]
      rfl
  unfold linesM
  rw [List.flatMap_def, List.flatMap_def, this]
theorem textM_eq {w : Int} {b r : T} {B R : List Q} (hb : Qs b B) (hr : Qs r R) : textM w b r = textQ w B R := by
  unfold textM textQ
  rw [lines_eq hb (f := begL b) (g := fun q => begB q ++ [10]) (fun i q hq => by unfold begL; rw [hq.2.1, hq.2.2.1, hq.2.2.2]; exact lineM_eq _ _),
    lines_eq hr (f := rowL r) (g := fun q => rwB q ++ [10]) (fun i q hq => by unfold rowL; rw [hq.1, hq.2.1, hq.2.2.1, hq.2.2.2, itoa_nat]; exact lineM_eq _ _)]
  rw [List.flatMap_append, List.flatMap_map, List.flatMap_map]
theorem row_nums {t : T} {first : Bool} (h : rowsOk t first = true) {i : Nat} (hi : i < t.len) : (0 ≤ (t.el i 0).int ∧ (t.el i 0).int ≤ 100000) ∧ (0 ≤ (t.el i 1).int ∧ (t.el i 1).int ≤ 100000) ∧ (0 ≤ (t.el i 2).int ∧ (t.el i 2).int ≤ 100000) ∧ (0 ≤ (t.el i 3).int ∧ (t.el i 3).int ≤ 100000) ∧ (first = true → (t.el i 0).int = 0) := by
  unfold rowsOk at h
  have := List.all_eq_true.1 h i (by rw [List.mem_range']; exact ⟨i, hi, by omega⟩)
  unfold rowOk numOk at this
  simp only [Bool.and_eq_true, decide_eq_true_eq] at this
  refine ⟨this.1, this.2.1, this.2.2.1, this.2.2.2.1, fun hf => ?_⟩
  have h2 := this.2.2.2.2.1
  rw [hf] at h2
  simpa using h2
theorem Qs_toQs {t : T} {first : Bool} (h : rowsOk t first = true) : Qs t (toQs t) ∧ ∀ q, q ∈ toQs t → q.ok ∧ (first = true → q.s = 0) := by
  refine ⟨⟨by simp [toQs], fun i q hq => ?_⟩, fun q hq => ?_⟩
  · have hi : i < t.len := by
      have := (List.getElem?_eq_some_iff.1 hq).1
      simpa [toQs] using this
    unfold toQs at hq
    rw [List.getElem?_map, List.getElem?_range hi] at hq
    obtain rfl := Option.some.inj hq
    obtain ⟨h0, h1, h2, h3, _⟩ := row_nums h hi
    unfold IsQ toQ
    exact ⟨(Int.toNat_of_nonneg h0.1).symm, (Int.toNat_of_nonneg h1.1).symm, (Int.toNat_of_nonneg h2.1).symm, (Int.toNat_of_nonneg h3.1).symm⟩
  · unfold toQs at hq
    obtain ⟨i, hi, rfl⟩ := List.mem_map.1 hq
    obtain ⟨h0, h1, h2, h3, h4⟩ := row_nums h (List.mem_range.1 hi)
    unfold Q.ok toQ
    refine ⟨⟨?_, ?_, ?_, ?_⟩, fun hf => ?_⟩
    · show (t.el i 0).int.toNat < 1000000; omega
    · show (t.el i 1).int.toNat < 1000000; omega
    · show (t.el i 2).int.toNat < 1000000; omega
    · show (t.el i 3).int.toNat < 1000000; omega
    · have := h4 hf
      show (t.el i 0).int.toNat = 0
      omega
theorem Qs_el {t t' : T} {L : List Q} (h : Qs t L) (h' : Qs t' L) {i : Nat} (hi : i < t.len) : (t.el i 0).int = (t'.el i 0).int ∧ (t.el i 1).int = (t'.el i 1).int ∧ (t.el i 2).int = (t'.el i 2).int ∧ (t.el i 3).int = (t'.el i 3).int := by
  obtain ⟨q, e, h1⟩ := Qs_get h hi
  have h2 := h'.2 i q e
  exact ⟨h1.1.trans h2.1.symm, h1.2.1.trans h2.2.1.symm, h1.2.2.1.trans h2.2.2.1.symm, h1.2.2.2.trans h2.2.2.2.symm⟩
theorem Qs_rowsEq {t t' : T} {L : List Q} (h : Qs t L) (h' : Qs t' L) : rowsEq t t' = true := by
  unfold rowsEq
  rw [Bool.and_eq_true, beq_iff_eq, List.all_eq_true]
  refine ⟨h.1.trans h'.1.symm, fun i hi => ?_⟩
  obtain ⟨j, hj, rfl⟩ := List.mem_range'.1 hi
  obtain ⟨e0, e1, e2, e3⟩ := Qs_el h h' (i := 0 + 1 * j) (by omega)
  unfold rowEq
  rw [e0, e1, e2, e3]
  simp
theorem rowsEq_Qs {t t' : T} {L : List Q} (h : rowsEq t t' = true) (hq : Qs t L) : Qs t' L := by
  unfold rowsEq at h
  rw [Bool.and_eq_true, beq_iff_eq, List.all_eq_true] at h
  refine ⟨h.1.symm.trans hq.1, fun i q hi => ?_⟩
  have hlt : i < t.len := by rw [hq.1]; exact (List.getElem?_eq_some_iff.1 hi).1
  have := h.2 i (List.mem_range'.2 ⟨i, hlt, by omega⟩)
  unfold rowEq at this
  simp only [Bool.and_eq_true, beq_iff_eq] at this
  obtain ⟨a0, a1, a2, a3⟩ := hq.2 i q hi
  exact ⟨this.1 ▸ a0, this.2.1 ▸ a1, this.2.2.1 ▸ a2, this.2.2.2.1 ▸ a3⟩
theorem rowsOk_congr {t t' : T} {L : List Q} (h : Qs t L) (h' : Qs t' L) (first : Bool) : rowsOk t first = rowsOk t' first := by
  have hl : t.len = t'.len := h.1.trans h'.1.symm
  unfold rowsOk
  rw [← hl]
  have : ∀ i, i ∈ List.range' 0 t.len → rowOk t first i = rowOk t' first i := by
    intro i hi
    obtain ⟨j, hj, rfl⟩ := List.mem_range'.1 hi
    obtain ⟨e0, e1, e2, e3⟩ := Qs_el h h' (i := 0 + 1 * j) (by omega)
    obtain ⟨f0, f1, _, _⟩ := Qs_el h h' (i := 0 + 1 * j - 1) (by omega)
    unfold rowOk
    rw [e0, e1, e2, e3, f0, f1]
  rw [Bool.eq_iff_iff, List.all_eq_true, List.all_eq_true]
  exact ⟨fun hh i hi => by rw [← this i hi]; exact hh i hi, fun hh i hi => by rw [this i hi]; exact hh i hi⟩
theorem mayMc_congr {w : Int} {b b' r r' : T} {B R : List Q} (hb : Qs b B) (hb' : Qs b' B) (hr : Qs r R) (hr' : Qs r' R) : mayMc w b r = mayMc w b' r' := by
  unfold mayMc
  rw [rowsOk_congr hb hb', rowsOk_congr hr hr', hb.1.trans hb'.1.symm, hr.1.trans hr'.1.symm]
theorem may_inv {w : Int} {b r : T} (h : mayMc w b r = 0) : (w = 0 ∨ w = 1) ∧ b.len ≤ 512 ∧ r.len ≤ 12000 ∧ rowsOk b true = true ∧ rowsOk r false = true := by
  unfold mayMc at h
  split at h
  · omega
  · rename_i c1
    split at h
    · omega
    · rename_i c2
      split at h
      · rename_i c3; exact ⟨by omega, by omega, by omega, c3.1, c3.2⟩
      · omega
theorem may_vals (w : Int) (b r : T) : mayMc w b r = 0 ∨ mayMc w b r = 1 ∨ mayMc w b r = 7 := by
  unfold mayMc
  split
  · exact .inr (.inl rfl)
  · split
    · exact .inr (.inr rfl)
    · split
      · exact .inl rfl
      · exact .inr (.inl rfl)
end Go.AM
