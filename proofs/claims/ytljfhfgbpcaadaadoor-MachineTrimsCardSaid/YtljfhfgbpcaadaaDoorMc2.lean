/- Machines: their texts. -/
import Derived.Test.YtljfhfgbpcaadaaDoorMc1
set_option linter.unusedVariables false
set_option linter.unusedSimpArgs false
namespace Go.AM
open Go.Proofs.YtljfhfgbpcaadaaDoor
def Bytes (t : T) (l : List UInt8) : Prop := t.len = l.length ∧ ∀ i b, l[i]? = some b → (t.el i 0).int = (b.toNat : Int)
theorem bt_get {s : ByteArray} {i : Nat} {b : UInt8} (h : s.data.toList[i]? = some b) : bt s i = (b.toNat : Int) := by
  unfold bt
  rw [Array.getElem?_toList] at h
  rw [Array.getD_eq_getD_getElem?, h]
  rfl
theorem size_list (s : ByteArray) : s.size = s.data.toList.length := by rw [Array.length_toList]; rfl
theorem Bytes.app {n : Nat} {g : Nat → Nat → T} {l : List UInt8} (h : Bytes (T.l n g) l) (s : ByteArray) : Bytes (T.l (n + s.size) (fun i j => (bif Nat.blt i n then (g i j) else (T.i (bt s (i - n)))))) (l ++ s.data.toList) := by
  have hn : n = l.length := h.1
  refine ⟨by rw [List.length_append, ← size_list, ← hn]; rfl, fun i b hi => ?_⟩
  show ((bif Nat.blt i n then (g i 0) else (T.i (bt s (i - n))))).int = _
  by_cases c : i < l.length
  · rw [show Nat.blt i n = true by rw [Nat.blt_eq]; omega]
    rw [List.getElem?_append_left c] at hi
    exact h.2 i b hi
  · rw [show Nat.blt i n = false by cases hb : Nat.blt i n with | false => rfl | true => rw [Nat.blt_eq] at hb; omega]
    rw [List.getElem?_append_right (by omega), ← hn] at hi
    exact bt_get hi
theorem Bytes.of {n : Nat} {g : Nat → Nat → T} {l : List UInt8} (h : Bytes (T.l n g) l) : bytesOf n g = l ∧ allU8 n g = true := by
  have hn : n = l.length := h.1
  constructor
  · apply List.ext_getElem?
    intro i
    unfold bytesOf
    by_cases c : i < n
    · have e := h.2 i l[i] (List.getElem?_eq_getElem (by omega))
      have e : (g i 0).int = (l[i].toNat : Int) := e
      rw [List.getElem?_map, List.getElem?_range c, List.getElem?_eq_getElem (by omega)]
      simp [e]
    · rw [List.getElem?_eq_none (by simp; omega), List.getElem?_eq_none (by omega)]
  · unfold allU8
    rw [List.all_eq_true]
    intro i hi
    rw [List.mem_range] at hi
    have e := h.2 i l[i] (List.getElem?_eq_getElem (by omega))
    have e : (g i 0).int = (l[i].toNat : Int) := e
    have := l[i].toNat_lt
    rw [e]
    simp
    omega
theorem digits_len : ∀ k u, u < 10 ^ (k + 1) → (Lib.decDigits u).length ≤ k + 1
  | 0, u, h => by
    rw [Lib.decDigits, dif_pos (by simpa using h)]
    simp
  | k + 1, u, h => by
    rw [Lib.decDigits]
    split
    · simp
    · rw [List.length_append]
      have := digits_len k (u / 10) (by rw [Nat.pow_succ] at h; omega)
      simp only [List.length_singleton]
      omega
theorem itoa_len {x : Int} (h0 : 0 ≤ x) (h1 : x ≤ 100000) : (Lib.itoa x).length ≤ 6 := by
  unfold Lib.itoa
  rw [if_neg (by omega)]
  exact digits_len 5 _ (by omega)
def itoaB (x : Int) : ByteArray := ⟨(Lib.itoa x).toArray⟩
theorem itoaB_list (x : Int) : (itoaB x).data.toList = Lib.itoa x := by simp [itoaB]
def lineM (first : List UInt8) (i o th : Int) : List UInt8 := Lib.join [first, Lib.itoa i, [45, 62], Lib.itoa o, Lib.itoa th] [32] ++ [10]
theorem line_eq (first : List UInt8) (i o th : Int) : lineM first i o th = first ++ ([32] ++ (Lib.itoa i ++ ([32] ++ ([45, 62] ++ ([32] ++ (Lib.itoa o ++ ([32] ++ (Lib.itoa th ++ [10])))))))) := by
  simp [lineM, Lib.join, List.intercalate, List.append_assoc]
def begW : List UInt8 := [98, 101, 103, 105, 110]
def headW (w : Int) : List UInt8 := if w = 1 then [99, 111, 110, 116, 114, 111, 108, 108, 101, 114, 10] else [102, 111, 105, 108, 10]
def begL (t : T) (i : Nat) : List UInt8 := lineM begW (t.el i 1).int (t.el i 2).int (t.el i 3).int
def rowL (t : T) (i : Nat) : List UInt8 := lineM (Lib.itoa (t.el i 0).int) (t.el i 1).int (t.el i 2).int (t.el i 3).int
def linesM (f : Nat → List UInt8) (n : Nat) : List UInt8 := (List.range n).flatMap f
def textM (w : Int) (b r : T) : List UInt8 := headW w ++ (linesM (begL b) b.len ++ linesM (rowL r) r.len)
theorem linesM_succ (f : Nat → List UInt8) (n : Nat) : linesM f (n + 1) = linesM f n ++ f n := by
  unfold linesM
  rw [List.range_succ, List.flatMap_append]
  simp
end Go.AM
namespace Go.Proofs.YtljfhfgbpcaadaaDoor
open Go.AM
theorem itoa_sp (N : Nat) (x : Int) (h0 : -9223372036854775808 ≤ x) (h1 : x ≤ 9223372036854775807) : C_strconv_Itoa (K (N + 1)) x = some (lookR [(0, T.s (itoaB x))]) := by
  have e : C_strconv_Itoa (K (N + 1)) x = itoaX [.i .i64 x] [] := by kernel_rfl
  rw [e]
  unfold itoaX
  exact if_of (by rw [decide_eq_true h0, decide_eq_true h1]; rfl) rfl
theorem check_sp (N n : Nat) (g : Nat → Nat → T) : C_strings_Builder_copyCheck (K (N + 1)) n g = some (lookR [(0, T.l n g)]) := by
  have e : C_strings_Builder_copyCheck (K (N + 1)) n g = checkX [.ptr HB 0] [(HB, .box 55 [.clo NPF [], .row (HB + 9) 0 n]), (HB + 9, .row 5 n g)] := by kernel_rfl
  rw [e]
  unfold checkX
  exact if_of (by rw [Nat.beq_refl n]; rfl) rfl
theorem check_sp1 (N n : Nat) (g : Nat → Nat → T) : C_strings_Builder_copyCheck_v1 (K (N + 1)) n g = some (lookR [(0, T.l n g)]) := by
  have e : C_strings_Builder_copyCheck_v1 (K (N + 1)) n g = checkX [.ptr HB 0] [(HB, .box 55 [.ptr HB 0, .row (HB + 9) 0 n]), (HB + 9, .row 5 n g)] := by kernel_rfl
  rw [e]
  unfold checkX
  exact if_of (by rw [Nat.beq_refl n]; rfl) rfl
theorem write_sp (N n : Nat) (g : Nat → Nat → T) (s : ByteArray) {l : List UInt8} (h : Bytes (T.l n g) l) (hb : n + s.size ≤ 140737488355328) : ∃ g', C_strings_Builder_WriteString (K (N + 2)) n s g = some (lookR [(0, T.i (s.size : Int)), (1, T.l (n + s.size) g')]) ∧ Bytes (T.l (n + s.size) g') (l ++ s.data.toList) := by
  rw [C_strings_Builder_WriteString_K]
  exact ⟨_, bind_of (check_sp N n g) (if_of (decide_eq_true hb) rfl), h.app s⟩
theorem write_sp1 (N n : Nat) (g : Nat → Nat → T) (s : ByteArray) {l : List UInt8} (h : Bytes (T.l n g) l) (hb : n + s.size ≤ 140737488355328) : ∃ g', C_strings_Builder_WriteString_v1 (K (N + 2)) n s g = some (lookR [(0, T.i (s.size : Int)), (1, T.l (n + s.size) g')]) ∧ Bytes (T.l (n + s.size) g') (l ++ s.data.toList) := by
  rw [C_strings_Builder_WriteString_v1_K]
  exact ⟨_, bind_of (check_sp1 N n g) (if_of (decide_eq_true hb) rfl), h.app s⟩
theorem string_sp (N n : Nat) (g : Nat → Nat → T) {l : List UInt8} (h : Bytes (T.l n g) l) (hn : 0 < n) : C_strings_Builder_String (K (N + 1)) n g = some (lookR [(0, T.s ⟨l.toArray⟩)]) := by
  have e : C_strings_Builder_String (K (N + 1)) n g = stringX [.ptr HB 0] [(HB, .box 55 [.ptr HB 0, .row (HB + 9) 0 n]), (HB + 9, .row 5 n g)] := by kernel_rfl
  obtain ⟨h1, h2⟩ := h.of
  rw [e]
  unfold stringX
  show (bif _ then some (lookR [(0, T.s ⟨(bytesOf n g).toArray⟩)]) else none) = _
  rw [h1]
  refine if_of ?_ rfl
  rw [Nat.beq_refl n, h2, show Nat.blt 0 n = true by rw [Nat.blt_eq]; exact hn]
  rfl
theorem join_sp (N : Nat) (a b c d e : ByteArray) (sep : ByteArray) (hl : (Lib.join [a.data.toList, b.data.toList, c.data.toList, d.data.toList, e.data.toList] sep.data.toList).length ≤ 140737488355328) :
    C_strings_Join (K (N + 1)) (T.l 5 (fun i j => ((([[(T.s a)], [(T.s b)], [(T.s c)], [(T.s d)], [(T.s e)]] : List (List T)).getD (0 + i) []).getD j (.b false)))) sep = some (lookR [(0, T.s ⟨(Lib.join [a.data.toList, b.data.toList, c.data.toList, d.data.toList, e.data.toList] sep.data.toList).toArray⟩)]) := by
  have e1 : C_strings_Join (K (N + 1)) (T.l 5 (fun i j => ((([[(T.s a)], [(T.s b)], [(T.s c)], [(T.s d)], [(T.s e)]] : List (List T)).getD (0 + i) []).getD j (.b false)))) sep = joinX [.sl 9 (T.l 5 (fun i j => ((([[(T.s a)], [(T.s b)], [(T.s c)], [(T.s d)], [(T.s e)]] : List (List T)).getD (0 + i) []).getD j (.b false)))), .s sep] [] := by kernel_rfl
  have e2 : (jStrs (T.l 5 (fun i j => ((([[(T.s a)], [(T.s b)], [(T.s c)], [(T.s d)], [(T.s e)]] : List (List T)).getD (0 + i) []).getD j (.b false))))).map (fun y => y.data.toList) = [a.data.toList, b.data.toList, c.data.toList, d.data.toList, e.data.toList] := by rfl
  rw [e1]
  unfold joinX
  simp only [e2]
  exact if_of (by rw [show Nat.ble (Lib.join [a.data.toList, b.data.toList, c.data.toList, d.data.toList, e.data.toList] sep.data.toList).length 140737488355328 = true from Nat.ble_eq_true_of_le hl]; rfl) rfl
theorem line_sp (N : Nat) (hN : 2 ≤ N) (n : Nat) (g : Nat → Nat → T) (first : ByteArray) (st i o th : Int) (hi : numOk i = true) (ho : numOk o = true) (ht : numOk th = true) (hf : first.size ≤ 10) {l : List UInt8} (h : Bytes (T.l n g) l) (hn : n ≤ 1000000000) :
    ∃ n' g', C_machine_Text_1 (K (N + 1)) n first st i o th g = some (lookR [(0, T.l n' g')]) ∧ Bytes (T.l n' g') (l ++ lineM first.data.toList i o th) ∧ n' ≤ n + 50 := by
  obtain ⟨M, rfl⟩ : ∃ M, N = M + 2 := ⟨N - 2, by omega⟩
  unfold numOk at hi ho ht
  simp only [Bool.and_eq_true, decide_eq_true_eq] at hi ho ht
  have l1 := itoa_len hi.1 hi.2
  have l2 := itoa_len ho.1 ho.2
  have l3 := itoa_len ht.1 ht.2
  have lf := size_list first
  have len0 : (lineM first.data.toList i o th).length ≤ 50 := by
    rw [line_eq]
    simp only [List.length_append, List.length_cons, List.length_nil]
    omega
  have hj : (Lib.join [first.data.toList, (itoaB i).data.toList, (ByteArray.mk #[45, 62]).data.toList, (itoaB o).data.toList, (itoaB th).data.toList] (ByteArray.mk #[32]).data.toList) ++ [10] = lineM first.data.toList i o th := by
    rw [itoaB_list, itoaB_list, itoaB_list]
    rfl
  have hjl : (Lib.join [first.data.toList, (itoaB i).data.toList, (ByteArray.mk #[45, 62]).data.toList, (itoaB o).data.toList, (itoaB th).data.toList] (ByteArray.mk #[32]).data.toList).length ≤ 50 := by
    have := congrArg List.length hj
    rw [List.length_append] at this
    omega
  obtain ⟨J, hJ⟩ : ∃ J, J = Lib.join [first.data.toList, (itoaB i).data.toList, (ByteArray.mk #[45, 62]).data.toList, (itoaB o).data.toList, (itoaB th).data.toList] (ByteArray.mk #[32]).data.toList := ⟨_, rfl⟩
  rw [← hJ] at hj hjl
  obtain ⟨S, hS⟩ : ∃ S : ByteArray, S = (⟨J.toArray⟩ : ByteArray) ++ ByteArray.mk #[10] := ⟨_, rfl⟩
  have hSl : S.data.toList = J ++ [10] := by rw [hS]; simp
  have hSs : S.size = (lineM first.data.toList i o th).length := by rw [size_list, hSl, hj]
  obtain ⟨g', e, hB⟩ := write_sp1 M n g S h (by omega)
  refine ⟨n + S.size, g', ?_, by rw [← hj, ← hSl]; exact hB, by omega⟩
  have jn := join_sp (M + 1) first (itoaB i) (ByteArray.mk #[45, 62]) (itoaB o) (itoaB th) (ByteArray.mk #[32]) (by rw [← hJ]; omega)
  rw [← hJ] at jn
  rw [C_machine_Text_1_K]
  refine bind_of (itoa_sp (M + 1) i (by omega) (by omega)) (bind_of (itoa_sp (M + 1) o (by omega) (by omega)) (bind_of (itoa_sp (M + 1) th (by omega) (by omega)) (bind_of jn (if_of ?_ ?_))))
  · have hz : (ByteArray.mk J.toArray).size = J.length := by rw [size_list]
    show Nat.ble ((ByteArray.mk J.toArray).size + (ByteArray.mk #[10]).size) 9223372036854775807 = true
    refine Nat.ble_eq_true_of_le ?_
    rw [hz]
    have : (ByteArray.mk #[10]).size = 1 := rfl
    omega
  · have e3 : C_strings_Builder_WriteString_v1 (K (M + 2)) n ((⟨J.toArray⟩ : ByteArray) ++ ByteArray.mk #[10]) g = some (lookR [(0, T.i (S.size : Int)), (1, T.l (n + S.size) g')]) := by rw [← hS]; exact e
    exact bind_of e3 rfl
theorem Text_all : Ev fun N => ∀ b r w, C_machine_Text (K N) w b r = some (lookR [(0, T.s ⟨(if mayMc w b r = 0 then textM w b r else []).toArray⟩)]) := by
  refine Ev.step (Ev.imp2 May_all (Ev.ge 30000) fun N hm0 hN b r w => ?_)
  have hm := hm0 b r
  obtain ⟨N0, hN0⟩ : ∃ M, N = M + 4 := ⟨N - 4, by omega⟩
  rw [C_machine_Text_K]
  by_cases hn : mayMc w b r = 0
  case neg =>
    rw [if_neg hn]
    exact bind_of (hm w) (if_of (by simpa [lookR_0, int_i] using hn) rfl)
  rw [if_pos hn]
  obtain ⟨hw, hb, hr, ob, or⟩ : (w = 0 ∨ w = 1) ∧ b.len ≤ 512 ∧ r.len ≤ 12000 ∧ rowsOk b true = true ∧ rowsOk r false = true := by
    unfold mayMc at hn
    split at hn
    · omega
    · rename_i c1
      split at hn
      · omega
      · rename_i c2
        split at hn
        · rename_i c3; exact ⟨by omega, by omega, by omega, c3.1, c3.2⟩
        · omega
  have rowAt : ∀ {t : T} {first : Bool}, rowsOk t first = true → ∀ i, i < t.len → numOk (t.el i 0).int = true ∧ numOk (t.el i 1).int = true ∧ numOk (t.el i 2).int = true ∧ numOk (t.el i 3).int = true := by
    intro t first h i hi
    unfold rowsOk at h
    have := List.all_eq_true.1 h i (by rw [List.mem_range']; exact ⟨i, hi, by omega⟩)
    unfold rowOk at this
    simp only [Bool.and_eq_true] at this
    exact ⟨this.1, this.2.1, this.2.2.1, this.2.2.2.1⟩
  have rows : ∀ (k i : Nat), i + k = r.len → ∀ (n : Nat) (g : Nat → Nat → T) (acc : List UInt8) (L : Nat), Bytes (T.l n g) (acc ++ linesM (rowL r) i) → 0 < n → n ≤ 100000 + 50 * i → k + 1 ≤ L → machine_Text.B2 (K N) L n r (r.len : Int) (i : Int) g = some (lookR [(0, T.s ⟨(acc ++ linesM (rowL r) r.len).toArray⟩)]) := by
    intro k
    induction k with
    | zero =>
      intro i hi n g acc L hB hn0 hnb hL
      obtain ⟨L, rfl⟩ : ∃ M, L = M + 1 := ⟨L - 1, by omega⟩
      obtain rfl : i = r.len := by omega
      rw [machine_Text.B2_eq, hN0]
      exact if_not (decide_eq_false (by omega)) (bind_of (string_sp (N0 + 3) n g hB hn0) rfl)
    | succ k ih =>
      intro i hi n g acc L hB hn0 hnb hL
      obtain ⟨L, rfl⟩ : ∃ M, L = M + 1 := ⟨L - 1, by omega⟩
      have hlt : i < r.len := by omega
      obtain ⟨o0, o1, o2, o3⟩ := rowAt or i hlt
      have o0' := o0
      unfold numOk at o0'
      simp only [Bool.and_eq_true, decide_eq_true_eq] at o0'
      have il := itoa_len o0'.1 o0'.2
      obtain ⟨n', g', e, hB', hn'⟩ := line_sp (N0 + 3) (by omega) n g (itoaB (r.el i 0).int) (r.el i 0).int (r.el i 1).int (r.el i 2).int (r.el i 3).int o1 o2 o3 (by rw [size_list, itoaB_list]; omega) hB (by omega)
      rw [itoaB_list, List.append_assoc, show linesM (rowL r) i ++ lineM (Lib.itoa (r.el i 0).int) (r.el i 1).int (r.el i 2).int (r.el i 3).int = linesM (rowL r) (i + 1) by rw [linesM_succ]; rfl] at hB'
      have hpos : 0 < n' := by
        have h1 := hB'.1
        have h2 : (T.l n' g').len = n' := rfl
        rw [linesM_succ] at h1
        have h3 : 0 < (rowL r i).length := by unfold rowL; rw [line_eq]; simp only [List.length_append, List.length_cons, List.length_nil]; omega
        simp only [List.length_append] at h1
        omega
      rw [machine_Text.B2_eq, Int.toNat_natCast, wrap_eq (a := (i : Int) + 1) (by omega) (by omega)]
      refine if_of (decide_eq_true (by omega)) (if_of (by simp; omega) (bind_of (by rw [hN0]; exact itoa_sp (N0 + 3) _ (by omega) (by omega)) (bind_of (by rw [hN0]; exact e) ?_)))
      exact ih (i + 1) (by omega) n' g' acc L hB' hpos (by omega) (by omega)
  have begs : ∀ (k i : Nat), i + k = b.len → ∀ (n : Nat) (g : Nat → Nat → T) (acc : List UInt8) (L : Nat), Bytes (T.l n g) (acc ++ linesM (begL b) i) → 0 < n → n ≤ 100 + 50 * i → k + r.len + 3 ≤ L → machine_Text.B1 (K N) L n b (b.len : Int) (i : Int) w b r g = some (lookR [(0, T.s ⟨(acc ++ (linesM (begL b) b.len ++ linesM (rowL r) r.len)).toArray⟩)]) := by
    intro k
    induction k with
    | zero =>
      intro i hi n g acc L hB hn0 hnb hL
      obtain ⟨L, rfl⟩ : ∃ M, L = M + 1 := ⟨L - 1, by omega⟩
      obtain rfl : i = b.len := by omega
      rw [machine_Text.B1_eq, ← List.append_assoc]
      refine if_not (decide_eq_false (by omega)) (rows r.len 0 (by omega) n g (acc ++ linesM (begL b) b.len) L ?_ hn0 (by omega) (by omega))
      rw [show linesM (rowL r) 0 = [] by rfl, List.append_nil]
      exact hB
    | succ k ih =>
      intro i hi n g acc L hB hn0 hnb hL
      obtain ⟨L, rfl⟩ : ∃ M, L = M + 1 := ⟨L - 1, by omega⟩
      have hlt : i < b.len := by omega
      obtain ⟨_, o1, o2, o3⟩ := rowAt ob i hlt
      obtain ⟨n', g', e, hB', hn'⟩ := line_sp (N0 + 3) (by omega) n g (ByteArray.mk #[98, 101, 103, 105, 110]) (b.el i 0).int (b.el i 1).int (b.el i 2).int (b.el i 3).int o1 o2 o3 (by decide) hB (by omega)
      rw [List.append_assoc, show linesM (begL b) i ++ lineM (ByteArray.mk #[98, 101, 103, 105, 110]).data.toList (b.el i 1).int (b.el i 2).int (b.el i 3).int = linesM (begL b) (i + 1) by rw [linesM_succ]; rfl] at hB'
      have hpos : 0 < n' := by
        have h1 := hB'.1
        have h2 : (T.l n' g').len = n' := rfl
        rw [linesM_succ] at h1
        have h3 : 0 < (begL b i).length := by unfold begL; rw [line_eq]; simp only [List.length_append, List.length_cons, List.length_nil]; omega
        simp only [List.length_append] at h1
        omega
      rw [machine_Text.B1_eq, Int.toNat_natCast, wrap_eq (a := (i : Int) + 1) (by omega) (by omega)]
      refine if_of (decide_eq_true (by omega)) (if_of (by simp; omega) (bind_of (by rw [hN0]; exact e) ?_))
      exact ih (i + 1) (by omega) n' g' acc L hB' hpos (by omega) (by omega)
  have start : ∀ s : ByteArray, s.size ≤ 20 → (s ++ ByteArray.mk #[10]).data.toList = headW w → machine_Text.B0 (K N) N s w b r = some (lookR [(0, T.s ⟨(textM w b r).toArray⟩)]) := by
    intro s hs hh
    have hsz : (s ++ ByteArray.mk #[10]).size = s.size + 1 := by
      rw [size_list, size_list]
      simp
    obtain ⟨g', e, hB⟩ := write_sp (N0 + 2) 0 (fun _ _ => .b false) (s ++ ByteArray.mk #[10]) (l := []) ⟨rfl, by simp⟩ (by omega)
    rw [List.nil_append, hh] at hB
    have hk : K N = K (N0 + 2 + 2) := by rw [hN0]
    rw [show machine_Text.B0 (K N) N s w b r = machine_Text.B0 (K N) (N0 + 3 + 1) s w b r by rw [hN0], machine_Text.B0_eq]
    refine if_of (Nat.ble_eq_true_of_le ?_) (bind_of (by rw [hk]; exact e) ?_)
    · have : (ByteArray.mk #[10]).size = 1 := rfl
      omega
    · refine (begs b.len 0 (by omega) _ g' (headW w) (N0 + 3) ?_ ?_ ?_ (by omega))
      · rw [show linesM (begL b) 0 = [] by rfl, List.append_nil]
        exact hB
      · show 0 < 0 + (s ++ ByteArray.mk #[10]).size
        omega
      · show 0 + (s ++ ByteArray.mk #[10]).size ≤ _
        omega
  refine bind_of (hm w) (if_not (by rw [lookR_0, int_i, hn]; rfl) ?_)
  rcases hw with rfl | rfl
  · exact if_not rfl (start _ (by decide) (by rfl))
  · exact if_of rfl (start _ (by decide) (by rfl))
theorem Text_sp (b r : T) : Ev fun N => ∀ w, C_machine_Text (K N) w b r = some (lookR [(0, T.s ⟨(if mayMc w b r = 0 then textM w b r else []).toArray⟩)]) := Text_all.imp fun N h => h b r
end Go.Proofs.YtljfhfgbpcaadaaDoor
