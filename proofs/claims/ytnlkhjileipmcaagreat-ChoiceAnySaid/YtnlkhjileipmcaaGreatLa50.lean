/- What commands that set all to any lead to are just the states of a pick; how many they are. -/
import Derived.Test.YtnlkhjileipmcaaGreatLa49
set_option linter.unusedVariables false
set_option linter.unusedSimpArgs false
namespace Go.AM
open Go.Proofs.YtnlkhjileipmcaaGreat
theorem upFrom_rise : ∀ (m : Nat) (i : Int), (upFrom i m).Pairwise (· < ·)
  | 0, _ => List.Pairwise.nil
  | m + 1, i => List.Pairwise.cons (fun x hx => by have := (upFrom_mem.1 hx).1; omega) (upFrom_rise m (i + 1))
theorem all_eq {l : List Va} {g : Ex} {keeps now next : Int} {b : Bool} {f : Int → Bool} (hp : Pos l) (hk : 0 ≤ keeps ∧ keeps < prodV l) (ht : trueE l g now next = true)
    (hf : ∀ x, 0 ≤ x → x < prodV l → (f x = true ↔ ∀ k (h : k < l.length), l[k].env ≠ b → (valuesFrom l x)[k]? = (valuesFrom l keeps)[k]?)) : allE l [⟨g, sidesFrom l 0 b⟩] keeps now next = (upFrom 0 (prodV l).toNat).filter f := by
  have h0 := prodV_pos hp
  refine rise_ext (sortUp _).1 ((upFrom_rise _ _).filter _) fun x => ?_
  rw [all_sides hp hk ht, List.mem_filter, upFrom_mem]
  constructor
  · rintro ⟨hx, h⟩
    exact ⟨⟨hx.1, by omega⟩, (hf x hx.1 hx.2).2 h⟩
  · rintro ⟨hx, h⟩
    exact ⟨⟨hx.1, by omega⟩, (hf x hx.1 (by omega)).1 h⟩
theorem mask_get {l : List Va} {xs : List Int} {b : Bool} {k : Nat} (h : k < l.length) (hx : xs.length = l.length) : (maskE b l xs)[k]? = if l[k].env = b then xs[k]? else some (lowV l[k]) := by
  rw [maskE_get h (by omega), List.getElem?_eq_getElem (show k < xs.length by omega)]
  split <;> rfl
theorem pick_iff {l : List Va} {S x : Int} (hm : mayV l = 0) (hS : valuesOk l S = true) (h0 : 0 ≤ x) (h1 : x < prodV l) : pickE l x = true ↔ ∀ k (h : k < l.length), l[k].env ≠ true → (valuesFrom l x)[k]? = (valuesFrom l (partE l S true))[k]? := by
  obtain ⟨ht, hp, hP⟩ := total_prod hm
  have okx : valuesOk l x = true := valuesOk_iff.2 ⟨hm, h0, by rw [ht]; exact h1⟩
  have hr := InR_values hp h0
  have hrS := InR_values hp (valuesOk_iff.1 hS).2.1
  have hq := InR_mask (env := true) hp hr
  have e : pickE l x = true ↔ maskE true l (valuesFrom l x) = valuesFrom l x := by
    unfold pickE
    rw [decide_eq_true h0, Bool.true_and, beq_iff_eq, part_of okx]
    constructor
    · intro h
      have := congrArg (valuesFrom l) h
      rw [values_state hp hq] at this
      exact this
    · intro h
      rw [h]; exact state_values hp h0 h1
  rw [e, part_of hS, values_state hp (InR_mask hp hrS)]
  constructor
  · intro h k hk c
    rw [mask_get hk hrS.len, if_neg c, ← h, mask_get hk hr.len, if_neg c]
  · intro h
    apply List.ext_getElem?
    intro k
    by_cases hk : k < l.length
    · rw [mask_get hk hr.len]
      by_cases c : l[k].env = true
      · rw [if_pos c]
      · rw [if_neg c, h k hk c, mask_get hk hrS.len, if_neg c]
    · rw [List.getElem?_eq_none (by rw [maskE_len hr.len]; omega), List.getElem?_eq_none (by rw [hr.len]; omega)]
theorem of_pick_iff {l : List Va} {S P x : Int} (hm : mayV l = 0) (hS : valuesOk l S = true) (hP : valuesOk l P = true) (h0 : 0 ≤ x) (h1 : x < prodV l) : (partE l x true == partE l P true) = true ↔ ∀ k (h : k < l.length), l[k].env ≠ false → (valuesFrom l x)[k]? = (valuesFrom l (mixedE l S (partE l P true)))[k]? := by
  obtain ⟨ht, hp, _⟩ := total_prod hm
  have okx : valuesOk l x = true := valuesOk_iff.2 ⟨hm, h0, by rw [ht]; exact h1⟩
  have hr := InR_values hp h0
  have hrS := InR_values hp (valuesOk_iff.1 hS).2.1
  have hrP := InR_values hp (valuesOk_iff.1 hP).2.1
  have hq := InR_mask (env := true) hp hr
  have hqP := InR_mask (env := true) hp hrP
  have e : (partE l x true == partE l P true) = true ↔ maskE true l (valuesFrom l x) = maskE true l (valuesFrom l P) := by
    rw [beq_iff_eq, part_of okx, part_of hP]
    constructor
    · intro h
      have := congrArg (valuesFrom l) h
      rw [values_state hp hq, values_state hp hqP] at this
      exact this
    · intro h
      rw [h]
  have em : valuesFrom l (mixedE l S (partE l P true)) = mixE l (valuesFrom l S) (maskE true l (valuesFrom l P)) := by
    unfold mixedE
    rw [part_of hP, values_state hp hqP, values_state hp (InR_mix hrS hqP)]
  rw [e, em]
  have gm : ∀ k (h : k < l.length), l[k].env ≠ false → (mixE l (valuesFrom l S) (maskE true l (valuesFrom l P)))[k]? = (valuesFrom l P)[k]? := by
    intro k hk c
    have c' : l[k].env = true := by simpa using c
    have a := mask_get (b := true) hk hrP.len
    rw [if_pos c', List.getElem?_eq_getElem (show k < (maskE true l (valuesFrom l P)).length by rw [hqP.len]; exact hk)] at a
    rw [mixE_get hk (by rw [hrS.len]; exact hk) (by rw [hqP.len]; exact hk), if_pos c', a]
  constructor
  · intro h k hk c
    have c' : l[k].env = true := by simpa using c
    rw [gm k hk c]
    have := congrArg (fun z => z[k]?) h
    rw [mask_get hk hr.len, mask_get hk hrP.len, if_pos c', if_pos c'] at this
    exact this
  · intro h
    apply List.ext_getElem?
    intro k
    by_cases hk : k < l.length
    · rw [mask_get hk hr.len, mask_get hk hrP.len]
      by_cases c : l[k].env = true
      · rw [if_pos c, if_pos c, h k hk (by simp [c]), gm k hk (by simp [c])]
      · rw [if_neg c, if_neg c]
    · rw [List.getElem?_eq_none (by rw [maskE_len hr.len]; omega), List.getElem?_eq_none (by rw [maskE_len hrP.len]; omega)]
/-! How many -/
def cnt (n : Nat) (f : Int → Bool) : Nat := ((upFrom 0 n).filter f).length
theorem upFrom_add : ∀ (m n : Nat) (i : Int), upFrom i (m + n) = upFrom i m ++ upFrom (i + m) n
  | 0, n, i => by simp [upFrom]
  | m + 1, n, i => by
    rw [show m + 1 + n = (m + n) + 1 by omega]
    simp only [upFrom, List.cons_append]
    rw [upFrom_add m n (i + 1), show i + ((m + 1 : Nat) : Int) = i + 1 + (m : Int) by omega]
theorem upFrom_shift : ∀ (m : Nat) (i c : Int), upFrom (c + i) m = (upFrom i m).map (c + ·)
  | 0, _, _ => rfl
  | m + 1, i, c => by
    simp only [upFrom, List.map_cons]
    rw [show c + i + 1 = c + (i + 1) by omega, upFrom_shift m (i + 1) c]
theorem filter_len_map {f : Int → Bool} {g : Int → Int} (l : List Int) : ((l.map g).filter f).length = (l.filter (f ∘ g)).length := by rw [List.filter_map, List.length_map]
theorem cnt_mul {a : Nat} (ha : 0 < a) (q p : Int → Bool) : ∀ b, cnt (a * b) (fun s => q (s % a) && p (s / a)) = cnt a q * cnt b p
  | 0 => by simp [cnt, upFrom]
  | b + 1 => by
    have ih := cnt_mul ha q p b
    unfold cnt at ih ⊢
    rw [Nat.mul_succ, upFrom_add, List.filter_append, List.length_append, ih, upFrom_add b 1, List.filter_append, List.length_append, Nat.mul_add]
    congr 1
    have e : upFrom (0 + ((a * b : Nat) : Int)) a = (upFrom 0 a).map (((a * b : Nat) : Int) + ·) := by
      rw [← upFrom_shift]; congr 1; omega
    rw [e, filter_len_map]
    have hc : ∀ d ∈ upFrom 0 a, ((fun s => q (s % a) && p (s / a)) ∘ (((a * b : Nat) : Int) + ·)) d = (q d && p b) := by
      intro d hd
      obtain ⟨d0, d1⟩ := upFrom_mem.1 hd
      have e1 : (((a * b : Nat) : Int) + d) % (a : Int) = d := by
        rw [Int.natCast_mul, Int.add_comm, Int.add_mul_emod_self_left, Int.emod_eq_of_lt d0 (by omega)]
      have e2 : (((a * b : Nat) : Int) + d) / (a : Int) = b := by
        rw [Int.natCast_mul, Int.add_comm, Int.add_mul_ediv_left _ _ (by omega), Int.ediv_eq_zero_of_lt d0 (by omega), Int.zero_add]
      simp only [Function.comp, e1, e2]
    rw [List.filter_congr hc]
    simp only [upFrom, Int.zero_add]
    cases c : p (b : Int) with
    | true => simp [c]
    | false => simp [c]
theorem cnt_all (a : Nat) : cnt a (fun _ => true) = a := by
  unfold cnt
  rw [List.filter_eq_self.2 (fun _ _ => rfl), upFrom_len]
theorem cnt_one {c : Int} : ∀ (m : Nat) (i : Int), ((upFrom i m).filter fun d => decide (d = c)).length = if i ≤ c ∧ c < i + (m : Int) then 1 else 0
  | 0, i => by
    rw [if_neg (by omega)]; rfl
  | m + 1, i => by
    have ih := cnt_one (c := c) m (i + 1)
    simp only [upFrom]
    by_cases e : i = c
    · rw [List.filter_cons_of_pos (by simpa using e), List.length_cons, ih, if_neg (by omega), if_pos (by omega)]
    · rw [List.filter_cons_of_neg (by simpa using e), ih]
      by_cases d : i + 1 ≤ c ∧ c < i + 1 + (m : Int)
      · rw [if_pos d, if_pos (by omega)]
      · rw [if_neg d, if_neg (by omega)]
def PA : List Va → Int → Bool
  | [], _ => true
  | v :: r, s => (v.env || decide (s % sizeV v = 0)) && PA r (s / sizeV v)
def PB : List Va → Int → Int → Bool
  | [], _, _ => true
  | v :: r, p, s => (!v.env || decide (s % sizeV v = p % sizeV v)) && PB r (p / sizeV v) (s / sizeV v)
theorem PA_iff : ∀ {l : List Va} {s : Int}, Pos l → 0 ≤ s → (PA l s = true ↔ maskE true l (valuesFrom l s) = valuesFrom l s)
  | [], s, _, _ => by simp [PA, maskE, valuesFrom]
  | v :: r, s, hp, h0 => by
    have hd := Int.ediv_nonneg h0 (Int.le_of_lt hp.head)
    have ih := PA_iff (l := r) (s := s / sizeV v) hp.tail hd
    have e : maskE true (v :: r) (valuesFrom (v :: r) s) = (if v.env = true then lowV v + s % sizeV v else lowV v) :: maskE true r (valuesFrom r (s / sizeV v)) := by
      simp only [valuesFrom, Int.tdiv_eq_ediv_of_nonneg h0, Int.tmod_eq_emod_of_nonneg h0]
      rfl
    have e2 : valuesFrom (v :: r) s = (lowV v + s % sizeV v) :: valuesFrom r (s / sizeV v) := by
      simp only [valuesFrom, Int.tdiv_eq_ediv_of_nonneg h0, Int.tmod_eq_emod_of_nonneg h0]
    rw [e, e2, List.cons.injEq, ← ih]
    simp only [PA, Bool.and_eq_true, Bool.or_eq_true, decide_eq_true_eq]
    refine and_congr_left fun _ => ?_
    cases c : v.env with
    | true => simp
    | false => simp; omega
theorem PB_iff : ∀ {l : List Va} {p s : Int}, Pos l → 0 ≤ p → 0 ≤ s → (PB l p s = true ↔ maskE true l (valuesFrom l s) = maskE true l (valuesFrom l p))
  | [], p, s, _, _, _ => by simp [PB, maskE, valuesFrom]
  | v :: r, p, s, hp, h0, h1 => by
    have hd := Int.ediv_nonneg h0 (Int.le_of_lt hp.head)
    have hd1 := Int.ediv_nonneg h1 (Int.le_of_lt hp.head)
    have ih := PB_iff (l := r) (p := p / sizeV v) (s := s / sizeV v) hp.tail hd hd1
    have e : ∀ s, 0 ≤ s → maskE true (v :: r) (valuesFrom (v :: r) s) = (if v.env = true then lowV v + s % sizeV v else lowV v) :: maskE true r (valuesFrom r (s / sizeV v)) := by
      intro s h0
      simp only [valuesFrom, Int.tdiv_eq_ediv_of_nonneg h0, Int.tmod_eq_emod_of_nonneg h0]
      rfl
    rw [e s h1, e p h0, List.cons.injEq, ← ih]
    simp only [PB, Bool.and_eq_true, Bool.or_eq_true, decide_eq_true_eq, Bool.not_eq_true']
    refine and_congr_left fun _ => ?_
    cases c : v.env with
    | true => simp
    | false => simp
theorem cnt_two : ∀ {l : List Va} {p : Int}, Pos l → cnt (prodV l).toNat (PA l) * cnt (prodV l).toNat (PB l p) = (prodV l).toNat
  | [], p, _ => by simp [prodV, cnt, upFrom, PA, PB]
  | v :: r, p, hp => by
    have ih := cnt_two (l := r) (p := p / sizeV v) hp.tail
    have hv := hp.head
    have hr := prodV_pos hp.tail
    obtain ⟨a, ea⟩ : ∃ a : Nat, sizeV v = (a : Int) := ⟨(sizeV v).toNat, by omega⟩
    have ha : 0 < a := by omega
    have en : (prodV (v :: r)).toNat = a * (prodV r).toNat := by
      simp only [prodV]
      rw [Int.toNat_mul (by omega) (by omega), ea]
      rfl
    have c1 : cnt (prodV (v :: r)).toNat (PA (v :: r)) = cnt a (fun d => v.env || decide (d = 0)) * cnt (prodV r).toNat (PA r) := by
      rw [en, ← cnt_mul ha, ← ea]
      rfl
    have c2 : cnt (prodV (v :: r)).toNat (PB (v :: r) p) = cnt a (fun d => !v.env || decide (d = p % sizeV v)) * cnt (prodV r).toNat (PB r (p / sizeV v)) := by
      rw [en, ← cnt_mul ha, ← ea]
      rfl
    have p0 := Int.emod_nonneg p (show sizeV v ≠ 0 by omega)
    have p1 := Int.emod_lt_of_pos p hv
    have two : cnt a (fun d => v.env || decide (d = 0)) * cnt a (fun d => !v.env || decide (d = p % sizeV v)) = a := by
      cases c : v.env with
      | true =>
        have : cnt a (fun d => !true || decide (d = p % sizeV v)) = 1 := by
          show ((upFrom 0 a).filter fun d => decide (d = p % sizeV v)).length = 1
          rw [cnt_one, if_pos (by omega)]
        rw [this]
        show cnt a (fun _ => true) * 1 = a
        rw [cnt_all, Nat.mul_one]
      | false =>
        have : cnt a (fun d => false || decide (d = 0)) = 1 := by
          show ((upFrom 0 a).filter fun d => decide (d = 0)).length = 1
          rw [cnt_one, if_pos (by omega)]
        rw [this]
        show 1 * cnt a (fun _ => true) = a
        rw [cnt_all, Nat.one_mul]
    rw [c1, c2, en]
    calc _ = (cnt a (fun d => v.env || decide (d = 0)) * cnt a (fun d => !v.env || decide (d = p % sizeV v))) * (cnt (prodV r).toNat (PA r) * cnt (prodV r).toNat (PB r (p / sizeV v))) := Nat.mul_mul_mul_comm ..
      _ = _ := by rw [two, ih]
end Go.AM
