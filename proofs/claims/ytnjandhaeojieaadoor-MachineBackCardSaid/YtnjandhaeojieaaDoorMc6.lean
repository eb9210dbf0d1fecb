/- Lists of bytes parted at a byte; numbers of digits. -/
import Derived.Test.YtnjandhaeojieaaDoorMc5
set_option linter.unusedVariables false
set_option linter.unusedSimpArgs false
namespace Go.AM
open Go.Proofs.YtnjandhaeojieaaDoor
def splitL (c : UInt8) : List UInt8 → List (List UInt8)
  | [] => [[]]
  | x :: l => if x = c then [] :: splitL c l else (x :: (splitL c l).headD []) :: (splitL c l).tail
theorem splitL_cons (c : UInt8) (l : List UInt8) : ∃ a r, splitL c l = a :: r := by
  cases l with
  | nil => exact ⟨_, _, rfl⟩
  | cons x l =>
    unfold splitL
    split
    · exact ⟨_, _, rfl⟩
    · exact ⟨_, _, rfl⟩
theorem splitL_app {c : UInt8} : ∀ {a : List UInt8} (l : List UInt8), c ∉ a → splitL c (a ++ c :: l) = a :: splitL c l
  | [], l, _ => by simp [splitL]
  | x :: a, l, h => by
    rw [List.cons_append, splitL, if_neg (fun e => h (by rw [e]; exact List.mem_cons_self ..)), splitL_app l fun e => h (List.mem_cons_of_mem _ e)]
    rfl
theorem splitL_none {c : UInt8} : ∀ {a : List UInt8}, c ∉ a → splitL c a = [a]
  | [], _ => rfl
  | x :: a, h => by
    rw [splitL, if_neg (fun e => h (by rw [e]; exact List.mem_cons_self ..)), splitL_none fun e => h (List.mem_cons_of_mem _ e)]
    rfl
theorem splitL_len (c : UInt8) : ∀ l, (splitL c l).length = l.count c + 1
  | [] => rfl
  | x :: l => by
    obtain ⟨a, r, e⟩ := splitL_cons c l
    have ih := splitL_len c l
    rw [e] at ih
    rw [splitL, e, List.count_cons]
    by_cases h : x = c
    · simp [h] at ih ⊢
      omega
    · simp [h] at ih ⊢
      omega
theorem splitL_free (c : UInt8) : ∀ l a, a ∈ splitL c l → c ∉ a
  | [], a, h => by simp [splitL] at h; simp [h]
  | x :: l, a, h => by
    obtain ⟨b, r, e⟩ := splitL_cons c l
    have ih := splitL_free c l
    rw [e] at ih
    rw [splitL, e] at h
    by_cases hx : x = c
    · rw [if_pos hx] at h
      rcases List.mem_cons.1 h with rfl | h
      · simp
      · exact ih a h
    · rw [if_neg hx] at h
      rcases List.mem_cons.1 h with rfl | h
      · intro h'
        rcases List.mem_cons.1 h' with h' | h'
        · exact hx h'.symm
        · exact ih b (List.mem_cons_self ..) h'
      · exact ih a (List.mem_cons_of_mem _ h)
def joinL (c : UInt8) : List (List UInt8) → List UInt8
  | [] => []
  | [a] => a
  | a :: b :: r => a ++ c :: joinL c (b :: r)
theorem joinL_cons (c : UInt8) (a : List UInt8) {r : List (List UInt8)} (h : r ≠ []) : joinL c (a :: r) = a ++ c :: joinL c r := by
  cases r with
  | nil => exact absurd rfl h
  | cons b r => rfl
theorem joinL_split (c : UInt8) : ∀ l, joinL c (splitL c l) = l
  | [] => rfl
  | x :: l => by
    obtain ⟨a, r, e⟩ := splitL_cons c l
    have ih := joinL_split c l
    rw [e] at ih
    rw [splitL, e]
    by_cases h : x = c
    · rw [if_pos h, joinL_cons c _ (by simp), ih, h]
      rfl
    · rw [if_neg h]
      show joinL c ((x :: a) :: r) = _
      cases r with
      | nil => exact congrArg (x :: ·) ih
      | cons b r => exact congrArg (x :: ·) ih
theorem split_joinL (c : UInt8) : ∀ (a : List UInt8) (r : List (List UInt8)), (∀ x, x ∈ a :: r → c ∉ x) → splitL c (joinL c (a :: r)) = a :: r
  | a, [], h => splitL_none (h a (List.mem_cons_self ..))
  | a, b :: r, h => by
    rw [joinL_cons c a (by simp), splitL_app _ (h a (List.mem_cons_self ..)), split_joinL c b r fun x hx => h x (List.mem_cons_of_mem _ hx)]
theorem index_none {c : UInt8} : ∀ {l : List UInt8}, l.count c = 0 → Lib.indexByte l c = -1 ∧ splitL c l = [l]
  | [], _ => ⟨rfl, rfl⟩
  | x :: l, h => by
    have h' := h
    rw [List.count_cons] at h'
    obtain ⟨h1, h2⟩ : l.count c = 0 ∧ ¬ (x == c) = true := by
      constructor
      · omega
      · intro e; rw [if_pos e] at h'; omega
    obtain ⟨i1, i2⟩ := index_none h1
    refine ⟨?_, splitL_none fun e => by have := List.count_pos_iff.2 e; omega⟩
    unfold Lib.indexByte
    rw [if_neg h2, i1]
    rfl
theorem index_some {c : UInt8} : ∀ {l : List UInt8}, 0 < l.count c → ∃ i : Nat, Lib.indexByte l c = (i : Int) ∧ i < l.length ∧ splitL c l = l.take i :: splitL c (l.drop (i + 1)) ∧ l.count c = (l.drop (i + 1)).count c + 1
  | [], h => absurd h (by simp)
  | x :: l, h => by
    rw [List.count_cons] at h
    by_cases hx : x = c
    · subst hx
      refine ⟨0, by unfold Lib.indexByte; simp, by simp, by simp [splitL], by simp⟩
    · have hx' : ¬ (x == c) = true := by simpa using hx
      rw [if_neg hx'] at h
      obtain ⟨i, h1, h2, h3, h4⟩ := index_some (l := l) (by omega)
      refine ⟨i + 1, ?_, by simp; omega, ?_, ?_⟩
      · unfold Lib.indexByte
        rw [if_neg hx', h1, if_neg (by simp)]
        omega
      · rw [splitL, if_neg hx, h3]
        rfl
      · rw [List.count_cons, if_neg hx', h4]
        rfl
def valD (l : List UInt8) : Nat := l.foldl (fun a b => a * 10 + (b.toNat - 48)) 0
theorem valD_snoc (l : List UInt8) (b : UInt8) : valD (l ++ [b]) = valD l * 10 + (b.toNat - 48) := by simp [valD]
def isD (b : UInt8) : Bool := decide (48 ≤ b.toNat) && decide (b.toNat ≤ 57)
def digM (l : List UInt8) : Option Nat := if (1 ≤ l.length ∧ l.length ≤ 6) ∧ (1 < l.length → l.head? ≠ some 48) ∧ l.all isD = true then some (valD l) else none
theorem valD_lt : ∀ (n : Nat) (l : List UInt8), l.length = n → l.all isD = true → valD l < 10 ^ n := by
  intro n
  induction n with
  | zero => intro l h _; obtain rfl := List.length_eq_zero_iff.1 h; decide
  | succ n ih =>
    intro l h ha
    obtain ⟨l', b, rfl⟩ : ∃ l' b, l = l' ++ [b] := by
      rcases List.eq_nil_or_concat l with rfl | ⟨l', b, rfl⟩
      · cases h
      · exact ⟨l', b, by simp⟩
    rw [List.all_append, Bool.and_eq_true] at ha
    have := ih l' (by simp at h; omega) ha.1
    have hb : isD b = true := by simpa using ha.2
    unfold isD at hb
    simp only [Bool.and_eq_true, decide_eq_true_eq] at hb
    rw [valD_snoc, Nat.pow_succ]
    omega
theorem dec_val : ∀ (n : Nat) (l : List UInt8), l.length = n + 1 → (1 < l.length → l.head? ≠ some 48) → l.all isD = true → Lib.decDigits (valD l) = l ∧ (l.head? ≠ some 48 → 1 ≤ valD l) := by
  intro n
  induction n with
  | zero =>
    intro l h _ ha
    obtain ⟨b, rfl⟩ : ∃ b, l = [b] := List.length_eq_one_iff.1 h
    have hb : isD b = true := by simpa using ha
    unfold isD at hb
    simp only [Bool.and_eq_true, decide_eq_true_eq] at hb
    have hv : valD [b] = b.toNat - 48 := by simp [valD]
    rw [hv]
    refine ⟨?_, fun hh => ?_⟩
    · rw [Lib.decDigits, dif_pos (by omega), show 48 + (b.toNat - 48) = b.toNat by omega]
      simp
    · have : b.toNat ≠ 48 := fun e => hh (by rw [show b = 48 from UInt8.toNat_inj.1 (by rw [e]; rfl)]; rfl)
      omega
  | succ n ih =>
    intro l h hl ha
    obtain ⟨l', b, rfl⟩ : ∃ l' b, l = l' ++ [b] := by
      rcases List.eq_nil_or_concat l with rfl | ⟨l', b, rfl⟩
      · cases h
      · exact ⟨l', b, by simp⟩
    rw [List.all_append, Bool.and_eq_true] at ha
    have hb : isD b = true := by simpa using ha.2
    unfold isD at hb
    simp only [Bool.and_eq_true, decide_eq_true_eq] at hb
    have hlen : l'.length = n + 1 := by simp at h; omega
    have hhd : (l' ++ [b]).head? = l'.head? := by
      cases l' with
      | nil => simp at hlen
      | cons x l' => rfl
    have h0 := hl (by rw [h]; omega)
    rw [hhd] at h0 ⊢
    obtain ⟨i1, i2⟩ := ih l' hlen (fun _ => h0) ha.1
    have := i2 h0
    rw [valD_snoc]
    refine ⟨?_, fun _ => by omega⟩
    rw [Lib.decDigits, dif_neg (by omega), show (valD l' * 10 + (b.toNat - 48)) / 10 = valD l' by omega, i1, show 48 + (valD l' * 10 + (b.toNat - 48)) % 10 = b.toNat by omega]
    simp
theorem dec_ok : ∀ (n v : Nat), v < 10 ^ (n + 1) → (Lib.decDigits v).all isD = true ∧ 1 ≤ (Lib.decDigits v).length ∧ (1 < (Lib.decDigits v).length → (Lib.decDigits v).head? ≠ some 48) ∧ valD (Lib.decDigits v) = v ∧ (0 < v → (Lib.decDigits v).head? ≠ some 48) := by
  have small : ∀ v, v < 10 → (Lib.decDigits v).all isD = true ∧ 1 ≤ (Lib.decDigits v).length ∧ (1 < (Lib.decDigits v).length → (Lib.decDigits v).head? ≠ some 48) ∧ valD (Lib.decDigits v) = v ∧ (0 < v → (Lib.decDigits v).head? ≠ some 48) := by
    intro v hv
    rw [Lib.decDigits, dif_pos hv]
    have hn : (UInt8.ofNat (48 + v)).toNat = 48 + v := by
      rw [UInt8.toNat_ofNat']
      omega
    refine ⟨by simp [isD, hn]; omega, by simp, by simp, by simp [valD, hn]; omega, fun h0 e => ?_⟩
    have := congrArg UInt8.toNat (Option.some.inj e)
    rw [hn] at this
    have : 48 + v = 48 := this
    omega
  intro n
  induction n with
  | zero => intro v hv; exact small v (by simpa using hv)
  | succ n ih =>
    intro v hv
    by_cases h : v < 10
    · exact small v h
    obtain ⟨h1, h2, h3, h4, h5⟩ := ih (v / 10) (by rw [Nat.pow_succ] at hv; omega)
    have e : Lib.decDigits v = Lib.decDigits (v / 10) ++ [UInt8.ofNat (48 + v % 10)] := by rw [Lib.decDigits, dif_neg h]
    have hn : (UInt8.ofNat (48 + v % 10)).toNat = 48 + v % 10 := by
      rw [UInt8.toNat_ofNat']
      omega
    have hh : (Lib.decDigits v).head? = (Lib.decDigits (v / 10)).head? := by
      rw [e]
      cases hd : Lib.decDigits (v / 10) with
      | nil => rw [hd] at h2; simp at h2
      | cons x l => rfl
    have h6 := h5 (by omega)
    rw [hh]
    refine ⟨?_, ?_, fun _ => h6, ?_, fun _ => h6⟩
    · rw [e, List.all_append, h1]
      simp [isD, hn]
      omega
    · rw [e]; simp
    · rw [e, valD_snoc, h4, hn]
      omega
theorem digM_iff (l : List UInt8) (v : Nat) : digM l = some v ↔ l = Lib.decDigits v ∧ v < 1000000 := by
  unfold digM
  constructor
  · intro h
    split at h
    · rename_i c
      obtain rfl := Option.some.inj h
      refine ⟨(dec_val (l.length - 1) l (by omega) c.2.1 c.2.2).1.symm, ?_⟩
      have h1 := valD_lt _ l rfl c.2.2
      have h2 : 10 ^ l.length ≤ 10 ^ 6 := Nat.pow_le_pow_right (by decide) c.1.2
      have : (10 : Nat) ^ 6 = 1000000 := by decide
      omega
    · cases h
  · rintro ⟨rfl, hv⟩
    obtain ⟨h1, h2, h3, h4, _⟩ := dec_ok 5 v hv
    rw [if_pos ⟨⟨h2, digits_len 5 v hv⟩, h3, h1⟩, h4]
end Go.AM
