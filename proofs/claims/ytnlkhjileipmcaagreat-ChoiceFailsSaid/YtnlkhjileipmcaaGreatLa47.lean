/- The law ChoiceFails: a command in which one value is out of its range leads nowhere. -/
import Derived.Test.YtnlkhjileipmcaaGreatLa45
set_option linter.unusedVariables false
set_option linter.unusedSimpArgs false
namespace Go.AM
open Go.Proofs.YtnlkhjileipmcaaGreat
theorem add_over (now next : List Int) : (valE now next (.mk 12 0 [.mk 1 1000 [], .mk 1 1 []])).2 ≠ 0 := by
  simp [valE, valL, nodeV, twoE]
theorem num_val (now next : List Int) (n : Int) : valE now next (.mk 1 n []) = (n, 0) := by
  simp [valE, nodeV]
theorem leads_none {l : List Va} {g : Ex} {A : List Se} {s : Se} {keeps now next : Int} (h : valuesS l s now next = []) : leadsE l ⟨g, A ++ [s]⟩ keeps now next = [] := by
  unfold leadsE
  split
  · simp only [List.foldl_append, List.foldl_cons, List.foldl_nil]
    unfold stepE
    rw [h]; rfl
  · rfl
theorem env_none {l : List Va} {ie is g : Ex} {A : List Se} {s : Se} {ts : List Cm} {ta tn tp : List Ex} (st : Int) (h : valuesS l s st st = []) : envE ⟨l, ie, is, [⟨g, A ++ [s]⟩], ts, ta, tn, tp⟩ st = [] := by
  unfold envE
  split
  · rfl
  · split
    · rfl
    · unfold allE
      simp only [List.flatMap_cons, List.flatMap_nil, List.append_nil]
      rw [leads_none h, List.mergeSort_nil]
      rfl
theorem values_num {l : List Va} {q st : Int} (h0 : 0 ≤ q) (h1 : q < (l.length : Int)) (hs : (vaOf l q).sort = 2) (hp : Pos l) : valuesS l ⟨q, false, .mk 1 ((vaOf l q).hi + 1) []⟩ st st = [] := by
  have hpos : 0 < sizeV (vaOf l q) := by
    have e : vaOf l q = l[q.toNat]'(by omega) := by unfold vaOf; rw [List.getElem?_eq_getElem (by omega)]; rfl
    rw [e]; exact hp _ (List.getElem_mem _)
  have hsz : lowV (vaOf l q) + sizeV (vaOf l q) = (vaOf l q).hi + 1 := by
    unfold sizeV at hpos ⊢
    unfold lowV
    rw [if_neg (by omega)] at hpos
    rw [if_neg (by omega), if_neg (by omega)]
    split
    · omega
    · rename_i c; rw [if_neg c] at hpos; omega
  unfold valuesS
  rw [if_neg (by simp)]
  rw [if_pos]
  show (valueE l _ st st).2 ≠ 0 ∨ _
  unfold valueE
  split
  · rename_i c; exact .inl c
  · split
    · exact .inl (by simp)
    · rw [num_val]
      exact .inr (.inr (by show lowV (vaOf l q) + sizeV (vaOf l q) ≤ _; omega))
theorem values_add {l : List Va} {q st : Int} : valuesS l ⟨q, false, .mk 12 0 [.mk 1 1000 [], .mk 1 1 []]⟩ st st = [] := by
  unfold valuesS
  rw [if_neg (by simp)]
  rw [if_pos]
  show (valueE l _ st st).2 ≠ 0 ∨ _
  unfold valueE
  split
  · rename_i c; exact .inl c
  · split
    · exact .inl (by simp)
    · exact .inl (add_over _ _)
end Go.AM
namespace Go.Proofs.YtnlkhjileipmcaaGreat
open Go.AM
/-- The sets but those of one variable: how many, and which. -/
def push5 (n : Nat) (g : Nat → Nat → T) (t : T) (i : Nat) : Nat → Nat → T := fun a b => (bif Nat.blt a n then (g a b) else ((([[(T.i ((t.el i 0).int)), (T.b ((t.el i 1).bool)), (T.i ((t.el i 2).int)), (T.i ((t.el i 3).int)), (t.el i 4)]] : List (List T)).getD (0 + (a - n)) []).getD b (.b false)))
def filtN (t : T) (q : Int) : Nat → Nat
  | 0 => 0
  | i + 1 => if (t.el i 0).int ≠ q then filtN t q i + 1 else filtN t q i
def filtG (t : T) (q : Int) : Nat → Nat → Nat → T
  | 0 => fun _ _ => .b false
  | i + 1 => if (t.el i 0).int ≠ q then push5 (filtN t q i) (filtG t q i) t i else filtG t q i
theorem filtN_le (t : T) (q : Int) : ∀ i, filtN t q i ≤ i
  | 0 => Nat.le_refl _
  | i + 1 => by
    have := filtN_le t q i
    unfold filtN
    split <;> omega
theorem filtG_KW {t : T} (ht : KS t) (q : Int) : ∀ i, i ≤ t.len → ∀ j, j < filtN t q i → KW (filtG t q i j 4)
  | 0, _, j, hj => absurd hj (Nat.not_lt_zero _)
  | i + 1, hi, j, hj => by
    unfold filtN at hj
    unfold filtG
    by_cases c : (t.el i 0).int ≠ q
    · rw [if_pos c] at hj ⊢
      unfold push5
      by_cases d : j < filtN t q i
      · rw [show Nat.blt j (filtN t q i) = true by rw [Nat.blt_eq]; exact d]
        exact filtG_KW ht q i (by omega) j d
      · obtain rfl : j = filtN t q i := by omega
        have hb : Nat.blt (filtN t q i) (filtN t q i) = false := by
          cases hc : Nat.blt (filtN t q i) (filtN t q i) with
          | false => rfl
          | true => rw [Nat.blt_eq] at hc; omega
        rw [hb, Nat.sub_self]
        exact ht.2 i (by omega)
    · rw [if_neg c] at hj ⊢
      exact filtG_KW ht q i (by omega) j hj
def lastT (n : Nat) (g : Nat → Nat → T) (q o m : Int) (k : T) : T := T.l ((0 + n) + 1) (fun i j => (bif Nat.blt (0 + i) (0 + n) then (bif Nat.blt (0 + i) 0 then ((([] : List (List T)).getD (0 + i) []).getD j (.b false)) else (g (0 + (0 + i)) j)) else ((([[(T.i q), (T.b false), (T.i o), (T.i m), k]] : List (List T)).getD (0 + ((0 + i) - (0 + n))) []).getD j (.b false))))
theorem lastT_lt {n : Nat} {g : Nat → Nat → T} {q o m : Int} {k : T} {i j : Nat} (h : i < n) : (lastT n g q o m k).el i j = g i j := by
  show (bif Nat.blt (0 + i) (0 + n) then (bif Nat.blt (0 + i) 0 then _ else (g (0 + (0 + i)) j)) else _) = g i j
  rw [show Nat.blt (0 + i) (0 + n) = true by rw [Nat.blt_eq]; omega]
  show g (0 + (0 + i)) j = _
  rw [Nat.zero_add, Nat.zero_add]
theorem lastT_at (n : Nat) (g : Nat → Nat → T) (q o m : Int) (k : T) (j : Nat) : (lastT n g q o m k).el n j = ([(T.i q), (T.b false), (T.i o), (T.i m), k] : List T).getD j (.b false) := by
  show (bif Nat.blt (0 + n) (0 + n) then _ else ((([[(T.i q), (T.b false), (T.i o), (T.i m), k]] : List (List T)).getD (0 + ((0 + n) - (0 + n))) []).getD j (.b false))) = _
  have hb : Nat.blt (0 + n) (0 + n) = false := by
    cases hc : Nat.blt (0 + n) (0 + n) with
    | false => rfl
    | true => rw [Nat.blt_eq] at hc; omega
  rw [hb, Nat.sub_self]
  rfl
theorem setsOf_last (n : Nat) (g : Nat → Nat → T) (q o m : Int) (k : T) : ∃ A, setsOf (lastT n g q o m k) = A ++ [⟨q, false, .mk o m (kidsOf k)⟩] := by
  refine ⟨(List.range n).map (seAt (lastT n g q o m k)), ?_⟩
  unfold setsOf
  have e : (lastT n g q o m k).len = n + 1 := by show (0 + n) + 1 = _; omega
  rw [e, List.range_succ, List.map_append]
  congr 1
  simp only [List.map_cons, List.map_nil, seAt, lastT_at]
  rfl
theorem KS_last {n : Nat} {g : Nat → Nat → T} {q o m : Int} {k : T} (hn : n ≤ 100) (hg : ∀ i, i < n → KW (g i 4)) (hk : KW k) : KS (lastT n g q o m k) := by
  have e : (lastT n g q o m k).len = n + 1 := by show (0 + n) + 1 = _; omega
  refine ⟨by rw [e]; omega, fun i hi => ?_⟩
  by_cases c : i < n
  · rw [lastT_lt c]; exact hg i c
  · obtain rfl : i = n := by omega
    rw [lastT_at]; exact hk
def oneC (o m : Int) (k s : T) : T := T.l 1 (fun i j => ((([[(T.i o), (T.i m), k, s]] : List (List T)).getD (0 + i) []).getD j (.b false)))
theorem cmdsOf_one (o m : Int) (k s : T) : cmdsOf (oneC o m k s) = [⟨.mk o m (kidsOf k), setsOf s⟩] := rfl
def addT : T := T.l 2 (fun i j => ((([[(T.i 1), (T.i 1000), noT], [(T.i 1), (T.i 1), noT]] : List (List T)).getD (0 + i) []).getD j (.b false)))
theorem KW_add : KW addT := KW_two KW_noT KW_noT
theorem kids_add : kidsOf addT = [.mk 1 1000 [], .mk 1 1 []] := by simp only [addT, kidsOf]; rfl
section
variable {h : H} {l k1 k2 te ts ta tn tp ck t : T} {o1 n1 o2 n2 co cn st q x2 x3 x4 : Int} {x0 : ByteArray} {x1 : Bool}
theorem cfB0 (ht : t.len ≤ 100) {c : Nat} {Q : Option R} (hk : ∀ M, c ≤ M → parrylaw6_ChoiceFails.B0 h M (filtN t q t.len) st q t (t.len : Int) (t.len : Int) l o1 n1 k1 o2 n2 k2 te ts ta tn tp co cn ck t x0 x1 x2 x3 x4 (filtG t q t.len) = Q) :
    ∀ m i, i + m = t.len → ∀ M, c + 2 * m ≤ M → parrylaw6_ChoiceFails.B0 h M (filtN t q i) st q t (t.len : Int) (i : Int) l o1 n1 k1 o2 n2 k2 te ts ta tn tp co cn ck t x0 x1 x2 x3 x4 (filtG t q i) = Q
  | 0, i, hi, M, hM => by
    obtain rfl : i = t.len := by omega
    exact hk M (by omega)
  | m + 1, i, hi, M, hM => by
    obtain ⟨M, rfl⟩ : ∃ M', M = M' + 1 + 1 := ⟨M - 2, by omega⟩
    have ih := cfB0 ht hk m (i + 1) (by omega) M (by omega)
    have hn := filtN_le t q i
    have hlt : i < t.len := by omega
    unfold filtN filtG at ih
    rw [parrylaw6_ChoiceFails.B0_eq, Int.toNat_natCast]
    refine if_of (decide_eq_true (by omega)) (if_of (by simp; omega) ?_)
    by_cases d : (t.el i 0).int ≠ q
    · rw [if_pos d, if_pos d] at ih
      refine if_of (by simpa using d) (if_of (decide_eq_true (by omega)) ?_)
      rw [parrylaw6_ChoiceFails.B1_eq, wrap_eq (a := (i : Int) + 1) (by omega) (by omega)]
      exact ih
    · rw [if_neg d, if_neg d] at ih
      refine if_not (by simpa using d) ?_
      rw [parrylaw6_ChoiceFails.B1_eq, wrap_eq (a := (i : Int) + 1) (by omega) (by omega)]
      exact ih
end
theorem ChoiceFails_sp (l : T) (o1 n1 : Int) (k1 : T) (o2 n2 : Int) (k2 te ts ta tn tp : T) (co cn : Int) (ck ct : T) (st v : Int) (wl : WT Tryz.prog 22 l) (w1 : WT Tryz.prog 23 k1) (w2 : WT Tryz.prog 23 k2) (we : WT Tryz.prog 26 te) (ws : WT Tryz.prog 26 ts) (wa : WT Tryz.prog 23 ta) (wn : WT Tryz.prog 23 tn) (wp : WT Tryz.prog 23 tp) (wk : WT Tryz.prog 23 ck) (wt : WT Tryz.prog 47 ct) :
    Ev fun N => C_parrylaw6_ChoiceFails (K N) l o1 n1 k1 o2 n2 k2 te ts ta tn tp co cn ck ct st v = rb true := by
  have hl := WT_len wl
  have h1 := WT_KW w1
  have h2 := WT_KW w2
  have he := WT_KC we
  have hs := WT_KC ws
  have ha := WT_KW wa
  have hn := WT_KW wn
  have hp := WT_KW wp
  have hk := WT_KW wk
  have ht := WT_KS wt
  have base := Ev.imp4 (heavy6_sp l k1 k2 te ts ta tn tp hl h1 h2 he hs ha hn hp) (refMayM_sp l hl k1 k2 te ts ta tn tp h1 h2 he hs ha hn hp) (Ev.and (refMayCmd_sp l hl ck ct hk ht) (Total_sp l hl)) awake6_sp fun N a b c d => (⟨a, b, c, d⟩ : _ ∧ _ ∧ _ ∧ _)
  by_cases good : mayM ⟨varsOf l, .mk o1 n1 (kidsOf k1), .mk o2 n2 (kidsOf k2), cmdsOf te, cmdsOf ts, kidsOf ta, kidsOf tn, kidsOf tp⟩ = 0 ∧ prodV (varsOf l) ≤ 24 ∧ mayCmd (varsOf l) true ⟨.mk co cn (kidsOf ck), setsOf ct⟩ = 0 ∧ l.len ≠ 0
  case neg =>
    refine Ev.step (base.imp fun N hb => ?_)
    obtain ⟨hh, hr, ⟨hc, htot⟩, haw⟩ := hb
    obtain ⟨y, hy, hy2⟩ := hh o1 n1 o2 n2
    have aw : ((C_parrylaw6_awake (K N)).bind fun r => some (lookR [(0, T.b (r 0).bool)])) = rb true := by rw [haw]; rfl
    rw [C_parrylaw6_ChoiceFails_K]
    refine bind_of hy (if_both (fun _ => aw) fun c0 => bind_of (hr o1 n1 o2 n2) (if_both (fun _ => aw) fun c1 => bind_of (hc co cn true) (if_both (fun _ => aw) fun c2 => if_both (fun _ => aw) fun c3 => ?_)))
    exfalso
    have c0 : ¬ 0 < y := of_decide_eq_false c0
    have c1 : mayM ⟨varsOf l, .mk o1 n1 (kidsOf k1), .mk o2 n2 (kidsOf k2), cmdsOf te, cmdsOf ts, kidsOf ta, kidsOf tn, kidsOf tp⟩ = 0 := by simpa [lookR_0, int_i] using c1
    have c2 : mayCmd (varsOf l) true ⟨.mk co cn (kidsOf ck), setsOf ct⟩ = 0 := by simpa [lookR_0, int_i] using c2
    exact good ⟨c1, hy2 c0 (mayM_zero c1).1, c2, by simpa using c3⟩
  obtain ⟨c1, hP, c2, c3⟩ := good
  have cm := (mayM_zero c1).1
  simp only at cm
  obtain ⟨hto, hpos, hP5⟩ := total_prod cm
  have hpp := prodV_pos hpos
  have h6 := totalE_len (mayV_total cm)
  rw [varsOf_len] at h6
  have ct6 := (mayCmd_in c2).2
  simp only [setsOf_len] at ct6
  obtain ⟨q, hq⟩ : ∃ q, q = IntKind.wrap .i64 (Int.tmod (IntKind.wrap .u64 v) (IntKind.wrap .u64 (l.len : Int))) := ⟨_, rfl⟩
  have hqr := mod_range v (n := (l.len : Int)) (by omega) (by omega)
  rw [← hq] at hqr
  have hv : vaOf (varsOf l) q = vaAt l q.toNat := vaOf_at hqr.1 hqr.2
  have hKS1 : ∀ (m : Int × Int) (k : T), KW k → KS (lastT (filtN ct q ct.len) (filtG ct q ct.len) q m.1 m.2 k) := fun (m : Int × Int) k hk => KS_last (by have := filtN_le ct q ct.len; omega) (filtG_KW ht q ct.len (Nat.le_refl _)) hk
  have hC : ∀ (m : Int × Int) (k : T), KW k → KC (oneC co cn ck (lastT (filtN ct q ct.len) (filtG ct q ct.len) q m.1 m.2 k)) := fun (m : Int × Int) k hk' => KC_one rfl hk (hKS1 m k hk')
  have mA := cEnv_sp l k1 k2 (oneC co cn ck (lastT (filtN ct q ct.len) (filtG ct q ct.len) q 1 ((l.el q.toNat 4).int + 1) noT)) ts ta tn tp hl h1 h2 (hC (1, _) noT KW_noT) hs ha hn hp (fun _ => hP) o1 n1 o2 n2
  have mB := cEnv_sp l k1 k2 (oneC co cn ck (lastT (filtN ct q ct.len) (filtG ct q ct.len) q 12 0 addT)) ts ta tn tp hl h1 h2 (hC (12, 0) addT KW_add) hs ha hn hp (fun _ => hP) o1 n1 o2 n2
  refine Ev.step (Ev.imp4 base mA mB (Ev.ge 100) fun N hb hA hB hN => ?_)
  obtain ⟨hh, hr, ⟨hc, htot⟩, haw⟩ := hb
  obtain ⟨y, hy, hy2⟩ := hh o1 n1 o2 n2
  have aw : ((C_parrylaw6_awake (K N)).bind fun r => some (lookR [(0, T.b (r 0).bool)])) = rb true := by rw [haw]; rfl
  rw [C_parrylaw6_ChoiceFails_K]
  refine bind_of hy (if_both (fun _ => aw) fun c0 => bind_of (hr o1 n1 o2 n2) (if_not (by simp [lookR_0, int_i, c1]) (bind_of (hc co cn true) (if_not (by simp [lookR_0, int_i, c2]) (if_not (by simpa using c3) (bind_of htot ?_))))))
  rw [← hq]
  have hu : (!(IntKind.wrap .u64 (l.len : Int) == 0)) = true := by rw [wrapu_eq (by omega) (by omega)]; simp; omega
  refine if_not (decide_eq_false (by rw [lookR_0, int_i]; omega)) (if_of hu (if_of (by simp; omega) (if_both (fun _ => aw) fun d1 => if_both (fun _ => aw) fun d2 => if_both (fun _ => aw) fun d3 => ?_)))
  have d2 : (l.el q.toNat 2).int = 2 := by simpa using d2
  have d3 : ¬ (1000 : Int) ≤ (l.el q.toNat 4).int := of_decide_eq_false d3
  obtain ⟨N, rfl⟩ : ∃ M, N = M + 1 := ⟨N - 1, by omega⟩
  refine cfB0 (by omega) (c := 5) (fun M hM => ?_) ct.len 0 (by omega) (N + 1) (by omega)
  obtain ⟨M, rfl⟩ : ∃ M', M = M' + 1 := ⟨M - 1, by omega⟩
  have hfn := filtN_le ct q ct.len
  have hpq := hpos _ (List.mem_of_getElem? (varsOf_get l (i := q.toNat) (by omega)))
  have hhi : -1000 ≤ (l.el q.toNat 4).int := by
    have e : sizeV (vaAt l q.toNat) = if (l.el q.toNat 2).int = 1 then 2 else if (l.el q.toNat 2).int = 2 ∧ -1000 ≤ (l.el q.toNat 3).int ∧ (l.el q.toNat 3).int ≤ (l.el q.toNat 4).int ∧ (l.el q.toNat 4).int ≤ 1000 then (l.el q.toNat 4).int - (l.el q.toNat 3).int + 1 else 0 := rfl
    rw [e, if_neg (by omega)] at hpq
    by_cases c : (l.el q.toNat 2).int = 2 ∧ -1000 ≤ (l.el q.toNat 3).int ∧ (l.el q.toNat 3).int ≤ (l.el q.toNat 4).int ∧ (l.el q.toNat 4).int ≤ 1000
    · omega
    · rw [if_neg c] at hpq; omega
  have S := IntKind.wrap .i64 (Int.tmod (IntKind.wrap .u64 st) (IntKind.wrap .u64 (totalE (varsOf l))))
  have none1 : ∀ s, envE ⟨varsOf l, .mk o1 n1 (kidsOf k1), .mk o2 n2 (kidsOf k2), cmdsOf (oneC co cn ck (lastT (filtN ct q ct.len) (filtG ct q ct.len) q 1 ((l.el q.toNat 4).int + 1) noT)), cmdsOf ts, kidsOf ta, kidsOf tn, kidsOf tp⟩ s = [] := by
    intro s
    obtain ⟨A, eA⟩ := setsOf_last (filtN ct q ct.len) (filtG ct q ct.len) q 1 ((l.el q.toNat 4).int + 1) noT
    rw [cmdsOf_one, eA]
    refine env_none s ?_
    have := values_num (l := varsOf l) (st := s) hqr.1 (by rw [varsOf_len]; exact hqr.2) (by rw [hv]; exact d2) hpos
    rw [hv] at this
    exact this
  have none2 : ∀ s, envE ⟨varsOf l, .mk o1 n1 (kidsOf k1), .mk o2 n2 (kidsOf k2), cmdsOf (oneC co cn ck (lastT (filtN ct q ct.len) (filtG ct q ct.len) q 12 0 addT)), cmdsOf ts, kidsOf ta, kidsOf tn, kidsOf tp⟩ s = [] := by
    intro s
    obtain ⟨A, eA⟩ := setsOf_last (filtN ct q ct.len) (filtG ct q ct.len) q 12 0 addT
    rw [cmdsOf_one, eA]
    refine env_none s ?_
    rw [kids_add]
    exact values_add
  have gA := hA (IntKind.wrap .i64 (Int.tmod (IntKind.wrap .u64 st) (IntKind.wrap .u64 (totalE (varsOf l)))))
  have gB := hB (IntKind.wrap .i64 (Int.tmod (IntKind.wrap .u64 st) (IntKind.wrap .u64 (totalE (varsOf l)))))
  rw [none1] at gA
  rw [none2] at gB
  obtain ⟨tA, eA, lA, _⟩ := gA
  obtain ⟨tB, eB, lB, _⟩ := gB
  have lA : tA.len = 0 := lA
  have lB : tB.len = 0 := lB
  have hw : IntKind.wrap .i64 ((l.el q.toNat 4).int + 1) = (l.el q.toNat 4).int + 1 := wrap_eq (by omega) (by omega)
  have num1 : C_parrylaw6_num (K (N + 1)) ((l.el q.toNat 4).int + 1) = some (lookR [(0, T.i 1), (1, T.i ((l.el q.toNat 4).int + 1)), (2, noT)]) := C_parrylaw6_num_K N _
  have num2 : C_parrylaw6_num (K (N + 1)) 1000 = some (lookR [(0, T.i 1), (1, T.i 1000), (2, noT)]) := C_parrylaw6_num_K N _
  have num3 : C_parrylaw6_num (K (N + 1)) 1 = some (lookR [(0, T.i 1), (1, T.i 1), (2, noT)]) := C_parrylaw6_num_K N _
  rw [parrylaw6_ChoiceFails.B0_eq, hw]
  refine if_not (decide_eq_false (by omega)) (bind_of htot (if_of ?_ (if_of (decide_eq_true (by omega)) (bind_of num1 (if_of (decide_eq_true (by omega)) (bind_of eA (if_of (decide_eq_true (by omega)) (bind_of num2 (bind_of num3 (if_of (decide_eq_true (by omega)) (bind_of eB ?_)))))))))))
  · rw [lookR_0, int_i, wrapu_eq (by omega) (by omega)]; simp; omega
  · simp only [lookR_0, lA, lB]
    exact if_of rfl (if_of rfl aw)
end Go.Proofs.YtnlkhjileipmcaaGreat
