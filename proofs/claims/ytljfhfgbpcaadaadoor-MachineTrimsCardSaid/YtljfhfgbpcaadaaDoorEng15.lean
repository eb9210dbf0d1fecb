/- The engine, part 15: regions whose order is drawn. -/
import Derived.Test.YtljfhfgbpcaadaaDoorEng14
set_option linter.unusedSimpArgs false
set_option linter.unusedVariables false
namespace Go.AM
open Go.RowKit (Below)
structure En where
  v : AV
  us : List (Nat × Ob)
  lab : Lab
def after (s : St) (o : Oper) (en : En) : St := ⟨setS s.slots o.dst en.v, s.M.sets en.us⟩
def Runs (P : Program) (fr : Fr) (h : H) (o : Oper) (s : St) (en : En) : Prop :=
  evalAny P fr h o (opVals s.slots o.op) (looks s.M (keysAny fr s.M o (opVals s.slots o.op))) pair = some (en.v, en.us) ∧ (en.us.all fun u => (keysAny fr s.M o (opVals s.slots o.op)).contains u.1) = true ∧ en.lab = ⟨keysAny fr s.M o (opVals s.slots o.op), en.us.map (·.1)⟩
def Skips (en : En) : Prop := en = ⟨.tup [], [], ⟨[], []⟩⟩
def Does (P : Program) (fr : Fr) (h : H) (ops : List Oper) (o : Oper) (s : St) (en : En) : Prop := match o.guard with
  | none => Runs P fr h o s en
  | some (g, want) => ∃ d, dstTmp ops g = some d ∧ ((∃ c, s.slots.getD d .und = .b c ∧ ((c = want ∧ Runs P fr h o s en) ∨ (c ≠ want ∧ Skips en))) ∨ (s.slots.getD d .und = .tup [] ∧ Skips en))
section
variable {P : Program} {fr : Fr} {h : H} {ρ : Type} {r : ρ}
theorem stepOp_does {o : Oper} {s : St} {κ : St → Lab → Option ρ} (hr : stepOp P fr h o s κ = some r) : ∃ en, Runs P fr h o s en ∧ κ (after s o en) en.lab = some r := by
  obtain ⟨v, us, h1, h2⟩ := nat_evalAny P _ r fr h o _ _ hr
  obtain ⟨h3, h4⟩ := bif_inv h2
  exact ⟨⟨v, us, ⟨_, _⟩⟩, ⟨h1, h3, rfl⟩, h4⟩
theorem setSlot_same {s : St} {d : Nat} {c : Bool} (hc : s.slots.getD d .und = .b c) : setSlot s d (.b c) = s := by
  unfold setSlot
  rw [set_same hc]
theorem stepG_does {ops : List Oper} {o : Oper} {s : St} {κ : St → Lab → Option ρ} (hr : stepG P fr h ops o s κ = some r) : ∃ en, Does P fr h ops o s en ∧ κ (after s o en) en.lab = some r := by
  unfold stepG at hr
  unfold Does
  split at hr
  · rename_i hg
    rw [hg]
    exact stepOp_does hr
  · rename_i g want hg
    rw [hg]
    split at hr
    · rename_i d hd
      split at hr
      · rename_i c hc
        cases want with
        | true =>
          simp only at hr
          cases c with
          | true =>
            rw [cond_true, setSlot_same hc] at hr
            obtain ⟨en, h1, h2⟩ := stepOp_does hr
            exact ⟨en, ⟨d, hd, .inl ⟨true, hc, .inl ⟨rfl, h1⟩⟩⟩, h2⟩
          | false =>
            rw [cond_false, setSlot_same hc] at hr
            exact ⟨⟨.tup [], [], ⟨[], []⟩⟩, ⟨d, hd, .inl ⟨false, hc, .inr ⟨by simp, rfl⟩⟩⟩, hr⟩
        | false =>
          simp only at hr
          cases c with
          | true =>
            rw [cond_true, setSlot_same hc] at hr
            exact ⟨⟨.tup [], [], ⟨[], []⟩⟩, ⟨d, hd, .inl ⟨true, hc, .inr ⟨by simp, rfl⟩⟩⟩, hr⟩
          | false =>
            rw [cond_false, setSlot_same hc] at hr
            obtain ⟨en, h1, h2⟩ := stepOp_does hr
            exact ⟨en, ⟨d, hd, .inl ⟨false, hc, .inl ⟨rfl, h1⟩⟩⟩, h2⟩
      · rename_i hc
        exact ⟨⟨.tup [], [], ⟨[], []⟩⟩, ⟨d, hd, .inr ⟨hc, rfl⟩⟩, hr⟩
      · cases hr
    · cases hr
end
section
variable {P : Program} {fr : Fr} {h : H} {w0 : Fr0} {w : World} {O : Nat → Prop} {s s' : St} {a : Act}
theorem runs_ok (hs : HSound P fr h) (hst : StOk P w0 O s a w) {o : Oper} {en : En} (hr : Runs P fr h o s en) (next : Act → World → Prop) (Q : Exit → Act → World → Prop) (hn : ∀ a' w', StOk P w0 O (after s o en) a' w' → next a' w') : o.wp P a w next Q := by
  obtain ⟨β, hd, hO, C⟩ := hst
  refine evalAny_ok hs C hr.1 next Q fun v us x w' hk hdn => hn _ _ ?_
  obtain ⟨rfl, rfl⟩ : v = en.v ∧ us = en.us := by simpa [pair] using hk
  obtain ⟨β', hd2, h1, h2, h3, h4⟩ := hdn
  exact ⟨β', hd2, ⟨h3.far.trans hO.1, hO.2.step h3⟩, h2, Slots.put ⟨C.slots.len, fun t y hy => (C.slots.val t y hy).keep h4 h3, C.slots.defers⟩ h1⟩
theorem does_ok (hs : HSound P fr h) (hst : StOk P w0 O s a w) {ops : Array Oper} {i : Nat} {o : Oper} (ho : ops[i]? = some o) {en : En} (hr : Does P fr h ops.toList o s en) (next : Act → World → Prop) (Q : Exit → Act → World → Prop)
    (hn : ∀ a' w', StOk P w0 O (after s o en) a' w' → next a' w') : wpOp P ops Q i next a w := by
  unfold wpOp
  rw [ho]
  simp only
  unfold Does at hr
  split at hr
  · rename_i hg
    have hw : Region.wanted o (yielded ops a.tmps) = true := by simp [Region.wanted, hg]
    rw [if_pos hw]
    exact .inl (runs_ok hs hst hr next Q hn)
  · rename_i g want hg
    obtain ⟨d, hd, hr⟩ := hr
    have h1 : (ops[g]?).bind (·.dst) = some d := by
      unfold dstTmp at hd
      rw [Array.getElem?_toList] at hd
      cases ho' : ops[g]? with
      | none => rw [ho'] at hd; cases hd
      | some o' => rw [ho'] at hd; simpa using hd
    rcases hr with ⟨c, hc, hr⟩ | ⟨hc, hr⟩
    · have hy : yielded ops a.tmps g = some c := by
        unfold yielded
        rw [h1]
        simp [slot_bool hst hc]
      have hw : Region.wanted o (yielded ops a.tmps) = (c == want) := by simp [Region.wanted, hg, hy]
      rcases hr with ⟨rfl, hr⟩ | ⟨hne, hr⟩
      · rw [if_pos (by rw [hw]; simp)]
        exact .inl (runs_ok hs hst hr next Q hn)
      · rw [if_neg (by rw [hw]; simpa using hne)]
        cases hr
        exact hn _ _ (hst.skip o.dst)
    · have hy : yielded ops a.tmps g = none := by
        unfold yielded
        rw [h1]
        simp [slot_tup hst hc, undef]
      have hw : Region.wanted o (yielded ops a.tmps) = false := by simp [Region.wanted, hg, hy]
      rw [if_neg (by rw [hw]; simp)]
      cases hr
      exact hn _ _ (hst.skip o.dst)
theorem opVals_congr {o : Oper} {ops : List Oper} (h1 : ∀ t ∈ readsOf ops o, s.slots.getD t .und = s'.slots.getD t .und) : opVals s'.slots o.op = opVals s.slots o.op := by
  unfold opVals
  apply List.map_congr_left
  intro x hx
  cases x with
  | tmp t =>
    refine (h1 t ?_).symm
    unfold readsOf
    exact List.mem_append.2 (.inl (List.mem_filterMap.2 ⟨_, hx, rfl⟩))
  | _ => rfl
theorem reach_congr {M M' : Store} : ∀ (n : Nat) (ks : List Nat), (∀ k ∈ reach M n ks, M.get k = M'.get k) → reach M' n ks = reach M n ks
  | 0, ks, _ => rfl
  | n + 1, ks, h => by
    have h1 : (ks.flatMap fun k => match M'.get k with
        | some (.box _ cs) => refsL cs
        | _ => []) = ks.flatMap fun k => match M.get k with
        | some (.box _ cs) => refsL cs
        | _ => [] := by
      have : ∀ k ∈ ks, M.get k = M'.get k := fun k hk => h k (List.mem_append.2 (.inl hk))
      clear h
      induction ks with
      | nil => rfl
      | cons k ks ih =>
        rw [List.flatMap_cons, List.flatMap_cons, ih (fun q hq => this q (List.mem_cons_of_mem _ hq)), this k (List.mem_cons_self ..)]
    simp only [reach]
    have h2 := reach_congr n _ (fun k hk => h k (List.mem_append.2 (.inr hk)))
    exact congrArg (ks ++ ·) ((congrArg (reach M' n) h1).trans h2)
theorem keysAny_congr {M M' : Store} {o : Oper} {vs : List AV} (h : ∀ k ∈ keysAny fr M o vs, M.get k = M'.get k) : keysAny fr M' o vs = keysAny fr M o vs := by
  unfold keysAny at h ⊢
  cases hc : isCall o with
  | false => rfl
  | true =>
    rw [hc] at h
    simp only [cond_true] at h ⊢
    rw [reach_congr 4 _ (fun k hk => h k (List.mem_append.2 (.inr hk)))]
theorem Runs.congr {o : Oper} {ops : List Oper} {en : En} (hr : Runs P fr h o s en) (h1 : ∀ t ∈ readsOf ops o, s.slots.getD t .und = s'.slots.getD t .und) (h2 : ∀ k ∈ en.lab.ks, s.M.get k = s'.M.get k) : Runs P fr h o s' en := by
  obtain ⟨h3, h4, h5⟩ := hr
  unfold Runs
  rw [opVals_congr h1]
  rw [h5] at h2
  rw [keysAny_congr h2]
  have : looks s'.M (keysAny fr s.M o (opVals s.slots o.op)) = looks s.M (keysAny fr s.M o (opVals s.slots o.op)) := by
    unfold looks
    apply List.map_congr_left
    intro k hk
    rw [h2 k hk]
  rw [this]
  exact ⟨h3, h4, h5⟩
theorem Does.congr {o : Oper} {ops : List Oper} {en : En} (hr : Does P fr h ops o s en) (h1 : ∀ t ∈ readsOf ops o, s.slots.getD t .und = s'.slots.getD t .und) (h2 : ∀ k ∈ en.lab.ks, s.M.get k = s'.M.get k) : Does P fr h ops o s' en := by
  unfold Does at hr ⊢
  split
  · rename_i hg
    rw [hg] at hr
    exact hr.congr h1 h2
  · rename_i g want hg
    rw [hg] at hr
    obtain ⟨d, hd, hr⟩ := hr
    have hdr : d ∈ readsOf ops o := by
      unfold readsOf
      rw [hg]
      simp only [hd]
      exact List.mem_append.2 (.inr (by simp))
    refine ⟨d, hd, ?_⟩
    rw [← h1 d hdr]
    rcases hr with ⟨c, hc, hr⟩ | hr
    · refine .inl ⟨c, hc, ?_⟩
      rcases hr with ⟨h3, h4⟩ | h3
      · exact .inl ⟨h3, h4.congr h1 h2⟩
      · exact .inr h3
    · exact .inr hr
end
def Chain (P : Program) (fr : Fr) (h : H) (ops : List Oper) : List Oper → St → List En → St → Prop
  | [], s, [], s' => s = s'
  | o :: l, s, en :: es, s' => Does P fr h ops o s en ∧ Chain P fr h ops l (after s o en) es s'
  | _, _, _, _ => False
theorem runOps_chain {P : Program} {fr : Fr} {h : H} {ρ : Type} {r : ρ} {ops : List Oper} {κ : St → List Lab → Option ρ} : ∀ {l : List Oper} {s : St} {ls : List Lab}, runOps P fr h ops l s ls κ = some r →
    ∃ es s', Chain P fr h ops l s es s' ∧ κ s' (ls.reverse ++ es.map En.lab) = some r
  | [], s, ls, hr => ⟨[], s, rfl, by simpa [runOps] using hr⟩
  | o :: l, s, ls, hr => by
    simp only [runOps] at hr
    obtain ⟨en, h1, h2⟩ := stepG_does hr
    obtain ⟨es, s', h3, h4⟩ := runOps_chain h2
    refine ⟨en :: es, s', ⟨h1, h3⟩, ?_⟩
    simpa using h4
def lastOf : List (Nat × Ob) → Nat → Option Ob
  | [], _ => none
  | (q, o) :: r, k => match lastOf r k with
    | some o' => some o'
    | none => if q = k then some o else none
theorem sets_get (us : List (Nat × Ob)) : ∀ (M : Store) (k : Nat), (M.sets us).get k = match lastOf us k with
    | some o => some o
    | none => M.get k := by
  induction us with
  | nil => intro M k; rfl
  | cons u us ih =>
    obtain ⟨q, o⟩ := u
    intro M k
    show ((M.set q o).sets us).get k = _
    rw [ih, Store.get_set]
    simp only [lastOf]
    cases lastOf us k with
    | some o' => rfl
    | none => by_cases hq : q = k <;> simp [hq]
theorem lastOf_mem {us : List (Nat × Ob)} {k : Nat} {o : Ob} (h : lastOf us k = some o) : ∃ u ∈ us, u.1 = k := by
  induction us with
  | nil => cases h
  | cons u us ih =>
    obtain ⟨q, p⟩ := u
    simp only [lastOf] at h
    cases hl : lastOf us k with
    | some o' =>
      obtain ⟨u, h1, h2⟩ := ih (by rw [hl] at h; exact hl.trans h)
      exact ⟨u, List.mem_cons_of_mem _ h1, h2⟩
    | none =>
      rw [hl] at h
      by_cases hq : q = k
      · exact ⟨(q, p), List.mem_cons_self .., hq⟩
      · simp [hq] at h
def slotAt (s0 : St) (ops : List Oper) (es : List En) (L : Nat → Bool) : Nat → Nat → AV
  | 0, t => s0.slots.getD t .und
  | n + 1, t => match ops[n]?, es[n]? with
    | some o, some en => if L n = true ∧ o.dst = some t then en.v else slotAt s0 ops es L n t
    | _, _ => slotAt s0 ops es L n t
def memAt (s0 : St) (es : List En) (L : Nat → Bool) : Nat → Nat → Option Ob
  | 0, k => s0.M.get k
  | n + 1, k => match es[n]? with
    | some en => if L n = true then (match lastOf en.us k with
      | some o => some o
      | none => memAt s0 es L n k) else memAt s0 es L n k
    | none => memAt s0 es L n k
section
variable {s0 : St} {ops : List Oper} {es : List En} {L : Nat → Bool} {i : Nat} {o : Oper} {en : En}
def add (L : Nat → Bool) (i : Nat) : Nat → Bool := fun j => j == i || L j
theorem slotAt_old (hi : ops[i]? = some o) {t : Nat} (hd : o.dst ≠ some t) : ∀ n, slotAt s0 ops es (add L i) n t = slotAt s0 ops es L n t
  | 0 => rfl
  | n + 1 => by
    simp only [slotAt, slotAt_old hi hd n]
    split
    · rename_i o' en' ho' he'
      by_cases hn : n = i
      · subst hn
        rw [hi] at ho'
        cases ho'
        simp [hd]
      · have : add L i n = L n := by simp [add, hn]
        rw [this]
    · rfl
theorem slotAt_new (hi : ops[i]? = some o) (he : es[i]? = some en) {t : Nat} (hd : o.dst = some t) (hL : ∀ j oj, i < j → L j = true → ops[j]? = some oj → oj.dst ≠ some t) : ∀ n, i < n → slotAt s0 ops es (add L i) n t = en.v
  | 0, h => absurd h (Nat.not_lt_zero _)
  | n + 1, h => by
    simp only [slotAt]
    by_cases hn : n = i
    · subst hn
      rw [hi, he]
      simp [add, hd]
    · have hin : i < n := by omega
      have ih := slotAt_new hi he hd hL n hin
      split
      · rename_i o' en' ho' he'
        rw [if_neg, ih]
        rintro ⟨h1, h2⟩
        have : L n = true := by simpa [add, hn] using h1
        exact hL n o' hin this ho' h2
      · exact ih
theorem memAt_old (he : es[i]? = some en) {k : Nat} (hk : lastOf en.us k = none) : ∀ n, memAt s0 es (add L i) n k = memAt s0 es L n k
  | 0 => rfl
  | n + 1 => by
    simp only [memAt, memAt_old he hk n]
    split
    · rename_i en' he'
      by_cases hn : n = i
      · subst hn
        rw [he] at he'
        cases he'
        rw [hk]
        simp
      · have : add L i n = L n := by simp [add, hn]
        rw [this]
    · rfl
theorem memAt_new (he : es[i]? = some en) {k : Nat} {ob : Ob} (hk : lastOf en.us k = some ob) (hL : ∀ j ej, i < j → L j = true → es[j]? = some ej → lastOf ej.us k = none) : ∀ n, i < n → memAt s0 es (add L i) n k = some ob
  | 0, h => absurd h (Nat.not_lt_zero _)
  | n + 1, h => by
    simp only [memAt]
    by_cases hn : n = i
    · subst hn
      rw [he]
      simp [add, hk]
    · have hin : i < n := by omega
      have ih := memAt_new he hk hL n hin
      split
      · rename_i en' he'
        split
        · rename_i h1
          have : L n = true := by simpa [add, hn] using h1
          rw [hL n en' hin this he', ih]
        · exact ih
      · exact ih
end
structure Rep (s0 : St) (ops : List Oper) (es : List En) (L : Nat → Bool) (s : St) : Prop where
  len : s.slots.length = s0.slots.length
  sl : ∀ t, t < s0.slots.length → s.slots.getD t .und = slotAt s0 ops es L ops.length t
  mem : ∀ k, s.M.get k = memAt s0 es L ops.length k
theorem Rep.step {s0 s : St} {ops : List Oper} {es : List En} {L : Nat → Bool} {i : Nat} {o : Oper} {en : En} (R : Rep s0 ops es L s) (hi : ops[i]? = some o) (he : es[i]? = some en)
    (h1 : ∀ t, o.dst = some t → ∀ j oj, i < j → L j = true → ops[j]? = some oj → oj.dst ≠ some t) (h2 : ∀ k ob, lastOf en.us k = some ob → ∀ j ej, i < j → L j = true → es[j]? = some ej → lastOf ej.us k = none) : Rep s0 ops es (add L i) (after s o en) := by
  have hlt : i < ops.length := (List.getElem?_eq_some_iff.1 hi).1
  refine ⟨by simp [after, setS_len, R.len], fun t ht => ?_, fun k => ?_⟩
  · by_cases hd : o.dst = some t
    · rw [slotAt_new hi he hd (h1 t hd) _ hlt]
      have : t < s.slots.length := by rw [R.len]; exact ht
      simp [after, setS, hd, List.getD_eq_getElem?_getD, this]
    · rw [slotAt_old hi hd, ← R.sl t ht]
      unfold after setS
      cases hdd : o.dst with
      | none => rfl
      | some d =>
        have : d ≠ t := fun e => hd (by rw [hdd, e])
        simp [List.getD_eq_getElem?_getD, List.getElem?_set_ne this]
  · show (s.M.sets en.us).get k = _
    rw [sets_get]
    cases hk : lastOf en.us k with
    | none => rw [memAt_old he hk]; exact R.mem k
    | some ob => rw [memAt_new he hk (h2 k ob hk) _ hlt]
theorem Rep.init (s0 : St) (ops : List Oper) (es : List En) : Rep s0 ops es (fun _ => false) s0 := by
  refine ⟨rfl, fun t _ => ?_, fun k => ?_⟩
  · generalize ops.length = n
    induction n with
    | zero => rfl
    | succ n ih =>
      simp only [slotAt]
      split
      · simpa using ih
      · exact ih
  · generalize ops.length = n
    induction n with
    | zero => rfl
    | succ n ih =>
      simp only [memAt]
      split
      · simpa using ih
      · exact ih
theorem slotAt_ext {s0 : St} {ops : List Oper} {es : List En} {L L' : Nat → Bool} {t : Nat} (h : ∀ j oj, ops[j]? = some oj → oj.dst = some t → L j = L' j) : ∀ n, slotAt s0 ops es L n t = slotAt s0 ops es L' n t
  | 0 => rfl
  | n + 1 => by
    simp only [slotAt, slotAt_ext h n]
    split
    · rename_i o en ho he
      by_cases hd : o.dst = some t
      · rw [h n o ho hd]
      · simp [hd]
    · rfl
theorem memAt_ext {s0 : St} {es : List En} {L L' : Nat → Bool} {k : Nat} (h : ∀ j ej, es[j]? = some ej → lastOf ej.us k ≠ none → L j = L' j) : ∀ n, memAt s0 es L n k = memAt s0 es L' n k
  | 0 => rfl
  | n + 1 => by
    simp only [memAt, memAt_ext h n]
    split
    · rename_i en he
      cases hk : lastOf en.us k with
      | none => simp
      | some ob => rw [h n en he (by rw [hk]; simp)]
    · rfl
theorem before_step (acc : Array Nat) (o : Oper) (i : Nat) (l : List Edge) (s0 : Nat) (h : (l.foldl (fun s e => if Region.binds .any e then s ||| 2 ^ e.on ||| acc.getD e.on 0 else s) s0).testBit i = true) :
    s0.testBit i = true ∨ ∃ e ∈ l, Region.binds .any e = true ∧ (e.on = i ∨ (acc.getD e.on 0).testBit i = true) := by
  induction l generalizing s0 with
  | nil => exact .inl h
  | cons e l ih =>
    simp only [List.foldl_cons] at h
    rcases ih _ h with h1 | ⟨e', h1, h2, h3⟩
    · cases hb : Region.binds .any e with
      | false => rw [hb] at h1; exact .inl (by simpa using h1)
      | true =>
        rw [hb] at h1
        simp only [if_true, Nat.testBit_or, Bool.or_eq_true] at h1
        rcases h1 with (h1 | h1) | h1
        · exact .inl h1
        · refine .inr ⟨e, List.mem_cons_self .., hb, .inl ?_⟩
          rw [Nat.testBit_two_pow] at h1
          exact of_decide_eq_true h1
        · exact .inr ⟨e, List.mem_cons_self .., hb, .inr h1⟩
    · exact .inr ⟨e', List.mem_cons_of_mem _ h1, h2, h3⟩
def rowB (acc : Array Nat) (o : Oper) : Nat := o.after.foldl (fun s e => if Region.binds .any e then s ||| 2 ^ e.on ||| acc.getD e.on 0 else s) 0
theorem before_fold : ∀ (l : List Oper) (acc : Array Nat), (l.foldl (fun acc o => acc.push (rowB acc o)) acc).size = acc.size + l.length ∧
    (∀ j, j < acc.size → (l.foldl (fun acc o => acc.push (rowB acc o)) acc).getD j 0 = acc.getD j 0) ∧
    ∀ j o, l[j]? = some o → ∃ a2 : Array Nat, a2.size = acc.size + j ∧ (∀ q, q < a2.size → (l.foldl (fun acc o => acc.push (rowB acc o)) acc).getD q 0 = a2.getD q 0) ∧ (l.foldl (fun acc o => acc.push (rowB acc o)) acc).getD (acc.size + j) 0 = rowB a2 o
  | [], acc => ⟨by simp, fun j _ => rfl, fun j o h => by simp at h⟩
  | o :: l, acc => by
    obtain ⟨h1, h2, h3⟩ := before_fold l (acc.push (rowB acc o))
    have hp : ∀ j, j < acc.size → (acc.push (rowB acc o)).getD j 0 = acc.getD j 0 := by
      intro j hj
      simp [Array.getD_eq_getD_getElem?, Array.getElem?_push, hj, Nat.ne_of_lt hj]
    refine ⟨by simp only [List.foldl_cons, h1, Array.size_push, List.length_cons]; omega, fun j hj => ?_, fun j o' hj => ?_⟩
    · simp only [List.foldl_cons]
      rw [h2 j (by simp; omega), hp j hj]
    · cases j with
      | zero =>
        obtain rfl : o = o' := by simpa using hj
        refine ⟨acc, rfl, fun q hq => ?_, ?_⟩
        · simp only [List.foldl_cons]
          rw [h2 q (by simp; omega), hp q hq]
        · simp only [List.foldl_cons, Nat.add_zero]
          rw [h2 acc.size (by simp)]
          simp [Array.getD_eq_getD_getElem?]
      | succ j =>
        obtain ⟨a2, h4, h5, h6⟩ := h3 j o' (by simpa using hj)
        refine ⟨a2, by rw [h4, Array.size_push]; omega, h5, ?_⟩
        simp only [List.foldl_cons]
        rw [← h6, Array.size_push]
        congr 1
        omega
theorem before_bit {ops : Array Oper} {i j : Nat} {o : Oper} (ho : ops[j]? = some o) (hback : ∀ e ∈ o.after, Region.binds .any e = true → e.on < j) (h : ((Region.before ops).getD j 0).testBit i = true) :
    ∃ e ∈ o.after, Region.binds .any e = true ∧ (e.on = i ∨ ((Region.before ops).getD e.on 0).testBit i = true) := by
  have e0 : Region.before ops = ops.toList.foldl (fun acc o => acc.push (rowB acc o)) #[] := by
    unfold Region.before
    rw [← Array.foldl_toList]
    congr 1
  obtain ⟨h1, h2, h3⟩ := before_fold ops.toList #[]
  obtain ⟨a2, h4, h5, h6⟩ := h3 j o (by rw [Array.getElem?_toList]; exact ho)
  rw [← e0] at h5 h6
  simp only [List.size_toArray, List.length_nil, Nat.zero_add] at h4 h6
  rw [h6] at h
  unfold rowB at h
  rw [← Array.foldl_toList] at h
  rcases before_step a2 o i o.after.toList 0 h with h7 | ⟨e, h7, h8, h9⟩
  · simp at h7
  · refine ⟨e, Array.mem_toList_iff.1 h7, h8, ?_⟩
    rcases h9 with h9 | h9
    · exact .inl h9
    · refine .inr ?_
      rw [h5 e.on (by rw [h4]; exact hback e (Array.mem_toList_iff.1 h7) h8)]
      exact h9
end Go.AM
