/- The engine, part 8: stores, appends, makes, literals. -/
import Derived.Test.YtljfhfgbpcaadaaDoorEng7
import Derived.Lib.AppendZerosOnto
import Derived.Lib.AppendStr
set_option linter.unusedSimpArgs false
set_option linter.unusedVariables false
namespace Go.AM
open Go.RowKit (Below)
theorem run_append_bare {P : Program} {w : World} {t e ty : TypeId} {i : TypeInfo} (ht : P.underlying t = some (.slice e)) (hi : P.info? e = some i) (A B : Option Addr) (m c : Nat) (hm : 0 < m) (h63 : m ≤ 140737488355328) (hfit : Builtin.nextslicecap m 0 * i.bytes ≤ 281474976710656) :
    (Builtin.append_ #[t, t] ty #[.slice A 0 0, .slice B m c]).run P w = (Builtin.append_ #[t, t] ty #[.slice none 0 0, .slice B m c]).run P w := by
  cases A with
  | none => rfl
  | some a =>
    have hf : ∀ w' : World, (Builtin.firstCells i.size 0 (.slice (some a) 0 0)).run P w' = .ok #[] w' := fun w' => by simp [Builtin.firstCells, loadCells, loadCellsFrom]
    have hg : ∀ w' : World, (Builtin.firstCells i.size 0 (.slice none 0 0)).run P w' = .ok #[] w' := fun w' => by simp [Builtin.firstCells]
    have h48' : ¬ (281474976710656 < Builtin.nextslicecap m 0 * i.bytes) := by omega
    have hm0 : m ≠ 0 := by omega
    simp [Builtin.append_, run_underlying ht, sizeOf, typeInfo, hi, Builtin.lenOf, hm0, h48', hf, hg]
theorem run_append_bareS {P : Program} {w : World} {t u e ty : TypeId} {i : TypeInfo} (ht : P.underlying t = some (.slice e)) (hu : P.underlying u = some .string) (hi : P.info? e = some i) (hs1 : i.size = 1) (A : Option Addr) (s : ByteArray) (hm : 0 < s.size) (h63 : s.size ≤ 140737488355328) (hfit : Builtin.nextslicecap s.size 0 * i.bytes ≤ 281474976710656) :
    (Builtin.append_ #[t, u] ty #[.slice A 0 0, .string s]).run P w = (Builtin.append_ #[t, u] ty #[.slice none 0 0, .string s]).run P w := by
  cases A with
  | none => rfl
  | some a =>
    have hf : ∀ w' : World, (Builtin.firstCells 1 0 (.slice (some a) 0 0)).run P w' = .ok #[] w' := fun w' => by simp [Builtin.firstCells, loadCells, loadCellsFrom]
    have hg : ∀ w' : World, (Builtin.firstCells 1 0 (.slice none 0 0)).run P w' = .ok #[] w' := fun w' => by simp [Builtin.firstCells]
    have h48' : ¬ (281474976710656 < Builtin.nextslicecap s.size 0 * i.bytes) := by omega
    have hm0 : s.size ≠ 0 := by omega
    simp [Builtin.append_, run_underlying ht, run_underlying hu, sizeOf, typeInfo, hi, hs1, Builtin.lenOf, hm0, h48', hf, hg]
theorem run_append_emptyS {P : Program} {w : World} {t u e ty : TypeId} {i : TypeInfo} (ht : P.underlying t = some (.slice e)) (hu : P.underlying u = some .string) (hi : P.info? e = some i) (A : Option Addr) (s : ByteArray) (hs : s.size = 0) :
    (Builtin.append_ #[t, u] ty #[.slice A 0 0, .string s]).run P w = .ok (.slice A 0 0) w := by
  have hd : s.data = #[] := Array.eq_empty_of_size_eq_zero hs
  cases A <;> simp [Builtin.append_, run_underlying ht, run_underlying hu, sizeOf, typeInfo, hi, Builtin.lenOf, Builtin.firstCells, hs, hd, storeCells]
theorem run_append_str {P : Program} (w : World) {t u ty e : TypeId} {i : TypeInfo} (ht : P.underlying t = some (.slice e)) (hu : P.underlying u = some .string) (hi : P.info? e = some i) (hz : i.zero = some (.int .u8 0)) (hsize : i.size = 1) (hby : i.bytes = 1)
    {v : Value} {n : Nat} {xs : List Value} (hown : w.ownsRow 0 e 1 v n xs) (s : ByteArray) (hb : n + s.size ≤ 140737488355328) :
    ∃ v' w', (Builtin.append_ #[t, u] ty #[v, .string s]).run P w = .ok v' w' ∧ w'.ownsRow 0 e 1 v' (n + s.size) (xs ++ Lib.strCells s) ∧ w.grownBy w' v.ownBlock ∧ (v'.ownBlock = v.ownBlock ∨ v'.ownBlock = some w.heap.size) := by
  obtain ⟨v', w', h1, h2, h3, h4⟩ := Lib.run_append_own_string (P := P) w 0 t u ty e i ht hu hi hz hsize hby v n xs hown s (by simp only [maxLen]; omega) hb (Nat.zero_le _)
  refine ⟨v', w', h1, h2, h3, ?_⟩
  have hxl : xs.length = n := by simpa using hown.1
  rcases hown.2 with ⟨rfl, rfl⟩ | ⟨g, cap, cur, rfl, hbg, hg, hnc, hcm, hcs, htake⟩
  · by_cases hm : s.size = 0
    · rw [run_append_emptyS ht hu hi none s hm] at h1
      cases h1
      exact .inl rfl
    · have hr := run_append_nil_string (P := P) w t u ty e i (.int .u8 0) ht hu hi hz s (by omega) (by omega) (by rw [hby]; omega)
      rw [hr] at h1
      cases h1
      exact .inr rfl
  · by_cases hroom : n + s.size ≤ cap
    · have hcs' : cur.size = cap := by simpa using hcs
      have hr := Lib.run_append_room_string (P := P) w t u ty e i ht hu hi hsize g n cap cur hg s hroom (by omega)
      rw [hr] at h1
      cases h1
      exact .inl rfl
    · have holds : ∀ j u, xs[j]? = some u → w.cell? ((⟨g, 0, none⟩ : Addr).add j) = some u := hown.cells (g := g) rfl
      have hr := Lib.run_append_grow_string (P := P) w t u ty e i (.int .u8 0) ht hu hi hz ⟨g, 0, none⟩ n cap xs (by rw [hsize]; simpa using hxl) holds s (by omega) (by omega) (by rw [hby]; exact growslice_fits (by omega) (by omega))
      rw [hr] at h1
      cases h1
      exact .inr rfl
theorem u8Ok_inv {P : Program} {e : TypeId} (h : u8Ok P e = true) : P.underlying e = some (.int .u8) ∧ lv P e = [e] ∧ ∃ i, P.info? e = some i ∧ i.size = 1 ∧ i.bytes = 1 ∧ i.zero = some (.int .u8 0) := by
  unfold u8Ok at h
  split at h
  · rename_i i h1 h2
    simp only [Bool.and_eq_true, beq_iff_eq] at h
    obtain ⟨⟨h3, h4⟩, h5, h6⟩ := h
    refine ⟨h1, h6, i, h2, h3, h4, ?_⟩
    split at h5
    · assumption
    · cases h5
  · cases h
theorem run_append_empty {P : Program} {w : World} {t e ty : TypeId} {i : TypeInfo} (ht : P.underlying t = some (.slice e)) (hi : P.info? e = some i) (A B : Option Addr) (c : Nat) :
    (Builtin.append_ #[t, t] ty #[.slice A 0 0, .slice B 0 c]).run P w = .ok (.slice A 0 0) w := by
  cases A <;> cases B <;> simp [Builtin.append_, run_underlying ht, sizeOf, typeInfo, hi, Builtin.lenOf, Builtin.firstCells, loadCells, loadCellsFrom, storeCells]
section
variable {ρ : Type} {P : Program} {w0 : Fr0} {w : World} {M : Store} {β : Bn} {hd : Nat → Value} {sl : List AV} {a : Act} {κ : Kk ρ} {r : ρ}
variable (C : Ctx P w0 w M β hd sl a)
include C
variable {os : List (Nat × Option Ob)} (hos : ∀ k ob, lk os k = some ob → M.get k = some ob)
include hos
theorem store_ok {o : Oper} {t : TypeId} {x y : Operand} (ho : o.op = .store t x y) (h : eStore P t os κ [evO sl x, evO sl y] = some r) : Good P w0 w M β hd a o κ r := by
  have hx := rel1 C x
  have hy := rel1 C y
  unfold eStore at h
  split at h
  · rename_i k off v heq
    injection heq with h1 h2
    injection h2 with h2 _
    rw [h1] at hx
    rw [h2] at hy
    split at h
    · rename_i bt cs hlk
      have hm := hos _ _ hlk
      obtain ⟨hb, h⟩ := bif_inv h
      rw [Bool.and_eq_true, Bool.and_eq_true, Bool.and_eq_true, Bool.and_eq_true] at hb
      obtain ⟨hnm, ⟨⟨ht, hcok⟩, hsz⟩, hle⟩ := hb
      have hnm : isMapT bt = false := by simpa using hnm
      have hsz : (cellsOf v).length = sizeT P t := eq_of_beq hsz
      have hle : off + sizeT P t ≤ cs.length := Nat.le_of_ble_eq_true hle
      have hcs := hy.cellsR hcok
      obtain ⟨w', hrun, hdone⟩ := upd_box C.sim hnm hm hcs (off := off) (by omega)
      refine good_skip h ?_ (hdone .und undef (.und _))
      have := run_storeVar (w := w) ht (by rw [← hcs.1]; exact hsz) hrun
      simp [execOp, ho, hx.ptr_inv hm hnm, this]
    · cases h
  · rename_i k i off v heq
    injection heq with h1 h2
    injection h2 with h2 _
    rw [h1] at hx
    rw [h2] at hy
    split at h
    · rename_i e n g hlk
      have hm := hos _ _ hlk
      obtain ⟨hb, h⟩ := bif_inv h
      rw [Bool.and_eq_true, Bool.and_eq_true, Bool.and_eq_true, Bool.and_eq_true] at hb
      obtain ⟨⟨⟨⟨hcok, hsz⟩, hfit⟩, hnk⟩, hszp⟩ := hb
      have hsz : (cellsOf v).length = sizeT P t := eq_of_beq hsz
      split at h
      · rename_i xs hxs
        obtain ⟨hin, h⟩ := bif_inv h
        have hin : i < n := of_decide_eq_true hin
        obtain ⟨b, hbk, hv⟩ := hx.ep_inv hm
        have hcs := hy.cellsR hcok
        have hnk : k ∉ rowKeys (cellsOf v) := by simpa using hnk
        unfold fits at hfit
        rw [Bool.and_eq_true, Bool.and_eq_true] at hfit
        obtain ⟨⟨hty, hlen⟩, heq2⟩ := hfit
        have hlen : (lv P t).length = sizeT P t := eq_of_beq hlen
        have heq2 : lv P t = ((lv P e).drop off).take (lv P t).length := eq_of_beq heq2
        have hfr := frzs_rel (O' := Own (M.sets (consumed (rowKeys (cellsOf v)))) β hd) C.sim hos (fun b hq => own_kills hq) (us := (a.eval y).cells) 0 (lv P t) (cellsOf v) xs 0 hxs
          (fun q b hq ho => C.sim.given_up hq ho) (fun j c hj => by simpa using hcs.2 j c hj)
        obtain ⟨hl1, hl2, hrt⟩ := hfr
        have hm1 : (M.sets (consumed (rowKeys (cellsOf v)))).get k = some (.row e n g) := by rw [get_kills, if_neg hnk]; exact hm
        have hvs : (a.eval y).cells.size = (lv P t).length := by rw [← hcs.1]; omega
        have hlt : off + (lv P t).length ≤ (lv P e).length ∨ (lv P t).length = 0 := by
          have := congrArg List.length heq2
          simp only [List.length_take, List.length_drop] at this
          omega
        rcases hlt with hlt | hz
        · obtain ⟨w', hrun, hdone⟩ := upd_row (C.sim.kills (rowKeys (cellsOf v))) (off := off) (vs := (a.eval y).cells) (xs := xs) hm1 hbk hin (by omega) (by omega) hcs.one (fun j τ hj hτ => by
            have hj1 : j < (lv P t).length := by omega
            have h5 : (lv P t)[j]? = some τ := by
              rw [heq2, List.getElem?_take, if_pos hj1, List.getElem?_drop]
              exact hτ
            obtain ⟨z, h6, h7⟩ := hrt j τ h5
            rw [List.getD_eq_getElem?_getD, h6]
            simpa using h7)
          refine good_skip h ?_ ((Done.then (ext_kills _) (keeps_kills _) hdone).congr (get_late hnk))
          have := run_storeVar (w := w) hty (by omega) hrun
          simp [execOp, ho, hv, this]
        · exfalso
          have : 0 < sizeT P t := by simpa using hszp
          omega
      · cases h
    · cases h
  · cases h
omit hos C in
theorem append_row (h : Sim P w0 w M β hd) {d : Nat} {ks : List Nat} {e : TypeId} {n : Nat} {g : Nat → Nat → T} {hv v : Value} {xs : List Value} {w' : World} (hvv : v = hv ∨ ((∃ A, v = .slice A 0 0) ∧ hv = .slice none 0 0 ∧ n = 0)) (hd0 : M.get d = none) (hpos : 0 < (lv P e).length)
    (hb : Under w0 w') (hown : w'.ownsRow 0 e (lv P e).length hv n xs) (hnew : ∀ b, hv.ownBlock = some b → w.heap.size ≤ b ∨ ∃ k, k ∈ ks ∧ Owns M β hd k b) (hsame : ∀ b, b < w.heap.size → (∀ k, k ∈ ks → ¬ Owns M β hd k b) → w'.heap[b]? = w.heap[b]?) (hsz : w.heap.size ≤ w'.heap.size) (hdk : d ∉ ks)
    (hxs : ∀ i j τ, i < n → (lv P e)[j]? = some τ → ∃ v, xs[i * (lv P e).length + j]? = some v ∧ RT P w (Own M β hd) τ (g i j) v) :
    Done P w0 w M β hd (.row d 0 n) ((d, .row e n g) :: consumed ks) v w' := by
  unfold Done
  have hMs : ∀ k, (M.sets ((d, .row e n g) :: consumed ks)).get k = if k ∈ ks then some .dead else if d = k then some (.row e n g) else M.get k := by
    intro k
    show ((M.set d (.row e n g)).sets (consumed ks)).get k = _
    rw [get_kills, Store.get_set]
  have hother : ∀ k, M.get k ≠ none → d ≠ k := fun k hk e => hk (e ▸ hd0)
  have howns : ∀ k b, Owns (M.sets ((d, .row e n g) :: consumed ks)) β (fun k => if k = d then hv else hd k) k b → (k = d ∧ hv.ownBlock = some b) ∨ (k ≠ d ∧ k ∉ ks ∧ Owns M β hd k b) := by
    intro k b ho
    unfold Owns at ho
    rw [hMs] at ho
    by_cases hkk : k ∈ ks
    · simp [hkk] at ho
    · rw [if_neg hkk] at ho
      by_cases hkd : k = d
      · left
        refine ⟨hkd, ?_⟩
        subst hkd
        rw [if_pos rfl] at ho
        rcases ho with ⟨t', cs', h1, h2⟩ | ⟨e', n', g', h1, h2⟩
        · cases h1
        · simpa using h2
      · right
        refine ⟨hkd, hkk, ?_⟩
        rw [if_neg (fun e => hkd e.symm)] at ho
        rcases ho with ⟨t', cs', h1, h2⟩ | ⟨e', n', g', h1, h2⟩
        · exact .inl ⟨t', cs', h1, h2⟩
        · exact .inr ⟨e', n', g', h1, by simpa [hkd] using h2⟩
  have hk : Keeps w (Own M β hd) w' (Own (M.sets ((d, .row e n g) :: consumed ks)) β (fun k => if k = d then hv else hd k)) := by
    refine ⟨hsz, fun b hb hob => ⟨hsame b hb (fun k _ ho => hob (.inl ⟨k, ho⟩)), ?_⟩⟩
    rintro (⟨k, ho⟩ | ho)
    · rcases howns k b ho with ⟨_, h1⟩ | ⟨_, _, ho⟩
      · rcases hnew b h1 with h2 | ⟨q, _, h2⟩
        · omega
        · exact hob (.inl ⟨q, h2⟩)
      · exact hob (.inl ⟨k, ho⟩)
    · exact hob (.inr ho)
  have he : Ext M β hd (M.sets ((d, .row e n g) :: consumed ks)) β (fun k => if k = d then hv else hd k) := by
    refine ⟨fun k hk => ?_, fun k t' cs' hm h0 => ?_, fun k e' n' g' hm h0 => ?_, rfl⟩
    · rw [hMs]; split <;> (try split) <;> simp_all
    · have hdk := hother k h0
      rw [hMs] at hm
      split at hm
      · cases hm
      · (try rw [if_neg hdk] at hm)
        exact ⟨⟨cs', hm⟩, rfl⟩
    · have hdk := hother k h0
      rw [hMs] at hm
      split at hm
      · cases hm
      · (try rw [if_neg hdk] at hm)
        exact ⟨⟨g', hm⟩, if_neg (fun e => hdk e.symm)⟩
  have hone : v.oneCell' = true := by
    rcases hvv with rfl | ⟨⟨A, rfl⟩, _⟩
    · rcases hown.2 with ⟨rfl, _⟩ | ⟨q, cap, cur, rfl, _⟩ <;> rfl
    · rfl
  refine ⟨β, fun k => if k = d then hv else hd k, ?_, ?_, he, hk⟩
  · refine .c (.row (by rw [hMs, if_neg hdk, if_pos rfl]; simp) hone fun e' n' g' hm => ?_)
    rw [hMs, if_neg hdk, if_pos rfl] at hm
    cases hm
    show RowV P e (if d = d then hv else hd d) n 0 n v
    rw [if_pos rfl]
    rcases hvv with rfl | ⟨hA, hh, hn⟩
    case inr => exact .inl ⟨hh, hA, rfl, hn⟩
    rcases hown.2 with ⟨rfl, rfl⟩ | ⟨q, cap, cur, rfl, h1, h2, h3, _⟩
    · exact .inl ⟨rfl, ⟨none, rfl⟩, rfl, rfl⟩
    · exact .inr ⟨q, cap, ⟨q, 0, none⟩, rfl, h3, by omega, rfl, fun _ => by simp⟩
  · have hsame2 : ∀ k b, k ∉ ks → Owns M β hd k b → w'.heap[b]? = w.heap[b]? := fun k b hkk ho =>
      hsame b (h.ge k b ho).2 (fun q hq ho' => hkk (h.inj k q b ho ho' ▸ hq))
    refine h.evolve hb hk he ?_ ?_ ?_ ?_
    · intro k b ho
      rcases howns k b ho with ⟨_, h1⟩ | ⟨_, _, ho⟩
      · refine ⟨?_, (hown.lt b h1).2⟩
        rcases hnew b h1 with h2 | ⟨q, _, h2⟩
        · exact .inl (Nat.le_trans h.below.size h2)
        · exact (h.ge q b h2).1
      · have := h.ge k b ho; exact ⟨this.1, by omega⟩
    · intro k k' b ho ho'
      rcases howns k b ho with ⟨rfl, h1⟩ | ⟨h1, h1', h2⟩ <;> rcases howns k' _ ho' with ⟨rfl, h3⟩ | ⟨h3, h3', h4⟩
      · rfl
      · rcases hnew b h1 with h5 | ⟨q, hq, h5⟩
        · have := (h.ge k' _ h4).2; omega
        · exact absurd (h.inj q k' b h5 h4 ▸ hq) h3'
      · rcases hnew b h3 with h5 | ⟨q, hq, h5⟩
        · have := (h.ge k _ h2).2; omega
        · exact absurd (h.inj q k b h5 h2 ▸ hq) h1'
      · exact h.inj k k' b h2 h4
    · intro k t' cs' hm
      rw [hMs] at hm
      split at hm
      · cases hm
      · rename_i hkk
        by_cases hkd : d = k
        · rw [if_pos hkd] at hm; cases hm
        · rw [if_neg hkd] at hm
          exact .inl ⟨hm, rfl, hsame2 k _ hkk (.inl ⟨t', cs', hm, rfl⟩)⟩
    · intro k e' n' g' hm
      rw [hMs] at hm
      split at hm
      · cases hm
      · rename_i hkk
        by_cases hkd : d = k
        · rw [if_pos hkd] at hm
          cases hm
          refine .inr ⟨hpos, xs, ?_, fun i j τ hi hj => ?_⟩
          · show w'.ownsRow 0 e (lv P e).length (if k = d then hv else hd k) n xs
            rw [if_pos hkd.symm]; exact hown
          · obtain ⟨v, h1, h2⟩ := hxs i j τ hi hj
            exact ⟨v, h1, h2.keep hk⟩
        · rw [if_neg hkd] at hm
          refine .inl ⟨hm, if_neg (fun e => hkd e.symm), fun b hb => hsame2 k b hkk (.inr ⟨e', n', g', hm, hb⟩)⟩
theorem seq_src {e : TypeId} {b : AV} {u : Value} {m : Nat} {g : Nat → Nat → T} (hpos : 0 < (lv P e).length) (hr : RA P w M β hd b u) (h : seqOf os e b = some (m, g)) :
    ∃ (A : Option Addr) (c : Nat) (news : List Value), u = .slice A m c ∧ news.length = m * (lv P e).length ∧ (∀ ad, A = some ad → ∀ q x, news[q]? = some x → w.cell? (ad.add q) = some x) ∧ (∀ x ∈ news, x.oneCell' = true) ∧ (A = none → m = 0) ∧
      ∀ i j τ, i < m → (lv P e)[j]? = some τ → ∃ v, news[i * (lv P e).length + j]? = some v ∧ RT P w (Own M β hd) τ (g i j) v := by
  unfold seqOf at h
  split at h
  · obtain ⟨rfl, rfl⟩ : 0 = m ∧ (fun _ _ => T.b false) = g := by simpa using h
    obtain ⟨A, hA⟩ := hr.nl_inv
    exact ⟨A, 0, [], hA, by simp, (fun ad _ q x hq => by simp at hq), by simp, fun _ => rfl, fun i j τ hi _ => absurd hi (Nat.not_lt_zero _)⟩
  · rename_i e' x
    obtain ⟨hee, h'⟩ := bif_inv h
    clear h
    obtain rfl : e = e' := eq_of_beq hee
    obtain ⟨rfl, rfl⟩ : x.len = m ∧ (fun i j => x.el i j) = g := by simpa using h'
    obtain ⟨t', A, cc, ht', hv, hle, hrt⟩ := hr.sl_inv
    rw [hv] at hrt
    cases hrt with
    | @sl _ e2 _ _ _ hu2 hc2 b off vs ha hvs hrr =>
      rw [hu2] at ht'
      cases ht'
      generalize hL : (lv P e).length = L at *
      have hsplit : ∀ q, q < x.len * L → q / L < x.len ∧ q % L < L ∧ q / L * L + q % L = q := by
        intro q hq
        refine ⟨Nat.div_lt_of_lt_mul (by rw [Nat.mul_comm]; exact hq), Nat.mod_lt _ hpos, by rw [Nat.mul_comm]; exact Nat.div_add_mod q L⟩
      have hty : ∀ j, j < L → ∃ τ, (lv P e)[j]? = some τ := fun j hj => ⟨_, List.getElem?_eq_getElem (by rw [hL]; exact hj)⟩
      refine ⟨A, cc, (List.range (x.len * L)).map fun q => vs (q / L) (q % L), hv, by simp, fun ad hA q y hq => ?_, fun y hy => ?_, fun hA => ?_, fun i j τ hi hj => ?_⟩
      · simp only [List.getElem?_map, Option.map_eq_some_iff] at hq
        obtain ⟨q', hq', rfl⟩ := hq
        have hql : q < x.len * L := by have := (List.getElem?_eq_some_iff.1 hq').1; simpa using this
        obtain rfl : q = q' := by rw [List.getElem?_range hql] at hq'; simpa using hq'
        obtain ⟨h1, h2, h3⟩ := hsplit q hql
        obtain ⟨τ, hτ⟩ := hty _ h2
        have h4 := hvs (q / L) (q % L) τ h1 hτ
        obtain ⟨h5, _, _⟩ := ha (Nat.lt_of_le_of_lt (Nat.zero_le _) h1)
        rw [h5] at hA
        cases hA
        rw [add_eq]
        rw [Nat.add_assoc, h3] at h4
        exact h4
      · obtain ⟨q, hq, rfl⟩ := List.mem_map.1 hy
        have hql : q < x.len * L := by simpa using hq
        obtain ⟨h1, h2, h3⟩ := hsplit q hql
        obtain ⟨τ, hτ⟩ := hty _ h2
        exact (hrr _ _ τ h1 hτ).one
      · rcases Nat.eq_zero_or_pos x.len with h0 | h0
        · exact h0
        · obtain ⟨h5, _, _⟩ := ha h0
          rw [h5] at hA; cases hA
      · have hjL : j < L := by rw [← hL]; exact (List.getElem?_eq_some_iff.1 hj).1
        have hlt : i * L + j < x.len * L := by
          have : i * L + L ≤ x.len * L := by rw [← Nat.succ_mul]; exact Nat.mul_le_mul_right _ hi
          omega
        refine ⟨vs i j, ?_, hrr i j τ hi hj⟩
        rw [List.getElem?_map, List.getElem?_range hlt]
        have e1 : (i * L + j) / L = i := by
          rw [Nat.add_comm, Nat.add_mul_div_right _ _ hpos, Nat.div_eq_of_lt hjL, Nat.zero_add]
        have e2 : (i * L + j) % L = j := by
          rw [Nat.add_comm, Nat.add_mul_mod_self_right, Nat.mod_eq_of_lt hjL]
        simp [e1, e2]
  · rename_i k off len
    split at h
    · rename_i e' n g' hlk
      obtain ⟨hee, h'⟩ := bif_inv h
      clear h
      obtain rfl : e = e' := eq_of_beq hee
      obtain ⟨rfl, rfl⟩ : len = m ∧ (fun i j => g' (off + i) j) = g := by simpa using h'
      have hm := hos _ _ hlk
      obtain ⟨_, xs, hown, hxs⟩ := C.sim.row k e n g' hm
      rcases hr.rowv_inv hm with ⟨_, ⟨A, hv⟩, rfl, rfl⟩ | ⟨gb, cap, ad, hhd, hcap, hol, hv, had⟩
      · exact ⟨A, 0, [], hv, by simp, (fun ad _ q x hq => by simp at hq), by simp, fun _ => rfl, fun i j τ hi _ => absurd hi (Nat.not_lt_zero _)⟩
      · have hob : (hd k).ownBlock = some gb := by simp [hhd, Value.ownBlock]
        have hxl := hown.1
        generalize hL : (lv P e).length = L at *
        have hmul : off * L + len * L ≤ n * L := by rw [← Nat.add_mul]; exact Nat.mul_le_mul_right _ hol
        have hlist : ∀ q, q < len * L → ((xs.drop (off * L)).take (len * L))[q]? = xs[off * L + q]? := by
          intro q hq
          rw [List.getElem?_take, if_pos hq, List.getElem?_drop]
        refine ⟨some ad, _, (xs.drop (off * L)).take (len * L), hv, by simp; omega, fun ad' hA q y hq => ?_, fun y hy => ?_, (fun hA => by cases hA), fun i j τ hi hj => ?_⟩
        · cases hA
          have hql : q < len * L := by
            have := (List.getElem?_eq_some_iff.1 hq).1
            simp at this
            omega
          rw [hlist q hql] at hq
          have hlen0 : 0 < len := by
            rcases Nat.eq_zero_or_pos len with h0 | h0
            · subst h0; simp at hql
            · exact h0
          rw [had (.inl (by omega)), add_eq]
          have := hown.cells hob _ y hq
          rw [add_eq, Nat.zero_add] at this
          exact this
        · obtain ⟨q, hq, rfl⟩ := List.getElem_of_mem hy
          have hql : q < len * L := by simp at hq; omega
          have hpL : 0 < L := hpos
          have h1 : q / L < len := Nat.div_lt_of_lt_mul (by rw [Nat.mul_comm]; exact hql)
          have h2 : q % L < L := Nat.mod_lt _ hpL
          have h3 : q / L * L + q % L = q := by rw [Nat.mul_comm]; exact Nat.div_add_mod q L
          obtain ⟨v, h4, h5⟩ := hxs (off + q / L) (q % L) _ (by omega) (List.getElem?_eq_getElem (by rw [hL]; exact h2))
          rw [Nat.add_mul, Nat.add_assoc, h3] at h4
          have h6 := hlist q hql
          rw [List.getElem?_eq_getElem hq, h4] at h6
          rw [Option.some.inj h6]
          exact h5.one
        · have hjL : j < L := by rw [← hL]; exact (List.getElem?_eq_some_iff.1 hj).1
          obtain ⟨v, h4, h5⟩ := hxs (off + i) j τ (by omega) hj
          have hlt : i * L + j < len * L := by
            have : i * L + L ≤ len * L := by rw [← Nat.succ_mul]; exact Nat.mul_le_mul_right _ hi
            omega
          refine ⟨v, ?_, h5⟩
          rw [hlist _ hlt, ← Nat.add_assoc, ← Nat.add_mul]
          exact h4
    · cases h
  · cases h
omit hos C in
theorem elemT_inv {t e : TypeId} (h : elemT P t = some e) : P.underlying t = some (.slice e) := by
  unfold elemT at h
  split at h
  · rename_i e' hu
    obtain rfl : e' = e := by simpa using h
    exact hu
  · cases h
omit hos C in
theorem size_info {e : TypeId} (h : 0 < sizeT P e) : ∃ i, P.info? e = some i ∧ i.size = sizeT P e ∧ i.bytes = bytesT P e := by
  unfold sizeT at h
  cases hi : P.info? e with
  | none => rw [hi] at h; exact absurd h (by simp)
  | some i => exact ⟨i, rfl, by simp [sizeT, hi], by simp [bytesT, hi]⟩
omit hos C in
theorem ownsRow_shorter {w : World} {base : Nat} {e : TypeId} {size n m : Nat} {g cap : Nat} {xs : List Value} (h : w.ownsRow base e size (.slice (some ⟨g, 0, none⟩) n cap) n xs) (hm : m ≤ n) : w.ownsRow base e size (.slice (some ⟨g, 0, none⟩) m cap) m (xs.take (m * size)) := by
  obtain ⟨h1, h2⟩ := h
  have hmul : m * size ≤ n * size := Nat.mul_le_mul_right _ hm
  rcases h2 with ⟨h2, _⟩ | ⟨g', cap', cur, h2, h3, h4, h5, h6, h7, h8⟩
  · cases h2
  · cases h2
    refine ⟨by rw [List.length_take, h1]; exact Nat.min_eq_left hmul, .inr ⟨g, cap, cur, rfl, h3, h4, by omega, h6, h7, ?_⟩⟩
    rw [← h8, List.take_take, Nat.min_eq_left hmul]
theorem run_append {t e : TypeId} {ty : TypeId} {hv u : Value} {n m : Nat} {xs : List Value} {b : AV} {g : Nat → Nat → T} (ht : P.underlying t = some (.slice e)) (hsz : (lv P e).length = sizeT P e) (hpos : 0 < sizeT P e) (hz : ∃ i z, P.info? e = some i ∧ i.zero = some z ∧ z.cells.size = sizeT P e)
    (hown : w.ownsRow 0 e (lv P e).length hv n xs) (hb : RA P w M β hd b u) (hseq : seqOf os e b = some (m, g)) (hbytes : (n + m) * bytesT P e ≤ 140737488355328) (hby : 0 < bytesT P e) :
    ∃ v' w' news, (Builtin.append_ #[t, t] ty #[hv, u]).run P w = .ok v' w' ∧ w'.ownsRow 0 e (lv P e).length v' (n + m) (xs ++ news) ∧ w.grownBy w' hv.ownBlock ∧ (v'.ownBlock = hv.ownBlock ∨ v'.ownBlock = some w.heap.size) ∧
      ∀ i j τ, i < m → (lv P e)[j]? = some τ → ∃ v, news[i * (lv P e).length + j]? = some v ∧ RT P w (Own M β hd) τ (g i j) v := by
  obtain ⟨A, c, news, hu, hnl, hcell, hone, hA0, hty⟩ := seq_src C hos (by omega) hb hseq
  obtain ⟨i, z, hi, hzz, hzs⟩ := hz
  have hisz : i.size = sizeT P e := by simp [sizeT, hi]
  have hiby : i.bytes = bytesT P e := by simp [bytesT, hi]
  have hbase : 0 ≤ w.heap.size := Nat.zero_le _
  have hsize : w0.w.heap.size ≤ w.heap.size := C.sim.below.size
  have hnm : ∀ b, ¬ w0.mine b → b < w.heap.size := fun b hb => by have h2 : ¬ w0.w.heap.size ≤ b := fun e => hb (.inl e); omega
  have hnm : n + m ≤ 140737488355328 := Nat.le_trans (Nat.le_mul_of_pos_right _ hby) hbytes
  cases A with
  | none =>
    have hm0 := hA0 rfl
    subst hm0
    have hn : news = [] := List.eq_nil_of_length_eq_zero (by rw [hnl]; simp)
    subst hn
    have hc0 : u = .slice none 0 c := hu
    refine ⟨hv, w, [], ?_, by simpa using hown, ⟨rfl, rfl, rfl, Nat.le_refl _, fun _ _ _ => rfl⟩, .inl rfl, fun i j τ hi _ => absurd hi (Nat.not_lt_zero _)⟩
    rw [hc0]
    rcases hown.2 with ⟨rfl, rfl⟩ | ⟨g, cap, cur, rfl, _, _, hnc, _⟩
    · simp [Builtin.append_, run_underlying ht, sizeOf, typeInfo, hi, Builtin.lenOf, Builtin.firstCells]
    · simp [Builtin.append_, run_underlying ht, sizeOf, typeInfo, hi, Builtin.lenOf, Builtin.firstCells, hnc, storeCells]
  | some ad =>
    obtain ⟨v', w', h1, h2, h3, _, h5⟩ := run_append_own_at (P := P) w 0 t ty e i z (lv P e).length (bytesT P e) ht hi hzz (by omega) hiby (by omega) (by omega) hv n xs hown ad m c news hnl (hcell ad rfl) hone (by simp only [maxLen]; omega) hbytes hbase
    exact ⟨v', w', news, by rw [hu]; exact h1, h2, h3, h5, hty⟩
theorem run_append_any {t e : TypeId} {ty : TypeId} {hv bv u : Value} {n m : Nat} {xs : List Value} {b : AV} {g : Nat → Nat → T} (hbv : bv = hv ∨ ((∃ A, bv = .slice A 0 0) ∧ hv = .slice none 0 0 ∧ n = 0)) (ht : P.underlying t = some (.slice e)) (hsz : (lv P e).length = sizeT P e) (hpos : 0 < sizeT P e) (hz : ∃ i z, P.info? e = some i ∧ i.zero = some z ∧ z.cells.size = sizeT P e)
    (hown : w.ownsRow 0 e (lv P e).length hv n xs) (hb : RA P w M β hd b u) (hseq : seqOf os e b = some (m, g)) (hbytes : (n + m) * bytesT P e ≤ 140737488355328) (hby : 0 < bytesT P e) :
    ∃ v v' w' news, (Builtin.append_ #[t, t] ty #[bv, u]).run P w = .ok v w' ∧ (v = v' ∨ ((∃ A, v = .slice A 0 0) ∧ v' = .slice none 0 0 ∧ n + m = 0)) ∧ w'.ownsRow 0 e (lv P e).length v' (n + m) (xs ++ news) ∧ w.grownBy w' hv.ownBlock ∧ (v'.ownBlock = hv.ownBlock ∨ v'.ownBlock = some w.heap.size) ∧
      ∀ i j τ, i < m → (lv P e)[j]? = some τ → ∃ v, news[i * (lv P e).length + j]? = some v ∧ RT P w (Own M β hd) τ (g i j) v := by
  obtain ⟨v', w', news, h1, h2, h3, h4, h5⟩ := run_append C hos (ty := ty) ht hsz hpos hz hown hb hseq hbytes hby
  rcases hbv with rfl | ⟨⟨A, rfl⟩, rfl, rfl⟩
  · exact ⟨v', v', w', news, h1, .inl rfl, h2, h3, h4, h5⟩
  · obtain ⟨B, c, _, hu, _⟩ := seq_src C hos (by omega) hb hseq
    obtain ⟨i, z, hi, _, _⟩ := hz
    have hiby : i.bytes = bytesT P e := by simp [bytesT, hi]
    subst hu
    rcases Nat.eq_zero_or_pos m with hm | hm
    · subst hm
      rw [run_append_empty ht hi] at h1
      cases h1
      exact ⟨_, _, _, news, run_append_empty ht hi A B c, .inr ⟨⟨A, rfl⟩, rfl, rfl⟩, h2, h3, h4, h5⟩
    · have hmb : m * bytesT P e ≤ 140737488355328 := by simpa using hbytes
      have hm2 : m ≤ 140737488355328 := Nat.le_trans (Nat.le_mul_of_pos_right _ hby) hmb
      refine ⟨v', v', w', news, ?_, .inl rfl, h2, h3, h4, h5⟩
      rw [run_append_bare ht hi A B m c hm hm2 ?_]
      · exact h1
      · have : Builtin.nextslicecap m 0 = m := by unfold Builtin.nextslicecap; rw [if_pos (by omega)]
        rw [this, hiby]; omega
theorem append_ok {o : Oper} {c : Call} {t : TypeId} {x y : Operand} {d : Nat} (hfree : free os d = true → M.get d = none) (ho : o.op = .call c) (hc : c.callee = .builtin .append) (hargs : c.args = #[x, y]) (hts : c.argTypes = #[t, t]) (h : eAppend P d t os κ [evO sl x, evO sl y] = some r) : Good P w0 w M β hd a o κ r := by
  have hx := rel1 C x
  have hy := rel1 C y
  have hbase : 0 ≤ w.heap.size := Nat.zero_le _
  have hsize : w0.w.heap.size ≤ w.heap.size := C.sim.below.size
  have hnm : ∀ b, ¬ w0.mine b → b < w.heap.size := fun b hb => by have h2 : ¬ w0.w.heap.size ≤ b := fun e => hb (.inl e); omega
  have fin : ∀ {v : AV} {us : List (Nat × Ob)} {v' : Value} {w' : World}, (Builtin.append_ #[t, t] o.type #[a.eval x, a.eval y]).run P w = .ok v' w' → κ v us = some r → Done P w0 w M β hd v us v' w' → Good P w0 w M β hd a o κ r := by
    intro v us v' w' hr hk hdn
    refine good_done hk (run_call_builtin ho hc (fun cs => ?_)) hdn
    simp [hargs, hts, builtin, hr]
  unfold eAppend at h
  split at h
  · rename_i b heq
    injection heq with h1 h2
    injection h2 with h2 _
    rw [h1] at hx
    rw [h2] at hy
    obtain ⟨hf, h⟩ := bif_inv h
    split at h
    · rename_i e hel
      have hu := elemT_inv hel
      obtain ⟨hcc, h⟩ := bif_inv h
      rw [Bool.and_eq_true, Bool.and_eq_true, Bool.and_eq_true] at hcc
      obtain ⟨⟨⟨hsz, hpos⟩, hby⟩, hzc⟩ := hcc
      have hsz : (lv P e).length = sizeT P e := eq_of_beq hsz
      have hpos : 0 < sizeT P e := by simpa using hpos
      have hby : 0 < bytesT P e := by simpa using hby
      split at h
      · rename_i m g hseq
        obtain ⟨hbb, h⟩ := bif_inv h
        have hbb := of_decide_eq_true hbb
        have hz : ∃ i z, P.info? e = some i ∧ i.zero = some z ∧ z.cells.size = sizeT P e := by
          unfold zeroOk at hzc
          split at hzc
          · rename_i i hi
            split at hzc
            · rename_i z hz
              exact ⟨i, z, hi, hz, eq_of_beq hzc⟩
            · cases hzc
          · cases hzc
        obtain ⟨A, hA⟩ := hx.nl_inv
        obtain ⟨v, v', w', news, h3, hvv, h4, h5, h6, h7⟩ := run_append_any C hos (ty := o.type) (bv := a.eval x) (.inr ⟨⟨A, hA⟩, rfl, rfl⟩) hu hsz hpos hz (World.ownsRow_nil w 0 e _) hy hseq (by simpa using hbb) hby
        simp only [Nat.zero_add, List.nil_append] at h4 hvv
        refine fin h3 h (append_row (ks := []) C.sim hvv (hfree hf) (by omega) ?_ h4 ?_ ?_ h5.size (by simp) h7)
        · exact C.sim.below.trans ⟨h5.os, h5.tape, h5.output, h5.size, fun b hb => h5.block b (hnm b hb) (by simp [Value.ownBlock])⟩
        · intro b hb
          rcases h6 with h6 | h6
          · rw [h6] at hb; simp [Value.ownBlock] at hb
          · rw [h6] at hb; exact .inl (by simp at hb; omega)
        · intro b hb _
          exact h5.block b hb (by simp [Value.ownBlock])
      · cases h
    · cases h
  · rename_i k n b heq
    injection heq with h1 h2
    injection h2 with h2 _
    rw [h1] at hx
    rw [h2] at hy
    obtain ⟨hf, h⟩ := bif_inv h
    split at h
    · rename_i e hel
      have hu := elemT_inv hel
      obtain ⟨hcc, h⟩ := bif_inv h
      rw [Bool.and_eq_true, Bool.and_eq_true, Bool.and_eq_true] at hcc
      obtain ⟨⟨⟨hsz, hpos⟩, hby⟩, hzc⟩ := hcc
      have hsz : (lv P e).length = sizeT P e := eq_of_beq hsz
      have hpos : 0 < sizeT P e := by simpa using hpos
      have hby : 0 < bytesT P e := by simpa using hby
      split at h
      · rename_i e' n0 f m g hlk hseq
        have hm := hos _ _ hlk
        obtain ⟨hee, h'⟩ := bif_inv h
        clear h
        rw [Bool.and_eq_true] at hee
        obtain rfl : e = e' := eq_of_beq hee.1
        obtain ⟨hbb, h⟩ := bif_inv h'
        have hbb := of_decide_eq_true hbb
        have hz : ∃ i z, P.info? e = some i ∧ i.zero = some z ∧ z.cells.size = sizeT P e := by
          unfold zeroOk at hzc
          split at hzc
          · rename_i i hi
            split at hzc
            · rename_i z hz
              exact ⟨i, z, hi, hz, eq_of_beq hzc⟩
            · cases hzc
          · cases hzc
        obtain ⟨hpos2, xs, hown, hxs⟩ := C.sim.row k e n0 f hm
        have hdk : d ∉ [k] := by
          intro hdk
          have : d = k := by simpa using hdk
          have h0 := hfree hf
          rw [this, hm] at h0
          cases h0
        have hhead : ∃ hv xs', (a.eval x = hv ∨ ((∃ A, a.eval x = .slice A 0 0) ∧ hv = .slice none 0 0 ∧ n = 0)) ∧ w.ownsRow 0 e (lv P e).length hv n xs' ∧ (∀ q, hv.ownBlock = some q → Owns M β hd k q) ∧ (∀ i j τ, i < n → (lv P e)[j]? = some τ → ∃ v, xs'[i * (lv P e).length + j]? = some v ∧ RT P w (Own M β hd) τ (f i j) v) := by
          rcases hx.rowv_inv hm with ⟨hh, hv, _, rfl⟩ | ⟨gb, cap, ad, hhd, hcap, hol, hv, had⟩
          · exact ⟨_, [], .inr ⟨hv, rfl, rfl⟩, World.ownsRow_nil w _ e _, by simp [Value.ownBlock], fun i j τ hi _ => absurd hi (Nat.not_lt_zero _)⟩
          · have hadr := had (.inr rfl)
            simp only [Nat.zero_mul] at hadr
            subst hadr
            rw [hhd] at hown
            refine ⟨_, xs.take (n * (lv P e).length), .inl hv, ?_, fun q hq => ?_, fun i j τ hi hj => ?_⟩
            · simpa using ownsRow_shorter hown (show n ≤ n0 by omega)
            · exact .inr ⟨e, n0, f, hm, by rw [hhd]; simpa [Value.ownBlock] using hq⟩
            · obtain ⟨v, h8, h9⟩ := hxs i j τ (by omega) hj
              refine ⟨v, ?_, h9⟩
              have hjL : j < (lv P e).length := (List.getElem?_eq_some_iff.1 hj).1
              have : i * (lv P e).length + (lv P e).length ≤ n * (lv P e).length := by rw [← Nat.succ_mul]; exact Nat.mul_le_mul_right _ hi
              rw [List.getElem?_take, if_pos (by omega)]
              exact h8
        obtain ⟨hv, xs', hev, hown', hblk, hxs'⟩ := hhead
        obtain ⟨v, v', w', news, h3, hvv, h4, h5, h6, h7⟩ := run_append_any C hos (ty := o.type) hev hu hsz hpos hz hown' hy hseq hbb hby
        refine fin h3 h (append_row (ks := [k]) C.sim hvv (hfree hf) (by omega) ?_ h4 ?_ ?_ h5.size hdk ?_)
        · refine C.sim.below.trans ⟨h5.os, h5.tape, h5.output, h5.size, fun b hb => h5.block b (hnm b hb) (fun e => ?_)⟩
          exact hb (C.sim.ge k b (hblk b e.symm)).1
        · intro b hb
          rcases h6 with h6 | h6
          · rw [h6] at hb; exact .inr ⟨k, by simp, hblk b hb⟩
          · rw [h6] at hb; exact .inl (by simp at hb; omega)
        · intro b hb hno
          exact h5.block b hb (fun e => hno k (by simp) (hblk b e.symm))
        · intro i j τ hi hj
          have hxl : xs'.length = n * (lv P e).length := hown'.1
          have hjL : j < (lv P e).length := (List.getElem?_eq_some_iff.1 hj).1
          by_cases hin : i < n
          · obtain ⟨v, h8, h9⟩ := hxs' i j τ hin hj
            refine ⟨v, ?_, ?_⟩
            · rw [List.getElem?_append_left (List.getElem?_eq_some_iff.1 h8).1]; exact h8
            · have e1 : Nat.blt i n = true := by rw [Nat.blt_eq]; exact hin
              show RT P w (Own M β hd) τ (bif Nat.blt i n then f i j else g (i - n) j) v
              rw [e1]; exact h9
          · obtain ⟨v, h8, h9⟩ := h7 (i - n) j τ (by omega) hj
            refine ⟨v, ?_, ?_⟩
            · have e2 : i * (lv P e).length = n * (lv P e).length + (i - n) * (lv P e).length := by rw [← Nat.add_mul]; congr 1; omega
              rw [List.getElem?_append_right (by rw [hxl]; omega), hxl]
              have e3 : i * (lv P e).length + j - n * (lv P e).length = (i - n) * (lv P e).length + j := by omega
              rw [e3]; exact h8
            · have e1 : Nat.blt i n = false := by
                cases hbt : Nat.blt i n with
                | false => rfl
                | true => rw [Nat.blt_eq] at hbt; exact absurd hbt hin
              show RT P w (Own M β hd) τ (bif Nat.blt i n then f i j else g (i - n) j) v
              rw [e1]; exact h9
      · cases h
    · cases h
  · cases h
omit hos C in
theorem run_append_anyS {t u e : TypeId} {ty : TypeId} {hv bv : Value} {n : Nat} {xs : List Value} {y : ByteArray} (hbv : bv = hv ∨ ((∃ A, bv = .slice A 0 0) ∧ hv = .slice none 0 0 ∧ n = 0)) (ht : P.underlying t = some (.slice e)) (hus : P.underlying u = some .string) (h8 : u8Ok P e = true)
    (hown : w.ownsRow 0 e (lv P e).length hv n xs) (hbytes : n + y.size ≤ 140737488355328) :
    ∃ v v' w' news, (Builtin.append_ #[t, u] ty #[bv, .string y]).run P w = .ok v w' ∧ (v = v' ∨ ((∃ A, v = .slice A 0 0) ∧ v' = .slice none 0 0 ∧ n + y.size = 0)) ∧ w'.ownsRow 0 e (lv P e).length v' (n + y.size) (xs ++ news) ∧ w.grownBy w' hv.ownBlock ∧ (v'.ownBlock = hv.ownBlock ∨ v'.ownBlock = some w.heap.size) ∧
      ∀ i j τ, i < y.size → (lv P e)[j]? = some τ → ∃ v, news[i * (lv P e).length + j]? = some v ∧ RT P w (Own M β hd) τ (.i (bt y i)) v := by
  obtain ⟨hu, hlv, i, hi, hs1, hb1, hz⟩ := u8Ok_inv h8
  rw [hlv] at hown ⊢
  simp only [List.length_singleton] at hown ⊢
  obtain ⟨v', w', h1, h2, h3, h4⟩ := run_append_str (ty := ty) w ht hus hi hz hs1 hb1 hown y hbytes
  have h5 : ∀ i j τ, i < y.size → ([e] : List TypeId)[j]? = some τ → ∃ v, (Lib.strCells y)[i * 1 + j]? = some v ∧ RT P w (Own M β hd) τ (.i (bt y i)) v := by
    intro q j τ hq hj
    cases j with
    | succ j => simp at hj
    | zero =>
      obtain rfl : e = τ := by simpa using hj
      have hq' : q < y.data.size := hq
      refine ⟨.int .u8 (bt y q), ?_, ?_⟩
      · rw [Nat.mul_one, Nat.add_zero, Lib.strCells, List.getElem?_map, List.getElem?_eq_getElem (by simpa using hq')]
        simp [bt, Array.getD_eq_getD_getElem?, Array.getElem?_eq_getElem hq']
      · have := RT.int (w := w) (O := Own M β hd) (x := .i (bt y q)) hu
        exact this
  rcases hbv with rfl | ⟨⟨A, rfl⟩, rfl, rfl⟩
  · exact ⟨v', v', w', _, h1, .inl rfl, h2, h3, h4, h5⟩
  · rcases Nat.eq_zero_or_pos y.size with hm | hm
    · rw [run_append_emptyS ht hus hi none y hm] at h1
      cases h1
      exact ⟨_, _, _, _, run_append_emptyS ht hus hi A y hm, .inr ⟨⟨A, rfl⟩, rfl, by omega⟩, h2, h3, h4, h5⟩
    · refine ⟨v', v', w', _, ?_, .inl rfl, h2, h3, h4, h5⟩
      rw [run_append_bareS ht hus hi hs1 A y hm (by omega) ?_]
      · exact h1
      · have : Builtin.nextslicecap y.size 0 = y.size := by unfold Builtin.nextslicecap; rw [if_pos (by omega)]
        rw [this, hb1]; omega
theorem appendS_ok {o : Oper} {c : Call} {t u : TypeId} {x y : Operand} {d : Nat} (hfree : free os d = true → M.get d = none) (ho : o.op = .call c) (hc : c.callee = .builtin .append) (hargs : c.args = #[x, y]) (hts : c.argTypes = #[t, u]) (hus : P.underlying u = some .string) (h : eAppendS P d t os κ [evO sl x, evO sl y] = some r) : Good P w0 w M β hd a o κ r := by
  have hx := rel1 C x
  have hy := rel1 C y
  have hbase : 0 ≤ w.heap.size := Nat.zero_le _
  have hsize : w0.w.heap.size ≤ w.heap.size := C.sim.below.size
  have hnm : ∀ b, ¬ w0.mine b → b < w.heap.size := fun b hb => by have h2 : ¬ w0.w.heap.size ≤ b := fun e => hb (.inl e); omega
  have fin : ∀ {v : AV} {us : List (Nat × Ob)} {v' : Value} {w' : World}, (Builtin.append_ #[t, u] o.type #[a.eval x, a.eval y]).run P w = .ok v' w' → κ v us = some r → Done P w0 w M β hd v us v' w' → Good P w0 w M β hd a o κ r := by
    intro v us v' w' hr hk hdn
    refine good_done hk (run_call_builtin ho hc (fun cs => ?_)) hdn
    simp [hargs, hts, builtin, hr]
  unfold eAppendS at h
  split at h
  · rename_i b heq
    injection heq with h1 h2
    injection h2 with h2 _
    rw [h1] at hx
    rw [h2] at hy
    obtain ⟨hf, h⟩ := bif_inv h
    split at h
    · rename_i e hel
      have hu := elemT_inv hel
      obtain ⟨hcc, h⟩ := bif_inv h
      have hpos : 0 < (lv P e).length := by rw [(u8Ok_inv hcc).2.1]; exact Nat.zero_lt_one
      · obtain ⟨hbb, h⟩ := bif_inv h
        have hbb := of_decide_eq_true hbb
        have hys := hy.s_inv
        obtain ⟨A, hA⟩ := hx.nl_inv
        obtain ⟨v, v', w', news, h3, hvv, h4, h5, h6, h7⟩ := run_append_anyS (w := w) (M := M) (β := β) (hd := hd) (y := b) (ty := o.type) (bv := a.eval x) (.inr ⟨⟨A, hA⟩, rfl, rfl⟩) hu hus hcc (World.ownsRow_nil w 0 e _) (by omega)
        simp only [Nat.zero_add, List.nil_append] at h4 hvv
        refine fin (by rw [hys]; exact h3) h (append_row (ks := []) C.sim hvv (hfree hf) (by omega) ?_ h4 ?_ ?_ h5.size (by simp) h7)
        · exact C.sim.below.trans ⟨h5.os, h5.tape, h5.output, h5.size, fun b hb => h5.block b (hnm b hb) (by simp [Value.ownBlock])⟩
        · intro b hb
          rcases h6 with h6 | h6
          · rw [h6] at hb; simp [Value.ownBlock] at hb
          · rw [h6] at hb; exact .inl (by simp at hb; omega)
        · intro b hb _
          exact h5.block b hb (by simp [Value.ownBlock])
    · cases h
  · rename_i k n b heq
    injection heq with h1 h2
    injection h2 with h2 _
    rw [h1] at hx
    rw [h2] at hy
    obtain ⟨hf, h⟩ := bif_inv h
    split at h
    · rename_i e hel
      have hu := elemT_inv hel
      obtain ⟨hcc, h⟩ := bif_inv h
      have hpos : 0 < (lv P e).length := by rw [(u8Ok_inv hcc).2.1]; exact Nat.zero_lt_one
      split at h
      · rename_i e' n0 f hlk
        have hm := hos _ _ hlk
        obtain ⟨hee, h'⟩ := bif_inv h
        clear h
        obtain rfl : e = e' := eq_of_beq hee
        have hys := hy.s_inv
        obtain ⟨hbb, h⟩ := bif_inv h'
        have hbb := of_decide_eq_true hbb
        obtain ⟨hpos2, xs, hown, hxs⟩ := C.sim.row k e n0 f hm
        have hdk : d ∉ [k] := by
          intro hdk
          have : d = k := by simpa using hdk
          have h0 := hfree hf
          rw [this, hm] at h0
          cases h0
        have hhead : ∃ hv xs', (a.eval x = hv ∨ ((∃ A, a.eval x = .slice A 0 0) ∧ hv = .slice none 0 0 ∧ n = 0)) ∧ w.ownsRow 0 e (lv P e).length hv n xs' ∧ (∀ q, hv.ownBlock = some q → Owns M β hd k q) ∧ (∀ i j τ, i < n → (lv P e)[j]? = some τ → ∃ v, xs'[i * (lv P e).length + j]? = some v ∧ RT P w (Own M β hd) τ (f i j) v) := by
          rcases hx.rowv_inv hm with ⟨hh, hv, _, rfl⟩ | ⟨gb, cap, ad, hhd, hcap, hol, hv, had⟩
          · exact ⟨_, [], .inr ⟨hv, rfl, rfl⟩, World.ownsRow_nil w _ e _, by simp [Value.ownBlock], fun i j τ hi _ => absurd hi (Nat.not_lt_zero _)⟩
          · have hadr := had (.inr rfl)
            simp only [Nat.zero_mul] at hadr
            subst hadr
            rw [hhd] at hown
            refine ⟨_, xs.take (n * (lv P e).length), .inl hv, ?_, fun q hq => ?_, fun i j τ hi hj => ?_⟩
            · simpa using ownsRow_shorter hown (show n ≤ n0 by omega)
            · exact .inr ⟨e, n0, f, hm, by rw [hhd]; simpa [Value.ownBlock] using hq⟩
            · obtain ⟨v, h8, h9⟩ := hxs i j τ (by omega) hj
              refine ⟨v, ?_, h9⟩
              have hjL : j < (lv P e).length := (List.getElem?_eq_some_iff.1 hj).1
              have : i * (lv P e).length + (lv P e).length ≤ n * (lv P e).length := by rw [← Nat.succ_mul]; exact Nat.mul_le_mul_right _ hi
              rw [List.getElem?_take, if_pos (by omega)]
              exact h8
        obtain ⟨hv, xs', hev, hown', hblk, hxs'⟩ := hhead
        obtain ⟨v, v', w', news, h3, hvv, h4, h5, h6, h7⟩ := run_append_anyS (w := w) (M := M) (β := β) (hd := hd) (y := b) (ty := o.type) hev hu hus hcc hown' hbb
        refine fin (by rw [hys]; exact h3) h (append_row (ks := [k]) C.sim hvv (hfree hf) (by omega) ?_ h4 ?_ ?_ h5.size hdk ?_)
        · refine C.sim.below.trans ⟨h5.os, h5.tape, h5.output, h5.size, fun b hb => h5.block b (hnm b hb) (fun e => ?_)⟩
          exact hb (C.sim.ge k b (hblk b e.symm)).1
        · intro b hb
          rcases h6 with h6 | h6
          · rw [h6] at hb; exact .inr ⟨k, by simp, hblk b hb⟩
          · rw [h6] at hb; exact .inl (by simp at hb; omega)
        · intro b hb hno
          exact h5.block b hb (fun e => hno k (by simp) (hblk b e.symm))
        · intro i j τ hi hj
          have hxl : xs'.length = n * (lv P e).length := hown'.1
          have hjL : j < (lv P e).length := (List.getElem?_eq_some_iff.1 hj).1
          by_cases hin : i < n
          · obtain ⟨v, h8, h9⟩ := hxs' i j τ hin hj
            refine ⟨v, ?_, ?_⟩
            · rw [List.getElem?_append_left (List.getElem?_eq_some_iff.1 h8).1]; exact h8
            · have e1 : Nat.blt i n = true := by rw [Nat.blt_eq]; exact hin
              show RT P w (Own M β hd) τ (bif Nat.blt i n then f i j else .i (bt b (i - n))) v
              rw [e1]; exact h9
          · obtain ⟨v, h8, h9⟩ := h7 (i - n) j τ (by omega) hj
            refine ⟨v, ?_, ?_⟩
            · have e2 : i * (lv P e).length = n * (lv P e).length + (i - n) * (lv P e).length := by rw [← Nat.add_mul]; congr 1; omega
              rw [List.getElem?_append_right (by rw [hxl]; omega), hxl]
              have e3 : i * (lv P e).length + j - n * (lv P e).length = (i - n) * (lv P e).length + j := by omega
              rw [e3]; exact h8
            · have e1 : Nat.blt i n = false := by
                cases hbt : Nat.blt i n with
                | false => rfl
                | true => rw [Nat.blt_eq] at hbt; exact absurd hbt hin
              show RT P w (Own M β hd) τ (bif Nat.blt i n then f i j else .i (bt b (i - n))) v
              rw [e1]; exact h9
      · cases h
    · cases h
  · cases h
omit hos C in
theorem sameOp_eval {x y : Operand} (h : sameOp x y = true) : a.eval x = a.eval y := by
  unfold sameOp at h
  split at h
  · rw [eq_of_beq h]
  · rw [eq_of_beq h]
  · cases h
omit hos in
theorem makeSlice_ok {o : Oper} {t : TypeId} {x y : Operand} {d : Nat} (hfree : free os d = true → M.get d = none) (ho : o.op = .makeSlice t x y) (h : eMakeSlice P d t x y os κ [evO sl x, evO sl y] = some r) : Good P w0 w M β hd a o κ r := by
  have hx := rel1 C x
  have hbase : 0 ≤ w.heap.size := Nat.zero_le _
  have hsize : w0.w.heap.size ≤ w.heap.size := C.sim.below.size
  have hnm : ∀ b, ¬ w0.mine b → b < w.heap.size := fun b hb => by have h2 : ¬ w0.w.heap.size ≤ b := fun e => hb (.inl e); omega
  unfold eMakeSlice at h
  split at h
  · rename_i n z0 heq
    injection heq with h1 _
    rw [h1] at hx
    obtain ⟨hf, h⟩ := bif_inv h
    rw [Bool.and_eq_true] at hf
    split at h
    · rename_i e hel
      have hu := elemT_inv hel
      split at h
      · rename_i z hz
        obtain ⟨i, zv, hi, hzv, hzc⟩ := zeroCells_rel (w := w) (M := M) (β := β) (hd := hd) hz
        obtain ⟨hcc, h⟩ := bif_inv h
        rw [Bool.and_eq_true, Bool.and_eq_true] at hcc
        obtain ⟨⟨hsz, hpos⟩, hby⟩ := hcc
        have hsz : (lv P e).length = sizeT P e := eq_of_beq hsz
        have hpos : 0 < sizeT P e := by simpa using hpos
        have hby : 0 < bytesT P e := by simpa using hby
        have hisz : i.size = sizeT P e := by simp [sizeT, hi]
        have hiby : i.bytes = bytesT P e := by simp [bytesT, hi]
        split at h
        · rename_i zs hzs
          obtain ⟨hbb, h⟩ := bif_inv h
          rw [Bool.and_eq_true] at hbb
          have hn0 : 0 ≤ n := of_decide_eq_true hbb.1
          have hn1 : (bytesT P e : Int) * n ≤ 140737488355328 := of_decide_eq_true hbb.2
          obtain ⟨m, rfl⟩ := Int.eq_ofNat_of_zero_le hn0
          have hn2 : bytesT P e * m ≤ 140737488355328 := by
            have : ((bytesT P e * m : Nat) : Int) ≤ 140737488355328 := by rw [Int.natCast_mul]; exact hn1
            omega
          have hm : m ≤ 140737488355328 := Nat.le_trans (Nat.le_mul_of_pos_left _ hby) hn2
          have hfr := frzs_rel (O' := Own M β hd) C.sim (os := []) (fun k ob h => by simp [lk] at h) (fun b h => h) (us := zv.cells) 0 (lv P e) z zs 0 hzs
            (fun k b hk _ => by
              exfalso
              have hnorow : ∀ v ∈ z, rowKeys [v] = [] := by
                unfold zeroCells at hz
                rw [hi] at hz
                simp only [hzv] at hz
                have h1 : ∀ q, rowKeys [ofConst1 q] = [] := by
                  intro q
                  unfold ofConst1
                  split <;> rfl
                intro v hv
                split at hz
                · rename_i cs _
                  cases hb : cs.toList.all one1 with
                  | false => rw [hb] at hz; cases hz
                  | true =>
                    rw [hb] at hz
                    obtain rfl : cs.toList.map ofConst1 = z := by simpa using hz
                    obtain ⟨q, _, rfl⟩ := List.mem_map.1 hv
                    exact h1 q
                · rename_i v' _ hv'
                  cases hb : one1 v' with
                  | false => rw [hb] at hz; cases hz
                  | true =>
                    rw [hb] at hz
                    obtain rfl : [ofConst1 v'] = z := by simpa using hz
                    obtain rfl : v = ofConst1 v' := by simpa using hv
                    exact h1 _
                · cases hz
              have hall : ∀ l : List AV, (∀ v ∈ l, rowKeys [v] = []) → rowKeys l = [] := by
                intro l
                induction l with
                | nil => intro _; rfl
                | cons v l ih =>
                  intro hh
                  have h2 := hh v (by simp)
                  have h3 := ih (fun q hq => hh q (by simp [hq]))
                  cases v <;> simp [rowKeys] at h2 ⊢ <;> exact h3
              rw [hall z hnorow] at hk
              cases hk) (fun j c hj => by simpa using hzc.2 j c hj)
          obtain ⟨hl1, hl2, hrt⟩ := hfr
          have hzsz : zv.cells.size = sizeT P e := by rw [← hzc.1]; omega
          have hnn : Value.int .i64 ((m : Nat) : Int) = a.eval x := hx.i_inv.symm
          obtain ⟨w', hr1, hr2, hr3⟩ := run_make_full (P := P) w 0 t e i zv (lv P e).length hu hi hzv (by omega) .i64 .i64 m (by rw [hiby]; omega) (by simp only [maxLen]; omega) hbase
          refine good_done h ?_ (new_row C.sim (hfree hf.1) (by omega) ?_ hr2 ?_ ?_ hr3.size ?_)
          · have e1 : a.eval y = a.eval x := (sameOp_eval (a := a) hf.2).symm
            simp [execOp, ho, e1, ← hnn, hr1]
          · exact C.sim.below.trans ⟨hr3.os, hr3.tape, hr3.output, hr3.size, fun b hb => hr3.block b (hnm b hb) (by simp)⟩
          · intro b hb
            simp [Value.ownBlock] at hb
            omega
          · intro b hb
            exact hr3.block b hb (by simp)
          · intro q j τ hq hj
            have hq : q < m := by simpa using hq
            obtain ⟨x', h6, h7⟩ := hrt j τ hj
            have hjL : j < (lv P e).length := (List.getElem?_eq_some_iff.1 hj).1
            have hlt : q * (lv P e).length + j < m * (lv P e).length := by
              have : q * (lv P e).length + (lv P e).length ≤ m * (lv P e).length := by rw [← Nat.succ_mul]; exact Nat.mul_le_mul_right _ hq
              omega
            refine ⟨zv.cells.getD j undef, ?_, ?_⟩
            · have hmod : (q * (lv P e).length + j) % zv.cells.size = j := by
                rw [hzsz, ← hsz, Nat.add_comm, Nat.add_mul_mod_self_right, Nat.mod_eq_of_lt hjL]
              have hjz : j < zv.cells.size := by omega
              simp [madeCells, hlt, hmod, Array.getD_eq_getD_getElem?, hjz]
            · rw [List.getD_eq_getElem?_getD, h6]
              simpa using h7
        · cases h
      · cases h
    · cases h
  · cases h
omit hos in
theorem appendZ_ok {o : Oper} {c : Call} {t u : TypeId} {kn : IntKind} {x y : Operand} {d : Nat} (hfree : free os d = true → M.get d = none) (ho : o.op = .call c) (hc : c.callee = .builtin .append) (hargs : c.args = #[x, y]) (hts : c.argTypes = #[t, u]) (hun : P.underlying u = some (.int kn)) (h : eAppendZ P d t os κ [evO sl x, evO sl y] = some r) : Good P w0 w M β hd a o κ r := by
  have hx := rel1 C x
  have hy := rel1 C y
  have hbase : 0 ≤ w.heap.size := Nat.zero_le _
  have hsize : w0.w.heap.size ≤ w.heap.size := C.sim.below.size
  have hnm : ∀ b, ¬ w0.mine b → b < w.heap.size := fun b hb => by have h2 : ¬ w0.w.heap.size ≤ b := fun e => hb (.inl e); omega
  unfold eAppendZ at h
  split at h
  · rename_i kq n heq
    injection heq with h1 h2
    injection h2 with h2 _
    rw [h1] at hx
    rw [h2] at hy
    obtain ⟨hf, h⟩ := bif_inv h
    split at h
    · rename_i e hel
      have hu := elemT_inv hel
      split at h
      · rename_i z hz
        obtain ⟨i, zv, hi, hzv, hzc⟩ := zeroCells_rel (w := w) (M := M) (β := β) (hd := hd) hz
        obtain ⟨hcc, h⟩ := bif_inv h
        rw [Bool.and_eq_true, Bool.and_eq_true] at hcc
        obtain ⟨⟨hsz, hpos⟩, hby⟩ := hcc
        have hsz : (lv P e).length = sizeT P e := eq_of_beq hsz
        have hpos : 0 < sizeT P e := by simpa using hpos
        have hby : 0 < bytesT P e := by simpa using hby
        have hisz : i.size = sizeT P e := by simp [sizeT, hi]
        have hiby : i.bytes = bytesT P e := by simp [bytesT, hi]
        split at h
        · rename_i zs hzs
          obtain ⟨hbb, h⟩ := bif_inv h
          rw [Bool.and_eq_true] at hbb
          have hn1' : 1 ≤ n := of_decide_eq_true hbb.1
          have hn0 : 0 ≤ n := by omega
          have hn1 : (bytesT P e : Int) * n ≤ 140737488355328 := of_decide_eq_true hbb.2
          obtain ⟨m, rfl⟩ := Int.eq_ofNat_of_zero_le hn0
          have hn2 : bytesT P e * m ≤ 140737488355328 := by
            have : ((bytesT P e * m : Nat) : Int) ≤ 140737488355328 := by rw [Int.natCast_mul]; exact hn1
            omega
          have hm : m ≤ 140737488355328 := Nat.le_trans (Nat.le_mul_of_pos_left _ hby) hn2
          have hfr := frzs_rel (O' := Own M β hd) C.sim (os := []) (fun k ob h => by simp [lk] at h) (fun b h => h) (us := zv.cells) 0 (lv P e) z zs 0 hzs
            (fun k b hk _ => by
              exfalso
              have hnorow : ∀ v ∈ z, rowKeys [v] = [] := by
                unfold zeroCells at hz
                rw [hi] at hz
                simp only [hzv] at hz
                have h1 : ∀ q, rowKeys [ofConst1 q] = [] := by
                  intro q
                  unfold ofConst1
                  split <;> rfl
                intro v hv
                split at hz
                · rename_i cs _
                  cases hb : cs.toList.all one1 with
                  | false => rw [hb] at hz; cases hz
                  | true =>
                    rw [hb] at hz
                    obtain rfl : cs.toList.map ofConst1 = z := by simpa using hz
                    obtain ⟨q, _, rfl⟩ := List.mem_map.1 hv
                    exact h1 q
                · rename_i v' _ hv'
                  cases hb : one1 v' with
                  | false => rw [hb] at hz; cases hz
                  | true =>
                    rw [hb] at hz
                    obtain rfl : [ofConst1 v'] = z := by simpa using hz
                    obtain rfl : v = ofConst1 v' := by simpa using hv
                    exact h1 _
                · cases hz
              have hall : ∀ l : List AV, (∀ v ∈ l, rowKeys [v] = []) → rowKeys l = [] := by
                intro l
                induction l with
                | nil => intro _; rfl
                | cons v l ih =>
                  intro hh
                  have h2 := hh v (by simp)
                  have h3 := ih (fun q hq => hh q (by simp [hq]))
                  cases v <;> simp [rowKeys] at h2 ⊢ <;> exact h3
              rw [hall z hnorow] at hk
              cases hk) (fun j c hj => by simpa using hzc.2 j c hj)
          obtain ⟨hl1, hl2, hrt⟩ := hfr
          have hzsz : zv.cells.size = sizeT P e := by rw [← hzc.1]; omega
          have hm1 : 1 ≤ m := by omega
          obtain ⟨A, hA⟩ := hx.nl_inv
          have hr1 := Go.Lib.run_append_grow_zeros (P := P) w t u o.type e i zv kq kn hu hun hi hzv A 0 0 [] (by cases A <;> simp [Builtin.firstCells, loadCells, loadCellsFrom]) m (by omega) (by omega) (by omega) (by omega) (by rw [hiby, Nat.mul_comm]; omega) (by
            have : Builtin.nextslicecap (0 + m) 0 = m := by unfold Builtin.nextslicecap; rw [Nat.zero_add, if_pos (by omega)]
            rw [this, hiby, Nat.mul_comm]; omega)
          rw [Nat.zero_add] at hr1
          have hge := grownCap_ge w m 0 e
          have hle := grownCap_le_maxLen w m 0 e (by simp only [maxLen]; omega)
          generalize hG : grownCap w m 0 e = G at *
          have hsz1 : (Builtin.zeroCells zv.cells m).size = m * (lv P e).length := by rw [size_zeroCells, hzsz, hsz]
          have hsz2 : (Builtin.zeroCells zv.cells (G - m)).size = (G - m) * (lv P e).length := by rw [size_zeroCells, hzsz, hsz]
          generalize hcs : ((#[] : Array Value) ++ Builtin.zeroCells zv.cells m ++ Builtin.zeroCells zv.cells (G - m)) = cs at *
          have hcsz : cs.size = G * (lv P e).length := by
            rw [← hcs, Array.size_append, Array.size_append, hsz1, hsz2]
            simp only [List.size_toArray, List.length_nil, Nat.zero_add]
            rw [← Nat.add_mul]; congr 1; omega
          have htk : cs.toList.take (m * (lv P e).length) = (Builtin.zeroCells zv.cells m).toList := by
            rw [← hcs, Array.toList_append, Array.toList_append]
            simp only [List.nil_append]
            rw [← hsz1, ← Array.length_toList, List.take_left]
          have hr2 : (w.drew.alloc (.cells cs e)).ownsRow 0 e (lv P e).length (.slice (some ⟨w.heap.size, 0, none⟩) m G) m (Builtin.zeroCells zv.cells m).toList :=
            ⟨by rw [Array.length_toList]; exact hsz1, .inr ⟨w.heap.size, G, cs, rfl, Nat.zero_le _, heap_alloc_new w.drew _, hge, hle, hcsz, htk⟩⟩
          have hr3 : w.grownBy (w.drew.alloc (.cells cs e)) none := by
            have hh := World.grownBy_alloc w.drew (.cells cs e) none
            exact ⟨hh.os, hh.tape, hh.output, hh.size, hh.block⟩
          refine good_done h (run_call_builtin ho hc (fun _ => ?_)) (new_row C.sim (hfree hf) (by omega) ?_ hr2 ?_ ?_ hr3.size ?_)
          · rw [hargs, hts]
            simp only [builtin, List.map_toArray, List.map_cons, List.map_nil]
            rw [hA, hy.i_inv]
            simp [hr1]
          · exact C.sim.below.trans ⟨hr3.os, hr3.tape, hr3.output, hr3.size, fun b hb => hr3.block b (hnm b hb) (by simp)⟩
          · intro b hb
            simp [Value.ownBlock] at hb
            omega
          · intro b hb
            exact hr3.block b hb (by simp)
          · intro q j τ hq hj
            have hq : q < m := by simpa using hq
            obtain ⟨x', h6, h7⟩ := hrt j τ hj
            have hjL : j < (lv P e).length := (List.getElem?_eq_some_iff.1 hj).1
            have hlt : q * (lv P e).length + j < m * (lv P e).length := by
              have : q * (lv P e).length + (lv P e).length ≤ m * (lv P e).length := by rw [← Nat.succ_mul]; exact Nat.mul_le_mul_right _ hq
              omega
            refine ⟨zv.cells.getD j undef, ?_, ?_⟩
            · have hmod : (q * (lv P e).length + j) % zv.cells.size = j := by
                rw [hzsz, ← hsz, Nat.add_comm, Nat.add_mul_mod_self_right, Nat.mod_eq_of_lt hjL]
              have hjz : j < zv.cells.size := by omega
              have hlt' : q * (lv P e).length + j < m * zv.cells.size := by rw [hzsz, ← hsz]; exact hlt
              simp [Builtin.zeroCells, hlt', hmod, Array.getD_eq_getD_getElem?, hjz]
            · rw [List.getD_eq_getElem?_getD, h6]
              simpa using h7
        · cases h
      · cases h
    · cases h
  · cases h
end
end Go.AM
