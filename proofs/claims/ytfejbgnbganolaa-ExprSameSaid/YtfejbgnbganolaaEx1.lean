/- What is told from outside is so: slices.Clip and slices.Compact of whole numbers. -/
import Derived.Test.YtfejbgnbganolaaFn0
import Derived.Test.YtfejbgnbganolaaEng16
import Derived.Shelf.Slices.CompactI
import Derived.Sort.OwnSortedInts
import Derived.WalkKit
import Derived.WalkSpells
set_option linter.unusedVariables false
set_option linter.unusedSimpArgs false
namespace Go.Proofs
open Go.Shelf
def Try.laysNm220_ren : Go.Shelf.Ren := ⟨fun | 20 => 76 | n => n, fun | 22 => 39 | 3 => 3 | 4 => 4 | 0 => 0 | n => n, fun | n => n⟩
theorem Try.laysNm220 : Go.Proofs.Lays2.n20 Try.prog Try.laysNm220_ren := {
  mixed := by kernel_rfl
  f20 := Try.func76.trans (congrArg some (by kernel_rfl))
  t0 := Try.underlying0
  a0 := Try.isAgg0
  z0 := Try.sizeOf0
  v0 := Try.zeroValue0
  t3 := Try.underlying3
  a3 := Try.isAgg3
  z3 := Try.sizeOf3
  v3 := Try.zeroValue3
  t4 := Try.underlying4
  a4 := Try.isAgg4
  z4 := Try.sizeOf4
  v4 := Try.zeroValue4
  t22 := Try.underlying39
  a22 := Try.isAgg39
  z22 := Try.sizeOf39
  v22 := Try.zeroValue39
  i3 := by kernel_rfl }
open Go.RowKit Go.Lib Go.Sort in
theorem Try.slices_Compact_int (blk off cap : Nat) (zs : List Int) (w : World) (hH : Holds (Value.int .i64) w blk off zs.toArray) (hsz : zs.length ≤ 9223372036854775807) (hcap : zs.length ≤ cap) :
    Calls Try.prog 76 #[.slice (some ⟨blk, off, none⟩) zs.length cap] w fun e w' => e = .returned (.slice (some ⟨blk, off, none⟩) (Lib.compact zs).length cap) ∧ ∃ q, w' = putRow (Value.int .i64) (Sort.ahead w q) blk off (Lib.compact zs ++ List.replicate (zs.length - (Lib.compact zs).length) 0).toArray := Any.slices_Compact_int Try.laysNm220 blk off cap zs w hH hsz hcap
theorem Try.slices_Compact_int_empty (a : Option Addr) (cap : Nat) (w : World) :
    Calls Try.prog 76 #[.slice a 0 cap] w fun e w' => e = .returned (.slice a 0 cap) ∧ w' = w := Any.slices_Compact_int_empty Try.laysNm220 a cap w
end Go.Proofs
namespace Go.Proofs.Ytfejbgnbganolaa
open Go.RowKit
set_option maxHeartbeats 400000 in
theorem clip_walk (A : Option Addr) (len cap : Nat) (hl : len ≤ cap) (w : World) :
    Calls Try.prog 75 #[.slice A len cap] w fun e w' => (∃ A', e = .returned (.slice A' len len) ∧ (0 < len → A' = A)) ∧ w' = w := by
  go_enter Try.func75, Try.ntmps75
  go_wp2
  go_ret
  exact ⟨⟨_, rfl, fun _ => rfl⟩, rfl⟩
end Go.Proofs.Ytfejbgnbganolaa
namespace Go.Proofs.Ytfejbgnbganolaa
open Go.AM Go.Sort

theorem lv3 : lv Try.prog 3 = [3] := by kernel_rfl
theorem args1 {F : Fr0} {x : AV} {vals : Array Value} (ha : ArgsOk Try.prog F [x] vals) : ∃ v, vals = #[v] ∧ RA Try.prog F.w F.M F.β F.hd x v := by
  have h1 := ha.len
  have h2 := ha.val 0 x rfl
  have hs : vals.size = 1 := by simpa using h1.symm
  refine ⟨vals[0], ?_, ?_⟩
  · apply Array.ext
    · simp [hs]
    · intro i h3 h4
      have : i = 0 := by omega
      subst this; rfl
  · rw [Array.getD_eq_getD_getElem?, Array.getElem?_eq_getElem (by omega)] at h2
    exact h2
/-- A call that leaves the world as it was. -/
theorem res_still {F : Fr0} {args : List AV} {vals : Array Value} (hM : F.M = []) (ha : ArgsOk Try.prog F args vals) {tp : Tpl} {r : R} {u : Value} {x : AV} (ht : TA.instL r tp.vs = [x]) (hl : tp.vs.length = 1) (hm : tp.M r = []) (hv : RA Try.prog F.w [] F.β F.hd x u) : ResOk Try.prog F tp r F.w [u] := by
  have hs := ha.sim
  rw [hM] at hs
  refine ⟨by simp [hl], F.β, F.hd, rfl, by rw [hm]; exact hs, fun q hq => ?_, fun j y hy => ?_⟩
  · rw [hM] at hq; exact absurd rfl hq
  · rw [ht] at hy
    rw [hm]
    match j, hy with
    | 0, hy => obtain rfl := Option.some.inj hy; exact hv
    | j + 1, hy => simp at hy
theorem clip_sound {args : List AV} {M : Store} {r : R} (h : clipX args M = some r) : FSound Try.prog FR 75 args M r := by
  intro F vals hM ha fn hfn
  unfold clipX at h
  split at h
  · rename_i e x
    obtain ⟨hc, h⟩ := bif_inv h
    cases h
    obtain rfl : e = 3 := by simpa using hc
    obtain ⟨v, rfl, hv⟩ := args1 ha
    cases hv with
    | c hr =>
      cases hr with
      | @sl t e x v hu hr =>
        have nb : ∀ {b off : Nat} {vs : Nat → Nat → Value} {A : Option Addr} {c : Nat}, x.len ≤ c → (0 < x.len → A = some ⟨b, off, none⟩ ∧ b < F.w.heap.size ∧ ¬ Own F.M F.β F.hd b) →
            (∀ i j τ, i < x.len → (lv Try.prog 3)[j]? = some τ → F.w.cell? ⟨b, off + i * (lv Try.prog 3).length + j, none⟩ = some (vs i j)) →
            (∀ i j τ, i < x.len → (lv Try.prog 3)[j]? = some τ → RT Try.prog F.w (Own F.M F.β F.hd) τ (x.el i j) (vs i j)) →
            Calls Try.prog 75 #[.slice A x.len c] F.w fun e w' => ∃ us, e = .returned (outV us) ∧ ResOk Try.prog F (FR.tpl 75) (lookR [(0, x)]) w' us := by
          intro b off vs A c hc hA hcell hrt
          refine (clip_walk A x.len c hc F.w).mono ?_
          rintro e w' ⟨⟨A', rfl, hA'⟩, rfl⟩
          refine ⟨[.slice A' x.len x.len], rfl, res_still hM ha (x := .sl 3 x) (by rfl) (by rfl) (by rfl) ?_⟩
          rw [hM] at hrt hA
          exact .c (.sl (t := 39) Try.underlying39 (.sl Try.underlying39 (Nat.le_refl _) b off vs (fun h0 => by rw [hA' h0]; exact hA h0) hcell hrt))
        cases hr with
        | int h => rw [h] at hu; cases hu
        | bool h => rw [h] at hu; cases hu
        | str h => rw [h] at hu; cases hu
        | sl hu3 hc b off vs hA hcell hrt =>
          rw [hu3] at hu
          cases hu
          exact nb hc hA hcell hrt
  · cases h
theorem compact_len (zs : List Int) : (Lib.compact zs).length ≤ zs.length := by
  unfold Lib.compact Lib.compactUpTo
  rw [List.length_map]
  exact Nat.le_trans (List.length_filter_le _ _) (by simp)
theorem intsR_len (n : Nat) (g : Nat → Nat → T) : (intsR n g).length = n := by simp [intsR]
theorem intsR_get {n : Nat} {g : Nat → Nat → T} {i : Nat} (h : i < n) : (intsR n g)[i]? = some (g i 0).int := by simp [intsR, h]
/-- A row handed back, of whole numbers, where the lent one was. -/
theorem res_row {F : Fr0} {k n : Nat} {g : Nat → Nat → T} {vals : Array Value} {args : List AV} (hM : F.M = [(k, .row 3 n g)]) (ha : ArgsOk Try.prog F args vals) {w' : World} {hdv : Value} {ys : List Int}
    (hu : Under F w') (hown : w'.ownsRow 0 3 1 hdv ys.length (ys.map (Value.int .i64))) (hb : ∀ b, hdv.ownBlock = some b → F.mine b ∧ b < w'.heap.size) (hone : hdv.oneCell' = true) (hrow : RowV Try.prog 3 hdv ys.length 0 ys.length hdv) :
    ResOk Try.prog F (FR.tpl 76) (lookR [(0, ofInts ys)]) w' [hdv] := by
  have hMr : (FR.tpl 76).M (lookR [(0, ofInts ys)]) = [(40, .row 3 ys.length fun i j => (ofInts ys).el i j)] := by rfl
  have hvs : TA.instL (lookR [(0, ofInts ys)]) (FR.tpl 76).vs = [.row 40 0 ys.length] := by rfl
  have h40 : k ≠ 40 := by
    have := ha.high k (by rw [hM]; simp [Store.get])
    intro e
    rw [e] at this
    exact absurd this (by decide)
  refine ⟨rfl, F.β, fun q => if q = 40 then hdv else F.hd q, rfl, ?_, ?_, ?_⟩
  · rw [hMr]
    have get : ∀ q o, Store.get [(40, Ob.row 3 ys.length fun i j => (ofInts ys).el i j)] q = some o → q = 40 ∧ o = .row 3 ys.length fun i j => (ofInts ys).el i j := by
      intro q o h
      simp only [Store.get] at h
      by_cases hq : 40 = q
      · subst hq
        simp at h
        exact ⟨rfl, h.symm⟩
      · have h1 : (40 == q) = false := by simpa using hq
        rw [h1] at h
        cases h
    have owns : ∀ q b, Owns [(40, Ob.row 3 ys.length fun i j => (ofInts ys).el i j)] F.β (fun q => if q = 40 then hdv else F.hd q) q b → q = 40 ∧ hdv.ownBlock = some b := by
      rintro q b (⟨t, cs, h, _⟩ | ⟨e, n, g, h, h2⟩)
      · obtain ⟨_, h1⟩ := get q _ h; cases h1
      · obtain ⟨rfl, h1⟩ := get q _ h
        exact ⟨rfl, by simpa using h2⟩
    refine ⟨hu, fun q b h => ?_, fun q q' b h h' => ?_, ha.sim.far, fun q t cs h => ?_, fun q e n g h => ?_⟩
    · exact hb b (owns q b h).2
    · exact (owns q b h).1.trans (owns q' b h').1.symm
    · obtain ⟨_, h1⟩ := get q _ h; cases h1
    · obtain ⟨rfl, h1⟩ := get q _ h
      cases h1
      rw [lv3]
      refine ⟨by decide, ys.map (Value.int .i64), by simpa using hown, fun i j τ hi hj => ?_⟩
      match j, hj with
      | 0, hj =>
        obtain rfl := Option.some.inj hj
        refine ⟨.int .i64 (ys.getD i 0), ?_, .int (x := .i (ys.getD i 0)) Try.underlying3⟩
        rw [List.length_singleton, Nat.mul_one, Nat.add_zero, List.getElem?_map, List.getD_eq_getElem?_getD, List.getElem?_eq_getElem hi]
        rfl
      | j + 1, hj => simp at hj
  · rw [hMr]
    intro q hq
    rw [hM] at hq
    have hqk : k = q := by
      by_cases h : k = q
      · exact h
      · have h1 : (k == q) = false := by simpa using h
        simp [Store.get, h1] at hq
    subst hqk
    have h1 : (40 == k) = false := by simpa using fun e => h40 e.symm
    refine ⟨fun t cs h => ?_, fun e n g h => ?_⟩ <;> simp [Store.get, h1] at h
  · rw [hvs, hMr]
    intro j x hj
    match j, hj with
    | 0, hj =>
      obtain rfl := Option.some.inj hj
      refine .c (.row (by simp [Store.get]) hone fun e n g h => ?_)
      have h2 : Ob.row 3 ys.length (fun i j => (ofInts ys).el i j) = Ob.row e n g := by simpa [Store.get] using h
      cases h2
      exact hrow
    | j + 1, hj => simp at hj
theorem compact_sound {args : List AV} {M : Store} {r : R} (h : compactX args M = some r) : FSound Try.prog FR 76 args M r := by
  intro F vals hM ha fn hfn
  unfold compactX at h
  split at h
  · rename_i k off n k' e m g
    obtain ⟨hc, h⟩ := bif_inv h
    cases h
    simp only [Bool.and_eq_true, Nat.beq_eq] at hc
    obtain ⟨⟨⟨rfl, rfl⟩, rfl⟩, rfl⟩ := hc
    obtain ⟨v, rfl, hv⟩ := args1 ha
    have hk : F.M.get k = some (.row 3 n g) := by rw [hM]; simp [Store.get]
    obtain ⟨_, xs, hown, hcells⟩ := ha.sim.row k 3 n g hk
    rw [lv3] at hown hcells
    have hown : F.w.ownsRow 0 3 1 (F.hd k) n xs := hown
    cases hv with
    | c hr =>
      cases hr with
      | row _ h1 hrow =>
        rcases hrow 3 n g hk with ⟨hh, rfl, _, h0⟩ | ⟨g0, cap, a, hh, hcap, _, rfl, haa⟩
        · subst h0
          refine (Try.slices_Compact_int_empty none 0 F.w).mono ?_
          rintro e w' ⟨rfl, rfl⟩
          exact ⟨[.slice none 0 0], rfl, res_row (ys := []) hM ha Under.refl ⟨rfl, .inl ⟨rfl, rfl⟩⟩ (fun b hb => by cases hb) rfl (.inl ⟨rfl, rfl, rfl, rfl⟩)⟩
        · have ea : a = ⟨g0, 0, none⟩ := by simpa using haa (.inr rfl)
          subst ea
          rcases hown.2 with ⟨hn, _⟩ | ⟨g1, cap1, cur, hv1, _, hb, hn, hmax, hsz, htake⟩
          · rw [hn] at hh; cases hh
          · rw [hh] at hv1
            cases hv1
            have hzl := intsR_len n g
            have ht : cur.toList.take (intsR n g).length = (intsR n g).map (Value.int .i64) := by
              rw [hzl]
              rw [Nat.mul_one] at htake
              rw [htake]
              apply List.ext_getElem?
              intro i
              have hxl : xs.length = n := by have := hown.1; omega
              by_cases hi : i < n
              · obtain ⟨v, hv2, hrt⟩ := hcells i 0 3 hi rfl
                rw [List.length_singleton, Nat.mul_one, Nat.add_zero] at hv2
                rw [hv2, List.getElem?_map, intsR_get hi]
                cases hrt with
                | int h => rw [Try.underlying3] at h; cases h; rfl
                | bool h => rw [Try.underlying3] at h; cases h
                | str h => rw [Try.underlying3] at h; cases h
                | sl h => rw [Try.underlying3] at h; cases h
              · rw [List.getElem?_eq_none (by omega), List.getElem?_eq_none (by rw [List.length_map, hzl]; omega)]
            have hH := holds_of_blockI hb ht
            have hle := compact_len (intsR n g)
            have hmx : n ≤ 9223372036854775807 := Nat.le_trans hn hmax
            have C := Try.slices_Compact_int g0 0 cap (intsR n g) F.w hH (by rw [hzl]; exact hmx) (by rw [hzl]; exact hn)
            rw [hzl] at C
            refine C.mono ?_
            rintro e w' ⟨rfl, q, rfl⟩
            generalize hcs : Lib.compact (intsR n g) = cs at hle ⊢
            have hlt : (cs ++ List.replicate (n - cs.length) 0).length = n := by rw [List.length_append, List.length_replicate]; omega
            have hheap := heap_sortedI (n := q) (os := #[]) (cs ++ List.replicate (n - cs.length) 0).toArray hb
            rw [grow_empty] at hheap
            have hgrown := grownBy_sortedI (w := F.w) (g := g0) (n := q) (os := #[]) (cs ++ List.replicate (n - cs.length) 0).toArray
            rw [grow_empty] at hgrown
            have htk := take_putCellsI cur (cs ++ List.replicate (n - cs.length) 0) (by rw [hlt, hsz]; omega)
            have hlent : F.lent g0 := ⟨k, .inr ⟨3, n, g, hk, by rw [hh]; rfl⟩⟩
            have hg0 : g0 < F.w.heap.size := (Array.getElem?_eq_some_iff.1 hb).1
            refine ⟨[.slice (some ⟨g0, 0, none⟩) cs.length cap], rfl, res_row hM ha ?_ ?_ ?_ rfl ?_⟩
            · refine Under.refl.trans ⟨hgrown.os, hgrown.tape, hgrown.output, hgrown.size, fun b hb2 => ?_⟩
              have h3 : b < F.w.heap.size := Nat.lt_of_not_le fun h => hb2 (.inl h)
              exact hgrown.block b h3 fun e => hb2 (.inr (by cases e; exact hlent))
            · refine ⟨by simp, .inr ⟨g0, cap, _, rfl, Nat.zero_le _, hheap, by omega, hmax, by simp [putCells, hsz], ?_⟩⟩
              rw [hlt] at htk
              have h4 := congrArg (List.take cs.length) htk
              rw [List.take_take, Nat.min_eq_left (by omega), ← List.map_take, List.take_left'] at h4
              · rw [Nat.mul_one]; exact h4
              · rfl
            · intro b hb2
              cases hb2
              exact ⟨.inr hlent, Nat.lt_of_lt_of_le hg0 hgrown.size⟩
            · exact .inr ⟨g0, cap, ⟨g0, 0, none⟩, rfl, by omega, by omega, rfl, fun _ => by simp⟩
  · cases h
/-- All that is told from outside. -/
theorem ext_sound : ∀ (f : FuncId) (X : List AV → Store → Option R) (args : List AV) (M : Store) (r : R), EXT f = some X → X args M = some r → FSound Try.prog FR f args M r := by
  intro f X args M r hf hX
  unfold EXT at hf
  cases h75 : Nat.beq f 75 with
  | true =>
    rw [h75] at hf
    cases hf
    rw [Nat.beq_eq] at h75
    subst h75
    exact clip_sound hX
  | false =>
    rw [h75, cond_false] at hf
    cases h76 : Nat.beq f 76 with
    | true =>
      rw [h76] at hf
      cases hf
      rw [Nat.beq_eq] at h76
      subst h76
      exact compact_sound hX
    | false => rw [h76] at hf; cases hf
end Go.Proofs.Ytfejbgnbganolaa
