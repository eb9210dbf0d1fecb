/- What is told from outside is so: slices.Clip, slices.Compact and slices.Sort of whole numbers. -/
import Derived.Test.YtnjandhaeojieaaFn0
import Derived.Test.YtnjandhaeojieaaEng18
import Derived.Shelf.Slices.CompactI
import Derived.Shelf.Sort.Plain
import Derived.Shelf.Slices.In.SortNone
import Derived.Sort.OwnSortedInts
import Derived.WalkKit
import Derived.WalkSpells
set_option linter.unusedVariables false
set_option linter.unusedSimpArgs false
namespace Go.Proofs
open Go.Shelf
def Try.lays189_ren : Go.Shelf.Ren := ⟨fun | 189 => 55 | 125 => 69 | 257 => 68 | 128 => 85 | 129 => 86 | 294 => 76 | 295 => 77 | 296 => 78 | 297 => 79 | 298 => 80 | 299 => 81 | 216 => 82 | 300 => 83 | 301 => 84 | 328 => 88 | 329 => 89 | 330 => 90 | 331 => 91 | 332 => 92 | 215 => 93 | 343 => 94 | n => n, fun | 28 => 57 | 3 => 3 | 46 => 105 | 0 => 0 | 51 => 120 | 53 => 122 | 4 => 4 | 183 => 112 | 182 => 111 | 131 => 117 | 5 => 5 | 9 => 9 | 218 => 124 | 222 => 128 | 228 => 130 | 229 => 131 | n => n, fun | n => n⟩
theorem Try.lays189 : Go.Proofs.Lays.n189 Try.prog Try.lays189_ren := {
  mixed := by kernel_rfl
  f125 := Try.func69.trans (congrArg some (by kernel_rfl))
  f128 := Try.func85.trans (congrArg some (by kernel_rfl))
  f129 := Try.func86.trans (congrArg some (by kernel_rfl))
  f189 := Try.func55.trans (congrArg some (by kernel_rfl))
  f215 := Try.func93.trans (congrArg some (by kernel_rfl))
  f216 := Try.func82.trans (congrArg some (by kernel_rfl))
  f257 := Try.func68.trans (congrArg some (by kernel_rfl))
  f294 := Try.func76.trans (congrArg some (by kernel_rfl))
  f295 := Try.func77.trans (congrArg some (by kernel_rfl))
  f296 := Try.func78.trans (congrArg some (by kernel_rfl))
  f297 := Try.func79.trans (congrArg some (by kernel_rfl))
  f298 := Try.func80.trans (congrArg some (by kernel_rfl))
  f299 := Try.func81.trans (congrArg some (by kernel_rfl))
  f300 := Try.func83.trans (congrArg some (by kernel_rfl))
  f301 := Try.func84.trans (congrArg some (by kernel_rfl))
  f328 := Try.func88.trans (congrArg some (by kernel_rfl))
  f329 := Try.func89.trans (congrArg some (by kernel_rfl))
  f330 := Try.func90.trans (congrArg some (by kernel_rfl))
  f331 := Try.func91.trans (congrArg some (by kernel_rfl))
  f332 := Try.func92.trans (congrArg some (by kernel_rfl))
  f343 := Try.func94.trans (congrArg some (by kernel_rfl))
  t0 := Try.underlying0
  a0 := Try.isAgg0
  z0 := Try.sizeOf0
  v0 := Try.zeroValue0
  t3 := Try.underlying3
  a3 := Try.isAgg3
  z3 := Try.sizeOf3
  v3 := Try.zeroValue3
  t4 := Try.underlying4
  a4 := Try.isAgg4
  z4 := Try.sizeOf4
  v4 := Try.zeroValue4
  t5 := Try.underlying5
  a5 := Try.isAgg5
  z5 := Try.sizeOf5
  v5 := Try.zeroValue5
  t9 := Try.underlying9
  a9 := Try.isAgg9
  z9 := Try.sizeOf9
  v9 := Try.zeroValue9
  t28 := Try.underlying57
  a28 := Try.isAgg57
  z28 := Try.sizeOf57
  v28 := Try.zeroValue57
  t46 := Try.underlying105
  a46 := Try.isAgg105
  z46 := Try.sizeOf105
  v46 := Try.zeroValue105
  t51 := Try.underlying120
  a51 := Try.isAgg120
  z51 := Try.sizeOf120
  v51 := Try.zeroValue120
  t53 := Try.underlying122
  a53 := Try.isAgg122
  z53 := Try.sizeOf122
  v53 := Try.zeroValue122
  t131 := Try.underlying117
  a131 := Try.isAgg117
  z131 := Try.sizeOf117
  v131 := Try.zeroValue117
  t182 := Try.underlying111
  a182 := Try.isAgg111
  z182 := Try.sizeOf111
  v182 := Try.zeroValue111
  t183 := Try.underlying112
  a183 := Try.isAgg112
  z183 := Try.sizeOf112
  v183 := Try.zeroValue112
  t218 := Try.underlying124
  a218 := Try.isAgg124
  z218 := Try.sizeOf124
  v218 := Try.zeroValue124
  t222 := Try.underlying128
  a222 := Try.isAgg128
  z222 := Try.sizeOf128
  v222 := Try.zeroValue128
  t228 := Try.underlying130
  a228 := Try.isAgg130
  z228 := Try.sizeOf130
  v228 := Try.zeroValue130
  t229 := Try.underlying131
  a229 := Try.isAgg131
  z229 := Try.sizeOf131
  v229 := Try.zeroValue131 }
open Go.Sort Go.RowKit in
theorem Try.slices_Sort_int (blk off cap : Nat) (zs : List Int) (w : World) (hH : Holds (Value.int .i64) w blk off zs.toArray) (hblk : blk < w.heap.size) (hsz : zs.length < 4611686018427387904) :
    Calls Try.prog 55 #[.slice (some ⟨blk, off, none⟩) zs.length cap] w fun e w' =>
      e = .returned (.tuple #[]) ∧ ∃ n os, w' = grow (putRow (Value.int .i64) (Sort.ahead w n) blk off (zs.mergeSort fun x y => decide (x ≤ y)).toArray) os := Any.slices_Sort_int Try.lays189 blk off cap zs w hH hblk hsz
def Try.laysNm220_ren : Go.Shelf.Ren := ⟨fun | 20 => 57 | n => n, fun | 22 => 57 | 3 => 3 | 4 => 4 | 0 => 0 | n => n, fun | n => n⟩
theorem Try.laysNm220 : Go.Proofs.Lays2.n20 Try.prog Try.laysNm220_ren := {
  mixed := by kernel_rfl
  f20 := Try.func57.trans (congrArg some (by kernel_rfl))
  t0 := Try.underlying0
  a0 := Try.isAgg0
  z0 := Try.sizeOf0
  v0 := Try.zeroValue0
  t3 := Try.underlying3
  a3 := Try.isAgg3
  z3 := Try.sizeOf3
  v3 := Try.zeroValue3
  t4 := Try.underlying4
  a4 := Try.isAgg4
  z4 := Try.sizeOf4
  v4 := Try.zeroValue4
  t22 := Try.underlying57
  a22 := Try.isAgg57
  z22 := Try.sizeOf57
  v22 := Try.zeroValue57
  i3 := by kernel_rfl }
open Go.RowKit Go.Lib Go.Sort in
theorem Try.slices_Compact_int (blk off cap : Nat) (zs : List Int) (w : World) (hH : Holds (Value.int .i64) w blk off zs.toArray) (hsz : zs.length ≤ 9223372036854775807) (hcap : zs.length ≤ cap) :
    Calls Try.prog 57 #[.slice (some ⟨blk, off, none⟩) zs.length cap] w fun e w' => e = .returned (.slice (some ⟨blk, off, none⟩) (Lib.compact zs).length cap) ∧ ∃ q, w' = putRow (Value.int .i64) (Sort.ahead w q) blk off (Lib.compact zs ++ List.replicate (zs.length - (Lib.compact zs).length) 0).toArray := Any.slices_Compact_int Try.laysNm220 blk off cap zs w hH hsz hcap
open Go.RowKit Go.Lib Go.Sort in
theorem Try.slices_Compact_int_empty (a : Option Addr) (cap : Nat) (w : World) :
    Calls Try.prog 57 #[.slice a 0 cap] w fun e w' => e = .returned (.slice a 0 cap) ∧ w' = w := Any.slices_Compact_int_empty Try.laysNm220 a cap w
open Go.RowKit Go.Sort in
theorem Try.slices_Sort_int_none (p : Option Addr) (cap : Nat) (w : World) :
    Calls Try.prog 55 #[.slice p 0 cap] w fun e w' => e = .returned (.tuple #[]) ∧ w' = w := Any.slices_Sort_int_none Try.lays189 p cap w
end Go.Proofs
namespace Go.Proofs.Ytnjandhaeojieaa
open Go.RowKit
set_option maxHeartbeats 400000 in
theorem clip_walk (A : Option Addr) (len cap : Nat) (hl : len ≤ cap) (w : World) :
    Calls Try.prog 56 #[.slice A len cap] w fun e w' => (∃ A', e = .returned (.slice A' len len) ∧ (0 < len → A' = A)) ∧ w' = w := by
  go_enter Try.func56, Try.ntmps56
  go_wp2
  go_ret
  exact ⟨⟨_, rfl, fun _ => rfl⟩, rfl⟩
end Go.Proofs.Ytnjandhaeojieaa
namespace Go.Proofs.Ytnjandhaeojieaa
open Go.AM Go.Sort
theorem lv3 : lv Try.prog 3 = [3] := by kernel_rfl
theorem args1 {F : Fr0} {x : AV} {vals : Array Value} (ha : ArgsOk Try.prog F [x] vals) : ∃ v, vals = #[v] ∧ RA Try.prog F.w F.M F.β F.hd x v := by
  have h1 := ha.len
  have h2 := ha.val 0 x rfl
  have hs : vals.size = 1 := by simpa using h1.symm
  refine ⟨vals[0], ?_, ?_⟩
  · apply Array.ext
    · simp [hs]
    · intro i h3 h4
      have : i = 0 := by omega
      subst this; rfl
  · rw [Array.getD_eq_getD_getElem?, Array.getElem?_eq_getElem (by omega)] at h2
    exact h2
theorem res_still {F : Fr0} {args : List AV} {vals : Array Value} (hM : F.M = []) (ha : ArgsOk Try.prog F args vals) {tp : Tpl} {r : R} {u : Value} {x : AV} (ht : TA.instL r tp.vs = [x]) (hl : tp.vs.length = 1) (hm : tp.M r = []) (hv : RA Try.prog F.w [] F.β F.hd x u) : ResOk Try.prog F tp r F.w [u] := by
  have hs := ha.sim
  rw [hM] at hs
  refine ⟨by simp [hl], F.β, F.hd, rfl, by rw [hm]; exact hs, fun q hq => ?_, fun j y hy => ?_⟩
  · rw [hM] at hq; exact absurd rfl hq
  · rw [ht] at hy
    rw [hm]
    match j, hy with
    | 0, hy => obtain rfl := Option.some.inj hy; exact hv
    | j + 1, hy => simp at hy
theorem clip_sound {args : List AV} {M : Store} {r : R} (h : clipX args M = some r) : FSound Try.prog FR 56 args M r := by
  intro F vals hM ha fn hfn
  unfold clipX at h
  split at h
  · rename_i e x
    obtain ⟨hc, h⟩ := bif_inv h
    cases h
    obtain rfl : e = 3 := by simpa using hc
    obtain ⟨v, rfl, hv⟩ := args1 ha
    cases hv with
    | c hr =>
      cases hr with
      | @sl t e x v hu hr =>
        have nb : ∀ {b off : Nat} {vs : Nat → Nat → Value} {A : Option Addr} {c : Nat}, x.len ≤ c → (0 < x.len → A = some ⟨b, off, none⟩ ∧ b < F.w.heap.size ∧ ¬ Own F.M F.β F.hd b) →
            (∀ i j τ, i < x.len → (lv Try.prog 3)[j]? = some τ → F.w.cell? ⟨b, off + i * (lv Try.prog 3).length + j, none⟩ = some (vs i j)) →
            (∀ i j τ, i < x.len → (lv Try.prog 3)[j]? = some τ → RT Try.prog F.w (Own F.M F.β F.hd) τ (x.el i j) (vs i j)) →
            Calls Try.prog 56 #[.slice A x.len c] F.w fun e w' => ∃ us, e = .returned (outV us) ∧ ResOk Try.prog F (FR.tpl 56) (lookR [(0, x)]) w' us := by
          intro b off vs A c hc hA hcell hrt
          refine (clip_walk A x.len c hc F.w).mono ?_
          rintro e w' ⟨⟨A', rfl, hA'⟩, rfl⟩
          refine ⟨[.slice A' x.len x.len], rfl, res_still hM ha (x := .sl 3 x) (by rfl) (by rfl) (by rfl) ?_⟩
          rw [hM] at hrt hA
          exact .c (.sl (t := 57) Try.underlying57 (.sl Try.underlying57 (Nat.le_refl _) b off vs (fun h0 => by rw [hA' h0]; exact hA h0) hcell hrt))
        cases hr with
        | int h => rw [h] at hu; cases hu
        | bool h => rw [h] at hu; cases hu
        | str h => rw [h] at hu; cases hu
        | sl hu3 hc b off vs hA hcell hrt =>
          rw [hu3] at hu
          cases hu
          exact nb hc hA hcell hrt
  · cases h
theorem intsR_len (n : Nat) (g : Nat → Nat → T) : (intsR n g).length = n := by simp [intsR]
theorem intsR_get {n : Nat} {g : Nat → Nat → T} {i : Nat} (h : i < n) : (intsR n g)[i]? = some (g i 0).int := by simp [intsR, h]
theorem res_row0 {F : Fr0} {k n : Nat} {g : Nat → Nat → T} {vals : Array Value} {args : List AV} (hM : F.M = [(k, .row 3 n g)]) (ha : ArgsOk Try.prog F args vals) {w' : World} {hdv v : Value} {ys : List Int}
    (hu : Under F w') (hown : w'.ownsRow 0 3 1 hdv ys.length (ys.map (Value.int .i64))) (hb : ∀ b, hdv.ownBlock = some b → F.mine b ∧ b < w'.heap.size) (hone : v.oneCell' = true) (hrow : RowV Try.prog 3 hdv ys.length 0 ys.length v) :
    ResOk Try.prog F (FR.tpl 57) (lookR [(0, ofInts ys)]) w' [v] := by
  have hMr : (FR.tpl 57).M (lookR [(0, ofInts ys)]) = [(40, .row 3 ys.length fun i j => (ofInts ys).el i j)] := by rfl
  have hvs : TA.instL (lookR [(0, ofInts ys)]) (FR.tpl 57).vs = [.row 40 0 ys.length] := by rfl
  have h40 : k ≠ 40 := by
    have := ha.high k (by rw [hM]; simp [Store.get])
    intro e
    rw [e] at this
    exact absurd this (by decide)
  refine ⟨rfl, F.β, fun q => if q = 40 then hdv else F.hd q, rfl, ?_, ?_, ?_⟩
  · rw [hMr]
    have get : ∀ q o, Store.get [(40, Ob.row 3 ys.length fun i j => (ofInts ys).el i j)] q = some o → q = 40 ∧ o = .row 3 ys.length fun i j => (ofInts ys).el i j := by
      intro q o h
      simp only [Store.get] at h
      by_cases hq : 40 = q
      · subst hq
        simp at h
        exact ⟨rfl, h.symm⟩
      · have h1 : (40 == q) = false := by simpa using hq
        rw [h1] at h
        cases h
    have owns : ∀ q b, Owns [(40, Ob.row 3 ys.length fun i j => (ofInts ys).el i j)] F.β (fun q => if q = 40 then hdv else F.hd q) q b → q = 40 ∧ hdv.ownBlock = some b := by
      rintro q b (⟨t, cs, h, _⟩ | ⟨e, n, g, h, h2⟩)
      · obtain ⟨_, h1⟩ := get q _ h; cases h1
      · obtain ⟨rfl, h1⟩ := get q _ h
        exact ⟨rfl, by simpa using h2⟩
    refine ⟨hu, fun q b h => ?_, fun q q' b h h' => ?_, ha.sim.far, fun q t cs h => ?_, fun q e n g h => ?_⟩
    · exact hb b (owns q b h).2
    · exact (owns q b h).1.trans (owns q' b h').1.symm
    · obtain ⟨_, h1⟩ := get q _ h; cases h1
    · obtain ⟨rfl, h1⟩ := get q _ h
      cases h1
      rw [lv3]
      refine ⟨by decide, ys.map (Value.int .i64), by simpa using hown, fun i j τ hi hj => ?_⟩
      match j, hj with
      | 0, hj =>
        obtain rfl := Option.some.inj hj
        refine ⟨.int .i64 (ys.getD i 0), ?_, .int (x := .i (ys.getD i 0)) Try.underlying3⟩
        rw [List.length_singleton, Nat.mul_one, Nat.add_zero, List.getElem?_map, List.getD_eq_getElem?_getD, List.getElem?_eq_getElem hi]
        rfl
      | j + 1, hj => simp at hj
  · rw [hMr]
    intro q hq
    rw [hM] at hq
    have hqk : k = q := by
      by_cases h : k = q
      · exact h
      · have h1 : (k == q) = false := by simpa using h
        simp [Store.get, h1] at hq
    subst hqk
    have h1 : (40 == k) = false := by simpa using fun e => h40 e.symm
    refine ⟨fun t cs h => ?_, fun e n g h => ?_⟩ <;> simp [Store.get, h1] at h
  · rw [hvs, hMr]
    intro j x hj
    match j, hj with
    | 0, hj =>
      obtain rfl := Option.some.inj hj
      refine .c (.row (by simp [Store.get]) hone fun e n g h => ?_)
      have h2 : Ob.row 3 ys.length (fun i j => (ofInts ys).el i j) = Ob.row e n g := by simpa [Store.get] using h
      cases h2
      exact hrow
    | j + 1, hj => simp at hj
theorem res_row {F : Fr0} {k n : Nat} {g : Nat → Nat → T} {vals : Array Value} {args : List AV} (hM : F.M = [(k, .row 3 n g)]) (ha : ArgsOk Try.prog F args vals) {w' : World} {hdv : Value} {ys : List Int}
    (hu : Under F w') (hown : w'.ownsRow 0 3 1 hdv ys.length (ys.map (Value.int .i64))) (hb : ∀ b, hdv.ownBlock = some b → F.mine b ∧ b < w'.heap.size) (hone : hdv.oneCell' = true) (hrow : RowV Try.prog 3 hdv ys.length 0 ys.length hdv) :
    ResOk Try.prog F (FR.tpl 57) (lookR [(0, ofInts ys)]) w' [hdv] := res_row0 hM ha hu hown hb hone hrow
theorem compact_sound {args : List AV} {M : Store} {r : R} (h : compactX args M = some r) : FSound Try.prog FR 57 args M r := by
  intro F vals hM ha fn hfn
  unfold compactX at h
  split at h
  · rename_i k off n k' e m g
    obtain ⟨hc, h⟩ := bif_inv h
    cases h
    simp only [Bool.and_eq_true, Nat.beq_eq] at hc
    obtain ⟨⟨⟨rfl, rfl⟩, rfl⟩, rfl⟩ := hc
    obtain ⟨v, rfl, hv⟩ := args1 ha
    have hk : F.M.get k = some (.row 3 n g) := by rw [hM]; simp [Store.get]
    obtain ⟨_, xs, hown, hcells⟩ := ha.sim.row k 3 n g hk
    rw [lv3] at hown hcells
    have hown : F.w.ownsRow 0 3 1 (F.hd k) n xs := hown
    cases hv with
    | c hr =>
      cases hr with
      | row _ h1 hrow =>
        rcases hrow 3 n g hk with ⟨hh, ⟨A, rfl⟩, _, h0⟩ | ⟨g0, cap, a, hh, hcap, _, rfl, haa⟩
        · subst h0
          refine (Try.slices_Compact_int_empty A 0 F.w).mono ?_
          rintro e w' ⟨rfl, rfl⟩
          exact ⟨[.slice A 0 0], rfl, res_row0 (hdv := .slice none 0 0) (ys := []) hM ha Under.refl ⟨rfl, .inl ⟨rfl, rfl⟩⟩ (fun b hb => by cases hb) rfl (.inl ⟨rfl, ⟨A, rfl⟩, rfl, rfl⟩)⟩
        · have ea : a = ⟨g0, 0, none⟩ := by simpa using haa (.inr rfl)
          subst ea
          rcases hown.2 with ⟨hn, _⟩ | ⟨g1, cap1, cur, hv1, _, hb, hn, hmax, hsz, htake⟩
          · rw [hn] at hh; cases hh
          · rw [hh] at hv1
            cases hv1
            have hzl := intsR_len n g
            have ht : cur.toList.take (intsR n g).length = (intsR n g).map (Value.int .i64) := by
              rw [hzl]
              rw [Nat.mul_one] at htake
              rw [htake]
              apply List.ext_getElem?
              intro i
              have hxl : xs.length = n := by have := hown.1; omega
              by_cases hi : i < n
              · obtain ⟨v, hv2, hrt⟩ := hcells i 0 3 hi rfl
                rw [List.length_singleton, Nat.mul_one, Nat.add_zero] at hv2
                rw [hv2, List.getElem?_map, intsR_get hi]
                cases hrt with
                | int h => rw [Try.underlying3] at h; cases h; rfl
                | bool h => rw [Try.underlying3] at h; cases h
                | str h => rw [Try.underlying3] at h; cases h
                | sl h => rw [Try.underlying3] at h; cases h
              · rw [List.getElem?_eq_none (by omega), List.getElem?_eq_none (by rw [List.length_map, hzl]; omega)]
            have hH := holds_of_blockI hb ht
            have hle := compact_len (intsR n g)
            have hmx : n ≤ 9223372036854775807 := Nat.le_trans hn hmax
            have C := Try.slices_Compact_int g0 0 cap (intsR n g) F.w hH (by rw [hzl]; exact hmx) (by rw [hzl]; exact hn)
            rw [hzl] at C
            refine C.mono ?_
            rintro e w' ⟨rfl, q, rfl⟩
            generalize hcs : Lib.compact (intsR n g) = cs at hle ⊢
            have hlt : (cs ++ List.replicate (n - cs.length) 0).length = n := by rw [List.length_append, List.length_replicate]; omega
            have hheap := heap_sortedI (n := q) (os := #[]) (cs ++ List.replicate (n - cs.length) 0).toArray hb
            rw [grow_empty] at hheap
            have hgrown := grownBy_sortedI (w := F.w) (g := g0) (n := q) (os := #[]) (cs ++ List.replicate (n - cs.length) 0).toArray
            rw [grow_empty] at hgrown
            have htk := take_putCellsI cur (cs ++ List.replicate (n - cs.length) 0) (by rw [hlt, hsz]; omega)
            have hlent : F.lent g0 := ⟨k, .inr ⟨3, n, g, hk, by rw [hh]; rfl⟩⟩
            have hg0 : g0 < F.w.heap.size := (Array.getElem?_eq_some_iff.1 hb).1
            refine ⟨[.slice (some ⟨g0, 0, none⟩) cs.length cap], rfl, res_row hM ha ?_ ?_ ?_ rfl ?_⟩
            · refine Under.refl.trans ⟨hgrown.os, hgrown.tape, hgrown.output, hgrown.size, fun b hb2 => ?_⟩
              have h3 : b < F.w.heap.size := Nat.lt_of_not_le fun h => hb2 (.inl h)
              exact hgrown.block b h3 fun e => hb2 (.inr (by cases e; exact hlent))
            · refine ⟨by simp, .inr ⟨g0, cap, _, rfl, Nat.zero_le _, hheap, by omega, hmax, by simp [putCells, hsz], ?_⟩⟩
              rw [hlt] at htk
              have h4 := congrArg (List.take cs.length) htk
              rw [List.take_take, Nat.min_eq_left (by omega), ← List.map_take, List.take_left'] at h4
              · rw [Nat.mul_one]; exact h4
              · rfl
            · intro b hb2
              cases hb2
              exact ⟨.inr hlent, Nat.lt_of_lt_of_le hg0 hgrown.size⟩
            · exact .inr ⟨g0, cap, ⟨g0, 0, none⟩, rfl, by omega, by omega, rfl, fun _ => by simp⟩
  · cases h
theorem res_sorted {F : Fr0} {n : Nat} {g : Nat → Nat → T} {vals : Array Value} {args : List AV} (hM : F.M = [(4000000, .row 3 n g)]) (ha : ArgsOk Try.prog F args vals) {w' : World} {ys : List Int} (hy : ys.length = n)
    (hu : Under F w') (hown : w'.ownsRow 0 3 1 (F.hd 4000000) n (ys.map (Value.int .i64))) (hb : ∀ b, (F.hd 4000000).ownBlock = some b → b < w'.heap.size) :
    ResOk Try.prog F (FR.tpl 55) (lookR [(0, ofInts ys)]) w' [] := by
  have hMr : (FR.tpl 55).M (lookR [(0, ofInts ys)]) = [(4000000, .row 3 ys.length fun i j => (ofInts ys).el i j)] := by rfl
  have hk : F.M.get 4000000 = some (.row 3 n g) := by rw [hM]; simp [Store.get]
  have get : ∀ q o, Store.get [(4000000, Ob.row 3 ys.length fun i j => (ofInts ys).el i j)] q = some o → q = 4000000 ∧ o = .row 3 ys.length fun i j => (ofInts ys).el i j := by
    intro q o h
    simp only [Store.get] at h
    by_cases hq : 4000000 = q
    · subst hq
      simp at h
      exact ⟨rfl, h.symm⟩
    · have h1 : (4000000 == q) = false := by simpa using hq
      rw [h1] at h
      cases h
  have owns : ∀ q b, Owns [(4000000, Ob.row 3 ys.length fun i j => (ofInts ys).el i j)] F.β F.hd q b → q = 4000000 ∧ (F.hd 4000000).ownBlock = some b := by
    rintro q b (⟨t, cs, h, _⟩ | ⟨e, n, g, h, h2⟩)
    · obtain ⟨_, h1⟩ := get q _ h; cases h1
    · obtain ⟨rfl, h1⟩ := get q _ h
      exact ⟨rfl, h2⟩
  refine ⟨rfl, F.β, F.hd, rfl, ?_, ?_, fun j x hj => by cases hj⟩
  · rw [hMr]
    refine ⟨hu, fun q b h => ?_, fun q q' b h h' => ?_, ha.sim.far, fun q t cs h => ?_, fun q e m g' h => ?_⟩
    · have h1 := (owns q b h).2
      exact ⟨(ha.sim.ge 4000000 b (.inr ⟨3, n, g, hk, h1⟩)).1, hb b h1⟩
    · exact (owns q b h).1.trans (owns q' b h').1.symm
    · obtain ⟨_, h1⟩ := get q _ h; cases h1
    · obtain ⟨rfl, h1⟩ := get q _ h
      cases h1
      rw [lv3]
      refine ⟨by decide, ys.map (Value.int .i64), by rw [hy]; simpa using hown, fun i j τ hi hj => ?_⟩
      match j, hj with
      | 0, hj =>
        obtain rfl := Option.some.inj hj
        refine ⟨.int .i64 (ys.getD i 0), ?_, .int (x := .i (ys.getD i 0)) Try.underlying3⟩
        rw [List.length_singleton, Nat.mul_one, Nat.add_zero, List.getElem?_map, List.getD_eq_getElem?_getD, List.getElem?_eq_getElem hi]
        rfl
      | j + 1, hj => simp at hj
  · rw [hMr]
    intro q hq
    refine ⟨fun t cs h => ?_, fun e m g' h => ?_⟩
    · obtain ⟨_, h1⟩ := get q _ h; cases h1
    · obtain ⟨rfl, h1⟩ := get q _ h
      cases h1
      exact ⟨⟨g, by rw [hk, hy]⟩, rfl⟩
theorem sort_sound {args : List AV} {M : Store} {r : R} (h : sortX args M = some r) : FSound Try.prog FR 55 args M r := by
  intro F vals hM ha fn hfn
  unfold sortX at h
  split at h
  · rename_i k off n k' e m g
    obtain ⟨hc, h⟩ := bif_inv h
    cases h
    simp only [Bool.and_eq_true, Nat.beq_eq, Nat.blt_eq] at hc
    obtain ⟨⟨⟨⟨⟨rfl, rfl⟩, rfl⟩, rfl⟩, rfl⟩, hbig⟩ := hc
    obtain ⟨v, rfl, hv⟩ := args1 ha
    have hk : F.M.get 4000000 = some (.row 3 n g) := by rw [hM]; simp [Store.get]
    obtain ⟨_, xs, hown, hcells⟩ := ha.sim.row 4000000 3 n g hk
    rw [lv3] at hown hcells
    have hown : F.w.ownsRow 0 3 1 (F.hd 4000000) n xs := hown
    have hzl := intsR_len n g
    have hsl : ((intsR n g).mergeSort fun x y => decide (x ≤ y)).length = n := by rw [List.length_mergeSort, hzl]
    cases hv with
    | c hr =>
      cases hr with
      | row _ h1 hrow =>
        rcases hrow 3 n g hk with ⟨hh, ⟨A, rfl⟩, _, h0⟩ | ⟨g0, cap, a, hh, hcap, _, rfl, haa⟩
        · subst h0
          refine (Try.slices_Sort_int_none A 0 F.w).mono ?_
          rintro e w' ⟨rfl, rfl⟩
          refine ⟨[], rfl, res_sorted hM ha hsl Under.refl ?_ (fun b hb => by rw [hh] at hb; cases hb)⟩
          rw [hh]
          exact ⟨by simpa using hsl, .inl ⟨rfl, rfl⟩⟩
        · have ea : a = ⟨g0, 0, none⟩ := by simpa using haa (.inr rfl)
          subst ea
          rcases hown.2 with ⟨hn, _⟩ | ⟨g1, cap1, cur, hv1, _, hb, hn, hmax, hsz, htake⟩
          · rw [hn] at hh; cases hh
          · rw [hh] at hv1
            cases hv1
            have ht : cur.toList.take (intsR n g).length = (intsR n g).map (Value.int .i64) := by
              rw [hzl]
              rw [Nat.mul_one] at htake
              rw [htake]
              apply List.ext_getElem?
              intro i
              have hxl : xs.length = n := by have := hown.1; omega
              by_cases hi : i < n
              · obtain ⟨v, hv2, hrt⟩ := hcells i 0 3 hi rfl
                rw [List.length_singleton, Nat.mul_one, Nat.add_zero] at hv2
                rw [hv2, List.getElem?_map, intsR_get hi]
                cases hrt with
                | int h => rw [Try.underlying3] at h; cases h; rfl
                | bool h => rw [Try.underlying3] at h; cases h
                | str h => rw [Try.underlying3] at h; cases h
                | sl h => rw [Try.underlying3] at h; cases h
              · rw [List.getElem?_eq_none (by omega), List.getElem?_eq_none (by rw [List.length_map, hzl]; omega)]
            have hH := holds_of_blockI hb ht
            have hg0 : g0 < F.w.heap.size := (Array.getElem?_eq_some_iff.1 hb).1
            have C := Try.slices_Sort_int g0 0 cap (intsR n g) F.w hH hg0 (by rw [hzl]; exact hbig)
            rw [hzl] at C
            refine C.mono ?_
            rintro e w' ⟨rfl, q, os, rfl⟩
            have hso := ownsRow_sortedI (w := F.w) (base := 0) (n := q) (os := os) (ss := intsR n g) (ts := (intsR n g).mergeSort fun x y => decide (x ≤ y)) (by rw [hsl, hzl]) (Nat.zero_le _) hb (by rw [hzl]; exact hn) hmax hsz
            have hgrown := grownBy_sortedI (w := F.w) (g := g0) (n := q) (os := os) ((intsR n g).mergeSort fun x y => decide (x ≤ y)).toArray
            have hlent : F.lent g0 := ⟨4000000, .inr ⟨3, n, g, hk, by rw [hh]; rfl⟩⟩
            refine ⟨[], rfl, res_sorted hM ha hsl ?_ ?_ ?_⟩
            · refine Under.refl.trans ⟨hgrown.os, hgrown.tape, hgrown.output, hgrown.size, fun b hb2 => ?_⟩
              have h3 : b < F.w.heap.size := Nat.lt_of_not_le fun h => hb2 (.inl h)
              exact hgrown.block b h3 fun e => hb2 (.inr (by cases e; exact hlent))
            · rw [hh]
              rw [hzl] at hso
              exact hso
            · intro b hb2
              rw [hh] at hb2
              cases hb2
              exact Nat.lt_of_lt_of_le hg0 hgrown.size
  · cases h
theorem ext_sound : ∀ (f : FuncId) (X : List AV → Store → Option R) (args : List AV) (M : Store) (r : R), EXT f = some X → X args M = some r → FSound Try.prog FR f args M r := by
  intro f X args M r hf hX
  unfold EXT at hf
  cases h74 : Nat.beq f 55 with
  | true =>
    rw [h74] at hf
    cases hf
    rw [Nat.beq_eq] at h74
    subst h74
    exact sort_sound hX
  | false =>
    rw [h74, cond_false] at hf
    cases h75 : Nat.beq f 56 with
    | true =>
      rw [h75] at hf
      cases hf
      rw [Nat.beq_eq] at h75
      subst h75
      exact clip_sound hX
    | false =>
      rw [h75, cond_false] at hf
      cases h76 : Nat.beq f 57 with
      | true =>
        rw [h76] at hf
        cases hf
        rw [Nat.beq_eq] at h76
        subst h76
        exact compact_sound hX
      | false => rw [h76] at hf; cases hf
end Go.Proofs.Ytnjandhaeojieaa
