/- What is told from outside is so: slices.Clip, slices.Compact and slices.Sort of whole numbers. -/
import Derived.Test.YtljfhfgbpcaadaaDoorExA
import Derived.Shelf.Sort.Plain
import Derived.Shelf.Slices.In.SortNone
import Derived.Sort.OwnSortedInts
import Derived.WalkKit
import Derived.WalkSpells
set_option linter.unusedVariables false
set_option linter.unusedSimpArgs false
namespace Go.Proofs
open Go.Shelf
def Tryd.lays189_ren : Go.Shelf.Ren := ⟨fun | 189 => 17 | 125 => 31 | 257 => 30 | 128 => 47 | 129 => 48 | 294 => 39 | 295 => 40 | 296 => 41 | 297 => 42 | 298 => 43 | 299 => 44 | 216 => 32 | 300 => 45 | 301 => 46 | 328 => 52 | 329 => 53 | 330 => 54 | 331 => 55 | 332 => 56 | 215 => 38 | 343 => 62 | n => n, fun | 28 => 25 | 3 => 3 | 46 => 65 | 0 => 0 | 51 => 82 | 53 => 84 | 4 => 4 | 183 => 76 | 182 => 75 | 131 => 42 | 5 => 5 | 9 => 9 | 218 => 88 | 222 => 92 | 228 => 99 | 229 => 100 | n => n, fun | n => n⟩
theorem Tryd.lays189 : Go.Proofs.Lays.n189 Tryd.prog Tryd.lays189_ren := {
  mixed := by kernel_rfl
  f125 := Tryd.func31.trans (congrArg some (by kernel_rfl))
  f128 := Tryd.func47.trans (congrArg some (by kernel_rfl))
  f129 := Tryd.func48.trans (congrArg some (by kernel_rfl))
  f189 := Tryd.func17.trans (congrArg some (by kernel_rfl))
  f215 := Tryd.func38.trans (congrArg some (by kernel_rfl))
  f216 := Tryd.func32.trans (congrArg some (by kernel_rfl))
  f257 := Tryd.func30.trans (congrArg some (by kernel_rfl))
  f294 := Tryd.func39.trans (congrArg some (by kernel_rfl))
  f295 := Tryd.func40.trans (congrArg some (by kernel_rfl))
  f296 := Tryd.func41.trans (congrArg some (by kernel_rfl))
  f297 := Tryd.func42.trans (congrArg some (by kernel_rfl))
  f298 := Tryd.func43.trans (congrArg some (by kernel_rfl))
  f299 := Tryd.func44.trans (congrArg some (by kernel_rfl))
  f300 := Tryd.func45.trans (congrArg some (by kernel_rfl))
  f301 := Tryd.func46.trans (congrArg some (by kernel_rfl))
  f328 := Tryd.func52.trans (congrArg some (by kernel_rfl))
  f329 := Tryd.func53.trans (congrArg some (by kernel_rfl))
  f330 := Tryd.func54.trans (congrArg some (by kernel_rfl))
  f331 := Tryd.func55.trans (congrArg some (by kernel_rfl))
  f332 := Tryd.func56.trans (congrArg some (by kernel_rfl))
  f343 := Tryd.func62.trans (congrArg some (by kernel_rfl))
  t0 := Tryd.underlying0
  a0 := Tryd.isAgg0
  z0 := Tryd.sizeOf0
  v0 := Tryd.zeroValue0
  t3 := Tryd.underlying3
  a3 := Tryd.isAgg3
  z3 := Tryd.sizeOf3
  v3 := Tryd.zeroValue3
  t4 := Tryd.underlying4
  a4 := Tryd.isAgg4
  z4 := Tryd.sizeOf4
  v4 := Tryd.zeroValue4
  t5 := Tryd.underlying5
  a5 := Tryd.isAgg5
  z5 := Tryd.sizeOf5
  v5 := Tryd.zeroValue5
  t9 := Tryd.underlying9
  a9 := Tryd.isAgg9
  z9 := Tryd.sizeOf9
  v9 := Tryd.zeroValue9
  t28 := Tryd.underlying25
  a28 := Tryd.isAgg25
  z28 := Tryd.sizeOf25
  v28 := Tryd.zeroValue25
  t46 := Tryd.underlying65
  a46 := Tryd.isAgg65
  z46 := Tryd.sizeOf65
  v46 := Tryd.zeroValue65
  t51 := Tryd.underlying82
  a51 := Tryd.isAgg82
  z51 := Tryd.sizeOf82
  v51 := Tryd.zeroValue82
  t53 := Tryd.underlying84
  a53 := Tryd.isAgg84
  z53 := Tryd.sizeOf84
  v53 := Tryd.zeroValue84
  t131 := Tryd.underlying42
  a131 := Tryd.isAgg42
  z131 := Tryd.sizeOf42
  v131 := Tryd.zeroValue42
  t182 := Tryd.underlying75
  a182 := Tryd.isAgg75
  z182 := Tryd.sizeOf75
  v182 := Tryd.zeroValue75
  t183 := Tryd.underlying76
  a183 := Tryd.isAgg76
  z183 := Tryd.sizeOf76
  v183 := Tryd.zeroValue76
  t218 := Tryd.underlying88
  a218 := Tryd.isAgg88
  z218 := Tryd.sizeOf88
  v218 := Tryd.zeroValue88
  t222 := Tryd.underlying92
  a222 := Tryd.isAgg92
  z222 := Tryd.sizeOf92
  v222 := Tryd.zeroValue92
  t228 := Tryd.underlying99
  a228 := Tryd.isAgg99
  z228 := Tryd.sizeOf99
  v228 := Tryd.zeroValue99
  t229 := Tryd.underlying100
  a229 := Tryd.isAgg100
  z229 := Tryd.sizeOf100
  v229 := Tryd.zeroValue100 }
open Go.Sort Go.RowKit in
theorem Tryd.slices_Sort_int (blk off cap : Nat) (zs : List Int) (w : World) (hH : Holds (Value.int .i64) w blk off zs.toArray) (hblk : blk < w.heap.size) (hsz : zs.length < 4611686018427387904) :
    Calls Tryd.prog 17 #[.slice (some ⟨blk, off, none⟩) zs.length cap] w fun e w' =>
      e = .returned (.tuple #[]) ∧ ∃ n os, w' = grow (putRow (Value.int .i64) (Sort.ahead w n) blk off (zs.mergeSort fun x y => decide (x ≤ y)).toArray) os := Any.slices_Sort_int Tryd.lays189 blk off cap zs w hH hblk hsz
open Go.RowKit Go.Sort in
theorem Tryd.slices_Sort_int_none (p : Option Addr) (cap : Nat) (w : World) :
    Calls Tryd.prog 17 #[.slice p 0 cap] w fun e w' => e = .returned (.tuple #[]) ∧ w' = w := Any.slices_Sort_int_none Tryd.lays189 p cap w
end Go.Proofs
namespace Go.Proofs.YtljfhfgbpcaadaaDoor
open Go.AM Go.Sort
theorem lv3 : lv Tryd.prog 3 = [3] := by kernel_rfl
theorem res_still {F : Fr0} {args : List AV} {vals : Array Value} (hM : F.M = []) (ha : ArgsOk Tryd.prog F args vals) {tp : Tpl} {r : R} {u : Value} {x : AV} (ht : TA.instL r tp.vs = [x]) (hl : tp.vs.length = 1) (hm : tp.M r = []) (hv : RA Tryd.prog F.w [] F.β F.hd x u) : ResOk Tryd.prog F tp r F.w [u] := by
  have hs := ha.sim
  rw [hM] at hs
  refine ⟨by simp [hl], F.β, F.hd, rfl, by rw [hm]; exact hs, fun q hq => ?_, fun j y hy => ?_⟩
  · rw [hM] at hq; exact absurd rfl hq
  · rw [ht] at hy
    rw [hm]
    match j, hy with
    | 0, hy => obtain rfl := Option.some.inj hy; exact hv
    | j + 1, hy => simp at hy
theorem intsR_len (n : Nat) (g : Nat → Nat → T) : (intsR n g).length = n := by simp [intsR]
theorem intsR_get {n : Nat} {g : Nat → Nat → T} {i : Nat} (h : i < n) : (intsR n g)[i]? = some (g i 0).int := by simp [intsR, h]
theorem res_sorted {F : Fr0} {n : Nat} {g : Nat → Nat → T} {vals : Array Value} {args : List AV} (hM : F.M = [(4000000, .row 3 n g)]) (ha : ArgsOk Tryd.prog F args vals) {w' : World} {ys : List Int} (hy : ys.length = n)
    (hu : Under F w') (hown : w'.ownsRow 0 3 1 (F.hd 4000000) n (ys.map (Value.int .i64))) (hb : ∀ b, (F.hd 4000000).ownBlock = some b → b < w'.heap.size) :
    ResOk Tryd.prog F (FR.tpl 17) (lookR [(0, ofInts ys)]) w' [] := by
  have hMr : (FR.tpl 17).M (lookR [(0, ofInts ys)]) = [(4000000, .row 3 ys.length fun i j => (ofInts ys).el i j)] := by rfl
  have hk : F.M.get 4000000 = some (.row 3 n g) := by rw [hM]; simp [Store.get]
  have get : ∀ q o, Store.get [(4000000, Ob.row 3 ys.length fun i j => (ofInts ys).el i j)] q = some o → q = 4000000 ∧ o = .row 3 ys.length fun i j => (ofInts ys).el i j := by
    intro q o h
    simp only [Store.get] at h
    by_cases hq : 4000000 = q
    · subst hq
      simp at h
      exact ⟨rfl, h.symm⟩
    · have h1 : (4000000 == q) = false := by simpa using hq
      rw [h1] at h
      cases h
  have owns : ∀ q b, Owns [(4000000, Ob.row 3 ys.length fun i j => (ofInts ys).el i j)] F.β F.hd q b → q = 4000000 ∧ (F.hd 4000000).ownBlock = some b := by
    rintro q b (⟨t, cs, h, _⟩ | ⟨e, n, g, h, h2⟩)
    · obtain ⟨_, h1⟩ := get q _ h; cases h1
    · obtain ⟨rfl, h1⟩ := get q _ h
      exact ⟨rfl, h2⟩
  refine ⟨rfl, F.β, F.hd, rfl, ?_, ?_, fun j x hj => by cases hj⟩
  · rw [hMr]
    refine ⟨hu, fun q b h => ?_, fun q q' b h h' => ?_, ha.sim.far, fun q t cs h => ?_, fun q e m g' h => ?_, ha.sim.tab⟩
    · have h1 := (owns q b h).2
      exact ⟨(ha.sim.ge 4000000 b (.inr ⟨3, n, g, hk, h1⟩)).1, hb b h1⟩
    · exact (owns q b h).1.trans (owns q' b h').1.symm
    · obtain ⟨_, h1⟩ := get q _ h; cases h1
    · obtain ⟨rfl, h1⟩ := get q _ h
      cases h1
      rw [lv3]
      refine ⟨by decide, ys.map (Value.int .i64), by rw [hy]; simpa using hown, fun i j τ hi hj => ?_⟩
      match j, hj with
      | 0, hj =>
        obtain rfl := Option.some.inj hj
        refine ⟨.int .i64 (ys.getD i 0), ?_, .int (x := .i (ys.getD i 0)) Tryd.underlying3⟩
        rw [List.length_singleton, Nat.mul_one, Nat.add_zero, List.getElem?_map, List.getD_eq_getElem?_getD, List.getElem?_eq_getElem hi]
        rfl
      | j + 1, hj => simp at hj
  · rw [hMr]
    intro q hq
    refine ⟨fun t cs h => ?_, fun e m g' h => ?_⟩
    · obtain ⟨_, h1⟩ := get q _ h; cases h1
    · obtain ⟨rfl, h1⟩ := get q _ h
      cases h1
      exact ⟨⟨g, by rw [hk, hy]⟩, rfl⟩
theorem sort_sound {args : List AV} {M : Store} {r : R} (h : sortX args M = some r) : FSound Tryd.prog FR 17 args M r := by
  intro F vals hM ha fn hfn
  unfold sortX at h
  split at h
  · rename_i k off n k' e m g
    obtain ⟨hc, h⟩ := bif_inv h
    cases h
    simp only [Bool.and_eq_true, Nat.beq_eq, Nat.blt_eq] at hc
    obtain ⟨⟨⟨⟨⟨rfl, rfl⟩, rfl⟩, rfl⟩, rfl⟩, hbig⟩ := hc
    obtain ⟨v, rfl, hv⟩ := args1 ha
    have hk : F.M.get 4000000 = some (.row 3 n g) := by rw [hM]; simp [Store.get]
    obtain ⟨_, xs, hown, hcells⟩ := ha.sim.row 4000000 3 n g hk
    rw [lv3] at hown hcells
    have hown : F.w.ownsRow 0 3 1 (F.hd 4000000) n xs := hown
    have hzl := intsR_len n g
    have hsl : ((intsR n g).mergeSort fun x y => decide (x ≤ y)).length = n := by rw [List.length_mergeSort, hzl]
    cases hv with
    | c hr =>
      cases hr with
      | row _ h1 hrow =>
        rcases hrow 3 n g hk with ⟨hh, ⟨A, rfl⟩, _, h0⟩ | ⟨g0, cap, a, hh, hcap, _, rfl, haa⟩
        · subst h0
          refine (Tryd.slices_Sort_int_none A 0 F.w).mono ?_
          rintro e w' ⟨rfl, rfl⟩
          refine ⟨[], rfl, res_sorted hM ha hsl Under.refl ?_ (fun b hb => by rw [hh] at hb; cases hb)⟩
          rw [hh]
          exact ⟨by simpa using hsl, .inl ⟨rfl, rfl⟩⟩
        · have ea : a = ⟨g0, 0, none⟩ := by simpa using haa (.inr rfl)
          subst ea
          rcases hown.2 with ⟨hn, _⟩ | ⟨g1, cap1, cur, hv1, _, hb, hn, hmax, hsz, htake⟩
          · rw [hn] at hh; cases hh
          · rw [hh] at hv1
            cases hv1
            have ht : cur.toList.take (intsR n g).length = (intsR n g).map (Value.int .i64) := by
              rw [hzl]
              rw [Nat.mul_one] at htake
              rw [htake]
              apply List.ext_getElem?
              intro i
              have hxl : xs.length = n := by have := hown.1; omega
              by_cases hi : i < n
              · obtain ⟨v, hv2, hrt⟩ := hcells i 0 3 hi rfl
                rw [List.length_singleton, Nat.mul_one, Nat.add_zero] at hv2
                rw [hv2, List.getElem?_map, intsR_get hi]
                cases hrt with
                | int h => rw [Tryd.underlying3] at h; cases h; rfl
                | bool h => rw [Tryd.underlying3] at h; cases h
                | str h => rw [Tryd.underlying3] at h; cases h
                | sl h => rw [Tryd.underlying3] at h; cases h
              · rw [List.getElem?_eq_none (by omega), List.getElem?_eq_none (by rw [List.length_map, hzl]; omega)]
            have hH := holds_of_blockI hb ht
            have hg0 : g0 < F.w.heap.size := (Array.getElem?_eq_some_iff.1 hb).1
            have C := Tryd.slices_Sort_int g0 0 cap (intsR n g) F.w hH hg0 (by rw [hzl]; exact hbig)
            rw [hzl] at C
            refine C.mono ?_
            rintro e w' ⟨rfl, q, os, rfl⟩
            have hso := ownsRow_sortedI (w := F.w) (base := 0) (n := q) (os := os) (ss := intsR n g) (ts := (intsR n g).mergeSort fun x y => decide (x ≤ y)) (by rw [hsl, hzl]) (Nat.zero_le _) hb (by rw [hzl]; exact hn) hmax hsz
            have hgrown := grownBy_sortedI (w := F.w) (g := g0) (n := q) (os := os) ((intsR n g).mergeSort fun x y => decide (x ≤ y)).toArray
            have hlent : F.lent g0 := ⟨4000000, .inr ⟨3, n, g, hk, by rw [hh]; rfl⟩⟩
            refine ⟨[], rfl, res_sorted hM ha hsl ?_ ?_ ?_⟩
            · refine Under.refl.trans ⟨hgrown.os, hgrown.tape, hgrown.output, hgrown.size, fun b hb2 => ?_⟩
              have h3 : b < F.w.heap.size := Nat.lt_of_not_le fun h => hb2 (.inl h)
              exact hgrown.block b h3 fun e => hb2 (.inr (by cases e; exact hlent))
            · rw [hh]
              rw [hzl] at hso
              exact hso
            · intro b hb2
              rw [hh] at hb2
              cases hb2
              exact Nat.lt_of_lt_of_le hg0 hgrown.size
  · cases h
theorem ext_step {f k : Nat} {X G : List AV → Store → Option R} {rest : Option (List AV → Store → Option R)} (h : (bif Nat.beq f k then some X else rest) = some G) : (f = k ∧ X = G) ∨ rest = some G := by
  cases hk : Nat.beq f k with
  | true => rw [hk] at h; exact .inl ⟨Nat.eq_of_beq_eq_true hk, Option.some.inj h⟩
  | false => rw [hk] at h; exact .inr h
theorem ext_sound : ∀ (f : FuncId) (X : List AV → Store → Option R) (args : List AV) (M : Store) (r : R), EXT f = some X → X args M = some r → FSound Tryd.prog FR f args M r := by
  intro f X args M r hf hX
  unfold EXT at hf
  rcases ext_step hf with ⟨rfl, rfl⟩ | hf
  · exact sort_sound hX
  rcases ext_step hf with ⟨rfl, rfl⟩ | hf
  · exact join_sound hX
  rcases ext_step hf with ⟨rfl, rfl⟩ | hf
  · exact itoa_sound hX
  rcases ext_step hf with ⟨rfl, rfl⟩ | hf
  · exact string_sound hX
  rcases ext_step hf with ⟨rfl, rfl⟩ | hf
  · exact check_sound hX
  cases hf
end Go.Proofs.YtljfhfgbpcaadaaDoor
