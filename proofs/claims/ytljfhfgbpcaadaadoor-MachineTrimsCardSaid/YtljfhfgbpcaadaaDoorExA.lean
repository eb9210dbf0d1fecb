/- What is told from outside: the builder's String and copyCheck, Itoa. -/
import Derived.Test.YtljfhfgbpcaadaaDoorFn0
import Derived.Test.YtljfhfgbpcaadaaDoorEngX
import Derived.Shelf.Strings.Builder1
import Derived.Shelf.Strings.OnBuilder
import Derived.Shelf.Strconv.Itoa3
import Derived.Shelf.LaysM
import Derived.WalkKit
import Derived.WalkSpells
set_option linter.unusedVariables false
set_option linter.unusedSimpArgs false
namespace Go.Proofs
open Go.Shelf
def Tryd.lays169_ren : Go.Shelf.Ren := ⟨fun | 169 => 27 | n => n, fun | 70 => 52 | 9 => 9 | 0 => 0 | 72 => 55 | 37 => 53 | 127 => 73 | 3 => 3 | 5 => 5 | n => n, fun | n => n⟩
theorem Tryd.lays169 : Go.Proofs.Lays.n169 Tryd.prog Tryd.lays169_ren := {
  mixed := by kernel_rfl
  f169 := Tryd.func27.trans (congrArg some (by kernel_rfl))
  t0 := Tryd.underlying0
  a0 := Tryd.isAgg0
  z0 := Tryd.sizeOf0
  v0 := Tryd.zeroValue0
  t3 := Tryd.underlying3
  a3 := Tryd.isAgg3
  z3 := Tryd.sizeOf3
  v3 := Tryd.zeroValue3
  t9 := Tryd.underlying9
  a9 := Tryd.isAgg9
  z9 := Tryd.sizeOf9
  v9 := Tryd.zeroValue9
  t37 := Tryd.underlying53
  a37 := Tryd.isAgg53
  z37 := Tryd.sizeOf53
  v37 := Tryd.zeroValue53
  t70 := Tryd.underlying52
  a70 := Tryd.isAgg52
  z70 := Tryd.sizeOf52
  v70 := Tryd.zeroValue52
  t72 := Tryd.underlying55
  a72 := Tryd.isAgg55
  z72 := Tryd.sizeOf55
  v72 := Tryd.zeroValue55
  t127 := Tryd.underlying73
  a127 := Tryd.isAgg73
  z127 := Tryd.sizeOf73
  v127 := Tryd.zeroValue73 }
theorem Tryd.Builder_Extra_169 : Builder.Extra Tryd.prog Tryd.lays169_ren := {
  sizeBuilder := by kernel_rfl
  liesBuilder := by kernel_rfl
  t5 := Tryd.underlying5
  a5 := Tryd.isAgg5
  z5 := Tryd.sizeOf5
  v5 := Tryd.zeroValue5
  infoByte := by kernel_rfl
  cellsByte := by kernel_rfl
  sizeByte := by kernel_rfl
  neB5 := by decide }
def Tryd.lays156_ren : Go.Shelf.Ren := ⟨fun | 156 => 25 | 165 => 36 | 166 => 24 | 169 => 27 | 240 => 35 | 241 => 50 | 276 => 49 | 277 => 57 | n => n, fun | 31 => 62 | 9 => 9 | 3 => 3 | 4 => 4 | 0 => 0 | 20 => 20 | 72 => 55 | 76 => 58 | 70 => 52 | 37 => 53 | 75 => 57 | 127 => 73 | 164 => 85 | 5 => 5 | 80 => 64 | n => n, fun | n => n⟩
theorem Tryd.lays156 : Go.Proofs.Lays.n156 Tryd.prog Tryd.lays156_ren := {
  mixed := by kernel_rfl
  f156 := Tryd.func25.trans (congrArg some (by kernel_rfl))
  f165 := Tryd.func36.trans (congrArg some (by kernel_rfl))
  f166 := Tryd.func24.trans (congrArg some (by kernel_rfl))
  f169 := Tryd.func27.trans (congrArg some (by kernel_rfl))
  f240 := Tryd.func35.trans (congrArg some (by kernel_rfl))
  f241 := Tryd.func50.trans (congrArg some (by kernel_rfl))
  f276 := Tryd.func49.trans (congrArg some (by kernel_rfl))
  f277 := Tryd.func57.trans (congrArg some (by kernel_rfl))
  t0 := Tryd.underlying0
  a0 := Tryd.isAgg0
  z0 := Tryd.sizeOf0
  v0 := Tryd.zeroValue0
  t3 := Tryd.underlying3
  a3 := Tryd.isAgg3
  z3 := Tryd.sizeOf3
  v3 := Tryd.zeroValue3
  t4 := Tryd.underlying4
  a4 := Tryd.isAgg4
  z4 := Tryd.sizeOf4
  v4 := Tryd.zeroValue4
  t9 := Tryd.underlying9
  a9 := Tryd.isAgg9
  z9 := Tryd.sizeOf9
  v9 := Tryd.zeroValue9
  t20 := Tryd.underlying20
  a20 := Tryd.isAgg20
  z20 := Tryd.sizeOf20
  v20 := Tryd.zeroValue20
  t31 := Tryd.underlying62
  a31 := Tryd.isAgg62
  z31 := Tryd.sizeOf62
  v31 := Tryd.zeroValue62
  t37 := Tryd.underlying53
  a37 := Tryd.isAgg53
  z37 := Tryd.sizeOf53
  v37 := Tryd.zeroValue53
  t70 := Tryd.underlying52
  a70 := Tryd.isAgg52
  z70 := Tryd.sizeOf52
  v70 := Tryd.zeroValue52
  t72 := Tryd.underlying55
  a72 := Tryd.isAgg55
  z72 := Tryd.sizeOf55
  v72 := Tryd.zeroValue55
  t75 := Tryd.underlying57
  a75 := Tryd.isAgg57
  z75 := Tryd.sizeOf57
  v75 := Tryd.zeroValue57
  t76 := Tryd.underlying58
  a76 := Tryd.isAgg58
  z76 := Tryd.sizeOf58
  v76 := Tryd.zeroValue58
  t127 := Tryd.underlying73
  a127 := Tryd.isAgg73
  z127 := Tryd.sizeOf73
  v127 := Tryd.zeroValue73
  t164 := Tryd.underlying85
  a164 := Tryd.isAgg85
  z164 := Tryd.sizeOf85
  v164 := Tryd.zeroValue85 }
theorem Tryd.Builder_Extra_156 : Builder.Extra Tryd.prog Tryd.lays156_ren := {
  sizeBuilder := by kernel_rfl
  liesBuilder := by kernel_rfl
  t5 := Tryd.underlying5
  a5 := Tryd.isAgg5
  z5 := Tryd.sizeOf5
  v5 := Tryd.zeroValue5
  infoByte := by kernel_rfl
  cellsByte := by kernel_rfl
  sizeByte := by kernel_rfl
  neB5 := by decide }
open Go.RowKit in
theorem Tryd.strings_Join_none (a : Option Addr) (c : Nat) (sep : ByteArray) (w : World) :
    Calls Tryd.prog 25 #[.slice a 0 c, .string sep] w fun e w' => e = .returned (.string ⟨#[]⟩) ∧ w' = w := Any.strings_Join_none Tryd.lays156 Tryd.Builder_Extra_156 a c sep w
open Go.RowKit in
theorem Tryd.strings_Join (bk o c : Nat) (xs : List ByteArray) (sep : ByteArray) (w : World) (hcells : ∀ (j : Nat) x, xs[j]? = some x → w.cell? ⟨bk, o + j, none⟩ = some (.string x)) (hbk : bk < w.heap.size) (hN : xs.length ≤ 140737488355328) (hcap : xs.length ≤ c) (hlen : (Lib.join (xs.map (·.data.toList)) sep.data.toList).length ≤ 140737488355328) :
    Calls Tryd.prog 25 #[.slice (some ⟨bk, o, none⟩) xs.length c, .string sep] w fun e w' => e = .returned (.string ⟨(Lib.join (xs.map (·.data.toList)) sep.data.toList).toArray⟩) ∧ Below w.heap.size w w' := Any.strings_Join Tryd.lays156 Tryd.Builder_Extra_156 bk o c xs sep w hcells hbk hN hcap hlen
def Tryd.laysM171_ren : Go.Shelf.Ren := ⟨fun | 171 => 26 | 243 => 37 | 246 => 51 | 283 => 58 | 284 => 59 | 285 => 60 | 286 => 61 | 129 => 48 | 317 => 63 | 318 => 64 | 319 => 65 | 320 => 66 | 337 => 67 | 338 => 68 | n => n, fun | 3 => 3 | 9 => 9 | 2 => 2 | 4 => 4 | 171 => 95 | 0 => 0 | 53 => 84 | 37 => 53 | 5 => 5 | 173 => 97 | 212 => 103 | 51 => 82 | 20 => 20 | 213 => 104 | 46 => 65 | 232 => 105 | 233 => 106 | n => n, fun | 17 => 1 | 18 => 2 | 19 => 3 | n => n⟩
theorem Tryd.laysM171 : Go.Proofs.LaysM.n171 Tryd.prog Tryd.laysM171_ren := {
  mixed := by kernel_rfl
  f129 := Tryd.func48.trans (congrArg some (by kernel_rfl))
  f171 := Tryd.func26.trans (congrArg some (by kernel_rfl))
  f243 := Tryd.func37.trans (congrArg some (by kernel_rfl))
  f246 := Tryd.func51.trans (congrArg some (by kernel_rfl))
  f283 := Tryd.func58.trans (congrArg some (by kernel_rfl))
  f284 := Tryd.func59.trans (congrArg some (by kernel_rfl))
  f285 := Tryd.func60.trans (congrArg some (by kernel_rfl))
  f286 := Tryd.func61.trans (congrArg some (by kernel_rfl))
  f317 := Tryd.func63.trans (congrArg some (by kernel_rfl))
  f318 := Tryd.func64.trans (congrArg some (by kernel_rfl))
  f319 := Tryd.func65.trans (congrArg some (by kernel_rfl))
  f320 := Tryd.func66.trans (congrArg some (by kernel_rfl))
  f337 := Tryd.func67.trans (congrArg some (by kernel_rfl))
  f338 := Tryd.func68.trans (congrArg some (by kernel_rfl))
  t0 := Tryd.underlying0
  a0 := Tryd.isAgg0
  z0 := Tryd.sizeOf0
  v0 := Tryd.zeroValue0
  t2 := Tryd.underlying2
  a2 := Tryd.isAgg2
  z2 := Tryd.sizeOf2
  v2 := Tryd.zeroValue2
  t3 := Tryd.underlying3
  a3 := Tryd.isAgg3
  z3 := Tryd.sizeOf3
  v3 := Tryd.zeroValue3
  t4 := Tryd.underlying4
  a4 := Tryd.isAgg4
  z4 := Tryd.sizeOf4
  v4 := Tryd.zeroValue4
  t5 := Tryd.underlying5
  a5 := Tryd.isAgg5
  z5 := Tryd.sizeOf5
  v5 := Tryd.zeroValue5
  t9 := Tryd.underlying9
  a9 := Tryd.isAgg9
  z9 := Tryd.sizeOf9
  v9 := Tryd.zeroValue9
  t20 := Tryd.underlying20
  a20 := Tryd.isAgg20
  z20 := Tryd.sizeOf20
  v20 := Tryd.zeroValue20
  t37 := Tryd.underlying53
  a37 := Tryd.isAgg53
  z37 := Tryd.sizeOf53
  v37 := Tryd.zeroValue53
  t46 := Tryd.underlying65
  a46 := Tryd.isAgg65
  z46 := Tryd.sizeOf65
  v46 := Tryd.zeroValue65
  t51 := Tryd.underlying82
  a51 := Tryd.isAgg82
  z51 := Tryd.sizeOf82
  v51 := Tryd.zeroValue82
  t53 := Tryd.underlying84
  a53 := Tryd.isAgg84
  z53 := Tryd.sizeOf84
  v53 := Tryd.zeroValue84
  t171 := Tryd.underlying95
  a171 := Tryd.isAgg95
  z171 := Tryd.sizeOf95
  v171 := Tryd.zeroValue95
  t173 := Tryd.underlying97
  a173 := Tryd.isAgg97
  z173 := Tryd.sizeOf97
  v173 := Tryd.zeroValue97
  t212 := Tryd.underlying103
  a212 := Tryd.isAgg103
  z212 := Tryd.sizeOf103
  v212 := Tryd.zeroValue103
  t213 := Tryd.underlying104
  a213 := Tryd.isAgg104
  z213 := Tryd.sizeOf104
  t232 := Tryd.underlying105
  a232 := Tryd.isAgg105
  z232 := Tryd.sizeOf105
  v232 := Tryd.zeroValue105
  t233 := Tryd.underlying106
  a233 := Tryd.isAgg106
  z233 := Tryd.sizeOf106
  v233 := Tryd.zeroValue106
  g17 := by kernel_rfl
  g18 := by kernel_rfl
  g19 := by kernel_rfl
  i0 := by kernel_rfl
  i2 := by kernel_rfl
  i3 := by kernel_rfl
  i4 := by kernel_rfl
  i5 := by kernel_rfl
  i9 := by kernel_rfl
  i20 := by kernel_rfl
  i37 := by kernel_rfl
  i46 := by kernel_rfl
  i51 := by kernel_rfl
  i53 := by kernel_rfl
  i171 := by kernel_rfl
  i173 := by kernel_rfl
  i212 := by kernel_rfl
  i232 := by kernel_rfl
  i233 := by kernel_rfl
  m17 := by kernel_rfl
  m18 := by kernel_rfl
  m19 := by kernel_rfl }
open Go.RowKit Go.Sort Go.Lib in
theorem Tryd.strconv_Itoa (n : Int) (h0 : -9223372036854775808 ≤ n) (h1 : n ≤ 9223372036854775807) (w : World) (htab : Lib.TabIs Tryd.prog w "internal/strconv.uint64pow10" .u64 Lib.pow10Tab) :
    Calls Tryd.prog 26 #[.int .i64 n] w fun e w' => e = .returned (.string ⟨(Lib.itoa n).toArray⟩) ∧ ∃ k os, w' = grow (w.drewN k) os := Any.strconv_Itoa Tryd.laysM171 n h0 h1 w htab
end Go.Proofs
namespace Go.Proofs.YtljfhfgbpcaadaaDoor
open Go.RowKit Go.Shelf
section
set_option maxHeartbeats 1000000 in
set_option maxRecDepth 100000 in
theorem str_walk0 {P : Program} {ρ : Ren} (L : Lays.n169 P ρ) (X : Builder.Extra P ρ) (b g cap : Nat) (p : Value) (l : List UInt8) (w : World) (hbk : w.heap[b]? = some (.cells #[p, .slice (some ⟨g, 0, none⟩) l.length cap] (ρ.t 72) (0, 0))) (hown : w.ownsRow 0 (ρ.t 5) 1 (.slice (some ⟨g, 0, none⟩) l.length cap) l.length (Lib.byteCells l)) (h0 : l ≠ []) :
    Calls P (ρ.f 169) #[.pointer (some ⟨b, 0, none⟩)] w fun e w' => e = .returned (.string ⟨l.toArray⟩) ∧ w' = (w.drew).freeze ⟨g, 0, none⟩ l.length := by
  have hl0 : l.length ≠ 0 := by simpa using h0
  obtain ⟨cur, hg, hnc, hcm, hcs, htake⟩ : ∃ cur, w.heap[g]? = some (.cells cur (ρ.t 5) (0, 0)) ∧ l.length ≤ cap ∧ cap ≤ maxLen ∧ cur.size = cap * 1 ∧ cur.toList.take (l.length * 1) = Lib.byteCells l := by
    rcases hown.2 with ⟨h, _⟩ | ⟨g', cap', cur, hv, _, r⟩
    · cases h
    · cases hv
      exact ⟨cur, r⟩
  have c1 : w.drew.cell? ⟨b, 1, none⟩ = some (.slice (some ⟨g, 0, none⟩) l.length cap) := by
    have : w.drew.heap[b]? = some (.cells #[p, .slice (some ⟨g, 0, none⟩) l.length cap] (ρ.t 72) (0, 0)) := hbk
    rw [Lib.cell_of_heap this]; rfl
  have hSD : (Builtin.unsafeSliceData_ #[(ρ.t 37)] (ρ.t 127) #[.slice (some ⟨g, 0, none⟩) l.length cap]).run P w.drew = .ok (.pointer (some ⟨g, 0, none⟩)) w.drew :=
    Lib.run_unsafeSliceData_row _ _ _ _ _ _ (by omega)
  have hUS : (Builtin.unsafeString_ #[(ρ.t 127), (ρ.t 3)] (ρ.t 9) #[.pointer (some ⟨g, 0, none⟩), .int .i64 l.length]).run P w.drew = .ok (.string ⟨l.toArray⟩) (w.drew.freeze ⟨g, 0, none⟩ l.length) := by
    refine Lib.run_unsafeString_row w.drew (ρ.t 127) (ρ.t 3) (ρ.t 9) (ρ.t 5) L.t127 X.cellsByte g cur.size (by have hg' : w.drew.heap[g]? = some (.cells cur (ρ.t 5) (0, 0)) := hg; simp [World.shape?, hg']) l h0 (by omega) (by unfold maxLen at hcm; omega) ?_
    intro j x hx
    have := hown.cells (g := g) rfl j (.int .u8 x.toNat) (by simp [Lib.byteCells, hx])
    exact this
  have mixed := L.mixed
  have t72 := L.t72; have a72 := L.a72; have z72 := L.z72; have v72 := L.v72; have u72 := run_underlying L.t72
  have t70 := L.t70; have a70 := L.a70; have z70 := L.z70; have v70 := L.v70; have u70 := run_underlying L.t70
  have t37 := L.t37; have a37 := L.a37; have z37 := L.z37; have v37 := L.v37; have u37 := run_underlying L.t37
  have t127 := L.t127; have a127 := L.a127; have z127 := L.z127; have v127 := L.v127; have u127 := run_underlying L.t127
  have t3 := L.t3; have a3 := L.a3; have z3 := L.z3; have v3 := L.v3; have u3 := run_underlying L.t3
  have t9 := L.t9; have a9 := L.a9; have z9 := L.z9; have v9 := L.v9; have u9 := run_underlying L.t9
  have t5 := X.t5; have a5 := X.a5; have z5 := X.z5; have v5 := X.v5; have u5 := run_underlying X.t5
  go_enter L.f169, Body.n169_ntmps ρ
  go_wp2
  go_region_o
  all_goals (go_wp2; go_ret; exact ⟨rfl, rfl⟩)
theorem str_walk (b g cap : Nat) (p : Value) (l : List UInt8) (w : World) (hbk : w.heap[b]? = some (.cells #[p, .slice (some ⟨g, 0, none⟩) l.length cap] 55 (0, 0))) (hown : w.ownsRow 0 5 1 (.slice (some ⟨g, 0, none⟩) l.length cap) l.length (Lib.byteCells l)) (h0 : l ≠ []) :
    Calls Tryd.prog 27 #[.pointer (some ⟨b, 0, none⟩)] w fun e w' => e = .returned (.string ⟨l.toArray⟩) ∧ w' = (w.drew).freeze ⟨g, 0, none⟩ l.length := str_walk0 Tryd.lays169 Tryd.Builder_Extra_169 b g cap p l w hbk hown h0
end
end Go.Proofs.YtljfhfgbpcaadaaDoor
namespace Go.Proofs.YtljfhfgbpcaadaaDoor
open Go.AM Go.RowKit Go.Shelf
theorem lvByte : lv Tryd.prog 5 = [5] := by kernel_rfl
theorem undByte : Tryd.prog.underlying 5 = some (.int .u8) := by kernel_rfl
theorem noMapB : isMapT 55 = false := by kernel_rfl
theorem args1 {F : Fr0} {x : AV} {vals : Array Value} (ha : ArgsOk Tryd.prog F [x] vals) : ∃ v, vals = #[v] ∧ RA Tryd.prog F.w F.M F.β F.hd x v := by
  have h1 := ha.len
  have h2 := ha.val 0 x rfl
  rcases vals with ⟨_ | ⟨v, _ | ⟨z, l⟩⟩⟩ <;> simp at h1
  exact ⟨v, rfl, h2⟩
theorem args2 {F : Fr0} {x y : AV} {vals : Array Value} (ha : ArgsOk Tryd.prog F [x, y] vals) : ∃ v u, vals = #[v, u] ∧ RA Tryd.prog F.w F.M F.β F.hd x v ∧ RA Tryd.prog F.w F.M F.β F.hd y u := by
  have h1 := ha.len
  have h2 := ha.val 0 x rfl
  have h3 := ha.val 1 y rfl
  rcases vals with ⟨_ | ⟨v, _ | ⟨u, _ | ⟨z, l⟩⟩⟩⟩ <;> simp at h1
  exact ⟨v, u, rfl, h2, h3⟩
structure Bld (F : Fr0) (n : Nat) (g : Nat → Nat → T) (p v : Value) (xs : List Value) : Prop where
  box : F.w.heap[F.β HB]? = some (.cells #[p, v] 55 (0, 0))
  row : F.w.ownsRow 0 5 1 (F.hd (HB + 9)) n xs
  head : RowV Tryd.prog 5 (F.hd (HB + 9)) n 0 n v
  one : v.oneCell' = true
  cells : ∀ i, i < n → ∃ x, xs[i]? = some x ∧ RT Tryd.prog F.w (Own F.M F.β F.hd) 5 (g i 0) x
section
variable {F : Fr0} {args : List AV} {vals : Array Value} {c0 : AV} {n : Nat} {g : Nat → Nat → T} {p v : Value} {xs : List Value}
theorem bld_of (ha : ArgsOk Tryd.prog F args vals) (hM : F.M = [(HB, .box 55 [c0, .row (HB + 9) 0 n]), (HB + 9, .row 5 n g)]) : ∃ p v xs, Bld F n g p v xs ∧ RC Tryd.prog F.w F.M F.β F.hd c0 p := by
  have h1 : F.M.get HB = some (.box 55 [c0, .row (HB + 9) 0 n]) := by rw [hM]; rfl
  have h2 : F.M.get (HB + 9) = some (.row 5 n g) := by rw [hM]; rfl
  obtain ⟨c, hc, hsz, hcs⟩ := (ha.sim.box HB _ _ h1).cellsT noMapB
  obtain ⟨_, xs, hown, hcells⟩ := ha.sim.row _ _ _ _ h2
  rw [lvByte] at hown hcells
  rcases c with ⟨_ | ⟨p, _ | ⟨v, _ | ⟨z, l⟩⟩⟩⟩ <;> simp at hsz
  have r0 : RC Tryd.prog F.w F.M F.β F.hd c0 p := hcs 0 c0 rfl
  have r1 : RC Tryd.prog F.w F.M F.β F.hd (.row (HB + 9) 0 n) v := hcs 1 _ rfl
  refine ⟨p, v, xs, ⟨hc, hown, ?_, r1.one, fun i hi => ?_⟩, r0⟩
  · cases r1 with
    | row _ _ h => exact h _ _ _ h2
  · obtain ⟨x, hx, hr⟩ := hcells i 0 5 hi rfl
    exact ⟨x, by simpa using hx, hr⟩
theorem addr_inv (h : addrOk c0 = true) {cs : List AV} (hb : F.M.get HB = some (.box 55 cs)) (hr : RC Tryd.prog F.w F.M F.β F.hd c0 p) : p = .pointer none ∨ p = .pointer (some ⟨F.β HB, 0, none⟩) := by
  unfold addrOk at h
  split at h
  · rename_i f
    obtain rfl := Nat.eq_of_beq_eq_true h
    cases hr with
    | clo hf _ _ => exact absurd hf (by decide)
    | np => exact .inl rfl
  · rename_i k
    obtain rfl := Nat.eq_of_beq_eq_true h
    cases hr with
    | ptr _ _ h => exact .inr (by rw [h _ _ hb, ptrV_box noMapB])
  · cases h
theorem res_check (ha : ArgsOk Tryd.prog F args vals) (hM : F.M = [(HB, .box 55 [c0, .row (HB + 9) 0 n]), (HB + 9, .row 5 n g)]) (hB : Bld F n g p v xs) {w' : World} (hu : Under F w')
    (hbox : w'.heap[F.β HB]? = some (.cells #[.pointer (some ⟨F.β HB, 0, none⟩), v] 55 (0, 0))) (hsame : ∀ b, b < F.w.heap.size → b ≠ F.β HB → w'.heap[b]? = F.w.heap[b]?) (hg : F.w.grownBy w' (some (F.β HB))) :
    ResOk Tryd.prog F (FR.tpl 35) (lookR [(0, T.l n g)]) w' [] := by
  have hMr : (FR.tpl 35).M (lookR [(0, T.l n g)]) = [(40, .row 5 n fun i j => g i j), (HB, .box 55 [.ptr HB 0, .row 40 0 n])] := by rfl
  have hvs : TA.instL (lookR [(0, T.l n g)]) (FR.tpl 35).vs = [] := by rfl
  have h1 : F.M.get HB = some (.box 55 [c0, .row (HB + 9) 0 n]) := by rw [hM]; rfl
  have h2 : F.M.get (HB + 9) = some (.row 5 n g) := by rw [hM]; rfl
  have hne : ∀ b, (F.hd (HB + 9)).ownBlock = some b → b ≠ F.β HB := fun b hb e => by
    have := ha.sim.inj HB (HB + 9) b (.inl ⟨_, _, h1, e.symm⟩) (.inr ⟨_, _, _, h2, hb⟩)
    exact absurd this (by decide)
  have get : ∀ {q o}, Store.get [(40, Ob.row 5 n fun i j => g i j), (HB, Ob.box 55 [.ptr HB 0, .row 40 0 n])] q = some o → (q = 40 ∧ o = Ob.row 5 n fun i j => g i j) ∨ (q = HB ∧ o = Ob.box 55 [.ptr HB 0, .row 40 0 n]) := by
    intro q o h
    simp only [Store.get] at h
    cases c1 : (40 == q) with
    | true => rw [c1] at h; exact .inl ⟨(eq_of_beq c1).symm, (Option.some.inj h).symm⟩
    | false =>
      rw [c1] at h
      cases c2 : (HB == q) with
      | true => rw [c2] at h; exact .inr ⟨(eq_of_beq c2).symm, (Option.some.inj h).symm⟩
      | false => rw [c2] at h; cases h
  refine ⟨rfl, F.β, fun q => if q = 40 then F.hd (HB + 9) else F.hd q, rfl, ?_, ?_, ?_⟩
  · rw [hMr]
    have owns : ∀ {q b}, Owns [(40, Ob.row 5 n fun i j => g i j), (HB, Ob.box 55 [.ptr HB 0, .row 40 0 n])] F.β (fun q => if q = 40 then F.hd (HB + 9) else F.hd q) q b → (q = 40 ∧ Owns F.M F.β F.hd (HB + 9) b) ∨ (q = HB ∧ Owns F.M F.β F.hd HB b) := by
      rintro q b (⟨t, cs, h, h3⟩ | ⟨e, m, f, h, h3⟩)
      · rcases get h with ⟨_, h4⟩ | ⟨rfl, _⟩
        · cases h4
        · exact .inr ⟨rfl, .inl ⟨_, _, h1, h3⟩⟩
      · rcases get h with ⟨rfl, _⟩ | ⟨_, h4⟩
        · exact .inl ⟨rfl, .inr ⟨_, _, _, h2, by simpa using h3⟩⟩
        · cases h4
    have keep : Keeps F.w (Own F.M F.β F.hd) w' (Own [(40, Ob.row 5 n fun i j => g i j), (HB, Ob.box 55 [.ptr HB 0, .row 40 0 n])] F.β (fun q => if q = 40 then F.hd (HB + 9) else F.hd q)) :=
      ⟨Under.size hu, fun b hb ho => ⟨hsame b hb (fun e => ho (.inl ⟨HB, .inl ⟨_, _, h1, e.symm⟩⟩)), fun ho' => by
        rcases ho' with ⟨q, hq⟩ | hq
        · rcases owns hq with ⟨_, h3⟩ | ⟨_, h3⟩
          · exact ho (.inl ⟨_, h3⟩)
          · exact ho (.inl ⟨_, h3⟩)
        · exact ho (.inr hq)⟩⟩
    refine ⟨hu, fun q b h => ?_, fun q q' b h h' => ?_, ha.sim.far, fun q t cs h => ?_, fun q e m f h => ?_, ha.sim.tab⟩
    · rcases owns h with ⟨_, h3⟩ | ⟨_, h3⟩
      · exact ⟨.inr ⟨_, h3⟩, Nat.lt_of_lt_of_le (ha.sim.ge _ _ h3).2 (Under.size hu)⟩
      · exact ⟨.inr ⟨_, h3⟩, Nat.lt_of_lt_of_le (ha.sim.ge _ _ h3).2 (Under.size hu)⟩
    · rcases owns h with ⟨rfl, h3⟩ | ⟨rfl, h3⟩ <;> rcases owns h' with ⟨rfl, h4⟩ | ⟨rfl, h4⟩
      · rfl
      · exact absurd (ha.sim.inj _ _ b h3 h4) (by decide)
      · exact absurd (ha.sim.inj _ _ b h3 h4) (by decide)
      · rfl
    · rcases get h with ⟨_, h4⟩ | ⟨rfl, h4⟩
      · cases h4
      · cases h4
        refine .inl ⟨noMapB, _, hbox, rfl, fun j x hj => ?_⟩
        match j, hj with
        | 0, hj =>
          obtain rfl := Option.some.inj hj
          exact .ptr (fun e => by have e' : some (Ob.box 55 [.ptr HB 0, .row 40 0 n]) = none := e; cases e') rfl fun t cs h5 => by
            rcases get h5 with ⟨h6, _⟩ | ⟨_, h6⟩
            · exact absurd h6 (by decide)
            · cases h6
              rw [ptrV_box noMapB]
              rfl
        | 1, hj =>
          obtain rfl := Option.some.inj hj
          exact .row (fun e => by have e' : some (Ob.row 5 n fun i j => g i j) = none := e; cases e') hB.one fun e m f h5 => by
            rcases get h5 with ⟨_, h6⟩ | ⟨h6, _⟩
            · cases h6
              exact hB.head
            · exact absurd h6 (by decide)
        | j + 2, hj => simp at hj
    · rcases get h with ⟨rfl, h4⟩ | ⟨_, h4⟩
      · cases h4
        rw [lvByte]
        refine ⟨by decide, xs, ?_, fun i j τ hi hj => ?_⟩
        · have := hB.row.kept hg (by
            cases hb : (F.hd (HB + 9)).ownBlock with
            | none => exact .inl rfl
            | some b => exact .inr fun e => hne b hb (Option.some.inj e))
          exact this
        · match j, hj with
          | 0, hj =>
            obtain rfl := Option.some.inj hj
            obtain ⟨x, hx, hr⟩ := hB.cells i hi
            exact ⟨x, by simpa using hx, hr.keep keep⟩
          | j + 1, hj => simp at hj
      · cases h4
  · rw [hMr]
    intro q hq
    refine ⟨fun t cs h => ?_, fun e m f h => ?_⟩
    · rcases get h with ⟨_, h4⟩ | ⟨rfl, h4⟩
      · cases h4
      · cases h4
        exact ⟨⟨_, h1⟩, rfl⟩
    · rcases get h with ⟨rfl, _⟩ | ⟨_, h4⟩
      · exact absurd (ha.high 40 hq) (by decide)
      · cases h4
  · rw [hvs]
    intro j x hj
    simp at hj
theorem check_sound {args : List AV} {M : Store} {r : R} (h : checkX args M = some r) : FSound Tryd.prog FR 35 args M r := by
  intro F vals hM ha fn hfn
  unfold checkX at h
  split at h
  · rename_i k k1 t c0 q n q1 e m g
    obtain ⟨hc, h⟩ := bif_inv h
    cases h
    simp only [Bool.and_eq_true, Nat.beq_eq] at hc
    obtain ⟨⟨rfl, rfl⟩, ⟨rfl, rfl⟩, ⟨rfl, rfl⟩, rfl, hc0⟩ := hc
    obtain ⟨u, rfl, hv⟩ := args1 ha
    obtain ⟨p, v, xs, hB, hr0⟩ := bld_of ha hM
    have hk : F.M.get HB = some (.box 55 [c0, .row (HB + 9) 0 n]) := by rw [hM]; rfl
    have hvp := hv.ptr_inv hk noMapB
    subst hvp
    have hlent : F.lent (F.β HB) := ⟨HB, .inl ⟨_, _, hk, rfl⟩⟩
    rcases addr_inv hc0 hk hr0 with rfl | rfl
    · refine (Any.Builder_copyCheck_fresh { Tryd.lays156 with } Tryd.Builder_Extra_156.toX72 (F.β HB) F.w (by rw [Lib.cell_of_heap hB.box]; rfl) (by simp [World.shape?, hB.box]; rfl) (Lib.frozen_of_heap hB.box 0)).mono ?_
      rintro e w' ⟨rfl, rfl⟩
      have hb : ∀ b, b ≠ F.β HB → (F.w.setCell ⟨F.β HB, 0, none⟩ (.pointer (some ⟨F.β HB, 0, none⟩))).heap[b]? = F.w.heap[b]? := fun b hb => heap_setCell_other _ _ _ _ hb
      refine ⟨[], rfl, res_check ha hM hB ⟨rfl, rfl, rfl, by simp, fun b hn => hb b (fun e => hn (.inr (e ▸ hlent)))⟩ ?_ (fun b _ hn => hb b hn) ⟨rfl, rfl, rfl, by simp, fun b _ hn => hb b (fun e => hn (by rw [e]))⟩⟩
      exact heap_setCell_same _ _ _ _ _ _ hB.box
    · refine (Any.Builder_copyCheck_used { Tryd.lays156 with } Tryd.Builder_Extra_156.toX72 (F.β HB) F.w (by rw [Lib.cell_of_heap hB.box]; rfl)).mono ?_
      rintro e w' ⟨rfl, rfl⟩
      exact ⟨[], rfl, res_check ha hM hB Under.refl hB.box (fun _ _ _ => rfl) ⟨rfl, rfl, rfl, Nat.le_refl _, fun _ _ _ => rfl⟩⟩
  · cases h
end
end Go.Proofs.YtljfhfgbpcaadaaDoor
namespace Go.Proofs.YtljfhfgbpcaadaaDoor
open Go.AM Go.RowKit Go.Shelf
theorem freeze_grown (w : World) (p : Addr) (n : Nat) : w.grownBy (w.freeze p n) (some p.block) := by
  unfold World.freeze
  split
  · exact ⟨rfl, rfl, rfl, Nat.le_refl _, fun _ _ _ => rfl⟩
  · refine ⟨rfl, rfl, rfl, by simp, fun k hk hn => ?_⟩
    simp only [Array.getElem?_modify]
    rw [if_neg (fun e => hn (by rw [e]))]
theorem res_str {F : Fr0} {args : List AV} {vals : Array Value} (ha : ArgsOk Tryd.prog F args vals) {f : FuncId} (hvs : (FR.tpl f).vs = [.s 0]) (hbs : (FR.tpl f).bs = []) (hrs : (FR.tpl f).rs = []) {w' : World} (hu : Under F w') (y : ByteArray) :
    ResOk Tryd.prog F (FR.tpl f) (lookR [(0, .s y)]) w' [.string y] := by
  have hM : (FR.tpl f).M (lookR [(0, .s y)]) = [] := by
    unfold Tpl.M Tpl.ents Tpl.rows
    rw [hvs, hbs, hrs]
    rfl
  have hno : ∀ k b, ¬ Owns [] F.β F.hd k b := by
    rintro k b (⟨t, cs, h, _⟩ | ⟨e, n, g, h, _⟩) <;> cases h
  refine ⟨by rw [hvs]; rfl, F.β, F.hd, rfl, ?_, ?_, ?_⟩
  · rw [hM]
    exact ⟨hu, fun k b h => absurd h (hno k b), fun k k' b h => absurd h (hno k b), ha.sim.far, (fun k t cs h => by cases h), (fun k e n g h => by cases h), ha.sim.tab⟩
  · rw [hM]
    exact fun q _ => ⟨(fun t cs h => by cases h), (fun e n g h => by cases h)⟩
  · rw [hM, hvs]
    intro j x hj
    match j, hj with
    | 0, hj =>
      obtain rfl := Option.some.inj hj
      exact .c (.s _)
    | j + 1, hj => simp [TA.instL] at hj
theorem under_below {F : Fr0} {w' : World} (h : Below F.w.heap.size F.w w') : Under F w' :=
  ⟨h.os, h.tape, h.output, h.size, fun b hb => h.block b (by have h2 : ¬ F.w.heap.size ≤ b := fun e => hb (.inl e); omega)⟩
theorem string_sound {args : List AV} {M : Store} {r : R} (h : stringX args M = some r) : FSound Tryd.prog FR 27 args M r := by
  intro F vals hM ha fn hfn
  unfold stringX at h
  split at h
  · rename_i k k1 t c0 q n q1 e m g
    obtain ⟨hc, h⟩ := bif_inv h
    cases h
    simp only [Bool.and_eq_true, Nat.beq_eq] at hc
    obtain ⟨⟨rfl, rfl⟩, ⟨rfl, rfl⟩, ⟨rfl, rfl⟩, rfl, hn, hu8⟩ := hc
    have hn : 0 < n := by simpa using hn
    obtain ⟨u, rfl, hv⟩ := args1 ha
    obtain ⟨p, v, xs, hB, hr0⟩ := bld_of ha hM
    have hk : F.M.get HB = some (.box 55 [c0, .row (HB + 9) 0 n]) := by rw [hM]; rfl
    have hk2 : F.M.get (HB + 9) = some (.row 5 n g) := by rw [hM]; rfl
    have hvp := hv.ptr_inv hk noMapB
    subst hvp
    rcases hB.head with ⟨_, _, _, h0⟩ | ⟨gb, cap, a, hhd, hcap, _, hvv, haa⟩
    · omega
    have ea : a = ⟨gb, 0, none⟩ := by simpa using haa (.inr rfl)
    subst ea
    rw [Nat.sub_zero] at hvv
    subst hvv
    have hrow := hB.row
    rw [hhd] at hrow
    have hbox := hB.box
    obtain ⟨l, hl⟩ : ∃ l, l = bytesOf n g := ⟨_, rfl⟩
    have hlen : l.length = n := by rw [hl]; simp [bytesOf]
    have hxs : xs = Lib.byteCells l := by
      have hxl : xs.length = n := by simpa using hrow.1
      apply List.ext_getElem?
      intro i
      by_cases hi : i < n
      · obtain ⟨x, hx, hr⟩ := hB.cells i hi
        rw [hx, hl]
        have hb := List.all_eq_true.1 hu8 i (List.mem_range.2 hi)
        simp only [Bool.and_eq_true, decide_eq_true_eq] at hb
        have e1 : (Lib.byteCells (bytesOf n g))[i]? = some (.int .u8 ((UInt8.ofNat (g i 0).int.toNat).toNat : Int)) := by
          simp [Lib.byteCells, bytesOf, hi]
        rw [e1]
        cases hr with
        | int h =>
          rw [undByte] at h
          cases h
          have e2 : ((UInt8.ofNat (g i 0).int.toNat).toNat : Int) = (g i 0).int := by
            rw [UInt8.toNat_ofNat']
            omega
          rw [e2]
        | bool h => rw [undByte] at h; cases h
        | str h => rw [undByte] at h; cases h
        | sl h => rw [undByte] at h; cases h
      · rw [List.getElem?_eq_none (by omega), List.getElem?_eq_none (by rw [Lib.byteCells, List.length_map]; omega)]
    rw [hxs] at hrow
    rw [← hl]
    rw [← hlen] at hrow hbox
    refine (str_walk (F.β HB) gb cap p l F.w hbox hrow (by intro e; rw [e] at hlen; simp at hlen; omega)).mono ?_
    rintro e w' ⟨rfl, rfl⟩
    have hgr := freeze_grown F.w.drew ⟨gb, 0, none⟩ l.length
    have hlent : F.lent gb := ⟨HB + 9, .inr ⟨_, _, _, hk2, by rw [hhd]; rfl⟩⟩
    refine ⟨[.string ⟨l.toArray⟩], rfl, res_str ha (f := 27) (by rfl) (by rfl) (by rfl) ⟨hgr.os, hgr.tape, hgr.output, hgr.size, fun b hb => ?_⟩ _⟩
    have h2 : ¬ F.w.heap.size ≤ b := fun e => hb (.inl e)
    exact hgr.block b (by show b < F.w.heap.size; omega) (fun e => hb (.inr (Option.some.inj e ▸ hlent)))
  · cases h
theorem lvStr : lv Tryd.prog 9 = [9] := by kernel_rfl
theorem undStr : Tryd.prog.underlying 9 = some .string := by kernel_rfl
theorem join_sound {args : List AV} {M : Store} {r : R} (h : joinX args M = some r) : FSound Tryd.prog FR 25 args M r := by
  intro F vals hM ha fn hfn
  unfold joinX at h
  split at h
  · rename_i e x sep
    obtain ⟨hc, h⟩ := bif_inv h
    cases h
    simp only [Bool.and_eq_true, Nat.beq_eq] at hc
    obtain ⟨⟨rfl, hx0⟩, hx1, hx2⟩ := hc
    have hx0 : 0 < x.len := by simpa using hx0
    have hx1 := Nat.le_of_ble_eq_true hx1
    have hx2 := Nat.le_of_ble_eq_true hx2
    obtain ⟨v, u, rfl, hv, hs⟩ := args2 ha
    have hs := hs.s_inv
    subst hs
    obtain ⟨t, A, c, ht, rfl, hlc, hr⟩ := hv.sl_inv
    cases hr with
    | @sl _ e2 _ _ _ hu2 _ b off vs hA hcell hrt =>
      rw [ht] at hu2
      cases hu2
      obtain ⟨rfl, hb, _⟩ := hA hx0
      rw [lvStr] at hcell hrt
      have hl : (jStrs x).length = x.len := by simp [jStrs]
      have hcells : ∀ (j : Nat) y, (jStrs x)[j]? = some y → F.w.cell? ⟨b, off + j, none⟩ = some (.string y) := by
        intro j y hj
        have hjl : j < x.len := by have := (List.getElem?_eq_some_iff.1 hj).1; omega
        have e1 : (jStrs x)[j]? = some (x.el j 0).str := by simp [jStrs, hjl]
        rw [e1] at hj
        cases hj
        have h3 := hcell j 0 9 hjl rfl
        have h4 := hrt j 0 9 hjl rfl
        simp only [List.length_singleton, Nat.mul_one, Nat.add_zero] at h3
        rw [h3]
        generalize vs j 0 = z at h4
        cases h4 with
        | int h => rw [undStr] at h; cases h
        | bool h => rw [undStr] at h; cases h
        | str h => rfl
        | sl h => rw [undStr] at h; cases h
      have C := Tryd.strings_Join b off c (jStrs x) sep F.w hcells hb (by omega) (by omega) hx2
      rw [hl] at C
      refine C.mono ?_
      rintro e w' ⟨rfl, hw⟩
      exact ⟨[.string _], rfl, res_str ha (f := 25) (by rfl) (by rfl) (by rfl) (under_below hw) _⟩
  · cases h
theorem itoa_sound {args : List AV} {M : Store} {r : R} (h : itoaX args M = some r) : FSound Tryd.prog FR 26 args M r := by
  intro F vals hM ha fn hfn
  unfold itoaX at h
  split at h
  · rename_i k n
    obtain ⟨hc, h⟩ := bif_inv h
    cases h
    simp only [Bool.and_eq_true, beq_iff_eq, decide_eq_true_eq] at hc
    obtain ⟨rfl, h0, h1⟩ := hc
    obtain ⟨v, rfl, hv⟩ := args1 ha
    have hv := hv.i_inv
    subst hv
    have hg : (Tryd.prog.globalNamed "internal/strconv.uint64pow10").isSome = true := by kernel_rfl
    obtain ⟨g, hg⟩ := Option.isSome_iff_exists.1 hg
    refine (Tryd.strconv_Itoa n h0 h1 F.w (ha.sim.tab g hg).2.2).mono ?_
    rintro e w' ⟨rfl, k, os, rfl⟩
    suffices hu : Under F (Go.Sort.grow (F.w.drewN k) os) from ⟨[.string _], rfl, res_str ha (f := 26) (by rfl) (by rfl) (by rfl) hu _⟩
    refine ⟨rfl, rfl, rfl, by simp [Go.Sort.grow], fun b hb => ?_⟩
    have h2 : ¬ F.w.heap.size ≤ b := fun e => hb (.inl e)
    show (F.w.heap ++ os)[b]? = F.w.heap[b]?
    rw [Array.getElem?_append_left (by omega)]
  · cases h
theorem res_i64 {F : Fr0} {args : List AV} {vals : Array Value} (ha : ArgsOk Tryd.prog F args vals) {f : FuncId} (hvs : (FR.tpl f).vs = [.i .i64 0]) (hbs : (FR.tpl f).bs = []) (hrs : (FR.tpl f).rs = []) {w' : World} (hu : Under F w') (y : Int) :
    ResOk Tryd.prog F (FR.tpl f) (lookR [(0, .i y)]) w' [.int .i64 y] := by
  have hM : (FR.tpl f).M (lookR [(0, .i y)]) = [] := by
    unfold Tpl.M Tpl.ents Tpl.rows
    rw [hvs, hbs, hrs]
    rfl
  have hno : ∀ k b, ¬ Owns [] F.β F.hd k b := by
    rintro k b (⟨t, cs, h, _⟩ | ⟨e, n, g, h, _⟩) <;> cases h
  refine ⟨by rw [hvs]; rfl, F.β, F.hd, rfl, ?_, ?_, ?_⟩
  · rw [hM]
    exact ⟨hu, fun k b h => absurd h (hno k b), fun k k' b h => absurd h (hno k b), ha.sim.far, (fun k t cs h => by cases h), (fun k e n g h => by cases h), ha.sim.tab⟩
  · rw [hM]
    exact fun q _ => ⟨(fun t cs h => by cases h), (fun e n g h => by cases h)⟩
  · rw [hM, hvs]
    intro j x hj
    match j, hj with
    | 0, hj =>
      obtain rfl := Option.some.inj hj
      exact .c (.i _ _)
    | j + 1, hj => simp [TA.instL] at hj
theorem one_byte {t : ByteArray} (h : Nat.beq t.size 1 = true) : t = ⟨#[t.data.getD 0 0]⟩ := by
  have h := Nat.eq_of_beq_eq_true h
  obtain ⟨⟨_ | ⟨c, _ | ⟨d, l⟩⟩⟩⟩ := t <;> simp [ByteArray.size] at h
  rfl
theorem under_refl (F : Fr0) : Under F F.w := ⟨rfl, rfl, rfl, Nat.le_refl _, fun _ _ => rfl⟩
end Go.Proofs.YtljfhfgbpcaadaaDoor
