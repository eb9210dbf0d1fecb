/- The engine, part 14: what an operation does does not hang on what is done with it. -/
import Derived.Test.YtljfhfgbpcaadaaDoorEng13
set_option linter.unusedSimpArgs false
set_option linter.unusedVariables false
namespace Go.AM
def pair (v : AV) (us : List (Nat × Ob)) : Option (AV × List (Nat × Ob)) := some (v, us)
def Nat1 {ρ : Type} (f : Kk ρ → Option ρ) (f0 : Kk (AV × List (Nat × Ob)) → Option (AV × List (Nat × Ob))) (κ : Kk ρ) (r : ρ) : Prop :=
  f κ = some r → ∃ v us, f0 pair = some (v, us) ∧ κ v us = some r
section
variable {ρ : Type} (P : Program) (κ : Kk ρ) (r : ρ)
theorem nat_iff (c : Bool) (v : AV) : Nat1 (iff c v) (iff c v) κ r := by
  unfold Nat1 iff
  cases c
  · intro h; cases h
  · intro h; exact ⟨_, _, rfl, h⟩
theorem nat_pick (vs : List AV) : Nat1 (fun κ => ePick κ vs) (fun κ => ePick κ vs) κ r := by
  unfold Nat1 ePick
  split
  · split
    · intro h; exact ⟨_, _, rfl, h⟩
    · intro h; exact ⟨_, _, rfl, h⟩
  · intro h; cases h
theorem nat_load (t : TypeId) (os : List (Nat × Option Ob)) (vs : List AV) : Nat1 (fun κ => eLoad P t os κ vs) (fun κ => eLoad P t os κ vs) κ r := by
  unfold Nat1
  simp only [eLoad, iff, Bool.cond_eq_ite]
  repeat' split
  all_goals first
    | (intro h; cases h; done)
    | (intro h; exact ⟨_, _, rfl, h⟩)
theorem nat_evInt (op : BinOp) (k k' : IntKind) (a b : Int) : Nat1 (evInt op k k' a b) (evInt op k k' a b) κ r := by
  unfold Nat1
  cases op <;> simp only [evInt, iff, Bool.cond_eq_ite] <;> (repeat' split) <;> first
    | (intro h; cases h; done)
    | (intro h; exact ⟨_, _, rfl, h⟩)
theorem nat_alloc (d : Nat) (t : TypeId) (os : List (Nat × Option Ob)) : Nat1 (fun κ => eAlloc P d t os κ) (fun κ => eAlloc P d t os κ) κ r := by
  unfold Nat1
  simp only [eAlloc, iff, Bool.cond_eq_ite]
  repeat' split
  all_goals first
    | (intro h; cases h; done)
    | (intro h; exact ⟨_, _, rfl, h⟩)
theorem nat_box (d : Nat) (t : TypeId) (os : List (Nat × Option Ob)) (vs : List AV) : Nat1 (fun κ => eBox d t os κ vs) (fun κ => eBox d t os κ vs) κ r := by
  unfold Nat1
  simp only [eBox, iff, Bool.cond_eq_ite]
  repeat' split
  all_goals first
    | (intro h; cases h; done)
    | (intro h; exact ⟨_, _, rfl, h⟩)
theorem nat_build (t : TypeId) (ps : List (Nat × Operand)) (vs : List AV) : Nat1 (fun κ => eBuild P t ps vs κ) (fun κ => eBuild P t ps vs κ) κ r := by
  unfold Nat1
  simp only [eBuild, iff, Bool.cond_eq_ite]
  repeat' split
  all_goals first
    | (intro h; cases h; done)
    | (intro h; exact ⟨_, _, rfl, h⟩)
theorem nat_buildSlice (d : Nat) (t : TypeId) (n : Nat) (ps : List (Nat × Operand)) (vs : List AV) (os : List (Nat × Option Ob)) : Nat1 (fun κ => eBuildSlice P d t n ps vs os κ) (fun κ => eBuildSlice P d t n ps vs os κ) κ r := by
  unfold Nat1
  simp only [eBuildSlice, iff, Bool.cond_eq_ite]
  repeat' split
  all_goals first
    | (intro h; cases h; done)
    | (intro h; exact ⟨_, _, rfl, h⟩)
theorem nat_makeSlice (d : Nat) (t : TypeId) (lo co : Operand) (os : List (Nat × Option Ob)) (vs : List AV) : Nat1 (fun κ => eMakeSlice P d t lo co os κ vs) (fun κ => eMakeSlice P d t lo co os κ vs) κ r := by
  unfold Nat1
  simp only [eMakeSlice, iff, Bool.cond_eq_ite]
  repeat' split
  all_goals first
    | (intro h; cases h; done)
    | (intro h; exact ⟨_, _, rfl, h⟩)
theorem nat_store (t : TypeId) (os : List (Nat × Option Ob)) (vs : List AV) : Nat1 (fun κ => eStore P t os κ vs) (fun κ => eStore P t os κ vs) κ r := by
  unfold Nat1
  simp only [eStore, iff, Bool.cond_eq_ite]
  repeat' split
  all_goals first
    | (intro h; cases h; done)
    | (intro h; exact ⟨_, _, rfl, h⟩)
theorem nat_nilCheck (os : List (Nat × Option Ob)) (vs : List AV) : Nat1 (fun κ => eNilCheck os κ vs) (fun κ => eNilCheck os κ vs) κ r := by
  unfold Nat1
  simp only [eNilCheck, iff, Bool.cond_eq_ite]
  repeat' split
  all_goals first
    | (intro h; cases h; done)
    | (intro h; exact ⟨_, _, rfl, h⟩)
theorem nat_un (op : UnOp) (vs : List AV) : Nat1 (fun κ => eUn op κ vs) (fun κ => eUn op κ vs) κ r := by
  unfold Nat1
  simp only [eUn, iff, Bool.cond_eq_ite]
  repeat' split
  all_goals first
    | (intro h; cases h; done)
    | (intro h; exact ⟨_, _, rfl, h⟩)
theorem nat_conv (s d : TypeId) (vs : List AV) : Nat1 (fun κ => eConv P s d κ vs) (fun κ => eConv P s d κ vs) κ r := by
  unfold Nat1
  simp only [eConv, iff, Bool.cond_eq_ite]
  repeat' split
  all_goals first
    | (intro h; cases h; done)
    | (intro h; exact ⟨_, _, rfl, h⟩)
theorem nat_makeFunc (fn : Fn) (first caps : Array Operand) (vs : List AV) : Nat1 (fun κ => eMakeFunc fn first caps vs κ) (fun κ => eMakeFunc fn first caps vs κ) κ r := by
  unfold Nat1
  simp only [eMakeFunc, iff, Bool.cond_eq_ite]
  repeat' split
  all_goals first
    | (intro h; cases h; done)
    | (intro h; exact ⟨_, _, rfl, h⟩)
theorem nat_bif (c : Bool) {f : Kk ρ → Option ρ} {g : Kk (AV × List (Nat × Ob)) → Option (AV × List (Nat × Ob))} (h : Nat1 f g κ r) : Nat1 (fun κ => bif c then f κ else none) (fun κ => bif c then g κ else none) κ r := by
  cases c with
  | true => exact h
  | false => intro h; cases h
theorem nat_sliceAt (t : TypeId) (os : List (Nat × Option Ob)) (x : AV) (lo hi : Option Int) : Nat1 (fun κ => eSliceAt P t os x lo hi κ) (fun κ => eSliceAt P t os x lo hi κ) κ r := by
  unfold eSliceAt
  cases x with
  | s y =>
    simp only
    split
    · exact nat_iff κ r _ _
    · intro h; cases h
  | sl e' y =>
    simp only
    split
    · exact nat_bif κ r _ (nat_iff κ r _ _)
    · intro h; cases h
  | row k off len =>
    simp only
    split
    · split
      · exact nat_bif κ r _ (nat_iff κ r _ _)
      · intro h; cases h
    · intro h; cases h
  | nl =>
    simp only
    split
    · exact nat_bif κ r _ (nat_iff κ r _ _)
    · intro h; cases h
  | _ => intro h; cases h
theorem nat_fieldAddr (t : TypeId) (f : Nat) (os : List (Nat × Option Ob)) (vs : List AV) : Nat1 (fun κ => eFieldAddr P t f os κ vs) (fun κ => eFieldAddr P t f os κ vs) κ r := by
  unfold Nat1
  simp only [eFieldAddr, iff, Bool.cond_eq_ite]
  repeat' split
  all_goals first
    | (intro h; cases h; done)
    | (intro h; exact ⟨_, _, rfl, h⟩)
theorem nat_part (t : TypeId) (cs : List AV) (off : Nat) : Nat1 (fun κ => ePart P t cs off κ) (fun κ => ePart P t cs off κ) κ r := by
  unfold Nat1
  simp only [ePart, iff, Bool.cond_eq_ite]
  repeat' split
  all_goals first
    | (intro h; cases h; done)
    | (intro h; exact ⟨_, _, rfl, h⟩)
theorem nat_extract (j : Nat) (vs : List AV) : Nat1 (fun κ => eExtract j κ vs) (fun κ => eExtract j κ vs) κ r := by
  unfold Nat1
  simp only [eExtract, iff, Bool.cond_eq_ite]
  repeat' split
  all_goals first
    | (intro h; cases h; done)
    | (intro h; exact ⟨_, _, rfl, h⟩)
theorem nat_len (t : TypeId) (os : List (Nat × Option Ob)) (vs : List AV) : Nat1 (fun κ => eLen P t os κ vs) (fun κ => eLen P t os κ vs) κ r := by
  unfold Nat1
  simp only [eLen, iff, Bool.cond_eq_ite]
  repeat' split
  all_goals first
    | (intro h; cases h; done)
    | (intro h; exact ⟨_, _, rfl, h⟩)
theorem nat_appendZ (d : Nat) (t : TypeId) (os : List (Nat × Option Ob)) (vs : List AV) : Nat1 (fun κ => eAppendZ P d t os κ vs) (fun κ => eAppendZ P d t os κ vs) κ r := by
  unfold Nat1
  simp only [eAppendZ, iff, Bool.cond_eq_ite]
  repeat' split
  all_goals first
    | (intro h; cases h; done)
    | (intro h; exact ⟨_, _, rfl, h⟩)
theorem nat_appendS (d : Nat) (t : TypeId) (os : List (Nat × Option Ob)) (vs : List AV) : Nat1 (fun κ => eAppendS P d t os κ vs) (fun κ => eAppendS P d t os κ vs) κ r := by
  unfold Nat1
  simp only [eAppendS, iff, Bool.cond_eq_ite]
  repeat' split
  all_goals first
    | (intro h; cases h; done)
    | (intro h; exact ⟨_, _, rfl, h⟩)
theorem nat_cap (t : TypeId) (vs : List AV) : Nat1 (fun κ => eCap P t κ vs) (fun κ => eCap P t κ vs) κ r := by
  unfold Nat1
  simp only [eCap, iff, Bool.cond_eq_ite]
  repeat' split
  all_goals first
    | (intro h; cases h; done)
    | (intro h; exact ⟨_, _, rfl, h⟩)
theorem nat_max (vs : List AV) : Nat1 (fun κ => eMax κ vs) (fun κ => eMax κ vs) κ r := by
  unfold Nat1
  simp only [eMax, eMax2, eMax3, iff, Bool.cond_eq_ite]
  repeat' split
  all_goals first
    | (intro h; cases h; done)
    | (intro h; exact ⟨_, _, rfl, h⟩)
theorem nat_min (vs : List AV) : Nat1 (fun κ => eMin κ vs) (fun κ => eMin κ vs) κ r := by
  unfold Nat1
  simp only [eMin, iff, Bool.cond_eq_ite]
  repeat' split
  all_goals first
    | (intro h; cases h; done)
    | (intro h; exact ⟨_, _, rfl, h⟩)
theorem nat_append (d : Nat) (t : TypeId) (os : List (Nat × Option Ob)) (vs : List AV) : Nat1 (fun κ => eAppend P d t os κ vs) (fun κ => eAppend P d t os κ vs) κ r := by
  unfold Nat1
  simp only [eAppend, iff, Bool.cond_eq_ite]
  repeat' split
  all_goals first
    | (intro h; cases h; done)
    | (intro h; exact ⟨_, _, rfl, h⟩)
theorem nat_same (vs : List AV) : Nat1 (fun κ => eSame κ vs) (fun κ => eSame κ vs) κ r := by
  unfold Nat1
  simp only [eSame, iff, Bool.cond_eq_ite]
  repeat' split
  all_goals first
    | (intro h; cases h; done)
    | (intro h; exact ⟨_, _, rfl, h⟩)
theorem nat_evBool (op : BinOp) (t : TypeId) (a b : Bool) : Nat1 (fun κ => evBool P op t a b κ) (fun κ => evBool P op t a b κ) κ r := by
  unfold Nat1
  simp only [evBool, iff, Bool.cond_eq_ite]
  repeat' split
  all_goals first
    | (intro h; cases h; done)
    | (intro h; exact ⟨_, _, rfl, h⟩)
theorem nat_evStr (op : BinOp) (a b : ByteArray) : Nat1 (fun κ => evStr op a b κ) (fun κ => evStr op a b κ) κ r := by
  unfold Nat1
  simp only [evStr, iff, Bool.cond_eq_ite]
  repeat' split
  all_goals first
    | (intro h; cases h; done)
    | (intro h; exact ⟨_, _, rfl, h⟩)
theorem nat_evAg (op : BinOp) (t : TypeId) (xs ys : List AV) : Nat1 (fun κ => evAg P op t xs ys κ) (fun κ => evAg P op t xs ys κ) κ r := by
  unfold Nat1
  simp only [evAg, iff, Bool.cond_eq_ite]
  repeat' split
  all_goals first
    | (intro h; cases h; done)
    | (intro h; exact ⟨_, _, rfl, h⟩)
theorem nat_none : Nat1 (fun (_ : Kk ρ) => none) (fun _ => none) κ r := fun h => by cases h
theorem nat_slice (t : TypeId) (os : List (Nat × Option Ob)) (lo hi mx : Option Operand) (vs : List AV) : Nat1 (fun κ => eSlice P t os lo hi mx κ vs) (fun κ => eSlice P t os lo hi mx κ vs) κ r := by
  unfold eSlice
  cases vs with
  | nil => exact nat_none κ r
  | cons x bs =>
    simp only
    split
    · exact nat_sliceAt P κ r t os x _ _
    · exact nat_sliceAt P κ r t os x _ _
    · exact nat_sliceAt P κ r t os x _ _
    · exact nat_sliceAt P κ r t os x _ _
    · intro h
      obtain ⟨hc, h⟩ := bif_inv h
      exact ⟨_, _, by rw [hc]; rfl, h⟩
    · exact nat_none κ r
theorem nat_field (t : TypeId) (f : Nat) (vs : List AV) : Nat1 (fun κ => eField P t f κ vs) (fun κ => eField P t f κ vs) κ r := by
  unfold eField
  split
  · split
    · exact nat_part P κ r _ _ _
    · exact nat_none κ r
  · exact nat_none κ r
theorem nat_pickN (i : Int) (f : Kk ρ → Nat → Option ρ) (f0 : Kk (AV × List (Nat × Ob)) → Nat → Option (AV × List (Nat × Ob))) (h : ∀ c, Nat1 (fun κ => f κ c) (fun κ => f0 κ c) κ r) : ∀ m c, Nat1 (fun κ => pickN i (f κ) m c) (fun κ => pickN i (f0 κ) m c) κ r
  | 0, c => nat_none κ r
  | m + 1, c => by
    unfold Nat1
    simp only [pickN]
    cases i == (c : Int) with
    | true => exact h c
    | false => exact nat_pickN i f f0 h m (c + 1)
theorem nat_index (t : TypeId) (vs : List AV) : Nat1 (fun κ => eIndex P t κ vs) (fun κ => eIndex P t κ vs) κ r := by
  unfold eIndex
  split
  · split
    · exact nat_iff κ r _ _
    · exact nat_none κ r
  · split
    · exact nat_pickN κ r _ _ _ (fun c => nat_part P κ r _ _ _) _ _
    · exact nat_none κ r
  · exact nat_none κ r
theorem nat_indexAddr (t : TypeId) (os : List (Nat × Option Ob)) (vs : List AV) : Nat1 (fun κ => eIndexAddr P t os κ vs) (fun κ => eIndexAddr P t os κ vs) κ r := by
  unfold eIndexAddr
  split
  · split
    · unfold Nat1
      simp only [iff, Bool.cond_eq_ite]
      repeat' split
      all_goals first
        | (intro h; cases h; done)
        | (intro h; exact ⟨_, _, rfl, h⟩)
    · exact nat_none κ r
  · split
    · unfold Nat1
      simp only [iff, Bool.cond_eq_ite]
      repeat' split
      all_goals first
        | (intro h; cases h; done)
        | (intro h; exact ⟨_, _, rfl, h⟩)
    · exact nat_none κ r
  · rename_i k off k' i
    split
    · rename_i m e _
      unfold Nat1
      generalize (isBox os _ && Nat.blt 1 m && Nat.blt 0 (sizeT P e)) = c
      cases c with
      | false => intro h; cases h
      | true => exact nat_pickN κ r i (fun κ c => κ (.ptr k (off + c * sizeT P e)) []) (fun κ c => κ (.ptr k (off + c * sizeT P e)) []) (fun c h => ⟨_, _, rfl, h⟩) m 0
    · exact nat_none κ r
  · exact nat_none κ r
theorem nat_bin (op : BinOp) (t : TypeId) (vs : List AV) : Nat1 (fun κ => eBin P op t κ vs) (fun κ => eBin P op t κ vs) κ r := by
  unfold eBin evBin
  split
  · split
    · exact nat_evInt κ r _ _ _ _ _
    · exact nat_evBool P κ r _ _ _ _
    · exact nat_evStr κ r _ _ _
    · exact nat_evAg P κ r _ _ _ _
    · exact nat_none κ r
  · exact nat_none κ r
theorem nat_builtin (d : Nat) (b : Builtin) (ts : Array TypeId) (vs : List AV) (os : List (Nat × Option Ob)) : Nat1 (fun κ => eBuiltin P d b ts vs os κ) (fun κ => eBuiltin P d b ts vs os κ) κ r := by
  unfold eBuiltin
  split
  · split
    · exact nat_len P κ r _ _ _
    · exact nat_none κ r
  · split
    · exact nat_cap P κ r _ _
    · exact nat_none κ r
  · exact nat_max κ r _
  · exact nat_min κ r _
  · split
    · rename_i t u _
      cases t == u with
      | false =>
        simp only [cond_false]
        split
        · exact nat_appendZ P κ r _ _ _ _
        · exact nat_appendS P κ r _ _ _ _
        · exact nat_none κ r
      | true => exact nat_append P κ r _ _ _ _
    · exact nat_none κ r
  · exact nat_none κ r
theorem nat_makeMap (d : Nat) (t : TypeId) (res : Option Operand) (os : List (Nat × Option Ob)) (vs : List AV) : Nat1 (fun κ => eMakeMap P d t res os κ vs) (fun κ => eMakeMap P d t res os κ vs) κ r := by
  unfold eMakeMap Nat1
  simp only [Bool.cond_eq_ite]
  repeat' split
  all_goals first
    | (intro h; cases h; done)
    | (intro h; exact ⟨_, _, rfl, h⟩)
theorem nat_lookup (t : TypeId) (ok : Bool) (os : List (Nat × Option Ob)) (vs : List AV) : Nat1 (fun κ => eLookup P t ok os κ vs) (fun κ => eLookup P t ok os κ vs) κ r := by
  unfold eLookup Nat1
  simp only [Bool.cond_eq_ite]
  repeat' split
  all_goals first
    | (intro h; cases h; done)
    | (intro h; exact ⟨_, _, rfl, h⟩)
theorem nat_mapUpdate (t : TypeId) (os : List (Nat × Option Ob)) (vs : List AV) : Nat1 (fun κ => eMapUpdate P t os κ vs) (fun κ => eMapUpdate P t os κ vs) κ r := by
  unfold eMapUpdate Nat1
  simp only [Bool.cond_eq_ite]
  repeat' split
  all_goals first
    | (intro h; cases h; done)
    | (intro h; exact ⟨_, _, rfl, h⟩)
theorem nat_mapEntry (t : TypeId) (os : List (Nat × Option Ob)) (vs : List AV) : Nat1 (fun κ => eMapEntry P t os κ vs) (fun κ => eMapEntry P t os κ vs) κ r := by
  unfold eMapEntry Nat1
  simp only [Bool.cond_eq_ite]
  repeat' split
  all_goals first
    | (intro h; cases h; done)
    | (intro h; exact ⟨_, _, rfl, h⟩)
theorem nat_entryStore (t : TypeId) (os : List (Nat × Option Ob)) (vs : List AV) : Nat1 (fun κ => eEntryStore P t os κ vs) (fun κ => eEntryStore P t os κ vs) κ r := by
  unfold eEntryStore Nat1
  simp only [Bool.cond_eq_ite]
  repeat' split
  all_goals first
    | (intro h; cases h; done)
    | (intro h; exact ⟨_, _, rfl, h⟩)
theorem nat_evalOp (o : Oper) (vs : List AV) (os : List (Nat × Option Ob)) : Nat1 (fun κ => evalOp P o vs os κ) (fun κ => evalOp P o vs os κ) κ r := by
  unfold evalOp
  split
  · exact nat_same κ r _
  · exact nat_same κ r _
  · exact nat_pick κ r _
  · exact nat_alloc P κ r _ _ _
  · exact nat_box κ r _ _ _ _
  · exact nat_build P κ r _ _ _
  · exact nat_buildSlice P κ r _ _ _ _ _ _
  · exact nat_makeSlice P κ r _ _ _ _ _ _
  · exact nat_load P κ r _ _ _
  · exact nat_store P κ r _ _ _
  · exact nat_nilCheck κ r _ _
  · exact nat_bin P κ r _ _ _
  · exact nat_un κ r _ _
  · exact nat_conv P κ r _ _ _
  · exact nat_makeFunc κ r _ _ _ _
  · exact nat_slice P κ r _ _ _ _ _ _
  · exact nat_makeMap P κ r _ _ _ _ _
  · exact nat_lookup P κ r _ _ _ _
  · exact nat_mapUpdate P κ r _ _ _
  · exact nat_mapEntry P κ r _ _ _
  · exact nat_entryStore P κ r _ _ _
  · exact nat_fieldAddr P κ r _ _ _ _
  · exact nat_field P κ r _ _ _
  · exact nat_indexAddr P κ r _ _ _
  · exact nat_index P κ r _ _
  · exact nat_extract κ r _ _
  · split
    · exact nat_builtin P κ r _ _ _ _ _
    · exact nat_none κ r
  · exact nat_none κ r
theorem nat_evalAny (fr : Fr) (h : H) (o : Oper) (vs : List AV) (os : List (Nat × Option Ob)) : Nat1 (fun κ => evalAny P fr h o vs os κ) (fun κ => evalAny P fr h o vs os κ) κ r := by
  unfold evalAny
  cases isCall o with
  | false => exact nat_evalOp P κ r o vs os
  | true =>
    simp only [cond_true]
    unfold Nat1 evCall
    simp only [Bool.cond_eq_ite]
    repeat' split
    all_goals first
      | (intro h; cases h; done)
      | (intro h; exact ⟨_, _, rfl, h⟩)
end
end Go.AM
