/-
  NARROWER THAN 'FOR EVERY INPUT', by the rows' own cells (each row's printed sentence says how): ModuleGoals: loops · ModuleNames: loops · ChoiceForms: loops · ChoiceMore: loops · ChoiceGuards: loops · ChoiceAny: loops · ChoiceFails: loops · ChoiceInits: loops.
  DERIVED. THE GIVEN ROWS OF THIS SEAT. 8 by the template 'for every input the law returns true; each argument reads behind the call as it read before'; 0 by the template 'total and deterministic' (their statements: YtnlkhjileipmcaaGreatTotals.lean).
  GIVEN WITH THE SEED: the statements are not yours to turn. If you find one false, say at which input.
  Laid BY PROGRAM, IN A SANDBOX (cutbox-rows.mjs): the forced cells as the released guide's own fill.sh prints them over the translation 4f90cde7c561cf7b… (all of the seat's roots in one cut). By AI agents, Wed Nov 11 2026. No macro, syntax, notation, axiom, sorry.
-/
import Derived.Test.YtnlkhjileipmcaaGreatChecked
import GoSem.Claim
import GoSem.ClaimJoined
import GoSem.ClaimMapViews
import Derived.JoinedTies
import Derived.KernelRfl
namespace Go.Proofs.YtnlkhjileipmcaaGreat
/- THE CELL 'sum', in the pinned program and in every row, IS THE sha256 OF THE DUMP (.gsa) THAT YtnlkhjileipmcaaGreatProg.lean LOADS. Nothing in Lean hashes anything: it is a label: what it is worth is what the hold of that sum in a sandbox is worth. -/
noncomputable def Tryz.pinned : Pinned := { name := "ytnlkhjileipmcaagreat", sum := "4f90cde7c561cf7b17519b0e6a0d649131d9021320e156ea715ade5ae74491cc", checked := Tryz.checked }
namespace Rows
def none {H : Type} : Left H := { results := [], args := [] }

/-- 'parrylaw5.ModuleGoals': WHATEVER THE INPUT: true; the input reads as it did. -/
def moduleGoalsSpec : ChangeSpec := { name := "moduleGoals", fn := fun _ => fun
  | [d1, d2, d3] => { results := [.lit (.bool true)], args := [d1, d2, d3] }
  | _ => none }
def moduleGoalsRow : OpenClaim := { program := "ytnlkhjileipmcaagreat", sum := "4f90cde7c561cf7b17519b0e6a0d649131d9021320e156ea715ade5ae74491cc", func := "parry/parrylaw5.ModuleGoals", spec := "moduleGoals", unfollowed := true, recurses := true, loops := true, apart := false }
def ModuleGoalsSaid : Prop := moduleGoalsRow.holds Tryz.pinned (OpenSpec.ofChange moduleGoalsSpec)

/-- ITS FALSE NEIGHBOUR: 'it returns false'. Refute it at one input. -/
def moduleGoalsWrong : ChangeSpec := { name := "moduleGoals", fn := fun _ => fun
  | [d1, d2, d3] => { results := [.lit (.bool false)], args := [d1, d2, d3] }
  | _ => none }
def ModuleGoalsWrongFalsely : Prop := moduleGoalsRow.holds Tryz.pinned (OpenSpec.ofChange moduleGoalsWrong)

/-- 'parrylaw5.ModuleNames': WHATEVER THE INPUT: true; the input reads as it did. -/
def moduleNamesSpec : ChangeSpec := { name := "moduleNames", fn := fun _ => fun
  | [d1, d2] => { results := [.lit (.bool true)], args := [d1, d2] }
  | _ => none }
def moduleNamesRow : OpenClaim := { program := "ytnlkhjileipmcaagreat", sum := "4f90cde7c561cf7b17519b0e6a0d649131d9021320e156ea715ade5ae74491cc", func := "parry/parrylaw5.ModuleNames", spec := "moduleNames", unfollowed := true, recurses := true, loops := true, apart := false }
def ModuleNamesSaid : Prop := moduleNamesRow.holds Tryz.pinned (OpenSpec.ofChange moduleNamesSpec)

/-- ITS FALSE NEIGHBOUR: 'it returns false'. Refute it at one input. -/
def moduleNamesWrong : ChangeSpec := { name := "moduleNames", fn := fun _ => fun
  | [d1, d2] => { results := [.lit (.bool false)], args := [d1, d2] }
  | _ => none }
def ModuleNamesWrongFalsely : Prop := moduleNamesRow.holds Tryz.pinned (OpenSpec.ofChange moduleNamesWrong)

/-- 'parrylaw6.ChoiceForms': WHATEVER THE INPUT: true; the input reads as it did. -/
def choiceFormsSpec : ChangeSpec := { name := "choiceForms", fn := fun _ => fun
  | [d1, d2, d3] => { results := [.lit (.bool true)], args := [d1, d2, d3] }
  | _ => none }
def choiceFormsRow : OpenClaim := { program := "ytnlkhjileipmcaagreat", sum := "4f90cde7c561cf7b17519b0e6a0d649131d9021320e156ea715ade5ae74491cc", func := "parry/parrylaw6.ChoiceForms", spec := "choiceForms", unfollowed := true, recurses := true, loops := true, apart := false }
def ChoiceFormsSaid : Prop := choiceFormsRow.holds Tryz.pinned (OpenSpec.ofChange choiceFormsSpec)

/-- ITS FALSE NEIGHBOUR: 'it returns false'. Refute it at one input. -/
def choiceFormsWrong : ChangeSpec := { name := "choiceForms", fn := fun _ => fun
  | [d1, d2, d3] => { results := [.lit (.bool false)], args := [d1, d2, d3] }
  | _ => none }
def ChoiceFormsWrongFalsely : Prop := choiceFormsRow.holds Tryz.pinned (OpenSpec.ofChange choiceFormsWrong)

/-- 'parrylaw6.ChoiceMore': WHATEVER THE INPUT: true; the input reads as it did. -/
def choiceMoreSpec : ChangeSpec := { name := "choiceMore", fn := fun _ => fun
  | [d1, d2, d3, d4, d5] => { results := [.lit (.bool true)], args := [d1, d2, d3, d4, d5] }
  | _ => none }
def choiceMoreRow : OpenClaim := { program := "ytnlkhjileipmcaagreat", sum := "4f90cde7c561cf7b17519b0e6a0d649131d9021320e156ea715ade5ae74491cc", func := "parry/parrylaw6.ChoiceMore", spec := "choiceMore", unfollowed := true, recurses := true, loops := true, apart := false }
def ChoiceMoreSaid : Prop := choiceMoreRow.holds Tryz.pinned (OpenSpec.ofChange choiceMoreSpec)

/-- ITS FALSE NEIGHBOUR: 'it returns false'. Refute it at one input. -/
def choiceMoreWrong : ChangeSpec := { name := "choiceMore", fn := fun _ => fun
  | [d1, d2, d3, d4, d5] => { results := [.lit (.bool false)], args := [d1, d2, d3, d4, d5] }
  | _ => none }
def ChoiceMoreWrongFalsely : Prop := choiceMoreRow.holds Tryz.pinned (OpenSpec.ofChange choiceMoreWrong)

/-- 'parrylaw6.ChoiceGuards': WHATEVER THE INPUT: true; the input reads as it did. -/
def choiceGuardsSpec : ChangeSpec := { name := "choiceGuards", fn := fun _ => fun
  | [d1, d2, d3, d4] => { results := [.lit (.bool true)], args := [d1, d2, d3, d4] }
  | _ => none }
def choiceGuardsRow : OpenClaim := { program := "ytnlkhjileipmcaagreat", sum := "4f90cde7c561cf7b17519b0e6a0d649131d9021320e156ea715ade5ae74491cc", func := "parry/parrylaw6.ChoiceGuards", spec := "choiceGuards", unfollowed := true, recurses := true, loops := true, apart := false }
def ChoiceGuardsSaid : Prop := choiceGuardsRow.holds Tryz.pinned (OpenSpec.ofChange choiceGuardsSpec)

/-- ITS FALSE NEIGHBOUR: 'it returns false'. Refute it at one input. -/
def choiceGuardsWrong : ChangeSpec := { name := "choiceGuards", fn := fun _ => fun
  | [d1, d2, d3, d4] => { results := [.lit (.bool false)], args := [d1, d2, d3, d4] }
  | _ => none }
def ChoiceGuardsWrongFalsely : Prop := choiceGuardsRow.holds Tryz.pinned (OpenSpec.ofChange choiceGuardsWrong)

/-- 'parrylaw6.ChoiceAny': WHATEVER THE INPUT: true; the input reads as it did. -/
def choiceAnySpec : ChangeSpec := { name := "choiceAny", fn := fun _ => fun
  | [d1, d2, d3] => { results := [.lit (.bool true)], args := [d1, d2, d3] }
  | _ => none }
def choiceAnyRow : OpenClaim := { program := "ytnlkhjileipmcaagreat", sum := "4f90cde7c561cf7b17519b0e6a0d649131d9021320e156ea715ade5ae74491cc", func := "parry/parrylaw6.ChoiceAny", spec := "choiceAny", unfollowed := true, recurses := true, loops := true, apart := false }
def ChoiceAnySaid : Prop := choiceAnyRow.holds Tryz.pinned (OpenSpec.ofChange choiceAnySpec)

/-- ITS FALSE NEIGHBOUR: 'it returns false'. Refute it at one input. -/
def choiceAnyWrong : ChangeSpec := { name := "choiceAny", fn := fun _ => fun
  | [d1, d2, d3] => { results := [.lit (.bool false)], args := [d1, d2, d3] }
  | _ => none }
def ChoiceAnyWrongFalsely : Prop := choiceAnyRow.holds Tryz.pinned (OpenSpec.ofChange choiceAnyWrong)

/-- 'parrylaw6.ChoiceFails': WHATEVER THE INPUT: true; the input reads as it did. -/
def choiceFailsSpec : ChangeSpec := { name := "choiceFails", fn := fun _ => fun
  | [d1, d2, d3, d4] => { results := [.lit (.bool true)], args := [d1, d2, d3, d4] }
  | _ => none }
def choiceFailsRow : OpenClaim := { program := "ytnlkhjileipmcaagreat", sum := "4f90cde7c561cf7b17519b0e6a0d649131d9021320e156ea715ade5ae74491cc", func := "parry/parrylaw6.ChoiceFails", spec := "choiceFails", unfollowed := true, recurses := true, loops := true, apart := false }
def ChoiceFailsSaid : Prop := choiceFailsRow.holds Tryz.pinned (OpenSpec.ofChange choiceFailsSpec)

/-- ITS FALSE NEIGHBOUR: 'it returns false'. Refute it at one input. -/
def choiceFailsWrong : ChangeSpec := { name := "choiceFails", fn := fun _ => fun
  | [d1, d2, d3, d4] => { results := [.lit (.bool false)], args := [d1, d2, d3, d4] }
  | _ => none }
def ChoiceFailsWrongFalsely : Prop := choiceFailsRow.holds Tryz.pinned (OpenSpec.ofChange choiceFailsWrong)

/-- 'parrylaw6.ChoiceInits': WHATEVER THE INPUT: true; the input reads as it did. -/
def choiceInitsSpec : ChangeSpec := { name := "choiceInits", fn := fun _ => fun
  | [d] => { results := [.lit (.bool true)], args := [d] }
  | _ => none }
def choiceInitsRow : OpenClaim := { program := "ytnlkhjileipmcaagreat", sum := "4f90cde7c561cf7b17519b0e6a0d649131d9021320e156ea715ade5ae74491cc", func := "parry/parrylaw6.ChoiceInits", spec := "choiceInits", unfollowed := true, recurses := true, loops := true, apart := false }
def ChoiceInitsSaid : Prop := choiceInitsRow.holds Tryz.pinned (OpenSpec.ofChange choiceInitsSpec)

/-- ITS FALSE NEIGHBOUR: 'it returns false'. Refute it at one input. -/
def choiceInitsWrong : ChangeSpec := { name := "choiceInits", fn := fun _ => fun
  | [d] => { results := [.lit (.bool false)], args := [d] }
  | _ => none }
def ChoiceInitsWrongFalsely : Prop := choiceInitsRow.holds Tryz.pinned (OpenSpec.ofChange choiceInitsWrong)

/- THE SECOND FORM. 'bulk': how many values and letters a reading holds, each counted each time it is reached (what is shared counts as often as it is met; a slice's spare places count too). A statement '..UptoSaid' is the law's where the arguments, and the package variables that the reading takes, are together of bulk at most 1048576: NARROWER than '..Said'. Prove '..Said' where nothing that the law and all that it calls make is longer than what came in: it says more and counts as full. Else prove '..UptoSaid'. A law counts once. -/
mutual
def uptoBulk {H : Type} : DataW H → Nat
  | .lit (.string bytes) => bytes.length + 1
  | .lit _ => 1
  | .nil => 1
  | .ptr d => uptoBulk d + 1
  | .slice elems spare => uptoBulkAll elems + uptoBulkAll spare + 1
  | .agg parts => uptoBulkAll parts + 1
  | .iface _ d => uptoBulk d + 1
  | .map entries => uptoBulkEntries entries + 1
  | .held _ => 1
def uptoBulkAll {H : Type} : List (DataW H) → Nat
  | [] => 0
  | d :: r => uptoBulk d + uptoBulkAll r
def uptoBulkEntries {H : Type} : List (Lit × DataW H) → Nat
  | [] => 0
  | x :: r => uptoBulkEntry x + uptoBulkEntries r
def uptoBulkEntry {H : Type} : Lit × DataW H → Nat
  | (.string bytes, d) => bytes.length + uptoBulk d + 1
  | (_, d) => uptoBulk d + 1
 end
def uptoSmall : (H : Type) → List (DataW H) → Bool := fun _ ds => decide (uptoBulkAll ds ≤ 1048576)
def OpenSpec.upto (s : _root_.Go.ChangeSpec) : _root_.Go.OpenSpec := { _root_.Go.OpenSpec.ofChange s with cond := some uptoSmall }

/-- 'parrylaw5.ModuleGoals', WHERE WHAT IT READS IS OF BULK AT MOST 1048576: true; the input reads as it did. -/
def moduleGoalsUptoRow : OpenClaim := { program := "ytnlkhjileipmcaagreat", sum := "4f90cde7c561cf7b17519b0e6a0d649131d9021320e156ea715ade5ae74491cc", func := "parry/parrylaw5.ModuleGoals", spec := "moduleGoals", unfollowed := true, recurses := true, loops := true, apart := false, narrowed := true }
def ModuleGoalsUptoSaid : Prop := moduleGoalsUptoRow.holds Tryz.pinned (OpenSpec.upto moduleGoalsSpec)

/-- 'parrylaw5.ModuleNames', WHERE WHAT IT READS IS OF BULK AT MOST 1048576: true; the input reads as it did. -/
def moduleNamesUptoRow : OpenClaim := { program := "ytnlkhjileipmcaagreat", sum := "4f90cde7c561cf7b17519b0e6a0d649131d9021320e156ea715ade5ae74491cc", func := "parry/parrylaw5.ModuleNames", spec := "moduleNames", unfollowed := true, recurses := true, loops := true, apart := false, narrowed := true }
def ModuleNamesUptoSaid : Prop := moduleNamesUptoRow.holds Tryz.pinned (OpenSpec.upto moduleNamesSpec)

/-- 'parrylaw6.ChoiceForms', WHERE WHAT IT READS IS OF BULK AT MOST 1048576: true; the input reads as it did. -/
def choiceFormsUptoRow : OpenClaim := { program := "ytnlkhjileipmcaagreat", sum := "4f90cde7c561cf7b17519b0e6a0d649131d9021320e156ea715ade5ae74491cc", func := "parry/parrylaw6.ChoiceForms", spec := "choiceForms", unfollowed := true, recurses := true, loops := true, apart := false, narrowed := true }
def ChoiceFormsUptoSaid : Prop := choiceFormsUptoRow.holds Tryz.pinned (OpenSpec.upto choiceFormsSpec)

/-- 'parrylaw6.ChoiceMore', WHERE WHAT IT READS IS OF BULK AT MOST 1048576: true; the input reads as it did. -/
def choiceMoreUptoRow : OpenClaim := { program := "ytnlkhjileipmcaagreat", sum := "4f90cde7c561cf7b17519b0e6a0d649131d9021320e156ea715ade5ae74491cc", func := "parry/parrylaw6.ChoiceMore", spec := "choiceMore", unfollowed := true, recurses := true, loops := true, apart := false, narrowed := true }
def ChoiceMoreUptoSaid : Prop := choiceMoreUptoRow.holds Tryz.pinned (OpenSpec.upto choiceMoreSpec)

/-- 'parrylaw6.ChoiceGuards', WHERE WHAT IT READS IS OF BULK AT MOST 1048576: true; the input reads as it did. -/
def choiceGuardsUptoRow : OpenClaim := { program := "ytnlkhjileipmcaagreat", sum := "4f90cde7c561cf7b17519b0e6a0d649131d9021320e156ea715ade5ae74491cc", func := "parry/parrylaw6.ChoiceGuards", spec := "choiceGuards", unfollowed := true, recurses := true, loops := true, apart := false, narrowed := true }
def ChoiceGuardsUptoSaid : Prop := choiceGuardsUptoRow.holds Tryz.pinned (OpenSpec.upto choiceGuardsSpec)

/-- 'parrylaw6.ChoiceAny', WHERE WHAT IT READS IS OF BULK AT MOST 1048576: true; the input reads as it did. -/
def choiceAnyUptoRow : OpenClaim := { program := "ytnlkhjileipmcaagreat", sum := "4f90cde7c561cf7b17519b0e6a0d649131d9021320e156ea715ade5ae74491cc", func := "parry/parrylaw6.ChoiceAny", spec := "choiceAny", unfollowed := true, recurses := true, loops := true, apart := false, narrowed := true }
def ChoiceAnyUptoSaid : Prop := choiceAnyUptoRow.holds Tryz.pinned (OpenSpec.upto choiceAnySpec)

/-- 'parrylaw6.ChoiceFails', WHERE WHAT IT READS IS OF BULK AT MOST 1048576: true; the input reads as it did. -/
def choiceFailsUptoRow : OpenClaim := { program := "ytnlkhjileipmcaagreat", sum := "4f90cde7c561cf7b17519b0e6a0d649131d9021320e156ea715ade5ae74491cc", func := "parry/parrylaw6.ChoiceFails", spec := "choiceFails", unfollowed := true, recurses := true, loops := true, apart := false, narrowed := true }
def ChoiceFailsUptoSaid : Prop := choiceFailsUptoRow.holds Tryz.pinned (OpenSpec.upto choiceFailsSpec)

/-- 'parrylaw6.ChoiceInits', WHERE WHAT IT READS IS OF BULK AT MOST 1048576: true; the input reads as it did. -/
def choiceInitsUptoRow : OpenClaim := { program := "ytnlkhjileipmcaagreat", sum := "4f90cde7c561cf7b17519b0e6a0d649131d9021320e156ea715ade5ae74491cc", func := "parry/parrylaw6.ChoiceInits", spec := "choiceInits", unfollowed := true, recurses := true, loops := true, apart := false, narrowed := true }
def ChoiceInitsUptoSaid : Prop := choiceInitsUptoRow.holds Tryz.pinned (OpenSpec.upto choiceInitsSpec)

end Rows
end Go.Proofs.YtnlkhjileipmcaaGreat
