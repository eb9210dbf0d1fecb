/-
  NARROWER THAN 'FOR EVERY INPUT', by the rows' own cells (each row's printed sentence says how): EvalLogic: loops · ExprKids: loops · ExprJoins: loops · ExprForms: loops · ExprSame: loops · SortForms: loops · SortOne: loops · SortNeeds: loops · SortKinds: loops · EvalSame: loops · EvalForms: loops · EvalFolds: loops · ModuleMore: loops · ModuleSides: loops.
  DERIVED. THE GIVEN ROWS OF THIS SEAT. 18 by the template 'for every input the law returns true; each argument reads behind the call as it read before'; 0 by the template 'total and deterministic' (their statements: YtfejbgnbganolaaTotals.lean).
  GIVEN WITH THE SEED: the statements are not yours to turn. If you find one false, say at which input.
  Laid BY PROGRAM, IN A SANDBOX (cutbox-rows.mjs): the forced cells as the released guide's own fill.sh prints them over the translation 7fc313a345d12037… (all of the seat's roots in one cut). By AI agents, Wed Nov 11 2026. No macro, syntax, notation, axiom, sorry.
-/
import Derived.Test.YtfejbgnbganolaaChecked
import GoSem.Claim
import GoSem.ClaimJoined
import GoSem.ClaimMapViews
import Derived.JoinedTies
import Derived.KernelRfl
namespace Go.Proofs.Ytfejbgnbganolaa
/- THE CELL 'sum', in the pinned program and in every row, IS THE sha256 OF THE DUMP (.gsa) THAT YtfejbgnbganolaaProg.lean LOADS. Nothing in Lean hashes anything: it is a label: what it is worth is what the hold of that sum in a sandbox is worth. -/
noncomputable def Try.pinned : Pinned := { name := "ytfejbgnbganolaa", sum := "7fc313a345d120374a8002c1f8261ead8326256ca4e47d7dfa69860cf14bfac0", checked := Try.checked }
namespace Rows
def none {H : Type} : Left H := { results := [], args := [] }

/-- 'parrylaw4.EvalNumbers': WHATEVER THE INPUT: true; the input reads as it did. -/
def evalNumbersSpec : ChangeSpec := { name := "evalNumbers", fn := fun _ => fun
  | [d1, d2] => { results := [.lit (.bool true)], args := [d1, d2] }
  | _ => none }
def evalNumbersRow : OpenClaim := { program := "ytfejbgnbganolaa", sum := "7fc313a345d120374a8002c1f8261ead8326256ca4e47d7dfa69860cf14bfac0", func := "parry/parrylaw4.EvalNumbers", spec := "evalNumbers", unfollowed := true, recurses := true, apart := false }
def EvalNumbersSaid : Prop := evalNumbersRow.holds Try.pinned (OpenSpec.ofChange evalNumbersSpec)

/-- ITS FALSE NEIGHBOUR: 'it returns false'. Refute it at one input. -/
def evalNumbersWrong : ChangeSpec := { name := "evalNumbers", fn := fun _ => fun
  | [d1, d2] => { results := [.lit (.bool false)], args := [d1, d2] }
  | _ => none }
def EvalNumbersWrongFalsely : Prop := evalNumbersRow.holds Try.pinned (OpenSpec.ofChange evalNumbersWrong)

/-- 'parrylaw4.EvalReads': WHATEVER THE INPUT: true; the input reads as it did. -/
def evalReadsSpec : ChangeSpec := { name := "evalReads", fn := fun _ => fun
  | [d1, d2, d3, d4] => { results := [.lit (.bool true)], args := [d1, d2, d3, d4] }
  | _ => none }
def evalReadsRow : OpenClaim := { program := "ytfejbgnbganolaa", sum := "7fc313a345d120374a8002c1f8261ead8326256ca4e47d7dfa69860cf14bfac0", func := "parry/parrylaw4.EvalReads", spec := "evalReads", unfollowed := true, recurses := true, apart := false }
def EvalReadsSaid : Prop := evalReadsRow.holds Try.pinned (OpenSpec.ofChange evalReadsSpec)

/-- ITS FALSE NEIGHBOUR: 'it returns false'. Refute it at one input. -/
def evalReadsWrong : ChangeSpec := { name := "evalReads", fn := fun _ => fun
  | [d1, d2, d3, d4] => { results := [.lit (.bool false)], args := [d1, d2, d3, d4] }
  | _ => none }
def EvalReadsWrongFalsely : Prop := evalReadsRow.holds Try.pinned (OpenSpec.ofChange evalReadsWrong)

/-- 'parrylaw4.EvalLogic': WHATEVER THE INPUT: true; the input reads as it did. -/
def evalLogicSpec : ChangeSpec := { name := "evalLogic", fn := fun _ => fun
  | [d1, d2, d3, d4, d5] => { results := [.lit (.bool true)], args := [d1, d2, d3, d4, d5] }
  | _ => none }
def evalLogicRow : OpenClaim := { program := "ytfejbgnbganolaa", sum := "7fc313a345d120374a8002c1f8261ead8326256ca4e47d7dfa69860cf14bfac0", func := "parry/parrylaw4.EvalLogic", spec := "evalLogic", unfollowed := true, recurses := true, loops := true, apart := false }
def EvalLogicSaid : Prop := evalLogicRow.holds Try.pinned (OpenSpec.ofChange evalLogicSpec)

/-- ITS FALSE NEIGHBOUR: 'it returns false'. Refute it at one input. -/
def evalLogicWrong : ChangeSpec := { name := "evalLogic", fn := fun _ => fun
  | [d1, d2, d3, d4, d5] => { results := [.lit (.bool false)], args := [d1, d2, d3, d4, d5] }
  | _ => none }
def EvalLogicWrongFalsely : Prop := evalLogicRow.holds Try.pinned (OpenSpec.ofChange evalLogicWrong)

/-- 'parrylaw2.ExprKids': WHATEVER THE INPUT: true; the input reads as it did. -/
def exprKidsSpec : ChangeSpec := { name := "exprKids", fn := fun _ => fun
  | [d] => { results := [.lit (.bool true)], args := [d] }
  | _ => none }
def exprKidsRow : OpenClaim := { program := "ytfejbgnbganolaa", sum := "7fc313a345d120374a8002c1f8261ead8326256ca4e47d7dfa69860cf14bfac0", func := "parry/parrylaw2.ExprKids", spec := "exprKids", unfollowed := true, recurses := true, loops := true, apart := false }
def ExprKidsSaid : Prop := exprKidsRow.holds Try.pinned (OpenSpec.ofChange exprKidsSpec)

/-- ITS FALSE NEIGHBOUR: 'it returns false'. Refute it at one input. -/
def exprKidsWrong : ChangeSpec := { name := "exprKids", fn := fun _ => fun
  | [d] => { results := [.lit (.bool false)], args := [d] }
  | _ => none }
def ExprKidsWrongFalsely : Prop := exprKidsRow.holds Try.pinned (OpenSpec.ofChange exprKidsWrong)

/-- 'parrylaw2.ExprDeep': WHATEVER THE INPUT: true; the input reads as it did. -/
def exprDeepSpec : ChangeSpec := { name := "exprDeep", fn := fun _ => fun
  | [d] => { results := [.lit (.bool true)], args := [d] }
  | _ => none }
def exprDeepRow : OpenClaim := { program := "ytfejbgnbganolaa", sum := "7fc313a345d120374a8002c1f8261ead8326256ca4e47d7dfa69860cf14bfac0", func := "parry/parrylaw2.ExprDeep", spec := "exprDeep", unfollowed := true, recurses := true, apart := false }
def ExprDeepSaid : Prop := exprDeepRow.holds Try.pinned (OpenSpec.ofChange exprDeepSpec)

/-- ITS FALSE NEIGHBOUR: 'it returns false'. Refute it at one input. -/
def exprDeepWrong : ChangeSpec := { name := "exprDeep", fn := fun _ => fun
  | [d] => { results := [.lit (.bool false)], args := [d] }
  | _ => none }
def ExprDeepWrongFalsely : Prop := exprDeepRow.holds Try.pinned (OpenSpec.ofChange exprDeepWrong)

/-- 'parrylaw2.ExprJoins': WHATEVER THE INPUT: true; the input reads as it did. -/
def exprJoinsSpec : ChangeSpec := { name := "exprJoins", fn := fun _ => fun
  | [d1, d2] => { results := [.lit (.bool true)], args := [d1, d2] }
  | _ => none }
def exprJoinsRow : OpenClaim := { program := "ytfejbgnbganolaa", sum := "7fc313a345d120374a8002c1f8261ead8326256ca4e47d7dfa69860cf14bfac0", func := "parry/parrylaw2.ExprJoins", spec := "exprJoins", unfollowed := true, recurses := true, loops := true, apart := false }
def ExprJoinsSaid : Prop := exprJoinsRow.holds Try.pinned (OpenSpec.ofChange exprJoinsSpec)

/-- ITS FALSE NEIGHBOUR: 'it returns false'. Refute it at one input. -/
def exprJoinsWrong : ChangeSpec := { name := "exprJoins", fn := fun _ => fun
  | [d1, d2] => { results := [.lit (.bool false)], args := [d1, d2] }
  | _ => none }
def ExprJoinsWrongFalsely : Prop := exprJoinsRow.holds Try.pinned (OpenSpec.ofChange exprJoinsWrong)

/-- 'parrylaw2.ExprShapes': WHATEVER THE INPUT: true; the input reads as it did. -/
def exprShapesSpec : ChangeSpec := { name := "exprShapes", fn := fun _ => fun
  | [d1, d2, d3] => { results := [.lit (.bool true)], args := [d1, d2, d3] }
  | _ => none }
def exprShapesRow : OpenClaim := { program := "ytfejbgnbganolaa", sum := "7fc313a345d120374a8002c1f8261ead8326256ca4e47d7dfa69860cf14bfac0", func := "parry/parrylaw2.ExprShapes", spec := "exprShapes", unfollowed := true, recurses := true, apart := false }
def ExprShapesSaid : Prop := exprShapesRow.holds Try.pinned (OpenSpec.ofChange exprShapesSpec)

/-- ITS FALSE NEIGHBOUR: 'it returns false'. Refute it at one input. -/
def exprShapesWrong : ChangeSpec := { name := "exprShapes", fn := fun _ => fun
  | [d1, d2, d3] => { results := [.lit (.bool false)], args := [d1, d2, d3] }
  | _ => none }
def ExprShapesWrongFalsely : Prop := exprShapesRow.holds Try.pinned (OpenSpec.ofChange exprShapesWrong)

/-- 'parrylaw2.ExprForms': WHATEVER THE INPUT: true; the input reads as it did. -/
def exprFormsSpec : ChangeSpec := { name := "exprForms", fn := fun _ => fun
  | [d1, d2, d3] => { results := [.lit (.bool true)], args := [d1, d2, d3] }
  | _ => none }
def exprFormsRow : OpenClaim := { program := "ytfejbgnbganolaa", sum := "7fc313a345d120374a8002c1f8261ead8326256ca4e47d7dfa69860cf14bfac0", func := "parry/parrylaw2.ExprForms", spec := "exprForms", unfollowed := true, recurses := true, loops := true, apart := false }
def ExprFormsSaid : Prop := exprFormsRow.holds Try.pinned (OpenSpec.ofChange exprFormsSpec)

/-- ITS FALSE NEIGHBOUR: 'it returns false'. Refute it at one input. -/
def exprFormsWrong : ChangeSpec := { name := "exprForms", fn := fun _ => fun
  | [d1, d2, d3] => { results := [.lit (.bool false)], args := [d1, d2, d3] }
  | _ => none }
def ExprFormsWrongFalsely : Prop := exprFormsRow.holds Try.pinned (OpenSpec.ofChange exprFormsWrong)

/-- 'parrylaw2.ExprSame': WHATEVER THE INPUT: true; the input reads as it did. -/
def exprSameSpec : ChangeSpec := { name := "exprSame", fn := fun _ => fun
  | [d1, d2, d3] => { results := [.lit (.bool true)], args := [d1, d2, d3] }
  | _ => none }
def exprSameRow : OpenClaim := { program := "ytfejbgnbganolaa", sum := "7fc313a345d120374a8002c1f8261ead8326256ca4e47d7dfa69860cf14bfac0", func := "parry/parrylaw2.ExprSame", spec := "exprSame", unfollowed := true, recurses := true, loops := true, apart := false }
def ExprSameSaid : Prop := exprSameRow.holds Try.pinned (OpenSpec.ofChange exprSameSpec)

/-- ITS FALSE NEIGHBOUR: 'it returns false'. Refute it at one input. -/
def exprSameWrong : ChangeSpec := { name := "exprSame", fn := fun _ => fun
  | [d1, d2, d3] => { results := [.lit (.bool false)], args := [d1, d2, d3] }
  | _ => none }
def ExprSameWrongFalsely : Prop := exprSameRow.holds Try.pinned (OpenSpec.ofChange exprSameWrong)

/-- 'parrylaw3.SortForms': WHATEVER THE INPUT: true; the input reads as it did. -/
def sortFormsSpec : ChangeSpec := { name := "sortForms", fn := fun _ => fun
  | [d1, d2, d3, d4, d5, d6] => { results := [.lit (.bool true)], args := [d1, d2, d3, d4, d5, d6] }
  | _ => none }
def sortFormsRow : OpenClaim := { program := "ytfejbgnbganolaa", sum := "7fc313a345d120374a8002c1f8261ead8326256ca4e47d7dfa69860cf14bfac0", func := "parry/parrylaw3.SortForms", spec := "sortForms", unfollowed := true, recurses := true, loops := true, apart := false }
def SortFormsSaid : Prop := sortFormsRow.holds Try.pinned (OpenSpec.ofChange sortFormsSpec)

/-- ITS FALSE NEIGHBOUR: 'it returns false'. Refute it at one input. -/
def sortFormsWrong : ChangeSpec := { name := "sortForms", fn := fun _ => fun
  | [d1, d2, d3, d4, d5, d6] => { results := [.lit (.bool false)], args := [d1, d2, d3, d4, d5, d6] }
  | _ => none }
def SortFormsWrongFalsely : Prop := sortFormsRow.holds Try.pinned (OpenSpec.ofChange sortFormsWrong)

/-- 'parrylaw3.SortOne': WHATEVER THE INPUT: true; the input reads as it did. -/
def sortOneSpec : ChangeSpec := { name := "sortOne", fn := fun _ => fun
  | [d1, d2] => { results := [.lit (.bool true)], args := [d1, d2] }
  | _ => none }
def sortOneRow : OpenClaim := { program := "ytfejbgnbganolaa", sum := "7fc313a345d120374a8002c1f8261ead8326256ca4e47d7dfa69860cf14bfac0", func := "parry/parrylaw3.SortOne", spec := "sortOne", unfollowed := true, recurses := true, loops := true, apart := false }
def SortOneSaid : Prop := sortOneRow.holds Try.pinned (OpenSpec.ofChange sortOneSpec)

/-- ITS FALSE NEIGHBOUR: 'it returns false'. Refute it at one input. -/
def sortOneWrong : ChangeSpec := { name := "sortOne", fn := fun _ => fun
  | [d1, d2] => { results := [.lit (.bool false)], args := [d1, d2] }
  | _ => none }
def SortOneWrongFalsely : Prop := sortOneRow.holds Try.pinned (OpenSpec.ofChange sortOneWrong)

/-- 'parrylaw3.SortNeeds': WHATEVER THE INPUT: true; the input reads as it did. -/
def sortNeedsSpec : ChangeSpec := { name := "sortNeeds", fn := fun _ => fun
  | [d1, d2, d3, d4, d5, d6] => { results := [.lit (.bool true)], args := [d1, d2, d3, d4, d5, d6] }
  | _ => none }
def sortNeedsRow : OpenClaim := { program := "ytfejbgnbganolaa", sum := "7fc313a345d120374a8002c1f8261ead8326256ca4e47d7dfa69860cf14bfac0", func := "parry/parrylaw3.SortNeeds", spec := "sortNeeds", unfollowed := true, recurses := true, loops := true, apart := false }
def SortNeedsSaid : Prop := sortNeedsRow.holds Try.pinned (OpenSpec.ofChange sortNeedsSpec)

/-- ITS FALSE NEIGHBOUR: 'it returns false'. Refute it at one input. -/
def sortNeedsWrong : ChangeSpec := { name := "sortNeeds", fn := fun _ => fun
  | [d1, d2, d3, d4, d5, d6] => { results := [.lit (.bool false)], args := [d1, d2, d3, d4, d5, d6] }
  | _ => none }
def SortNeedsWrongFalsely : Prop := sortNeedsRow.holds Try.pinned (OpenSpec.ofChange sortNeedsWrong)

/-- 'parrylaw3.SortKinds': WHATEVER THE INPUT: true; the input reads as it did. -/
def sortKindsSpec : ChangeSpec := { name := "sortKinds", fn := fun _ => fun
  | [d1, d2, d3, d4] => { results := [.lit (.bool true)], args := [d1, d2, d3, d4] }
  | _ => none }
def sortKindsRow : OpenClaim := { program := "ytfejbgnbganolaa", sum := "7fc313a345d120374a8002c1f8261ead8326256ca4e47d7dfa69860cf14bfac0", func := "parry/parrylaw3.SortKinds", spec := "sortKinds", unfollowed := true, recurses := true, loops := true, apart := false }
def SortKindsSaid : Prop := sortKindsRow.holds Try.pinned (OpenSpec.ofChange sortKindsSpec)

/-- ITS FALSE NEIGHBOUR: 'it returns false'. Refute it at one input. -/
def sortKindsWrong : ChangeSpec := { name := "sortKinds", fn := fun _ => fun
  | [d1, d2, d3, d4] => { results := [.lit (.bool false)], args := [d1, d2, d3, d4] }
  | _ => none }
def SortKindsWrongFalsely : Prop := sortKindsRow.holds Try.pinned (OpenSpec.ofChange sortKindsWrong)

/-- 'parrylaw4.EvalSame': WHATEVER THE INPUT: true; the input reads as it did. -/
def evalSameSpec : ChangeSpec := { name := "evalSame", fn := fun _ => fun
  | [d1, d2, d3, d4, d5] => { results := [.lit (.bool true)], args := [d1, d2, d3, d4, d5] }
  | _ => none }
def evalSameRow : OpenClaim := { program := "ytfejbgnbganolaa", sum := "7fc313a345d120374a8002c1f8261ead8326256ca4e47d7dfa69860cf14bfac0", func := "parry/parrylaw4.EvalSame", spec := "evalSame", unfollowed := true, recurses := true, loops := true, apart := false }
def EvalSameSaid : Prop := evalSameRow.holds Try.pinned (OpenSpec.ofChange evalSameSpec)

/-- ITS FALSE NEIGHBOUR: 'it returns false'. Refute it at one input. -/
def evalSameWrong : ChangeSpec := { name := "evalSame", fn := fun _ => fun
  | [d1, d2, d3, d4, d5] => { results := [.lit (.bool false)], args := [d1, d2, d3, d4, d5] }
  | _ => none }
def EvalSameWrongFalsely : Prop := evalSameRow.holds Try.pinned (OpenSpec.ofChange evalSameWrong)

/-- 'parrylaw4.EvalForms': WHATEVER THE INPUT: true; the input reads as it did. -/
def evalFormsSpec : ChangeSpec := { name := "evalForms", fn := fun _ => fun
  | [d1, d2, d3, d4] => { results := [.lit (.bool true)], args := [d1, d2, d3, d4] }
  | _ => none }
def evalFormsRow : OpenClaim := { program := "ytfejbgnbganolaa", sum := "7fc313a345d120374a8002c1f8261ead8326256ca4e47d7dfa69860cf14bfac0", func := "parry/parrylaw4.EvalForms", spec := "evalForms", unfollowed := true, recurses := true, loops := true, apart := false }
def EvalFormsSaid : Prop := evalFormsRow.holds Try.pinned (OpenSpec.ofChange evalFormsSpec)

/-- ITS FALSE NEIGHBOUR: 'it returns false'. Refute it at one input. -/
def evalFormsWrong : ChangeSpec := { name := "evalForms", fn := fun _ => fun
  | [d1, d2, d3, d4] => { results := [.lit (.bool false)], args := [d1, d2, d3, d4] }
  | _ => none }
def EvalFormsWrongFalsely : Prop := evalFormsRow.holds Try.pinned (OpenSpec.ofChange evalFormsWrong)

/-- 'parrylaw4.EvalFolds': WHATEVER THE INPUT: true; the input reads as it did. -/
def evalFoldsSpec : ChangeSpec := { name := "evalFolds", fn := fun _ => fun
  | [d1, d2, d3, d4] => { results := [.lit (.bool true)], args := [d1, d2, d3, d4] }
  | _ => none }
def evalFoldsRow : OpenClaim := { program := "ytfejbgnbganolaa", sum := "7fc313a345d120374a8002c1f8261ead8326256ca4e47d7dfa69860cf14bfac0", func := "parry/parrylaw4.EvalFolds", spec := "evalFolds", unfollowed := true, recurses := true, loops := true, apart := false }
def EvalFoldsSaid : Prop := evalFoldsRow.holds Try.pinned (OpenSpec.ofChange evalFoldsSpec)

/-- ITS FALSE NEIGHBOUR: 'it returns false'. Refute it at one input. -/
def evalFoldsWrong : ChangeSpec := { name := "evalFolds", fn := fun _ => fun
  | [d1, d2, d3, d4] => { results := [.lit (.bool false)], args := [d1, d2, d3, d4] }
  | _ => none }
def EvalFoldsWrongFalsely : Prop := evalFoldsRow.holds Try.pinned (OpenSpec.ofChange evalFoldsWrong)

/-- 'parrylaw5.ModuleMore': WHATEVER THE INPUT: true; the input reads as it did. -/
def moduleMoreSpec : ChangeSpec := { name := "moduleMore", fn := fun _ => fun
  | [d1, d2, d3, d4] => { results := [.lit (.bool true)], args := [d1, d2, d3, d4] }
  | _ => none }
def moduleMoreRow : OpenClaim := { program := "ytfejbgnbganolaa", sum := "7fc313a345d120374a8002c1f8261ead8326256ca4e47d7dfa69860cf14bfac0", func := "parry/parrylaw5.ModuleMore", spec := "moduleMore", unfollowed := true, recurses := true, loops := true, apart := false }
def ModuleMoreSaid : Prop := moduleMoreRow.holds Try.pinned (OpenSpec.ofChange moduleMoreSpec)

/-- ITS FALSE NEIGHBOUR: 'it returns false'. Refute it at one input. -/
def moduleMoreWrong : ChangeSpec := { name := "moduleMore", fn := fun _ => fun
  | [d1, d2, d3, d4] => { results := [.lit (.bool false)], args := [d1, d2, d3, d4] }
  | _ => none }
def ModuleMoreWrongFalsely : Prop := moduleMoreRow.holds Try.pinned (OpenSpec.ofChange moduleMoreWrong)

/-- 'parrylaw5.ModuleSides': WHATEVER THE INPUT: true; the input reads as it did. -/
def moduleSidesSpec : ChangeSpec := { name := "moduleSides", fn := fun _ => fun
  | [d1, d2, d3, d4] => { results := [.lit (.bool true)], args := [d1, d2, d3, d4] }
  | _ => none }
def moduleSidesRow : OpenClaim := { program := "ytfejbgnbganolaa", sum := "7fc313a345d120374a8002c1f8261ead8326256ca4e47d7dfa69860cf14bfac0", func := "parry/parrylaw5.ModuleSides", spec := "moduleSides", unfollowed := true, recurses := true, loops := true, apart := false }
def ModuleSidesSaid : Prop := moduleSidesRow.holds Try.pinned (OpenSpec.ofChange moduleSidesSpec)

/-- ITS FALSE NEIGHBOUR: 'it returns false'. Refute it at one input. -/
def moduleSidesWrong : ChangeSpec := { name := "moduleSides", fn := fun _ => fun
  | [d1, d2, d3, d4] => { results := [.lit (.bool false)], args := [d1, d2, d3, d4] }
  | _ => none }
def ModuleSidesWrongFalsely : Prop := moduleSidesRow.holds Try.pinned (OpenSpec.ofChange moduleSidesWrong)

/- THE SECOND FORM. 'bulk': how many values and letters a reading holds, each counted each time it is reached (what is shared counts as often as it is met; a slice's spare places count too). A statement '..UptoSaid' is the law's where the arguments, and the package variables that the reading takes, are together of bulk at most 1048576: NARROWER than '..Said'. Prove '..Said' where nothing that the law and all that it calls make is longer than what came in: it says more and counts as full. Else prove '..UptoSaid'. A law counts once. -/
mutual
def uptoBulk {H : Type} : DataW H → Nat
  | .lit (.string bytes) => bytes.length + 1
  | .lit _ => 1
  | .nil => 1
  | .ptr d => uptoBulk d + 1
  | .slice elems spare => uptoBulkAll elems + uptoBulkAll spare + 1
  | .agg parts => uptoBulkAll parts + 1
  | .iface _ d => uptoBulk d + 1
  | .map entries => uptoBulkEntries entries + 1
  | .held _ => 1
def uptoBulkAll {H : Type} : List (DataW H) → Nat
  | [] => 0
  | d :: r => uptoBulk d + uptoBulkAll r
def uptoBulkEntries {H : Type} : List (Lit × DataW H) → Nat
  | [] => 0
  | x :: r => uptoBulkEntry x + uptoBulkEntries r
def uptoBulkEntry {H : Type} : Lit × DataW H → Nat
  | (.string bytes, d) => bytes.length + uptoBulk d + 1
  | (_, d) => uptoBulk d + 1
 end
def uptoSmall : (H : Type) → List (DataW H) → Bool := fun _ ds => decide (uptoBulkAll ds ≤ 1048576)
def OpenSpec.upto (s : _root_.Go.ChangeSpec) : _root_.Go.OpenSpec := { _root_.Go.OpenSpec.ofChange s with cond := some uptoSmall }

/-- 'parrylaw4.EvalNumbers', WHERE WHAT IT READS IS OF BULK AT MOST 1048576: true; the input reads as it did. -/
def evalNumbersUptoRow : OpenClaim := { program := "ytfejbgnbganolaa", sum := "7fc313a345d120374a8002c1f8261ead8326256ca4e47d7dfa69860cf14bfac0", func := "parry/parrylaw4.EvalNumbers", spec := "evalNumbers", unfollowed := true, recurses := true, apart := false, narrowed := true }
def EvalNumbersUptoSaid : Prop := evalNumbersUptoRow.holds Try.pinned (OpenSpec.upto evalNumbersSpec)

/-- 'parrylaw4.EvalReads', WHERE WHAT IT READS IS OF BULK AT MOST 1048576: true; the input reads as it did. -/
def evalReadsUptoRow : OpenClaim := { program := "ytfejbgnbganolaa", sum := "7fc313a345d120374a8002c1f8261ead8326256ca4e47d7dfa69860cf14bfac0", func := "parry/parrylaw4.EvalReads", spec := "evalReads", unfollowed := true, recurses := true, apart := false, narrowed := true }
def EvalReadsUptoSaid : Prop := evalReadsUptoRow.holds Try.pinned (OpenSpec.upto evalReadsSpec)

/-- 'parrylaw4.EvalLogic', WHERE WHAT IT READS IS OF BULK AT MOST 1048576: true; the input reads as it did. -/
def evalLogicUptoRow : OpenClaim := { program := "ytfejbgnbganolaa", sum := "7fc313a345d120374a8002c1f8261ead8326256ca4e47d7dfa69860cf14bfac0", func := "parry/parrylaw4.EvalLogic", spec := "evalLogic", unfollowed := true, recurses := true, loops := true, apart := false, narrowed := true }
def EvalLogicUptoSaid : Prop := evalLogicUptoRow.holds Try.pinned (OpenSpec.upto evalLogicSpec)

/-- 'parrylaw2.ExprKids', WHERE WHAT IT READS IS OF BULK AT MOST 1048576: true; the input reads as it did. -/
def exprKidsUptoRow : OpenClaim := { program := "ytfejbgnbganolaa", sum := "7fc313a345d120374a8002c1f8261ead8326256ca4e47d7dfa69860cf14bfac0", func := "parry/parrylaw2.ExprKids", spec := "exprKids", unfollowed := true, recurses := true, loops := true, apart := false, narrowed := true }
def ExprKidsUptoSaid : Prop := exprKidsUptoRow.holds Try.pinned (OpenSpec.upto exprKidsSpec)

/-- 'parrylaw2.ExprDeep', WHERE WHAT IT READS IS OF BULK AT MOST 1048576: true; the input reads as it did. -/
def exprDeepUptoRow : OpenClaim := { program := "ytfejbgnbganolaa", sum := "7fc313a345d120374a8002c1f8261ead8326256ca4e47d7dfa69860cf14bfac0", func := "parry/parrylaw2.ExprDeep", spec := "exprDeep", unfollowed := true, recurses := true, apart := false, narrowed := true }
def ExprDeepUptoSaid : Prop := exprDeepUptoRow.holds Try.pinned (OpenSpec.upto exprDeepSpec)

/-- 'parrylaw2.ExprJoins', WHERE WHAT IT READS IS OF BULK AT MOST 1048576: true; the input reads as it did. -/
def exprJoinsUptoRow : OpenClaim := { program := "ytfejbgnbganolaa", sum := "7fc313a345d120374a8002c1f8261ead8326256ca4e47d7dfa69860cf14bfac0", func := "parry/parrylaw2.ExprJoins", spec := "exprJoins", unfollowed := true, recurses := true, loops := true, apart := false, narrowed := true }
def ExprJoinsUptoSaid : Prop := exprJoinsUptoRow.holds Try.pinned (OpenSpec.upto exprJoinsSpec)

/-- 'parrylaw2.ExprShapes', WHERE WHAT IT READS IS OF BULK AT MOST 1048576: true; the input reads as it did. -/
def exprShapesUptoRow : OpenClaim := { program := "ytfejbgnbganolaa", sum := "7fc313a345d120374a8002c1f8261ead8326256ca4e47d7dfa69860cf14bfac0", func := "parry/parrylaw2.ExprShapes", spec := "exprShapes", unfollowed := true, recurses := true, apart := false, narrowed := true }
def ExprShapesUptoSaid : Prop := exprShapesUptoRow.holds Try.pinned (OpenSpec.upto exprShapesSpec)

/-- 'parrylaw2.ExprForms', WHERE WHAT IT READS IS OF BULK AT MOST 1048576: true; the input reads as it did. -/
def exprFormsUptoRow : OpenClaim := { program := "ytfejbgnbganolaa", sum := "7fc313a345d120374a8002c1f8261ead8326256ca4e47d7dfa69860cf14bfac0", func := "parry/parrylaw2.ExprForms", spec := "exprForms", unfollowed := true, recurses := true, loops := true, apart := false, narrowed := true }
def ExprFormsUptoSaid : Prop := exprFormsUptoRow.holds Try.pinned (OpenSpec.upto exprFormsSpec)

/-- 'parrylaw2.ExprSame', WHERE WHAT IT READS IS OF BULK AT MOST 1048576: true; the input reads as it did. -/
def exprSameUptoRow : OpenClaim := { program := "ytfejbgnbganolaa", sum := "7fc313a345d120374a8002c1f8261ead8326256ca4e47d7dfa69860cf14bfac0", func := "parry/parrylaw2.ExprSame", spec := "exprSame", unfollowed := true, recurses := true, loops := true, apart := false, narrowed := true }
def ExprSameUptoSaid : Prop := exprSameUptoRow.holds Try.pinned (OpenSpec.upto exprSameSpec)

/-- 'parrylaw3.SortForms', WHERE WHAT IT READS IS OF BULK AT MOST 1048576: true; the input reads as it did. -/
def sortFormsUptoRow : OpenClaim := { program := "ytfejbgnbganolaa", sum := "7fc313a345d120374a8002c1f8261ead8326256ca4e47d7dfa69860cf14bfac0", func := "parry/parrylaw3.SortForms", spec := "sortForms", unfollowed := true, recurses := true, loops := true, apart := false, narrowed := true }
def SortFormsUptoSaid : Prop := sortFormsUptoRow.holds Try.pinned (OpenSpec.upto sortFormsSpec)

/-- 'parrylaw3.SortOne', WHERE WHAT IT READS IS OF BULK AT MOST 1048576: true; the input reads as it did. -/
def sortOneUptoRow : OpenClaim := { program := "ytfejbgnbganolaa", sum := "7fc313a345d120374a8002c1f8261ead8326256ca4e47d7dfa69860cf14bfac0", func := "parry/parrylaw3.SortOne", spec := "sortOne", unfollowed := true, recurses := true, loops := true, apart := false, narrowed := true }
def SortOneUptoSaid : Prop := sortOneUptoRow.holds Try.pinned (OpenSpec.upto sortOneSpec)

/-- 'parrylaw3.SortNeeds', WHERE WHAT IT READS IS OF BULK AT MOST 1048576: true; the input reads as it did. -/
def sortNeedsUptoRow : OpenClaim := { program := "ytfejbgnbganolaa", sum := "7fc313a345d120374a8002c1f8261ead8326256ca4e47d7dfa69860cf14bfac0", func := "parry/parrylaw3.SortNeeds", spec := "sortNeeds", unfollowed := true, recurses := true, loops := true, apart := false, narrowed := true }
def SortNeedsUptoSaid : Prop := sortNeedsUptoRow.holds Try.pinned (OpenSpec.upto sortNeedsSpec)

/-- 'parrylaw3.SortKinds', WHERE WHAT IT READS IS OF BULK AT MOST 1048576: true; the input reads as it did. -/
def sortKindsUptoRow : OpenClaim := { program := "ytfejbgnbganolaa", sum := "7fc313a345d120374a8002c1f8261ead8326256ca4e47d7dfa69860cf14bfac0", func := "parry/parrylaw3.SortKinds", spec := "sortKinds", unfollowed := true, recurses := true, loops := true, apart := false, narrowed := true }
def SortKindsUptoSaid : Prop := sortKindsUptoRow.holds Try.pinned (OpenSpec.upto sortKindsSpec)

/-- 'parrylaw4.EvalSame', WHERE WHAT IT READS IS OF BULK AT MOST 1048576: true; the input reads as it did. -/
def evalSameUptoRow : OpenClaim := { program := "ytfejbgnbganolaa", sum := "7fc313a345d120374a8002c1f8261ead8326256ca4e47d7dfa69860cf14bfac0", func := "parry/parrylaw4.EvalSame", spec := "evalSame", unfollowed := true, recurses := true, loops := true, apart := false, narrowed := true }
def EvalSameUptoSaid : Prop := evalSameUptoRow.holds Try.pinned (OpenSpec.upto evalSameSpec)

/-- 'parrylaw4.EvalForms', WHERE WHAT IT READS IS OF BULK AT MOST 1048576: true; the input reads as it did. -/
def evalFormsUptoRow : OpenClaim := { program := "ytfejbgnbganolaa", sum := "7fc313a345d120374a8002c1f8261ead8326256ca4e47d7dfa69860cf14bfac0", func := "parry/parrylaw4.EvalForms", spec := "evalForms", unfollowed := true, recurses := true, loops := true, apart := false, narrowed := true }
def EvalFormsUptoSaid : Prop := evalFormsUptoRow.holds Try.pinned (OpenSpec.upto evalFormsSpec)

/-- 'parrylaw4.EvalFolds', WHERE WHAT IT READS IS OF BULK AT MOST 1048576: true; the input reads as it did. -/
def evalFoldsUptoRow : OpenClaim := { program := "ytfejbgnbganolaa", sum := "7fc313a345d120374a8002c1f8261ead8326256ca4e47d7dfa69860cf14bfac0", func := "parry/parrylaw4.EvalFolds", spec := "evalFolds", unfollowed := true, recurses := true, loops := true, apart := false, narrowed := true }
def EvalFoldsUptoSaid : Prop := evalFoldsUptoRow.holds Try.pinned (OpenSpec.upto evalFoldsSpec)

/-- 'parrylaw5.ModuleMore', WHERE WHAT IT READS IS OF BULK AT MOST 1048576: true; the input reads as it did. -/
def moduleMoreUptoRow : OpenClaim := { program := "ytfejbgnbganolaa", sum := "7fc313a345d120374a8002c1f8261ead8326256ca4e47d7dfa69860cf14bfac0", func := "parry/parrylaw5.ModuleMore", spec := "moduleMore", unfollowed := true, recurses := true, loops := true, apart := false, narrowed := true }
def ModuleMoreUptoSaid : Prop := moduleMoreUptoRow.holds Try.pinned (OpenSpec.upto moduleMoreSpec)

/-- 'parrylaw5.ModuleSides', WHERE WHAT IT READS IS OF BULK AT MOST 1048576: true; the input reads as it did. -/
def moduleSidesUptoRow : OpenClaim := { program := "ytfejbgnbganolaa", sum := "7fc313a345d120374a8002c1f8261ead8326256ca4e47d7dfa69860cf14bfac0", func := "parry/parrylaw5.ModuleSides", spec := "moduleSides", unfollowed := true, recurses := true, loops := true, apart := false, narrowed := true }
def ModuleSidesUptoSaid : Prop := moduleSidesUptoRow.holds Try.pinned (OpenSpec.upto moduleSidesSpec)

end Rows
end Go.Proofs.Ytfejbgnbganolaa
