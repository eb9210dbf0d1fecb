/-
  NARROWER THAN 'FOR EVERY INPUT', by the rows' own cells (each row's printed sentence says how): ChoiceMore: loops · ChoiceInits: loops · ArenaMoves: loops · ArenaMore: loops · ArenaWhere: loops · ArenaForms: loops · ArenaTurns: loops.
  DERIVED. THE GIVEN ROWS OF THIS SEAT. 7 by the template 'for every input the law returns true; each argument reads behind the call as it read before'; 0 by the template 'total and deterministic' (their statements: YtnjandhaeojieaaGreatTotals.lean).
  GIVEN WITH THE SEED: the statements are not yours to turn. If you find one false, say at which input.
  Laid BY PROGRAM, IN A SANDBOX (cutbox-rows.mjs): the forced cells as the released guide's own fill.sh prints them over the translation aed816d5ff933b84… (all of the seat's roots in one cut). By AI agents, Wed Nov 11 2026. No macro, syntax, notation, axiom, sorry.
-/
import Derived.Test.YtnjandhaeojieaaGreatChecked
import GoSem.Claim
import GoSem.ClaimJoined
import GoSem.ClaimMapViews
import Derived.JoinedTies
import Derived.KernelRfl
namespace Go.Proofs.YtnjandhaeojieaaGreat
/- THE CELL 'sum', in the pinned program and in every row, IS THE sha256 OF THE DUMP (.gsa) THAT YtnjandhaeojieaaGreatProg.lean LOADS. Nothing in Lean hashes anything: it is a label: what it is worth is what the hold of that sum in a sandbox is worth. -/
noncomputable def Tryz.pinned : Pinned := { name := "ytnjandhaeojieaagreat", sum := "aed816d5ff933b842d6e928ccdf005c37f4a6da4024fb02620dfb1c50ececdc7", checked := Tryz.checked }
namespace Rows
def none {H : Type} : Left H := { results := [], args := [] }

/-- 'parrylaw6.ChoiceMore': WHATEVER THE INPUT: true; the input reads as it did. -/
def choiceMoreSpec : ChangeSpec := { name := "choiceMore", fn := fun _ => fun
  | [d1, d2, d3, d4, d5] => { results := [.lit (.bool true)], args := [d1, d2, d3, d4, d5] }
  | _ => none }
def choiceMoreRow : OpenClaim := { program := "ytnjandhaeojieaagreat", sum := "aed816d5ff933b842d6e928ccdf005c37f4a6da4024fb02620dfb1c50ececdc7", func := "parry/parrylaw6.ChoiceMore", spec := "choiceMore", unfollowed := true, recurses := true, loops := true, plainKeys := false, apart := false }
def ChoiceMoreSaid : Prop := choiceMoreRow.holds Tryz.pinned (OpenSpec.ofChange choiceMoreSpec)

/-- ITS FALSE NEIGHBOUR: 'it returns false'. Refute it at one input. -/
def choiceMoreWrong : ChangeSpec := { name := "choiceMore", fn := fun _ => fun
  | [d1, d2, d3, d4, d5] => { results := [.lit (.bool false)], args := [d1, d2, d3, d4, d5] }
  | _ => none }
def ChoiceMoreWrongFalsely : Prop := choiceMoreRow.holds Tryz.pinned (OpenSpec.ofChange choiceMoreWrong)

/-- 'parrylaw6.ChoiceInits': WHATEVER THE INPUT: true; the input reads as it did. -/
def choiceInitsSpec : ChangeSpec := { name := "choiceInits", fn := fun _ => fun
  | [d] => { results := [.lit (.bool true)], args := [d] }
  | _ => none }
def choiceInitsRow : OpenClaim := { program := "ytnjandhaeojieaagreat", sum := "aed816d5ff933b842d6e928ccdf005c37f4a6da4024fb02620dfb1c50ececdc7", func := "parry/parrylaw6.ChoiceInits", spec := "choiceInits", unfollowed := true, recurses := true, loops := true, plainKeys := false, apart := false }
def ChoiceInitsSaid : Prop := choiceInitsRow.holds Tryz.pinned (OpenSpec.ofChange choiceInitsSpec)

/-- ITS FALSE NEIGHBOUR: 'it returns false'. Refute it at one input. -/
def choiceInitsWrong : ChangeSpec := { name := "choiceInits", fn := fun _ => fun
  | [d] => { results := [.lit (.bool false)], args := [d] }
  | _ => none }
def ChoiceInitsWrongFalsely : Prop := choiceInitsRow.holds Tryz.pinned (OpenSpec.ofChange choiceInitsWrong)

/-- 'parrylaw10.ArenaMoves': WHATEVER THE INPUT: true; the input reads as it did. -/
def arenaMovesSpec : ChangeSpec := { name := "arenaMoves", fn := fun _ => fun
  | [d1, d2] => { results := [.lit (.bool true)], args := [d1, d2] }
  | _ => none }
def arenaMovesRow : OpenClaim := { program := "ytnjandhaeojieaagreat", sum := "aed816d5ff933b842d6e928ccdf005c37f4a6da4024fb02620dfb1c50ececdc7", func := "parry/parrylaw10.ArenaMoves", spec := "arenaMoves", unfollowed := true, recurses := true, loops := true, plainKeys := false, apart := false }
def ArenaMovesSaid : Prop := arenaMovesRow.holds Tryz.pinned (OpenSpec.ofChange arenaMovesSpec)

/-- ITS FALSE NEIGHBOUR: 'it returns false'. Refute it at one input. -/
def arenaMovesWrong : ChangeSpec := { name := "arenaMoves", fn := fun _ => fun
  | [d1, d2] => { results := [.lit (.bool false)], args := [d1, d2] }
  | _ => none }
def ArenaMovesWrongFalsely : Prop := arenaMovesRow.holds Tryz.pinned (OpenSpec.ofChange arenaMovesWrong)

/-- 'parrylaw10.ArenaMore': WHATEVER THE INPUT: true; the input reads as it did. -/
def arenaMoreSpec : ChangeSpec := { name := "arenaMore", fn := fun _ => fun
  | [d1, d2, d3] => { results := [.lit (.bool true)], args := [d1, d2, d3] }
  | _ => none }
def arenaMoreRow : OpenClaim := { program := "ytnjandhaeojieaagreat", sum := "aed816d5ff933b842d6e928ccdf005c37f4a6da4024fb02620dfb1c50ececdc7", func := "parry/parrylaw10.ArenaMore", spec := "arenaMore", unfollowed := true, recurses := true, loops := true, plainKeys := false, apart := false }
def ArenaMoreSaid : Prop := arenaMoreRow.holds Tryz.pinned (OpenSpec.ofChange arenaMoreSpec)

/-- ITS FALSE NEIGHBOUR: 'it returns false'. Refute it at one input. -/
def arenaMoreWrong : ChangeSpec := { name := "arenaMore", fn := fun _ => fun
  | [d1, d2, d3] => { results := [.lit (.bool false)], args := [d1, d2, d3] }
  | _ => none }
def ArenaMoreWrongFalsely : Prop := arenaMoreRow.holds Tryz.pinned (OpenSpec.ofChange arenaMoreWrong)

/-- 'parrylaw10.ArenaWhere': WHATEVER THE INPUT: true; the input reads as it did. -/
def arenaWhereSpec : ChangeSpec := { name := "arenaWhere", fn := fun _ => fun
  | [d1, d2] => { results := [.lit (.bool true)], args := [d1, d2] }
  | _ => none }
def arenaWhereRow : OpenClaim := { program := "ytnjandhaeojieaagreat", sum := "aed816d5ff933b842d6e928ccdf005c37f4a6da4024fb02620dfb1c50ececdc7", func := "parry/parrylaw10.ArenaWhere", spec := "arenaWhere", unfollowed := true, recurses := true, loops := true, plainKeys := false, apart := false }
def ArenaWhereSaid : Prop := arenaWhereRow.holds Tryz.pinned (OpenSpec.ofChange arenaWhereSpec)

/-- ITS FALSE NEIGHBOUR: 'it returns false'. Refute it at one input. -/
def arenaWhereWrong : ChangeSpec := { name := "arenaWhere", fn := fun _ => fun
  | [d1, d2] => { results := [.lit (.bool false)], args := [d1, d2] }
  | _ => none }
def ArenaWhereWrongFalsely : Prop := arenaWhereRow.holds Tryz.pinned (OpenSpec.ofChange arenaWhereWrong)

/-- 'parrylaw10.ArenaForms': WHATEVER THE INPUT: true; the input reads as it did. -/
def arenaFormsSpec : ChangeSpec := { name := "arenaForms", fn := fun _ => fun
  | [d1, d2] => { results := [.lit (.bool true)], args := [d1, d2] }
  | _ => none }
def arenaFormsRow : OpenClaim := { program := "ytnjandhaeojieaagreat", sum := "aed816d5ff933b842d6e928ccdf005c37f4a6da4024fb02620dfb1c50ececdc7", func := "parry/parrylaw10.ArenaForms", spec := "arenaForms", unfollowed := true, recurses := true, loops := true, plainKeys := false, apart := false }
def ArenaFormsSaid : Prop := arenaFormsRow.holds Tryz.pinned (OpenSpec.ofChange arenaFormsSpec)

/-- ITS FALSE NEIGHBOUR: 'it returns false'. Refute it at one input. -/
def arenaFormsWrong : ChangeSpec := { name := "arenaForms", fn := fun _ => fun
  | [d1, d2] => { results := [.lit (.bool false)], args := [d1, d2] }
  | _ => none }
def ArenaFormsWrongFalsely : Prop := arenaFormsRow.holds Tryz.pinned (OpenSpec.ofChange arenaFormsWrong)

/-- 'parrylaw10.ArenaTurns': WHATEVER THE INPUT: true; the input reads as it did. -/
def arenaTurnsSpec : ChangeSpec := { name := "arenaTurns", fn := fun _ => fun
  | [d] => { results := [.lit (.bool true)], args := [d] }
  | _ => none }
def arenaTurnsRow : OpenClaim := { program := "ytnjandhaeojieaagreat", sum := "aed816d5ff933b842d6e928ccdf005c37f4a6da4024fb02620dfb1c50ececdc7", func := "parry/parrylaw10.ArenaTurns", spec := "arenaTurns", unfollowed := true, recurses := true, loops := true, plainKeys := false, apart := false }
def ArenaTurnsSaid : Prop := arenaTurnsRow.holds Tryz.pinned (OpenSpec.ofChange arenaTurnsSpec)

/-- ITS FALSE NEIGHBOUR: 'it returns false'. Refute it at one input. -/
def arenaTurnsWrong : ChangeSpec := { name := "arenaTurns", fn := fun _ => fun
  | [d] => { results := [.lit (.bool false)], args := [d] }
  | _ => none }
def ArenaTurnsWrongFalsely : Prop := arenaTurnsRow.holds Tryz.pinned (OpenSpec.ofChange arenaTurnsWrong)

/- THE SECOND FORM. 'bulk': how many values and letters a reading holds, each counted each time it is reached (what is shared counts as often as it is met; a slice's spare places count too). A statement '..UptoSaid' is the law's where the arguments, and the package variables that the reading takes, are together of bulk at most 1048576: NARROWER than '..Said'. Prove '..Said' where nothing that the law and all that it calls make is longer than what came in: it says more and counts as full. Else prove '..UptoSaid'. A law counts once. -/
mutual
def uptoBulk {H : Type} : DataW H → Nat
  | .lit (.string bytes) => bytes.length + 1
  | .lit _ => 1
  | .nil => 1
  | .ptr d => uptoBulk d + 1
  | .slice elems spare => uptoBulkAll elems + uptoBulkAll spare + 1
  | .agg parts => uptoBulkAll parts + 1
  | .iface _ d => uptoBulk d + 1
  | .map entries => uptoBulkEntries entries + 1
  | .held _ => 1
def uptoBulkAll {H : Type} : List (DataW H) → Nat
  | [] => 0
  | d :: r => uptoBulk d + uptoBulkAll r
def uptoBulkEntries {H : Type} : List (Lit × DataW H) → Nat
  | [] => 0
  | x :: r => uptoBulkEntry x + uptoBulkEntries r
def uptoBulkEntry {H : Type} : Lit × DataW H → Nat
  | (.string bytes, d) => bytes.length + uptoBulk d + 1
  | (_, d) => uptoBulk d + 1
 end
def uptoSmall : (H : Type) → List (DataW H) → Bool := fun _ ds => decide (uptoBulkAll ds ≤ 1048576)
def OpenSpec.upto (s : _root_.Go.ChangeSpec) : _root_.Go.OpenSpec := { _root_.Go.OpenSpec.ofChange s with cond := some uptoSmall }

/-- 'parrylaw6.ChoiceMore', WHERE WHAT IT READS IS OF BULK AT MOST 1048576: true; the input reads as it did. -/
def choiceMoreUptoRow : OpenClaim := { program := "ytnjandhaeojieaagreat", sum := "aed816d5ff933b842d6e928ccdf005c37f4a6da4024fb02620dfb1c50ececdc7", func := "parry/parrylaw6.ChoiceMore", spec := "choiceMore", unfollowed := true, recurses := true, loops := true, plainKeys := false, apart := false, narrowed := true }
def ChoiceMoreUptoSaid : Prop := choiceMoreUptoRow.holds Tryz.pinned (OpenSpec.upto choiceMoreSpec)

/-- 'parrylaw6.ChoiceInits', WHERE WHAT IT READS IS OF BULK AT MOST 1048576: true; the input reads as it did. -/
def choiceInitsUptoRow : OpenClaim := { program := "ytnjandhaeojieaagreat", sum := "aed816d5ff933b842d6e928ccdf005c37f4a6da4024fb02620dfb1c50ececdc7", func := "parry/parrylaw6.ChoiceInits", spec := "choiceInits", unfollowed := true, recurses := true, loops := true, plainKeys := false, apart := false, narrowed := true }
def ChoiceInitsUptoSaid : Prop := choiceInitsUptoRow.holds Tryz.pinned (OpenSpec.upto choiceInitsSpec)

/-- 'parrylaw10.ArenaMoves', WHERE WHAT IT READS IS OF BULK AT MOST 1048576: true; the input reads as it did. -/
def arenaMovesUptoRow : OpenClaim := { program := "ytnjandhaeojieaagreat", sum := "aed816d5ff933b842d6e928ccdf005c37f4a6da4024fb02620dfb1c50ececdc7", func := "parry/parrylaw10.ArenaMoves", spec := "arenaMoves", unfollowed := true, recurses := true, loops := true, plainKeys := false, apart := false, narrowed := true }
def ArenaMovesUptoSaid : Prop := arenaMovesUptoRow.holds Tryz.pinned (OpenSpec.upto arenaMovesSpec)

/-- 'parrylaw10.ArenaMore', WHERE WHAT IT READS IS OF BULK AT MOST 1048576: true; the input reads as it did. -/
def arenaMoreUptoRow : OpenClaim := { program := "ytnjandhaeojieaagreat", sum := "aed816d5ff933b842d6e928ccdf005c37f4a6da4024fb02620dfb1c50ececdc7", func := "parry/parrylaw10.ArenaMore", spec := "arenaMore", unfollowed := true, recurses := true, loops := true, plainKeys := false, apart := false, narrowed := true }
def ArenaMoreUptoSaid : Prop := arenaMoreUptoRow.holds Tryz.pinned (OpenSpec.upto arenaMoreSpec)

/-- 'parrylaw10.ArenaWhere', WHERE WHAT IT READS IS OF BULK AT MOST 1048576: true; the input reads as it did. -/
def arenaWhereUptoRow : OpenClaim := { program := "ytnjandhaeojieaagreat", sum := "aed816d5ff933b842d6e928ccdf005c37f4a6da4024fb02620dfb1c50ececdc7", func := "parry/parrylaw10.ArenaWhere", spec := "arenaWhere", unfollowed := true, recurses := true, loops := true, plainKeys := false, apart := false, narrowed := true }
def ArenaWhereUptoSaid : Prop := arenaWhereUptoRow.holds Tryz.pinned (OpenSpec.upto arenaWhereSpec)

/-- 'parrylaw10.ArenaForms', WHERE WHAT IT READS IS OF BULK AT MOST 1048576: true; the input reads as it did. -/
def arenaFormsUptoRow : OpenClaim := { program := "ytnjandhaeojieaagreat", sum := "aed816d5ff933b842d6e928ccdf005c37f4a6da4024fb02620dfb1c50ececdc7", func := "parry/parrylaw10.ArenaForms", spec := "arenaForms", unfollowed := true, recurses := true, loops := true, plainKeys := false, apart := false, narrowed := true }
def ArenaFormsUptoSaid : Prop := arenaFormsUptoRow.holds Tryz.pinned (OpenSpec.upto arenaFormsSpec)

/-- 'parrylaw10.ArenaTurns', WHERE WHAT IT READS IS OF BULK AT MOST 1048576: true; the input reads as it did. -/
def arenaTurnsUptoRow : OpenClaim := { program := "ytnjandhaeojieaagreat", sum := "aed816d5ff933b842d6e928ccdf005c37f4a6da4024fb02620dfb1c50ececdc7", func := "parry/parrylaw10.ArenaTurns", spec := "arenaTurns", unfollowed := true, recurses := true, loops := true, plainKeys := false, apart := false, narrowed := true }
def ArenaTurnsUptoSaid : Prop := arenaTurnsUptoRow.holds Tryz.pinned (OpenSpec.upto arenaTurnsSpec)

end Rows
end Go.Proofs.YtnjandhaeojieaaGreat
