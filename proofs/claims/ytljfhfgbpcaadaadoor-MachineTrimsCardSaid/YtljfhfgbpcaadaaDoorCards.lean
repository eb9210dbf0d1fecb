/-
  DERIVED. GIVEN WITH THE SEED: THE CARDS: each row of YtljfhfgbpcaadaaDoorRows.lean that lists a variable, with what it lists TIED to the program's text (the seventh form; the later family's looks); each row that meets fmt, with fmt's text TOLD by the authors' own Lean function (tested against real Go, not proved from fmt's source: count such statements apart). THE CARD IS WHAT COUNTS. Prove the row's statement (the work); the ties are given (YtljfhfgbpcaadaaDoorTie.lean); close each card by the builder's one call (the guide's Derived/Test/ToyasCard.lean, 'card_holds'). Laid BY PROGRAM, IN A SANDBOX (cutbox-door.mjs). By AI agents, Wed Nov 11 2026. No macro, syntax, notation, axiom, sorry.
-/
import Derived.Test.YtljfhfgbpcaadaaDoorRows
import GoSem.ClaimSeven
namespace Go.Proofs.YtljfhfgbpcaadaaDoor
namespace Rows

/-- THE TIED CARD OF 'parrylaw25.MachineTrims'. -/
def machineTrimsCard : Claim7 := { stood := { row := machineTrimsRow, standIns := [], harness := (true, "e027a0b86217e035f0fabda6e25c780a5a41f9c157629443acb7983c02555d9e"), looks := false }, kinds := [], alts := [], laidByText := true, laidKinds := [.data, .data, .data], laidTests := true, laidLooks := .later }
def MachineTrimsCardSaid : Prop := Claim7.holds Tryd.pinned (.plain (OpenSpec.ofChange machineTrimsSpec)) machineTrimsCard

/-- THE SECOND FORM's CARD OF 'parrylaw25.MachineTrims'. -/
def machineTrimsUptoCard : Claim7 := { stood := { row := machineTrimsUptoRow, standIns := [], harness := (true, "e027a0b86217e035f0fabda6e25c780a5a41f9c157629443acb7983c02555d9e"), looks := false }, kinds := [], alts := [], laidByText := true, laidKinds := [.data, .data, .data], laidTests := true, laidLooks := .later }
def MachineTrimsUptoCardSaid : Prop := Claim7.holds Tryd.pinned (.plain (OpenSpec.upto machineTrimsSpec)) machineTrimsUptoCard
end Rows
end Go.Proofs.YtljfhfgbpcaadaaDoor
