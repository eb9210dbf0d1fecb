/-
  DERIVED. GIVEN WITH THE SEED: THE CARDS: each row of YtnjandhaeojieaaDoorRows.lean that lists a variable, with what it lists TIED to the program's text (the seventh form; the later family's looks); each row that meets fmt, with fmt's text TOLD by the authors' own Lean function (tested against real Go, not proved from fmt's source: count such statements apart). THE CARD IS WHAT COUNTS. Prove the row's statement (the work); the ties are given (YtnjandhaeojieaaDoorTie.lean); close each card by the builder's one call (the guide's Derived/Test/ToyasCard.lean, 'card_holds'). Laid BY PROGRAM, IN A SANDBOX (cutbox-door.mjs). By AI agents, Wed Nov 11 2026. No macro, syntax, notation, axiom, sorry.
-/
import Derived.Test.YtnjandhaeojieaaDoorRows
import GoSem.ClaimSeven
namespace Go.Proofs.YtnjandhaeojieaaDoor
namespace Rows

/-- THE TIED CARD OF 'parrylaw25.MachineSteps'. -/
def machineStepsCard : Claim7 := { stood := { row := machineStepsRow, standIns := [], harness := (true, "1e95d4d3decd9744a8ed95313241adf4b4f6c4e0e80e939577c876e3cf0e3695"), looks := false }, kinds := [], alts := [], laidByText := true, laidKinds := [.data, .data, .data], laidTests := true, laidLooks := .later }
def MachineStepsCardSaid : Prop := Claim7.holds Tryd.pinned (.plain (OpenSpec.ofChange machineStepsSpec)) machineStepsCard

/-- THE TIED CARD OF 'parrylaw25.MachineSame'. -/
def machineSameCard : Claim7 := { stood := { row := machineSameRow, standIns := [], harness := (true, "1e95d4d3decd9744a8ed95313241adf4b4f6c4e0e80e939577c876e3cf0e3695"), looks := false }, kinds := [], alts := [], laidByText := true, laidKinds := [.data, .data, .data], laidTests := true, laidLooks := .later }
def MachineSameCardSaid : Prop := Claim7.holds Tryd.pinned (.plain (OpenSpec.ofChange machineSameSpec)) machineSameCard

/-- THE TIED CARD OF 'parrylaw25.MachineRaw'. -/
def machineRawCard : Claim7 := { stood := { row := machineRawRow, standIns := [], harness := (true, "1e95d4d3decd9744a8ed95313241adf4b4f6c4e0e80e939577c876e3cf0e3695"), looks := false }, kinds := [], alts := [], laidByText := true, laidKinds := [.data, .data, .data, .data, .pinned], laidTests := true, laidLooks := .later }
def MachineRawCardSaid : Prop := Claim7.holds Tryd.pinned (.plain (OpenSpec.ofChange machineRawSpec)) machineRawCard

/-- THE TIED CARD OF 'parrylaw25.MachineBack'. -/
def machineBackCard : Claim7 := { stood := { row := machineBackRow, standIns := [], harness := (true, "1e95d4d3decd9744a8ed95313241adf4b4f6c4e0e80e939577c876e3cf0e3695"), looks := false }, kinds := [], alts := [], laidByText := true, laidKinds := [.data, .data, .data, .data, .pinned], laidTests := true, laidLooks := .later }
def MachineBackCardSaid : Prop := Claim7.holds Tryd.pinned (.plain (OpenSpec.ofChange machineBackSpec)) machineBackCard

/-- THE TIED CARD OF 'parrylaw25.MachineForms'. -/
def machineFormsCard : Claim7 := { stood := { row := machineFormsRow, standIns := [], harness := (true, "1e95d4d3decd9744a8ed95313241adf4b4f6c4e0e80e939577c876e3cf0e3695"), looks := false }, kinds := [], alts := [], laidByText := true, laidKinds := [.data, .data, .data], laidTests := true, laidLooks := .later }
def MachineFormsCardSaid : Prop := Claim7.holds Tryd.pinned (.plain (OpenSpec.ofChange machineFormsSpec)) machineFormsCard

/-- THE TIED CARD OF 'parrylaw25.MachineTrims'. -/
def machineTrimsCard : Claim7 := { stood := { row := machineTrimsRow, standIns := [], harness := (true, "1e95d4d3decd9744a8ed95313241adf4b4f6c4e0e80e939577c876e3cf0e3695"), looks := false }, kinds := [], alts := [], laidByText := true, laidKinds := [.data, .data, .data], laidTests := true, laidLooks := .later }
def MachineTrimsCardSaid : Prop := Claim7.holds Tryd.pinned (.plain (OpenSpec.ofChange machineTrimsSpec)) machineTrimsCard

/-- THE SECOND FORM's CARD OF 'parrylaw25.MachineSteps'. -/
def machineStepsUptoCard : Claim7 := { stood := { row := machineStepsUptoRow, standIns := [], harness := (true, "1e95d4d3decd9744a8ed95313241adf4b4f6c4e0e80e939577c876e3cf0e3695"), looks := false }, kinds := [], alts := [], laidByText := true, laidKinds := [.data, .data, .data], laidTests := true, laidLooks := .later }
def MachineStepsUptoCardSaid : Prop := Claim7.holds Tryd.pinned (.plain (OpenSpec.upto machineStepsSpec)) machineStepsUptoCard

/-- THE SECOND FORM's CARD OF 'parrylaw25.MachineSame'. -/
def machineSameUptoCard : Claim7 := { stood := { row := machineSameUptoRow, standIns := [], harness := (true, "1e95d4d3decd9744a8ed95313241adf4b4f6c4e0e80e939577c876e3cf0e3695"), looks := false }, kinds := [], alts := [], laidByText := true, laidKinds := [.data, .data, .data], laidTests := true, laidLooks := .later }
def MachineSameUptoCardSaid : Prop := Claim7.holds Tryd.pinned (.plain (OpenSpec.upto machineSameSpec)) machineSameUptoCard

/-- THE SECOND FORM's CARD OF 'parrylaw25.MachineRaw'. -/
def machineRawUptoCard : Claim7 := { stood := { row := machineRawUptoRow, standIns := [], harness := (true, "1e95d4d3decd9744a8ed95313241adf4b4f6c4e0e80e939577c876e3cf0e3695"), looks := false }, kinds := [], alts := [], laidByText := true, laidKinds := [.data, .data, .data, .data, .pinned], laidTests := true, laidLooks := .later }
def MachineRawUptoCardSaid : Prop := Claim7.holds Tryd.pinned (.plain (OpenSpec.upto machineRawSpec)) machineRawUptoCard

/-- THE SECOND FORM's CARD OF 'parrylaw25.MachineBack'. -/
def machineBackUptoCard : Claim7 := { stood := { row := machineBackUptoRow, standIns := [], harness := (true, "1e95d4d3decd9744a8ed95313241adf4b4f6c4e0e80e939577c876e3cf0e3695"), looks := false }, kinds := [], alts := [], laidByText := true, laidKinds := [.data, .data, .data, .data, .pinned], laidTests := true, laidLooks := .later }
def MachineBackUptoCardSaid : Prop := Claim7.holds Tryd.pinned (.plain (OpenSpec.upto machineBackSpec)) machineBackUptoCard

/-- THE SECOND FORM's CARD OF 'parrylaw25.MachineForms'. -/
def machineFormsUptoCard : Claim7 := { stood := { row := machineFormsUptoRow, standIns := [], harness := (true, "1e95d4d3decd9744a8ed95313241adf4b4f6c4e0e80e939577c876e3cf0e3695"), looks := false }, kinds := [], alts := [], laidByText := true, laidKinds := [.data, .data, .data], laidTests := true, laidLooks := .later }
def MachineFormsUptoCardSaid : Prop := Claim7.holds Tryd.pinned (.plain (OpenSpec.upto machineFormsSpec)) machineFormsUptoCard

/-- THE SECOND FORM's CARD OF 'parrylaw25.MachineTrims'. -/
def machineTrimsUptoCard : Claim7 := { stood := { row := machineTrimsUptoRow, standIns := [], harness := (true, "1e95d4d3decd9744a8ed95313241adf4b4f6c4e0e80e939577c876e3cf0e3695"), looks := false }, kinds := [], alts := [], laidByText := true, laidKinds := [.data, .data, .data], laidTests := true, laidLooks := .later }
def MachineTrimsUptoCardSaid : Prop := Claim7.holds Tryd.pinned (.plain (OpenSpec.upto machineTrimsSpec)) machineTrimsUptoCard
end Rows
end Go.Proofs.YtnjandhaeojieaaDoor
