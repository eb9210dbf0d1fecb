/-
  DERIVED. GIVEN WITH THE SEED: THE CARDS: each row of YtpjedhbfkfobcaaGreatDoorRows.lean that lists a variable, with what it lists TIED to the program's text (the seventh form; the later family's looks); each row that meets fmt, with fmt's text TOLD by the authors' own Lean function (tested against real Go, not proved from fmt's source: count such statements apart). THE CARD IS WHAT COUNTS. Prove the row's statement (the work); the ties are given (YtpjedhbfkfobcaaGreatDoorTie.lean); close each card by the builder's one call (the guide's Derived/Test/ToyasCard.lean, 'card_holds'). Laid BY PROGRAM, IN A SANDBOX (cutbox-door.mjs). By AI agents, Wed Nov 11 2026. No macro, syntax, notation, axiom, sorry.
-/
import Derived.Test.YtpjedhbfkfobcaaGreatDoorRows
import GoSem.ClaimSeven
namespace Go.Proofs.YtpjedhbfkfobcaaGreatDoor
namespace Rows

/-- THE TIED CARD OF 'parrylaw7.ShowExprs'. -/
def showExprsCard : Claim7 := { stood := { row := showExprsRow, standIns := [], harness := (true, "61fc6daca209267d6cc1372209749c17597d01da54ebeedfa15ea6842b6da6e0"), looks := false }, kinds := [], alts := [], laidByText := true, laidKinds := [.data, .data, .data], laidTests := true, laidLooks := .later }
def ShowExprsCardSaid : Prop := Claim7.holds Tryz.pinned (.plain (OpenSpec.ofChange showExprsSpec)) showExprsCard

/-- THE TIED CARD OF 'parrylaw7.ShowLines'. -/
def showLinesCard : Claim7 := { stood := { row := showLinesRow, standIns := [], harness := (true, "61fc6daca209267d6cc1372209749c17597d01da54ebeedfa15ea6842b6da6e0"), looks := false }, kinds := [], alts := [], laidByText := true, laidKinds := [.data, .data, .data], laidTests := true, laidLooks := .later }
def ShowLinesCardSaid : Prop := Claim7.holds Tryz.pinned (.plain (OpenSpec.ofChange showLinesSpec)) showLinesCard

/-- THE TIED CARD OF 'parrylaw7.ShowForms'. -/
def showFormsCard : Claim7 := { stood := { row := showFormsRow, standIns := [], harness := (true, "61fc6daca209267d6cc1372209749c17597d01da54ebeedfa15ea6842b6da6e0"), looks := false }, kinds := [], alts := [], laidByText := true, laidKinds := [.data, .data, .data], laidTests := true, laidLooks := .later }
def ShowFormsCardSaid : Prop := Claim7.holds Tryz.pinned (.plain (OpenSpec.ofChange showFormsSpec)) showFormsCard

/-- THE TIED CARD OF 'parrylaw7.ShowApart'. -/
def showApartCard : Claim7 := { stood := { row := showApartRow, standIns := [], harness := (true, "61fc6daca209267d6cc1372209749c17597d01da54ebeedfa15ea6842b6da6e0"), looks := false }, kinds := [], alts := [], laidByText := true, laidKinds := [.data, .data, .data], laidTests := true, laidLooks := .later }
def ShowApartCardSaid : Prop := Claim7.holds Tryz.pinned (.plain (OpenSpec.ofChange showApartSpec)) showApartCard

/-- THE SECOND FORM's CARD OF 'parrylaw7.ShowExprs'. -/
def showExprsUptoCard : Claim7 := { stood := { row := showExprsUptoRow, standIns := [], harness := (true, "61fc6daca209267d6cc1372209749c17597d01da54ebeedfa15ea6842b6da6e0"), looks := false }, kinds := [], alts := [], laidByText := true, laidKinds := [.data, .data, .data], laidTests := true, laidLooks := .later }
def ShowExprsUptoCardSaid : Prop := Claim7.holds Tryz.pinned (.plain (OpenSpec.upto showExprsSpec)) showExprsUptoCard

/-- THE SECOND FORM's CARD OF 'parrylaw7.ShowLines'. -/
def showLinesUptoCard : Claim7 := { stood := { row := showLinesUptoRow, standIns := [], harness := (true, "61fc6daca209267d6cc1372209749c17597d01da54ebeedfa15ea6842b6da6e0"), looks := false }, kinds := [], alts := [], laidByText := true, laidKinds := [.data, .data, .data], laidTests := true, laidLooks := .later }
def ShowLinesUptoCardSaid : Prop := Claim7.holds Tryz.pinned (.plain (OpenSpec.upto showLinesSpec)) showLinesUptoCard

/-- THE SECOND FORM's CARD OF 'parrylaw7.ShowForms'. -/
def showFormsUptoCard : Claim7 := { stood := { row := showFormsUptoRow, standIns := [], harness := (true, "61fc6daca209267d6cc1372209749c17597d01da54ebeedfa15ea6842b6da6e0"), looks := false }, kinds := [], alts := [], laidByText := true, laidKinds := [.data, .data, .data], laidTests := true, laidLooks := .later }
def ShowFormsUptoCardSaid : Prop := Claim7.holds Tryz.pinned (.plain (OpenSpec.upto showFormsSpec)) showFormsUptoCard

/-- THE SECOND FORM's CARD OF 'parrylaw7.ShowApart'. -/
def showApartUptoCard : Claim7 := { stood := { row := showApartUptoRow, standIns := [], harness := (true, "61fc6daca209267d6cc1372209749c17597d01da54ebeedfa15ea6842b6da6e0"), looks := false }, kinds := [], alts := [], laidByText := true, laidKinds := [.data, .data, .data], laidTests := true, laidLooks := .later }
def ShowApartUptoCardSaid : Prop := Claim7.holds Tryz.pinned (.plain (OpenSpec.upto showApartSpec)) showApartUptoCard
end Rows
end Go.Proofs.YtpjedhbfkfobcaaGreatDoor
