/-
  DERIVED. GIVEN WITH THE SEED: THE CARDS: each row of YtacdbnhnhdlmpaaGreatDoorRows.lean that lists a variable, with what it lists TIED to the program's text (the seventh form; the later family's looks); each row that meets fmt, with fmt's text TOLD by the authors' own Lean function (tested against real Go, not proved from fmt's source: count such statements apart). THE CARD IS WHAT COUNTS. Prove the row's statement (the work); the ties are given (YtacdbnhnhdlmpaaGreatDoorTie.lean); close each card by the builder's one call (the guide's Derived/Test/ToyasCard.lean, 'card_holds'). Laid BY PROGRAM, IN A SANDBOX (cutbox-door.mjs). By AI agents, Wed Nov 11 2026. No macro, syntax, notation, axiom, sorry.
-/
import Derived.Test.YtacdbnhnhdlmpaaGreatDoorRows
import GoSem.ClaimSeven
namespace Go.Proofs.YtacdbnhnhdlmpaaGreatDoor
namespace Rows

/-- THE TIED CARD OF 'knapsacklaw38.FormUndoes'. -/
def formUndoesCard : Claim7 := { stood := { row := formUndoesRow, standIns := [], harness := (true, "269d54801390d49c3122559adce0bd2d94ae2fe08d80cad0cfe61bd55c645139"), looks := true }, kinds := [], alts := [], laidByText := true, laidKinds := [.data, .pinned], laidTests := true, laidLooks := .later }
def FormUndoesCardSaid : Prop := Claim7.holds Tryz.pinned (.plain (OpenSpec.ofChange formUndoesSpec)) formUndoesCard

/-- THE TIED CARD OF 'knapsacklaw38.FormEdits'. -/
def formEditsCard : Claim7 := { stood := { row := formEditsRow, standIns := [], harness := (true, "269d54801390d49c3122559adce0bd2d94ae2fe08d80cad0cfe61bd55c645139"), looks := true }, kinds := [], alts := [], laidByText := true, laidKinds := [.data, .pinned], laidTests := true, laidLooks := .later }
def FormEditsCardSaid : Prop := Claim7.holds Tryz.pinned (.plain (OpenSpec.ofChange formEditsSpec)) formEditsCard

/-- THE TIED CARD OF 'knapsacklaw38.FormRadios'. -/
def formRadiosCard : Claim7 := { stood := { row := formRadiosRow, standIns := [], harness := (true, "269d54801390d49c3122559adce0bd2d94ae2fe08d80cad0cfe61bd55c645139"), looks := true }, kinds := [], alts := [], laidByText := true, laidKinds := [.data, .pinned], laidTests := true, laidLooks := .later }
def FormRadiosCardSaid : Prop := Claim7.holds Tryz.pinned (.plain (OpenSpec.ofChange formRadiosSpec)) formRadiosCard

/-- THE TIED CARD OF 'knapsacklaw38.FormDefaults'. -/
def formDefaultsCard : Claim7 := { stood := { row := formDefaultsRow, standIns := [], harness := (true, "269d54801390d49c3122559adce0bd2d94ae2fe08d80cad0cfe61bd55c645139"), looks := true }, kinds := [], alts := [], laidByText := true, laidKinds := [.data, .pinned], laidTests := true, laidLooks := .later }
def FormDefaultsCardSaid : Prop := Claim7.holds Tryz.pinned (.plain (OpenSpec.ofChange formDefaultsSpec)) formDefaultsCard

/-- THE TIED CARD OF 'knapsacklaw38.FormClones'. -/
def formClonesCard : Claim7 := { stood := { row := formClonesRow, standIns := [], harness := (true, "269d54801390d49c3122559adce0bd2d94ae2fe08d80cad0cfe61bd55c645139"), looks := true }, kinds := [], alts := [], laidByText := true, laidKinds := [.data, .pinned], laidTests := true, laidLooks := .later }
def FormClonesCardSaid : Prop := Claim7.holds Tryz.pinned (.plain (OpenSpec.ofChange formClonesSpec)) formClonesCard

/-- THE TIED CARD OF 'knapsacklaw38.FormData'. -/
def formDataCard : Claim7 := { stood := { row := formDataRow, standIns := [], harness := (true, "269d54801390d49c3122559adce0bd2d94ae2fe08d80cad0cfe61bd55c645139"), looks := true }, kinds := [], alts := [], laidByText := true, laidKinds := [.data, .pinned], laidTests := true, laidLooks := .later }
def FormDataCardSaid : Prop := Claim7.holds Tryz.pinned (.plain (OpenSpec.ofChange formDataSpec)) formDataCard

/-- THE TIED CARD OF 'knapsacklaw38.FormClicks'. -/
def formClicksCard : Claim7 := { stood := { row := formClicksRow, standIns := [], harness := (true, "269d54801390d49c3122559adce0bd2d94ae2fe08d80cad0cfe61bd55c645139"), looks := true }, kinds := [], alts := [], laidByText := true, laidKinds := [.data, .pinned], laidTests := true, laidLooks := .later }
def FormClicksCardSaid : Prop := Claim7.holds Tryz.pinned (.plain (OpenSpec.ofChange formClicksSpec)) formClicksCard

/-- THE TIED CARD OF 'knapsacklaw38.FormKeys'. -/
def formKeysCard : Claim7 := { stood := { row := formKeysRow, standIns := [], harness := (true, "269d54801390d49c3122559adce0bd2d94ae2fe08d80cad0cfe61bd55c645139"), looks := true }, kinds := [], alts := [], laidByText := true, laidKinds := [.data, .pinned], laidTests := true, laidLooks := .later }
def FormKeysCardSaid : Prop := Claim7.holds Tryz.pinned (.plain (OpenSpec.ofChange formKeysSpec)) formKeysCard

/-- THE TIED CARD OF 'knapsacklaw38.FormFocus'. -/
def formFocusCard : Claim7 := { stood := { row := formFocusRow, standIns := [], harness := (true, "269d54801390d49c3122559adce0bd2d94ae2fe08d80cad0cfe61bd55c645139"), looks := true }, kinds := [], alts := [], laidByText := true, laidKinds := [.data, .pinned], laidTests := true, laidLooks := .later }
def FormFocusCardSaid : Prop := Claim7.holds Tryz.pinned (.plain (OpenSpec.ofChange formFocusSpec)) formFocusCard

/-- THE SECOND FORM's CARD OF 'knapsacklaw38.FormUndoes'. -/
def formUndoesUptoCard : Claim7 := { stood := { row := formUndoesUptoRow, standIns := [], harness := (true, "269d54801390d49c3122559adce0bd2d94ae2fe08d80cad0cfe61bd55c645139"), looks := true }, kinds := [], alts := [], laidByText := true, laidKinds := [.data, .pinned], laidTests := true, laidLooks := .later }
def FormUndoesUptoCardSaid : Prop := Claim7.holds Tryz.pinned (.plain (OpenSpec.upto formUndoesSpec)) formUndoesUptoCard

/-- THE SECOND FORM's CARD OF 'knapsacklaw38.FormEdits'. -/
def formEditsUptoCard : Claim7 := { stood := { row := formEditsUptoRow, standIns := [], harness := (true, "269d54801390d49c3122559adce0bd2d94ae2fe08d80cad0cfe61bd55c645139"), looks := true }, kinds := [], alts := [], laidByText := true, laidKinds := [.data, .pinned], laidTests := true, laidLooks := .later }
def FormEditsUptoCardSaid : Prop := Claim7.holds Tryz.pinned (.plain (OpenSpec.upto formEditsSpec)) formEditsUptoCard

/-- THE SECOND FORM's CARD OF 'knapsacklaw38.FormRadios'. -/
def formRadiosUptoCard : Claim7 := { stood := { row := formRadiosUptoRow, standIns := [], harness := (true, "269d54801390d49c3122559adce0bd2d94ae2fe08d80cad0cfe61bd55c645139"), looks := true }, kinds := [], alts := [], laidByText := true, laidKinds := [.data, .pinned], laidTests := true, laidLooks := .later }
def FormRadiosUptoCardSaid : Prop := Claim7.holds Tryz.pinned (.plain (OpenSpec.upto formRadiosSpec)) formRadiosUptoCard

/-- THE SECOND FORM's CARD OF 'knapsacklaw38.FormDefaults'. -/
def formDefaultsUptoCard : Claim7 := { stood := { row := formDefaultsUptoRow, standIns := [], harness := (true, "269d54801390d49c3122559adce0bd2d94ae2fe08d80cad0cfe61bd55c645139"), looks := true }, kinds := [], alts := [], laidByText := true, laidKinds := [.data, .pinned], laidTests := true, laidLooks := .later }
def FormDefaultsUptoCardSaid : Prop := Claim7.holds Tryz.pinned (.plain (OpenSpec.upto formDefaultsSpec)) formDefaultsUptoCard

/-- THE SECOND FORM's CARD OF 'knapsacklaw38.FormClones'. -/
def formClonesUptoCard : Claim7 := { stood := { row := formClonesUptoRow, standIns := [], harness := (true, "269d54801390d49c3122559adce0bd2d94ae2fe08d80cad0cfe61bd55c645139"), looks := true }, kinds := [], alts := [], laidByText := true, laidKinds := [.data, .pinned], laidTests := true, laidLooks := .later }
def FormClonesUptoCardSaid : Prop := Claim7.holds Tryz.pinned (.plain (OpenSpec.upto formClonesSpec)) formClonesUptoCard

/-- THE SECOND FORM's CARD OF 'knapsacklaw38.FormData'. -/
def formDataUptoCard : Claim7 := { stood := { row := formDataUptoRow, standIns := [], harness := (true, "269d54801390d49c3122559adce0bd2d94ae2fe08d80cad0cfe61bd55c645139"), looks := true }, kinds := [], alts := [], laidByText := true, laidKinds := [.data, .pinned], laidTests := true, laidLooks := .later }
def FormDataUptoCardSaid : Prop := Claim7.holds Tryz.pinned (.plain (OpenSpec.upto formDataSpec)) formDataUptoCard

/-- THE SECOND FORM's CARD OF 'knapsacklaw38.FormClicks'. -/
def formClicksUptoCard : Claim7 := { stood := { row := formClicksUptoRow, standIns := [], harness := (true, "269d54801390d49c3122559adce0bd2d94ae2fe08d80cad0cfe61bd55c645139"), looks := true }, kinds := [], alts := [], laidByText := true, laidKinds := [.data, .pinned], laidTests := true, laidLooks := .later }
def FormClicksUptoCardSaid : Prop := Claim7.holds Tryz.pinned (.plain (OpenSpec.upto formClicksSpec)) formClicksUptoCard

/-- THE SECOND FORM's CARD OF 'knapsacklaw38.FormKeys'. -/
def formKeysUptoCard : Claim7 := { stood := { row := formKeysUptoRow, standIns := [], harness := (true, "269d54801390d49c3122559adce0bd2d94ae2fe08d80cad0cfe61bd55c645139"), looks := true }, kinds := [], alts := [], laidByText := true, laidKinds := [.data, .pinned], laidTests := true, laidLooks := .later }
def FormKeysUptoCardSaid : Prop := Claim7.holds Tryz.pinned (.plain (OpenSpec.upto formKeysSpec)) formKeysUptoCard

/-- THE SECOND FORM's CARD OF 'knapsacklaw38.FormFocus'. -/
def formFocusUptoCard : Claim7 := { stood := { row := formFocusUptoRow, standIns := [], harness := (true, "269d54801390d49c3122559adce0bd2d94ae2fe08d80cad0cfe61bd55c645139"), looks := true }, kinds := [], alts := [], laidByText := true, laidKinds := [.data, .pinned], laidTests := true, laidLooks := .later }
def FormFocusUptoCardSaid : Prop := Claim7.holds Tryz.pinned (.plain (OpenSpec.upto formFocusSpec)) formFocusUptoCard
end Rows
end Go.Proofs.YtacdbnhnhdlmpaaGreatDoor
