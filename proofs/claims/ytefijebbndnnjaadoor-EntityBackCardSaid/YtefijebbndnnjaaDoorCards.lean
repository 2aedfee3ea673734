/-
  DERIVED. GIVEN WITH THE SEED: THE CARDS: each row of YtefijebbndnnjaaDoorRows.lean that lists a variable, with what it lists TIED to the program's text (the seventh form; the later family's looks); each row that meets fmt, with fmt's text TOLD by the authors' own Lean function (tested against real Go, not proved from fmt's source: count such statements apart). THE CARD IS WHAT COUNTS. Prove the row's statement (the work); the ties are given (YtefijebbndnnjaaDoorTie.lean); close each card by the builder's one call (the guide's Derived/Test/ToyasCard.lean, 'card_holds'). Laid BY PROGRAM, IN A SANDBOX (cutbox-door.mjs). By AI agents, Wed Nov 11 2026. No macro, syntax, notation, axiom, sorry.
-/
import Derived.Test.YtefijebbndnnjaaDoorRows
import GoSem.ClaimSeven
namespace Go.Proofs.YtefijebbndnnjaaDoor
namespace Rows

/-- THE TIED CARD OF 'knapsacklaw05.EntityNumbers'. -/
def entityNumbersCard : Claim7 := { stood := { row := entityNumbersRow, standIns := [], harness := (true, "3a23908afc94484b8d6fad262aff427de691c14afc6098a98da1b14a3aab6d7a"), looks := true }, kinds := [], alts := [], laidByText := true, laidKinds := [.data, .data, .pinned], laidTests := true, laidLooks := .later }
def EntityNumbersCardSaid : Prop := Claim7.holds Tryd.pinned (.plain (OpenSpec.ofChange entityNumbersSpec)) entityNumbersCard

/-- THE TIED CARD OF 'knapsacklaw05.EntityNext'. -/
def entityNextCard : Claim7 := { stood := { row := entityNextRow, standIns := [], harness := (true, "3a23908afc94484b8d6fad262aff427de691c14afc6098a98da1b14a3aab6d7a"), looks := true }, kinds := [], alts := [], laidByText := true, laidKinds := [.data, .data, .pinned], laidTests := true, laidLooks := .later }
def EntityNextCardSaid : Prop := Claim7.holds Tryd.pinned (.plain (OpenSpec.ofChange entityNextSpec)) entityNextCard

/-- THE TIED CARD OF 'knapsacklaw05.EntityDecodes'. -/
def entityDecodesCard : Claim7 := { stood := { row := entityDecodesRow, standIns := [], harness := (true, "3a23908afc94484b8d6fad262aff427de691c14afc6098a98da1b14a3aab6d7a"), looks := true }, kinds := [], alts := [], laidByText := true, laidKinds := [.data, .data, .pinned], laidTests := true, laidLooks := .later }
def EntityDecodesCardSaid : Prop := Claim7.holds Tryd.pinned (.plain (OpenSpec.ofChange entityDecodesSpec)) entityDecodesCard

/-- THE TIED CARD OF 'knapsacklaw05.EntityPlain'. -/
def entityPlainCard : Claim7 := { stood := { row := entityPlainRow, standIns := [], harness := (true, "3a23908afc94484b8d6fad262aff427de691c14afc6098a98da1b14a3aab6d7a"), looks := true }, kinds := [], alts := [], laidByText := true, laidKinds := [.data, .data, .pinned], laidTests := true, laidLooks := .later }
def EntityPlainCardSaid : Prop := Claim7.holds Tryd.pinned (.plain (OpenSpec.ofChange entityPlainSpec)) entityPlainCard

/-- THE TIED CARD OF 'knapsacklaw05.EntityNames'. -/
def entityNamesCard : Claim7 := { stood := { row := entityNamesRow, standIns := [], harness := (true, "3a23908afc94484b8d6fad262aff427de691c14afc6098a98da1b14a3aab6d7a"), looks := true }, kinds := [], alts := [], laidByText := true, laidKinds := [.data, .data, .pinned], laidTests := true, laidLooks := .later }
def EntityNamesCardSaid : Prop := Claim7.holds Tryd.pinned (.plain (OpenSpec.ofChange entityNamesSpec)) entityNamesCard

/-- THE TIED CARD OF 'knapsacklaw05.EntityEscapes'. -/
def entityEscapesCard : Claim7 := { stood := { row := entityEscapesRow, standIns := [], harness := (true, "3a23908afc94484b8d6fad262aff427de691c14afc6098a98da1b14a3aab6d7a"), looks := true }, kinds := [], alts := [], laidByText := true, laidKinds := [.data, .data, .pinned], laidTests := true, laidLooks := .later }
def EntityEscapesCardSaid : Prop := Claim7.holds Tryd.pinned (.plain (OpenSpec.ofChange entityEscapesSpec)) entityEscapesCard

/-- THE TIED CARD OF 'knapsacklaw05.EntityBack'. -/
def entityBackCard : Claim7 := { stood := { row := entityBackRow, standIns := [], harness := (true, "3a23908afc94484b8d6fad262aff427de691c14afc6098a98da1b14a3aab6d7a"), looks := true }, kinds := [], alts := [], laidByText := true, laidKinds := [.data, .data, .pinned], laidTests := true, laidLooks := .later }
def EntityBackCardSaid : Prop := Claim7.holds Tryd.pinned (.plain (OpenSpec.ofChange entityBackSpec)) entityBackCard

/-- THE SECOND FORM's CARD OF 'knapsacklaw05.EntityNumbers'. -/
def entityNumbersUptoCard : Claim7 := { stood := { row := entityNumbersUptoRow, standIns := [], harness := (true, "3a23908afc94484b8d6fad262aff427de691c14afc6098a98da1b14a3aab6d7a"), looks := true }, kinds := [], alts := [], laidByText := true, laidKinds := [.data, .data, .pinned], laidTests := true, laidLooks := .later }
def EntityNumbersUptoCardSaid : Prop := Claim7.holds Tryd.pinned (.plain (OpenSpec.upto entityNumbersSpec)) entityNumbersUptoCard

/-- THE SECOND FORM's CARD OF 'knapsacklaw05.EntityNext'. -/
def entityNextUptoCard : Claim7 := { stood := { row := entityNextUptoRow, standIns := [], harness := (true, "3a23908afc94484b8d6fad262aff427de691c14afc6098a98da1b14a3aab6d7a"), looks := true }, kinds := [], alts := [], laidByText := true, laidKinds := [.data, .data, .pinned], laidTests := true, laidLooks := .later }
def EntityNextUptoCardSaid : Prop := Claim7.holds Tryd.pinned (.plain (OpenSpec.upto entityNextSpec)) entityNextUptoCard

/-- THE SECOND FORM's CARD OF 'knapsacklaw05.EntityDecodes'. -/
def entityDecodesUptoCard : Claim7 := { stood := { row := entityDecodesUptoRow, standIns := [], harness := (true, "3a23908afc94484b8d6fad262aff427de691c14afc6098a98da1b14a3aab6d7a"), looks := true }, kinds := [], alts := [], laidByText := true, laidKinds := [.data, .data, .pinned], laidTests := true, laidLooks := .later }
def EntityDecodesUptoCardSaid : Prop := Claim7.holds Tryd.pinned (.plain (OpenSpec.upto entityDecodesSpec)) entityDecodesUptoCard

/-- THE SECOND FORM's CARD OF 'knapsacklaw05.EntityPlain'. -/
def entityPlainUptoCard : Claim7 := { stood := { row := entityPlainUptoRow, standIns := [], harness := (true, "3a23908afc94484b8d6fad262aff427de691c14afc6098a98da1b14a3aab6d7a"), looks := true }, kinds := [], alts := [], laidByText := true, laidKinds := [.data, .data, .pinned], laidTests := true, laidLooks := .later }
def EntityPlainUptoCardSaid : Prop := Claim7.holds Tryd.pinned (.plain (OpenSpec.upto entityPlainSpec)) entityPlainUptoCard

/-- THE SECOND FORM's CARD OF 'knapsacklaw05.EntityNames'. -/
def entityNamesUptoCard : Claim7 := { stood := { row := entityNamesUptoRow, standIns := [], harness := (true, "3a23908afc94484b8d6fad262aff427de691c14afc6098a98da1b14a3aab6d7a"), looks := true }, kinds := [], alts := [], laidByText := true, laidKinds := [.data, .data, .pinned], laidTests := true, laidLooks := .later }
def EntityNamesUptoCardSaid : Prop := Claim7.holds Tryd.pinned (.plain (OpenSpec.upto entityNamesSpec)) entityNamesUptoCard

/-- THE SECOND FORM's CARD OF 'knapsacklaw05.EntityEscapes'. -/
def entityEscapesUptoCard : Claim7 := { stood := { row := entityEscapesUptoRow, standIns := [], harness := (true, "3a23908afc94484b8d6fad262aff427de691c14afc6098a98da1b14a3aab6d7a"), looks := true }, kinds := [], alts := [], laidByText := true, laidKinds := [.data, .data, .pinned], laidTests := true, laidLooks := .later }
def EntityEscapesUptoCardSaid : Prop := Claim7.holds Tryd.pinned (.plain (OpenSpec.upto entityEscapesSpec)) entityEscapesUptoCard

/-- THE SECOND FORM's CARD OF 'knapsacklaw05.EntityBack'. -/
def entityBackUptoCard : Claim7 := { stood := { row := entityBackUptoRow, standIns := [], harness := (true, "3a23908afc94484b8d6fad262aff427de691c14afc6098a98da1b14a3aab6d7a"), looks := true }, kinds := [], alts := [], laidByText := true, laidKinds := [.data, .data, .pinned], laidTests := true, laidLooks := .later }
def EntityBackUptoCardSaid : Prop := Claim7.holds Tryd.pinned (.plain (OpenSpec.upto entityBackSpec)) entityBackUptoCard
end Rows
end Go.Proofs.YtefijebbndnnjaaDoor
