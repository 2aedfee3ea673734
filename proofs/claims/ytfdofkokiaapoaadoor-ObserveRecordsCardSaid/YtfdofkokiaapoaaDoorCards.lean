/-
  DERIVED. GIVEN WITH THE SEED: THE CARDS: each row of YtfdofkokiaapoaaDoorRows.lean that lists a variable, with what it lists TIED to the program's text (the seventh form; the later family's looks); each row that meets fmt, with fmt's text TOLD by the authors' own Lean function (tested against real Go, not proved from fmt's source: count such statements apart). THE CARD IS WHAT COUNTS. Prove the row's statement (the work); the ties are given (YtfdofkokiaapoaaDoorTie.lean); close each card by the builder's one call (the guide's Derived/Test/ToyasCard.lean, 'card_holds'). Laid BY PROGRAM, IN A SANDBOX (cutbox-door.mjs). By AI agents, Wed Nov 11 2026. No macro, syntax, notation, axiom, sorry.
-/
import Derived.Test.YtfdofkokiaapoaaDoorRows
import GoSem.ClaimSeven
namespace Go.Proofs.YtfdofkokiaapoaaDoor
namespace Rows

/-- THE TIED CARD OF 'knapsacklaw39.ObserveAll'. -/
def observeAllCard : Claim7 := { stood := { row := observeAllRow, standIns := [], harness := (true, "8b41c0187169191b2dc4467c260076f860724dc857c10a3aabe36a7eb54a6c1d"), looks := false }, kinds := [], alts := [], laidByText := true, laidKinds := [.data, .pinned], laidTests := true, laidLooks := .later }
def ObserveAllCardSaid : Prop := Claim7.holds Tryd.pinned (.plain (OpenSpec.ofChange observeAllSpec)) observeAllCard

/-- THE TIED CARD OF 'knapsacklaw39.ObserveRecords'. -/
def observeRecordsCard : Claim7 := { stood := { row := observeRecordsRow, standIns := [], harness := (true, "8b41c0187169191b2dc4467c260076f860724dc857c10a3aabe36a7eb54a6c1d"), looks := false }, kinds := [], alts := [], laidByText := true, laidKinds := [.data, .pinned], laidTests := true, laidLooks := .later }
def ObserveRecordsCardSaid : Prop := Claim7.holds Tryd.pinned (.plain (OpenSpec.ofChange observeRecordsSpec)) observeRecordsCard

/-- THE TIED CARD OF 'knapsacklaw39.ObserveDisconnects'. -/
def observeDisconnectsCard : Claim7 := { stood := { row := observeDisconnectsRow, standIns := [], harness := (true, "8b41c0187169191b2dc4467c260076f860724dc857c10a3aabe36a7eb54a6c1d"), looks := false }, kinds := [], alts := [], laidByText := true, laidKinds := [.data, .pinned], laidTests := true, laidLooks := .later }
def ObserveDisconnectsCardSaid : Prop := Claim7.holds Tryd.pinned (.plain (OpenSpec.ofChange observeDisconnectsSpec)) observeDisconnectsCard

/-- THE SECOND FORM's CARD OF 'knapsacklaw39.ObserveAll'. -/
def observeAllUptoCard : Claim7 := { stood := { row := observeAllUptoRow, standIns := [], harness := (true, "8b41c0187169191b2dc4467c260076f860724dc857c10a3aabe36a7eb54a6c1d"), looks := false }, kinds := [], alts := [], laidByText := true, laidKinds := [.data, .pinned], laidTests := true, laidLooks := .later }
def ObserveAllUptoCardSaid : Prop := Claim7.holds Tryd.pinned (.plain (OpenSpec.upto observeAllSpec)) observeAllUptoCard

/-- THE SECOND FORM's CARD OF 'knapsacklaw39.ObserveRecords'. -/
def observeRecordsUptoCard : Claim7 := { stood := { row := observeRecordsUptoRow, standIns := [], harness := (true, "8b41c0187169191b2dc4467c260076f860724dc857c10a3aabe36a7eb54a6c1d"), looks := false }, kinds := [], alts := [], laidByText := true, laidKinds := [.data, .pinned], laidTests := true, laidLooks := .later }
def ObserveRecordsUptoCardSaid : Prop := Claim7.holds Tryd.pinned (.plain (OpenSpec.upto observeRecordsSpec)) observeRecordsUptoCard

/-- THE SECOND FORM's CARD OF 'knapsacklaw39.ObserveDisconnects'. -/
def observeDisconnectsUptoCard : Claim7 := { stood := { row := observeDisconnectsUptoRow, standIns := [], harness := (true, "8b41c0187169191b2dc4467c260076f860724dc857c10a3aabe36a7eb54a6c1d"), looks := false }, kinds := [], alts := [], laidByText := true, laidKinds := [.data, .pinned], laidTests := true, laidLooks := .later }
def ObserveDisconnectsUptoCardSaid : Prop := Claim7.holds Tryd.pinned (.plain (OpenSpec.upto observeDisconnectsSpec)) observeDisconnectsUptoCard
end Rows
end Go.Proofs.YtfdofkokiaapoaaDoor
