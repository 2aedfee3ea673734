/-
  DERIVED. GIVEN WITH THE SEED: THE CARDS: each row of YtfdofkokiaapoaaGreatDoorRows.lean that lists a variable, with what it lists TIED to the program's text (the seventh form; the later family's looks); each row that meets fmt, with fmt's text TOLD by the authors' own Lean function (tested against real Go, not proved from fmt's source: count such statements apart). THE CARD IS WHAT COUNTS. Prove the row's statement (the work); the ties are given (YtfdofkokiaapoaaGreatDoorTie.lean); close each card by the builder's one call (the guide's Derived/Test/ToyasCard.lean, 'card_holds'). Laid BY PROGRAM, IN A SANDBOX (cutbox-door.mjs). By AI agents, Wed Nov 11 2026. No macro, syntax, notation, axiom, sorry.
-/
import Derived.Test.YtfdofkokiaapoaaGreatDoorRows
import GoSem.ClaimSeven
namespace Go.Proofs.YtfdofkokiaapoaaGreatDoor
namespace Rows

/-- THE TIED CARD OF 'knapsacklaw39.ObserveDelivers'. -/
def observeDeliversCard : Claim7 := { stood := { row := observeDeliversRow, standIns := [], harness := (true, "b92fdb386e97b58e2f08f237b8525c11d59832abc5bbcb1e81b7c51c50fbf62b"), looks := false }, kinds := [], alts := [], laidByText := true, laidKinds := [.data, .pinned], laidTests := true, laidLooks := .later }
def ObserveDeliversCardSaid : Prop := Claim7.holds Tryz.pinned (.plain (OpenSpec.ofChange observeDeliversSpec)) observeDeliversCard

/-- THE TIED CARD OF 'knapsacklaw39.ObserveDrops'. -/
def observeDropsCard : Claim7 := { stood := { row := observeDropsRow, standIns := [], harness := (true, "b92fdb386e97b58e2f08f237b8525c11d59832abc5bbcb1e81b7c51c50fbf62b"), looks := false }, kinds := [], alts := [], laidByText := true, laidKinds := [.data, .pinned], laidTests := true, laidLooks := .later }
def ObserveDropsCardSaid : Prop := Claim7.holds Tryz.pinned (.plain (OpenSpec.ofChange observeDropsSpec)) observeDropsCard

/-- THE SECOND FORM's CARD OF 'knapsacklaw39.ObserveDelivers'. -/
def observeDeliversUptoCard : Claim7 := { stood := { row := observeDeliversUptoRow, standIns := [], harness := (true, "b92fdb386e97b58e2f08f237b8525c11d59832abc5bbcb1e81b7c51c50fbf62b"), looks := false }, kinds := [], alts := [], laidByText := true, laidKinds := [.data, .pinned], laidTests := true, laidLooks := .later }
def ObserveDeliversUptoCardSaid : Prop := Claim7.holds Tryz.pinned (.plain (OpenSpec.upto observeDeliversSpec)) observeDeliversUptoCard

/-- THE SECOND FORM's CARD OF 'knapsacklaw39.ObserveDrops'. -/
def observeDropsUptoCard : Claim7 := { stood := { row := observeDropsUptoRow, standIns := [], harness := (true, "b92fdb386e97b58e2f08f237b8525c11d59832abc5bbcb1e81b7c51c50fbf62b"), looks := false }, kinds := [], alts := [], laidByText := true, laidKinds := [.data, .pinned], laidTests := true, laidLooks := .later }
def ObserveDropsUptoCardSaid : Prop := Claim7.holds Tryz.pinned (.plain (OpenSpec.upto observeDropsSpec)) observeDropsUptoCard
end Rows
end Go.Proofs.YtfdofkokiaapoaaGreatDoor
