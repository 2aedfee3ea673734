/-
  DERIVED. GIVEN WITH THE SEED: THE CARDS: each row of YtfelmdkeaacfeaaDoorRows.lean that lists a variable, with what it lists TIED to the program's text (the seventh form; the later family's looks); each row that meets fmt, with fmt's text TOLD by the authors' own Lean function (tested against real Go, not proved from fmt's source: count such statements apart). THE CARD IS WHAT COUNTS. Prove the row's statement (the work); the ties are given (YtfelmdkeaacfeaaDoorTie.lean); close each card by the builder's one call (the guide's Derived/Test/ToyasCard.lean, 'card_holds'). Laid BY PROGRAM, IN A SANDBOX (cutbox-door.mjs). By AI agents, Wed Nov 11 2026. No macro, syntax, notation, axiom, sorry.
-/
import Derived.Test.YtfelmdkeaacfeaaDoorRows
import GoSem.ClaimSeven
namespace Go.Proofs.YtfelmdkeaacfeaaDoor
namespace Rows

/-- THE TIED CARD OF 'knapsacklaw07.TreeDeep'. -/
def treeDeepCard : Claim7 := { stood := { row := treeDeepRow, standIns := [], harness := (true, "1cec719ae92b78edea61bb09fe193b46d555c187f7eb15ffecb4e60cbaba8150"), looks := false }, kinds := [], alts := [], laidByText := true, laidKinds := [.data, .pinned], laidTests := true, laidLooks := .later }
def TreeDeepCardSaid : Prop := Claim7.holds Tryd.pinned (.plain (OpenSpec.ofChange treeDeepSpec)) treeDeepCard

/-- THE SECOND FORM's CARD OF 'knapsacklaw07.TreeDeep'. -/
def treeDeepUptoCard : Claim7 := { stood := { row := treeDeepUptoRow, standIns := [], harness := (true, "1cec719ae92b78edea61bb09fe193b46d555c187f7eb15ffecb4e60cbaba8150"), looks := false }, kinds := [], alts := [], laidByText := true, laidKinds := [.data, .pinned], laidTests := true, laidLooks := .later }
def TreeDeepUptoCardSaid : Prop := Claim7.holds Tryd.pinned (.plain (OpenSpec.upto treeDeepSpec)) treeDeepUptoCard
end Rows
end Go.Proofs.YtfelmdkeaacfeaaDoor
