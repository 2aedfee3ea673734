/-
  DERIVED. GIVEN WITH THE SEED: THE CARDS: each row of YtfelmdkeaacfeaaGreatDoorRows.lean that lists a variable, with what it lists TIED to the program's text (the seventh form; the later family's looks); each row that meets fmt, with fmt's text TOLD by the authors' own Lean function (tested against real Go, not proved from fmt's source: count such statements apart). THE CARD IS WHAT COUNTS. Prove the row's statement (the work); the ties are given (YtfelmdkeaacfeaaGreatDoorTie.lean); close each card by the builder's one call (the guide's Derived/Test/ToyasCard.lean, 'card_holds'). Laid BY PROGRAM, IN A SANDBOX (cutbox-door.mjs). By AI agents, Wed Nov 11 2026. No macro, syntax, notation, axiom, sorry.
-/
import Derived.Test.YtfelmdkeaacfeaaGreatDoorRows
import GoSem.ClaimSeven
namespace Go.Proofs.YtfelmdkeaacfeaaGreatDoor
namespace Rows

/-- THE TIED CARD OF 'knapsacklaw07.TreeModel'. -/
def treeModelCard : Claim7 := { stood := { row := treeModelRow, standIns := [], harness := (true, "244bbe5b851c37a9353f6ca85076f077b04ed62d76998074ace80c1ce47aaa66"), looks := false }, kinds := [], alts := [], laidByText := true, laidKinds := [.data, .pinned], laidTests := true, laidLooks := .later }
def TreeModelCardSaid : Prop := Claim7.holds Tryz.pinned (.plain (OpenSpec.ofChange treeModelSpec)) treeModelCard

/-- THE TIED CARD OF 'knapsacklaw07.TreeUndo'. -/
def treeUndoCard : Claim7 := { stood := { row := treeUndoRow, standIns := [], harness := (true, "244bbe5b851c37a9353f6ca85076f077b04ed62d76998074ace80c1ce47aaa66"), looks := false }, kinds := [], alts := [], laidByText := true, laidKinds := [.data, .pinned], laidTests := true, laidLooks := .later }
def TreeUndoCardSaid : Prop := Claim7.holds Tryz.pinned (.plain (OpenSpec.ofChange treeUndoSpec)) treeUndoCard

/-- THE TIED CARD OF 'knapsacklaw07.TreeErrors'. -/
def treeErrorsCard : Claim7 := { stood := { row := treeErrorsRow, standIns := [], harness := (true, "244bbe5b851c37a9353f6ca85076f077b04ed62d76998074ace80c1ce47aaa66"), looks := false }, kinds := [], alts := [], laidByText := true, laidKinds := [.data, .pinned], laidTests := true, laidLooks := .later }
def TreeErrorsCardSaid : Prop := Claim7.holds Tryz.pinned (.plain (OpenSpec.ofChange treeErrorsSpec)) treeErrorsCard

/-- THE TIED CARD OF 'knapsacklaw07.TreeSalts'. -/
def treeSaltsCard : Claim7 := { stood := { row := treeSaltsRow, standIns := [], harness := (true, "244bbe5b851c37a9353f6ca85076f077b04ed62d76998074ace80c1ce47aaa66"), looks := false }, kinds := [], alts := [], laidByText := true, laidKinds := [.data, .pinned], laidTests := true, laidLooks := .later }
def TreeSaltsCardSaid : Prop := Claim7.holds Tryz.pinned (.plain (OpenSpec.ofChange treeSaltsSpec)) treeSaltsCard

/-- THE TIED CARD OF 'knapsacklaw07.TreeCopies'. -/
def treeCopiesCard : Claim7 := { stood := { row := treeCopiesRow, standIns := [], harness := (true, "244bbe5b851c37a9353f6ca85076f077b04ed62d76998074ace80c1ce47aaa66"), looks := false }, kinds := [], alts := [], laidByText := true, laidKinds := [.data, .pinned], laidTests := true, laidLooks := .later }
def TreeCopiesCardSaid : Prop := Claim7.holds Tryz.pinned (.plain (OpenSpec.ofChange treeCopiesSpec)) treeCopiesCard

/-- THE TIED CARD OF 'knapsacklaw07.TreeValid'. -/
def treeValidCard : Claim7 := { stood := { row := treeValidRow, standIns := [], harness := (true, "244bbe5b851c37a9353f6ca85076f077b04ed62d76998074ace80c1ce47aaa66"), looks := false }, kinds := [], alts := [], laidByText := true, laidKinds := [.data, .pinned], laidTests := true, laidLooks := .later }
def TreeValidCardSaid : Prop := Claim7.holds Tryz.pinned (.plain (OpenSpec.ofChange treeValidSpec)) treeValidCard

/-- THE TIED CARD OF 'knapsacklaw07.TreeOrders'. -/
def treeOrdersCard : Claim7 := { stood := { row := treeOrdersRow, standIns := [], harness := (true, "244bbe5b851c37a9353f6ca85076f077b04ed62d76998074ace80c1ce47aaa66"), looks := false }, kinds := [], alts := [], laidByText := true, laidKinds := [.data, .pinned], laidTests := true, laidLooks := .later }
def TreeOrdersCardSaid : Prop := Claim7.holds Tryz.pinned (.plain (OpenSpec.ofChange treeOrdersSpec)) treeOrdersCard

/-- THE SECOND FORM's CARD OF 'knapsacklaw07.TreeModel'. -/
def treeModelUptoCard : Claim7 := { stood := { row := treeModelUptoRow, standIns := [], harness := (true, "244bbe5b851c37a9353f6ca85076f077b04ed62d76998074ace80c1ce47aaa66"), looks := false }, kinds := [], alts := [], laidByText := true, laidKinds := [.data, .pinned], laidTests := true, laidLooks := .later }
def TreeModelUptoCardSaid : Prop := Claim7.holds Tryz.pinned (.plain (OpenSpec.upto treeModelSpec)) treeModelUptoCard

/-- THE SECOND FORM's CARD OF 'knapsacklaw07.TreeUndo'. -/
def treeUndoUptoCard : Claim7 := { stood := { row := treeUndoUptoRow, standIns := [], harness := (true, "244bbe5b851c37a9353f6ca85076f077b04ed62d76998074ace80c1ce47aaa66"), looks := false }, kinds := [], alts := [], laidByText := true, laidKinds := [.data, .pinned], laidTests := true, laidLooks := .later }
def TreeUndoUptoCardSaid : Prop := Claim7.holds Tryz.pinned (.plain (OpenSpec.upto treeUndoSpec)) treeUndoUptoCard

/-- THE SECOND FORM's CARD OF 'knapsacklaw07.TreeErrors'. -/
def treeErrorsUptoCard : Claim7 := { stood := { row := treeErrorsUptoRow, standIns := [], harness := (true, "244bbe5b851c37a9353f6ca85076f077b04ed62d76998074ace80c1ce47aaa66"), looks := false }, kinds := [], alts := [], laidByText := true, laidKinds := [.data, .pinned], laidTests := true, laidLooks := .later }
def TreeErrorsUptoCardSaid : Prop := Claim7.holds Tryz.pinned (.plain (OpenSpec.upto treeErrorsSpec)) treeErrorsUptoCard

/-- THE SECOND FORM's CARD OF 'knapsacklaw07.TreeSalts'. -/
def treeSaltsUptoCard : Claim7 := { stood := { row := treeSaltsUptoRow, standIns := [], harness := (true, "244bbe5b851c37a9353f6ca85076f077b04ed62d76998074ace80c1ce47aaa66"), looks := false }, kinds := [], alts := [], laidByText := true, laidKinds := [.data, .pinned], laidTests := true, laidLooks := .later }
def TreeSaltsUptoCardSaid : Prop := Claim7.holds Tryz.pinned (.plain (OpenSpec.upto treeSaltsSpec)) treeSaltsUptoCard

/-- THE SECOND FORM's CARD OF 'knapsacklaw07.TreeCopies'. -/
def treeCopiesUptoCard : Claim7 := { stood := { row := treeCopiesUptoRow, standIns := [], harness := (true, "244bbe5b851c37a9353f6ca85076f077b04ed62d76998074ace80c1ce47aaa66"), looks := false }, kinds := [], alts := [], laidByText := true, laidKinds := [.data, .pinned], laidTests := true, laidLooks := .later }
def TreeCopiesUptoCardSaid : Prop := Claim7.holds Tryz.pinned (.plain (OpenSpec.upto treeCopiesSpec)) treeCopiesUptoCard

/-- THE SECOND FORM's CARD OF 'knapsacklaw07.TreeValid'. -/
def treeValidUptoCard : Claim7 := { stood := { row := treeValidUptoRow, standIns := [], harness := (true, "244bbe5b851c37a9353f6ca85076f077b04ed62d76998074ace80c1ce47aaa66"), looks := false }, kinds := [], alts := [], laidByText := true, laidKinds := [.data, .pinned], laidTests := true, laidLooks := .later }
def TreeValidUptoCardSaid : Prop := Claim7.holds Tryz.pinned (.plain (OpenSpec.upto treeValidSpec)) treeValidUptoCard

/-- THE SECOND FORM's CARD OF 'knapsacklaw07.TreeOrders'. -/
def treeOrdersUptoCard : Claim7 := { stood := { row := treeOrdersUptoRow, standIns := [], harness := (true, "244bbe5b851c37a9353f6ca85076f077b04ed62d76998074ace80c1ce47aaa66"), looks := false }, kinds := [], alts := [], laidByText := true, laidKinds := [.data, .pinned], laidTests := true, laidLooks := .later }
def TreeOrdersUptoCardSaid : Prop := Claim7.holds Tryz.pinned (.plain (OpenSpec.upto treeOrdersSpec)) treeOrdersUptoCard
end Rows
end Go.Proofs.YtfelmdkeaacfeaaGreatDoor
