/-
  NARROWER THAN 'FOR EVERY INPUT', by the rows' own cells (each row's printed sentence says how): TreeModel: laid · TreeUndo: laid · TreeErrors: laid · TreeSalts: laid · TreeCopies: laid · TreeValid: laid · TreeOrders: laid.
  DERIVED. THE GIVEN ROWS OF THIS SEAT. 7 by the template 'for every input the law returns true; each argument reads behind the call as it read before'; 0 by the template 'total and deterministic' (their statements: YtfelmdkeaacfeaaGreatDoorTotals.lean).
  GIVEN WITH THE SEED: the statements are not yours to turn. If you find one false, say at which input.
  Laid BY PROGRAM, IN A SANDBOX (cutbox-rows.mjs): the forced cells as the released guide's own fill.sh prints them over the translation 949bdab604205e63… (all of the seat's roots in one cut). By AI agents, Wed Nov 11 2026. No macro, syntax, notation, axiom, sorry.
-/
import Derived.Test.YtfelmdkeaacfeaaGreatDoorChecked
import GoSem.PinnedTables
import GoSem.Claim
import GoSem.ClaimJoined
import GoSem.ClaimMapViews
import Derived.JoinedTies
import Derived.KernelRfl
namespace Go.Proofs.YtfelmdkeaacfeaaGreatDoor
/- THE CELL 'sum', in the pinned program and in every row, IS THE sha256 OF THE DUMP (.gsa) THAT YtfelmdkeaacfeaaGreatDoorProg.lean LOADS. Nothing in Lean hashes anything: it is a label: what it is worth is what the hold of that sum in a sandbox is worth. -/
noncomputable def Tryz.pinned : Pinned := { name := "ytfelmdkeaacfeaagreatdoor", sum := "949bdab604205e6307003e2c5f740cf63356eb0262c87d60098a33918a3d73cc", checked := Tryz.checked }
namespace Rows
def none {H : Type} : Left H := { results := [], args := [] }

/- WHAT THE LISTED PACKAGE-LEVEL VARIABLES READ AS WHEN THE CALL BEGINS. Each datum BY PROGRAM (the guide's laid-datum.mjs) off the statement by which the dump's own 'gosem.cut.vars' lays the variable. In a bare row this is a premise. The card (YtfelmdkeaacfeaaGreatDoorCards.lean) ties it to the program's text. -/
def laid_unicode_utf8_acceptRanges {H : Type} : DataW H := .agg [.agg [.lit (.int .u8 128), .lit (.int .u8 191)], .agg [.lit (.int .u8 160), .lit (.int .u8 191)], .agg [.lit (.int .u8 128), .lit (.int .u8 159)], .agg [.lit (.int .u8 144), .lit (.int .u8 191)], .agg [.lit (.int .u8 128), .lit (.int .u8 143)], .agg [.lit (.int .u8 0), .lit (.int .u8 0)], .agg [.lit (.int .u8 0), .lit (.int .u8 0)], .agg [.lit (.int .u8 0), .lit (.int .u8 0)], .agg [.lit (.int .u8 0), .lit (.int .u8 0)], .agg [.lit (.int .u8 0), .lit (.int .u8 0)], .agg [.lit (.int .u8 0), .lit (.int .u8 0)], .agg [.lit (.int .u8 0), .lit (.int .u8 0)], .agg [.lit (.int .u8 0), .lit (.int .u8 0)], .agg [.lit (.int .u8 0), .lit (.int .u8 0)], .agg [.lit (.int .u8 0), .lit (.int .u8 0)], .agg [.lit (.int .u8 0), .lit (.int .u8 0)]]
/-- One of Go's own tables, pinned by name: the form's constant. -/
def laid_unicode_utf8_first : DataW Unit := Go.Pinned.utf8First

/-- 'knapsacklaw07.TreeModel': WHATEVER THE INPUT: true; the input reads as it did. -/
def treeModelSpec : ChangeSpec := { name := "treeModel", fn := fun _ => fun
  | [d] => { results := [.lit (.bool true)], args := [d] }
  | _ => none }
def treeModelRow : OpenClaim := { program := "ytfelmdkeaacfeaagreatdoor", sum := "949bdab604205e6307003e2c5f740cf63356eb0262c87d60098a33918a3d73cc", func := "knapsack/knapsacklaw07.TreeModel", spec := "treeModel", inPlace := ["internal/bytealg.IndexByteString", "internal/bytealg.IndexString", "internal/abi.NoEscape"], unfollowed := true, recurses := true, named := ["unicode/utf8.first", "unicode/utf8.acceptRanges", "internal/bytealg.MaxLen"], apart := false, laid := [("unicode/utf8.acceptRanges", laid_unicode_utf8_acceptRanges), ("unicode/utf8.first", laid_unicode_utf8_first)] }
def TreeModelSaid : Prop := treeModelRow.holds Tryz.pinned (OpenSpec.ofChange treeModelSpec)

/-- ITS FALSE NEIGHBOUR: 'it returns false'. Refute it at one input. -/
def treeModelWrong : ChangeSpec := { name := "treeModel", fn := fun _ => fun
  | [d] => { results := [.lit (.bool false)], args := [d] }
  | _ => none }
def TreeModelWrongFalsely : Prop := treeModelRow.holds Tryz.pinned (OpenSpec.ofChange treeModelWrong)

/-- 'knapsacklaw07.TreeUndo': WHATEVER THE INPUT: true; the input reads as it did. -/
def treeUndoSpec : ChangeSpec := { name := "treeUndo", fn := fun _ => fun
  | [d1, d2] => { results := [.lit (.bool true)], args := [d1, d2] }
  | _ => none }
def treeUndoRow : OpenClaim := { program := "ytfelmdkeaacfeaagreatdoor", sum := "949bdab604205e6307003e2c5f740cf63356eb0262c87d60098a33918a3d73cc", func := "knapsack/knapsacklaw07.TreeUndo", spec := "treeUndo", inPlace := ["internal/bytealg.IndexByteString", "internal/bytealg.IndexString", "internal/abi.NoEscape"], unfollowed := true, recurses := true, named := ["unicode/utf8.first", "unicode/utf8.acceptRanges", "internal/bytealg.MaxLen"], apart := false, laid := [("unicode/utf8.acceptRanges", laid_unicode_utf8_acceptRanges), ("unicode/utf8.first", laid_unicode_utf8_first)] }
def TreeUndoSaid : Prop := treeUndoRow.holds Tryz.pinned (OpenSpec.ofChange treeUndoSpec)

/-- ITS FALSE NEIGHBOUR: 'it returns false'. Refute it at one input. -/
def treeUndoWrong : ChangeSpec := { name := "treeUndo", fn := fun _ => fun
  | [d1, d2] => { results := [.lit (.bool false)], args := [d1, d2] }
  | _ => none }
def TreeUndoWrongFalsely : Prop := treeUndoRow.holds Tryz.pinned (OpenSpec.ofChange treeUndoWrong)

/-- 'knapsacklaw07.TreeErrors': WHATEVER THE INPUT: true; the input reads as it did. -/
def treeErrorsSpec : ChangeSpec := { name := "treeErrors", fn := fun _ => fun
  | [d1, d2, d3] => { results := [.lit (.bool true)], args := [d1, d2, d3] }
  | _ => none }
def treeErrorsRow : OpenClaim := { program := "ytfelmdkeaacfeaagreatdoor", sum := "949bdab604205e6307003e2c5f740cf63356eb0262c87d60098a33918a3d73cc", func := "knapsack/knapsacklaw07.TreeErrors", spec := "treeErrors", inPlace := ["internal/bytealg.IndexByteString", "internal/bytealg.IndexString", "internal/abi.NoEscape"], unfollowed := true, recurses := true, named := ["unicode/utf8.first", "unicode/utf8.acceptRanges", "internal/bytealg.MaxLen"], apart := false, laid := [("unicode/utf8.acceptRanges", laid_unicode_utf8_acceptRanges), ("unicode/utf8.first", laid_unicode_utf8_first)] }
def TreeErrorsSaid : Prop := treeErrorsRow.holds Tryz.pinned (OpenSpec.ofChange treeErrorsSpec)

/-- ITS FALSE NEIGHBOUR: 'it returns false'. Refute it at one input. -/
def treeErrorsWrong : ChangeSpec := { name := "treeErrors", fn := fun _ => fun
  | [d1, d2, d3] => { results := [.lit (.bool false)], args := [d1, d2, d3] }
  | _ => none }
def TreeErrorsWrongFalsely : Prop := treeErrorsRow.holds Tryz.pinned (OpenSpec.ofChange treeErrorsWrong)

/-- 'knapsacklaw07.TreeSalts': WHATEVER THE INPUT: true; the input reads as it did. -/
def treeSaltsSpec : ChangeSpec := { name := "treeSalts", fn := fun _ => fun
  | [d1, d2, d3] => { results := [.lit (.bool true)], args := [d1, d2, d3] }
  | _ => none }
def treeSaltsRow : OpenClaim := { program := "ytfelmdkeaacfeaagreatdoor", sum := "949bdab604205e6307003e2c5f740cf63356eb0262c87d60098a33918a3d73cc", func := "knapsack/knapsacklaw07.TreeSalts", spec := "treeSalts", inPlace := ["internal/bytealg.IndexByteString", "internal/bytealg.IndexString", "internal/abi.NoEscape"], unfollowed := true, recurses := true, named := ["unicode/utf8.first", "unicode/utf8.acceptRanges", "internal/bytealg.MaxLen"], apart := false, laid := [("unicode/utf8.acceptRanges", laid_unicode_utf8_acceptRanges), ("unicode/utf8.first", laid_unicode_utf8_first)] }
def TreeSaltsSaid : Prop := treeSaltsRow.holds Tryz.pinned (OpenSpec.ofChange treeSaltsSpec)

/-- ITS FALSE NEIGHBOUR: 'it returns false'. Refute it at one input. -/
def treeSaltsWrong : ChangeSpec := { name := "treeSalts", fn := fun _ => fun
  | [d1, d2, d3] => { results := [.lit (.bool false)], args := [d1, d2, d3] }
  | _ => none }
def TreeSaltsWrongFalsely : Prop := treeSaltsRow.holds Tryz.pinned (OpenSpec.ofChange treeSaltsWrong)

/-- 'knapsacklaw07.TreeCopies': WHATEVER THE INPUT: true; the input reads as it did. -/
def treeCopiesSpec : ChangeSpec := { name := "treeCopies", fn := fun _ => fun
  | [d1, d2, d3] => { results := [.lit (.bool true)], args := [d1, d2, d3] }
  | _ => none }
def treeCopiesRow : OpenClaim := { program := "ytfelmdkeaacfeaagreatdoor", sum := "949bdab604205e6307003e2c5f740cf63356eb0262c87d60098a33918a3d73cc", func := "knapsack/knapsacklaw07.TreeCopies", spec := "treeCopies", inPlace := ["internal/bytealg.IndexByteString", "internal/bytealg.IndexString", "internal/abi.NoEscape"], unfollowed := true, recurses := true, named := ["unicode/utf8.first", "unicode/utf8.acceptRanges", "internal/bytealg.MaxLen"], apart := false, laid := [("unicode/utf8.acceptRanges", laid_unicode_utf8_acceptRanges), ("unicode/utf8.first", laid_unicode_utf8_first)] }
def TreeCopiesSaid : Prop := treeCopiesRow.holds Tryz.pinned (OpenSpec.ofChange treeCopiesSpec)

/-- ITS FALSE NEIGHBOUR: 'it returns false'. Refute it at one input. -/
def treeCopiesWrong : ChangeSpec := { name := "treeCopies", fn := fun _ => fun
  | [d1, d2, d3] => { results := [.lit (.bool false)], args := [d1, d2, d3] }
  | _ => none }
def TreeCopiesWrongFalsely : Prop := treeCopiesRow.holds Tryz.pinned (OpenSpec.ofChange treeCopiesWrong)

/-- 'knapsacklaw07.TreeValid': WHATEVER THE INPUT: true; the input reads as it did. -/
def treeValidSpec : ChangeSpec := { name := "treeValid", fn := fun _ => fun
  | [d] => { results := [.lit (.bool true)], args := [d] }
  | _ => none }
def treeValidRow : OpenClaim := { program := "ytfelmdkeaacfeaagreatdoor", sum := "949bdab604205e6307003e2c5f740cf63356eb0262c87d60098a33918a3d73cc", func := "knapsack/knapsacklaw07.TreeValid", spec := "treeValid", inPlace := ["internal/bytealg.IndexByteString", "internal/bytealg.IndexString", "internal/abi.NoEscape"], unfollowed := true, recurses := true, named := ["unicode/utf8.first", "unicode/utf8.acceptRanges", "internal/bytealg.MaxLen"], apart := false, laid := [("unicode/utf8.acceptRanges", laid_unicode_utf8_acceptRanges), ("unicode/utf8.first", laid_unicode_utf8_first)] }
def TreeValidSaid : Prop := treeValidRow.holds Tryz.pinned (OpenSpec.ofChange treeValidSpec)

/-- ITS FALSE NEIGHBOUR: 'it returns false'. Refute it at one input. -/
def treeValidWrong : ChangeSpec := { name := "treeValid", fn := fun _ => fun
  | [d] => { results := [.lit (.bool false)], args := [d] }
  | _ => none }
def TreeValidWrongFalsely : Prop := treeValidRow.holds Tryz.pinned (OpenSpec.ofChange treeValidWrong)

/-- 'knapsacklaw07.TreeOrders': WHATEVER THE INPUT: true; the input reads as it did. -/
def treeOrdersSpec : ChangeSpec := { name := "treeOrders", fn := fun _ => fun
  | [d1, d2, d3] => { results := [.lit (.bool true)], args := [d1, d2, d3] }
  | _ => none }
def treeOrdersRow : OpenClaim := { program := "ytfelmdkeaacfeaagreatdoor", sum := "949bdab604205e6307003e2c5f740cf63356eb0262c87d60098a33918a3d73cc", func := "knapsack/knapsacklaw07.TreeOrders", spec := "treeOrders", inPlace := ["internal/bytealg.IndexByteString", "internal/bytealg.IndexString", "internal/abi.NoEscape"], unfollowed := true, recurses := true, named := ["unicode/utf8.first", "unicode/utf8.acceptRanges", "internal/bytealg.MaxLen"], apart := false, laid := [("unicode/utf8.acceptRanges", laid_unicode_utf8_acceptRanges), ("unicode/utf8.first", laid_unicode_utf8_first)] }
def TreeOrdersSaid : Prop := treeOrdersRow.holds Tryz.pinned (OpenSpec.ofChange treeOrdersSpec)

/-- ITS FALSE NEIGHBOUR: 'it returns false'. Refute it at one input. -/
def treeOrdersWrong : ChangeSpec := { name := "treeOrders", fn := fun _ => fun
  | [d1, d2, d3] => { results := [.lit (.bool false)], args := [d1, d2, d3] }
  | _ => none }
def TreeOrdersWrongFalsely : Prop := treeOrdersRow.holds Tryz.pinned (OpenSpec.ofChange treeOrdersWrong)

/- THE SECOND FORM. 'bulk': how many values and letters a reading holds, each counted each time it is reached (what is shared counts as often as it is met; a slice's spare places count too). A statement '..UptoSaid' is the law's where the arguments, and the package variables that the reading takes, are together of bulk at most 1048576: NARROWER than '..Said'. Prove '..Said' where nothing that the law and all that it calls make is longer than what came in: it says more and counts as full. Else prove '..UptoSaid'. A law counts once. -/
mutual
def uptoBulk {H : Type} : DataW H → Nat
  | .lit (.string bytes) => bytes.length + 1
  | .lit _ => 1
  | .nil => 1
  | .ptr d => uptoBulk d + 1
  | .slice elems spare => uptoBulkAll elems + uptoBulkAll spare + 1
  | .agg parts => uptoBulkAll parts + 1
  | .iface _ d => uptoBulk d + 1
  | .map entries => uptoBulkEntries entries + 1
  | .held _ => 1
def uptoBulkAll {H : Type} : List (DataW H) → Nat
  | [] => 0
  | d :: r => uptoBulk d + uptoBulkAll r
def uptoBulkEntries {H : Type} : List (Lit × DataW H) → Nat
  | [] => 0
  | x :: r => uptoBulkEntry x + uptoBulkEntries r
def uptoBulkEntry {H : Type} : Lit × DataW H → Nat
  | (.string bytes, d) => bytes.length + uptoBulk d + 1
  | (_, d) => uptoBulk d + 1
 end
def uptoSmall : (H : Type) → List (DataW H) → Bool := fun _ ds => decide (uptoBulkAll ds ≤ 1048576)
def OpenSpec.upto (s : _root_.Go.ChangeSpec) : _root_.Go.OpenSpec := { _root_.Go.OpenSpec.ofChange s with cond := some uptoSmall }

/-- 'knapsacklaw07.TreeModel', WHERE WHAT IT READS IS OF BULK AT MOST 1048576: true; the input reads as it did. -/
def treeModelUptoRow : OpenClaim := { program := "ytfelmdkeaacfeaagreatdoor", sum := "949bdab604205e6307003e2c5f740cf63356eb0262c87d60098a33918a3d73cc", func := "knapsack/knapsacklaw07.TreeModel", spec := "treeModel", inPlace := ["internal/bytealg.IndexByteString", "internal/bytealg.IndexString", "internal/abi.NoEscape"], unfollowed := true, recurses := true, named := ["unicode/utf8.first", "unicode/utf8.acceptRanges", "internal/bytealg.MaxLen"], apart := false, laid := [("unicode/utf8.acceptRanges", laid_unicode_utf8_acceptRanges), ("unicode/utf8.first", laid_unicode_utf8_first)], narrowed := true }
def TreeModelUptoSaid : Prop := treeModelUptoRow.holds Tryz.pinned (OpenSpec.upto treeModelSpec)

/-- 'knapsacklaw07.TreeUndo', WHERE WHAT IT READS IS OF BULK AT MOST 1048576: true; the input reads as it did. -/
def treeUndoUptoRow : OpenClaim := { program := "ytfelmdkeaacfeaagreatdoor", sum := "949bdab604205e6307003e2c5f740cf63356eb0262c87d60098a33918a3d73cc", func := "knapsack/knapsacklaw07.TreeUndo", spec := "treeUndo", inPlace := ["internal/bytealg.IndexByteString", "internal/bytealg.IndexString", "internal/abi.NoEscape"], unfollowed := true, recurses := true, named := ["unicode/utf8.first", "unicode/utf8.acceptRanges", "internal/bytealg.MaxLen"], apart := false, laid := [("unicode/utf8.acceptRanges", laid_unicode_utf8_acceptRanges), ("unicode/utf8.first", laid_unicode_utf8_first)], narrowed := true }
def TreeUndoUptoSaid : Prop := treeUndoUptoRow.holds Tryz.pinned (OpenSpec.upto treeUndoSpec)

/-- 'knapsacklaw07.TreeErrors', WHERE WHAT IT READS IS OF BULK AT MOST 1048576: true; the input reads as it did. -/
def treeErrorsUptoRow : OpenClaim := { program := "ytfelmdkeaacfeaagreatdoor", sum := "949bdab604205e6307003e2c5f740cf63356eb0262c87d60098a33918a3d73cc", func := "knapsack/knapsacklaw07.TreeErrors", spec := "treeErrors", inPlace := ["internal/bytealg.IndexByteString", "internal/bytealg.IndexString", "internal/abi.NoEscape"], unfollowed := true, recurses := true, named := ["unicode/utf8.first", "unicode/utf8.acceptRanges", "internal/bytealg.MaxLen"], apart := false, laid := [("unicode/utf8.acceptRanges", laid_unicode_utf8_acceptRanges), ("unicode/utf8.first", laid_unicode_utf8_first)], narrowed := true }
def TreeErrorsUptoSaid : Prop := treeErrorsUptoRow.holds Tryz.pinned (OpenSpec.upto treeErrorsSpec)

/-- 'knapsacklaw07.TreeSalts', WHERE WHAT IT READS IS OF BULK AT MOST 1048576: true; the input reads as it did. -/
def treeSaltsUptoRow : OpenClaim := { program := "ytfelmdkeaacfeaagreatdoor", sum := "949bdab604205e6307003e2c5f740cf63356eb0262c87d60098a33918a3d73cc", func := "knapsack/knapsacklaw07.TreeSalts", spec := "treeSalts", inPlace := ["internal/bytealg.IndexByteString", "internal/bytealg.IndexString", "internal/abi.NoEscape"], unfollowed := true, recurses := true, named := ["unicode/utf8.first", "unicode/utf8.acceptRanges", "internal/bytealg.MaxLen"], apart := false, laid := [("unicode/utf8.acceptRanges", laid_unicode_utf8_acceptRanges), ("unicode/utf8.first", laid_unicode_utf8_first)], narrowed := true }
def TreeSaltsUptoSaid : Prop := treeSaltsUptoRow.holds Tryz.pinned (OpenSpec.upto treeSaltsSpec)

/-- 'knapsacklaw07.TreeCopies', WHERE WHAT IT READS IS OF BULK AT MOST 1048576: true; the input reads as it did. -/
def treeCopiesUptoRow : OpenClaim := { program := "ytfelmdkeaacfeaagreatdoor", sum := "949bdab604205e6307003e2c5f740cf63356eb0262c87d60098a33918a3d73cc", func := "knapsack/knapsacklaw07.TreeCopies", spec := "treeCopies", inPlace := ["internal/bytealg.IndexByteString", "internal/bytealg.IndexString", "internal/abi.NoEscape"], unfollowed := true, recurses := true, named := ["unicode/utf8.first", "unicode/utf8.acceptRanges", "internal/bytealg.MaxLen"], apart := false, laid := [("unicode/utf8.acceptRanges", laid_unicode_utf8_acceptRanges), ("unicode/utf8.first", laid_unicode_utf8_first)], narrowed := true }
def TreeCopiesUptoSaid : Prop := treeCopiesUptoRow.holds Tryz.pinned (OpenSpec.upto treeCopiesSpec)

/-- 'knapsacklaw07.TreeValid', WHERE WHAT IT READS IS OF BULK AT MOST 1048576: true; the input reads as it did. -/
def treeValidUptoRow : OpenClaim := { program := "ytfelmdkeaacfeaagreatdoor", sum := "949bdab604205e6307003e2c5f740cf63356eb0262c87d60098a33918a3d73cc", func := "knapsack/knapsacklaw07.TreeValid", spec := "treeValid", inPlace := ["internal/bytealg.IndexByteString", "internal/bytealg.IndexString", "internal/abi.NoEscape"], unfollowed := true, recurses := true, named := ["unicode/utf8.first", "unicode/utf8.acceptRanges", "internal/bytealg.MaxLen"], apart := false, laid := [("unicode/utf8.acceptRanges", laid_unicode_utf8_acceptRanges), ("unicode/utf8.first", laid_unicode_utf8_first)], narrowed := true }
def TreeValidUptoSaid : Prop := treeValidUptoRow.holds Tryz.pinned (OpenSpec.upto treeValidSpec)

/-- 'knapsacklaw07.TreeOrders', WHERE WHAT IT READS IS OF BULK AT MOST 1048576: true; the input reads as it did. -/
def treeOrdersUptoRow : OpenClaim := { program := "ytfelmdkeaacfeaagreatdoor", sum := "949bdab604205e6307003e2c5f740cf63356eb0262c87d60098a33918a3d73cc", func := "knapsack/knapsacklaw07.TreeOrders", spec := "treeOrders", inPlace := ["internal/bytealg.IndexByteString", "internal/bytealg.IndexString", "internal/abi.NoEscape"], unfollowed := true, recurses := true, named := ["unicode/utf8.first", "unicode/utf8.acceptRanges", "internal/bytealg.MaxLen"], apart := false, laid := [("unicode/utf8.acceptRanges", laid_unicode_utf8_acceptRanges), ("unicode/utf8.first", laid_unicode_utf8_first)], narrowed := true }
def TreeOrdersUptoSaid : Prop := treeOrdersUptoRow.holds Tryz.pinned (OpenSpec.upto treeOrdersSpec)

end Rows
end Go.Proofs.YtfelmdkeaacfeaaGreatDoor
