/-
  NARROWER THAN 'FOR EVERY INPUT', by the rows' own cells (each row's printed sentence says how): EntityNumbers: laid · EntityNext: laid · EntityDecodes: laid · EntityPlain: laid · EntityNames: laid · EntityEscapes: laid · EntityBack: laid.
  DERIVED. THE GIVEN ROWS OF THIS SEAT. 7 by the template 'for every input the law returns true; each argument reads behind the call as it read before'; 0 by the template 'total and deterministic' (their statements: YtefijebbndnnjaaDoorTotals.lean).
  GIVEN WITH THE SEED: the statements are not yours to turn. If you find one false, say at which input.
  Laid BY PROGRAM, IN A SANDBOX (cutbox-rows.mjs): the forced cells as the released guide's own fill.sh prints them over the translation 7ba0d88e94d86e83… (all of the seat's roots in one cut). By AI agents, Wed Nov 11 2026. No macro, syntax, notation, axiom, sorry.
-/
import Derived.Test.YtefijebbndnnjaaDoorChecked
import GoSem.PinnedTables
import GoSem.Claim
import GoSem.ClaimJoined
import GoSem.ClaimMapViews
import Derived.JoinedTies
import Derived.KernelRfl
namespace Go.Proofs.YtefijebbndnnjaaDoor
/- THE CELL 'sum', in the pinned program and in every row, IS THE sha256 OF THE DUMP (.gsa) THAT YtefijebbndnnjaaDoorProg.lean LOADS. Nothing in Lean hashes anything: it is a label: what it is worth is what the hold of that sum in a sandbox is worth. -/
noncomputable def Tryd.pinned : Pinned := { name := "ytefijebbndnnjaadoor", sum := "7ba0d88e94d86e8383ef8be482b31778f7f52bf5571cefade2eca09207149ba6", checked := Tryd.checked }
namespace Rows
def none {H : Type} : Left H := { results := [], args := [] }

/- WHAT THE LISTED PACKAGE-LEVEL VARIABLES READ AS WHEN THE CALL BEGINS. Each datum BY PROGRAM (the guide's laid-datum.mjs) off the statement by which the dump's own 'gosem.cut.vars' lays the variable. In a bare row this is a premise. The card (YtefijebbndnnjaaDoorCards.lean) ties it to the program's text. -/
def laid_unicode_utf8_acceptRanges {H : Type} : DataW H := .agg [.agg [.lit (.int .u8 128), .lit (.int .u8 191)], .agg [.lit (.int .u8 160), .lit (.int .u8 191)], .agg [.lit (.int .u8 128), .lit (.int .u8 159)], .agg [.lit (.int .u8 144), .lit (.int .u8 191)], .agg [.lit (.int .u8 128), .lit (.int .u8 143)], .agg [.lit (.int .u8 0), .lit (.int .u8 0)], .agg [.lit (.int .u8 0), .lit (.int .u8 0)], .agg [.lit (.int .u8 0), .lit (.int .u8 0)], .agg [.lit (.int .u8 0), .lit (.int .u8 0)], .agg [.lit (.int .u8 0), .lit (.int .u8 0)], .agg [.lit (.int .u8 0), .lit (.int .u8 0)], .agg [.lit (.int .u8 0), .lit (.int .u8 0)], .agg [.lit (.int .u8 0), .lit (.int .u8 0)], .agg [.lit (.int .u8 0), .lit (.int .u8 0)], .agg [.lit (.int .u8 0), .lit (.int .u8 0)], .agg [.lit (.int .u8 0), .lit (.int .u8 0)]]
def laid_knapsack_entity_table {H : Type} : DataW H := .agg [.agg [.lit (.string [97, 109, 112]), .lit (.string [38])], .agg [.lit (.string [97, 112, 111, 115]), .lit (.string [39])], .agg [.lit (.string [98, 117, 108, 108]), .lit (.string [226, 128, 162])], .agg [.lit (.string [99, 101, 110, 116]), .lit (.string [194, 162])], .agg [.lit (.string [99, 111, 112, 121]), .lit (.string [194, 169])], .agg [.lit (.string [100, 101, 103]), .lit (.string [194, 176])], .agg [.lit (.string [100, 105, 118, 105, 100, 101]), .lit (.string [195, 183])], .agg [.lit (.string [101, 117, 114, 111]), .lit (.string [226, 130, 172])], .agg [.lit (.string [103, 116]), .lit (.string [62])], .agg [.lit (.string [104, 101, 108, 108, 105, 112]), .lit (.string [226, 128, 166])], .agg [.lit (.string [108, 97, 114, 114]), .lit (.string [226, 134, 144])], .agg [.lit (.string [108, 100, 113, 117, 111]), .lit (.string [226, 128, 156])], .agg [.lit (.string [108, 115, 113, 117, 111]), .lit (.string [226, 128, 152])], .agg [.lit (.string [108, 116]), .lit (.string [60])], .agg [.lit (.string [109, 100, 97, 115, 104]), .lit (.string [226, 128, 148])], .agg [.lit (.string [109, 105, 100, 100, 111, 116]), .lit (.string [194, 183])], .agg [.lit (.string [110, 98, 115, 112]), .lit (.string [194, 160])], .agg [.lit (.string [110, 100, 97, 115, 104]), .lit (.string [226, 128, 147])], .agg [.lit (.string [112, 97, 114, 97]), .lit (.string [194, 182])], .agg [.lit (.string [112, 108, 117, 115, 109, 110]), .lit (.string [194, 177])], .agg [.lit (.string [112, 111, 117, 110, 100]), .lit (.string [194, 163])], .agg [.lit (.string [113, 117, 111, 116]), .lit (.string [34])], .agg [.lit (.string [114, 97, 114, 114]), .lit (.string [226, 134, 146])], .agg [.lit (.string [114, 100, 113, 117, 111]), .lit (.string [226, 128, 157])], .agg [.lit (.string [114, 101, 103]), .lit (.string [194, 174])], .agg [.lit (.string [114, 115, 113, 117, 111]), .lit (.string [226, 128, 153])], .agg [.lit (.string [115, 101, 99, 116]), .lit (.string [194, 167])], .agg [.lit (.string [116, 105, 109, 101, 115]), .lit (.string [195, 151])], .agg [.lit (.string [116, 114, 97, 100, 101]), .lit (.string [226, 132, 162])], .agg [.lit (.string [121, 101, 110]), .lit (.string [194, 165])]]
/-- One of Go's own tables, pinned by name: the form's constant. -/
def laid_unicode_utf8_first : DataW Unit := Go.Pinned.utf8First

/-- 'knapsacklaw05.EntityNumbers': WHATEVER THE INPUT: true; the input reads as it did. -/
def entityNumbersSpec : ChangeSpec := { name := "entityNumbers", fn := fun _ => fun
  | [d] => { results := [.lit (.bool true)], args := [d] }
  | _ => none }
def entityNumbersRow : OpenClaim := { program := "ytefijebbndnnjaadoor", sum := "7ba0d88e94d86e8383ef8be482b31778f7f52bf5571cefade2eca09207149ba6", func := "knapsack/knapsacklaw05.EntityNumbers", spec := "entityNumbers", inPlace := ["internal/bytealg.IndexByteString", "internal/abi.NoEscape", "internal/bytealg.IndexString"], named := ["unicode/utf8.first", "unicode/utf8.acceptRanges", "internal/bytealg.MaxLen", "knapsack/entity.table"], apart := false, laid := [("unicode/utf8.acceptRanges", laid_unicode_utf8_acceptRanges), ("knapsack/entity.table", laid_knapsack_entity_table), ("unicode/utf8.first", laid_unicode_utf8_first)] }
def EntityNumbersSaid : Prop := entityNumbersRow.holds Tryd.pinned (OpenSpec.ofChange entityNumbersSpec)

/-- ITS FALSE NEIGHBOUR: 'it returns false'. Refute it at one input. -/
def entityNumbersWrong : ChangeSpec := { name := "entityNumbers", fn := fun _ => fun
  | [d] => { results := [.lit (.bool false)], args := [d] }
  | _ => none }
def EntityNumbersWrongFalsely : Prop := entityNumbersRow.holds Tryd.pinned (OpenSpec.ofChange entityNumbersWrong)

/-- 'knapsacklaw05.EntityNext': WHATEVER THE INPUT: true; the input reads as it did. -/
def entityNextSpec : ChangeSpec := { name := "entityNext", fn := fun _ => fun
  | [d] => { results := [.lit (.bool true)], args := [d] }
  | _ => none }
def entityNextRow : OpenClaim := { program := "ytefijebbndnnjaadoor", sum := "7ba0d88e94d86e8383ef8be482b31778f7f52bf5571cefade2eca09207149ba6", func := "knapsack/knapsacklaw05.EntityNext", spec := "entityNext", inPlace := ["internal/bytealg.IndexByteString", "internal/abi.NoEscape", "internal/bytealg.IndexString"], named := ["unicode/utf8.first", "unicode/utf8.acceptRanges", "internal/bytealg.MaxLen", "knapsack/entity.table"], apart := false, laid := [("unicode/utf8.acceptRanges", laid_unicode_utf8_acceptRanges), ("knapsack/entity.table", laid_knapsack_entity_table), ("unicode/utf8.first", laid_unicode_utf8_first)] }
def EntityNextSaid : Prop := entityNextRow.holds Tryd.pinned (OpenSpec.ofChange entityNextSpec)

/-- ITS FALSE NEIGHBOUR: 'it returns false'. Refute it at one input. -/
def entityNextWrong : ChangeSpec := { name := "entityNext", fn := fun _ => fun
  | [d] => { results := [.lit (.bool false)], args := [d] }
  | _ => none }
def EntityNextWrongFalsely : Prop := entityNextRow.holds Tryd.pinned (OpenSpec.ofChange entityNextWrong)

/-- 'knapsacklaw05.EntityDecodes': WHATEVER THE INPUT: true; the input reads as it did. -/
def entityDecodesSpec : ChangeSpec := { name := "entityDecodes", fn := fun _ => fun
  | [d] => { results := [.lit (.bool true)], args := [d] }
  | _ => none }
def entityDecodesRow : OpenClaim := { program := "ytefijebbndnnjaadoor", sum := "7ba0d88e94d86e8383ef8be482b31778f7f52bf5571cefade2eca09207149ba6", func := "knapsack/knapsacklaw05.EntityDecodes", spec := "entityDecodes", inPlace := ["internal/bytealg.IndexByteString", "internal/abi.NoEscape", "internal/bytealg.IndexString"], named := ["unicode/utf8.first", "unicode/utf8.acceptRanges", "internal/bytealg.MaxLen", "knapsack/entity.table"], apart := false, laid := [("unicode/utf8.acceptRanges", laid_unicode_utf8_acceptRanges), ("knapsack/entity.table", laid_knapsack_entity_table), ("unicode/utf8.first", laid_unicode_utf8_first)] }
def EntityDecodesSaid : Prop := entityDecodesRow.holds Tryd.pinned (OpenSpec.ofChange entityDecodesSpec)

/-- ITS FALSE NEIGHBOUR: 'it returns false'. Refute it at one input. -/
def entityDecodesWrong : ChangeSpec := { name := "entityDecodes", fn := fun _ => fun
  | [d] => { results := [.lit (.bool false)], args := [d] }
  | _ => none }
def EntityDecodesWrongFalsely : Prop := entityDecodesRow.holds Tryd.pinned (OpenSpec.ofChange entityDecodesWrong)

/-- 'knapsacklaw05.EntityPlain': WHATEVER THE INPUT: true; the input reads as it did. -/
def entityPlainSpec : ChangeSpec := { name := "entityPlain", fn := fun _ => fun
  | [d] => { results := [.lit (.bool true)], args := [d] }
  | _ => none }
def entityPlainRow : OpenClaim := { program := "ytefijebbndnnjaadoor", sum := "7ba0d88e94d86e8383ef8be482b31778f7f52bf5571cefade2eca09207149ba6", func := "knapsack/knapsacklaw05.EntityPlain", spec := "entityPlain", inPlace := ["internal/bytealg.IndexByteString", "internal/abi.NoEscape", "internal/bytealg.IndexString"], named := ["unicode/utf8.first", "unicode/utf8.acceptRanges", "internal/bytealg.MaxLen", "knapsack/entity.table"], apart := false, laid := [("unicode/utf8.acceptRanges", laid_unicode_utf8_acceptRanges), ("knapsack/entity.table", laid_knapsack_entity_table), ("unicode/utf8.first", laid_unicode_utf8_first)] }
def EntityPlainSaid : Prop := entityPlainRow.holds Tryd.pinned (OpenSpec.ofChange entityPlainSpec)

/-- ITS FALSE NEIGHBOUR: 'it returns false'. Refute it at one input. -/
def entityPlainWrong : ChangeSpec := { name := "entityPlain", fn := fun _ => fun
  | [d] => { results := [.lit (.bool false)], args := [d] }
  | _ => none }
def EntityPlainWrongFalsely : Prop := entityPlainRow.holds Tryd.pinned (OpenSpec.ofChange entityPlainWrong)

/-- 'knapsacklaw05.EntityNames': WHATEVER THE INPUT: true; the input reads as it did. -/
def entityNamesSpec : ChangeSpec := { name := "entityNames", fn := fun _ => fun
  | [d] => { results := [.lit (.bool true)], args := [d] }
  | _ => none }
def entityNamesRow : OpenClaim := { program := "ytefijebbndnnjaadoor", sum := "7ba0d88e94d86e8383ef8be482b31778f7f52bf5571cefade2eca09207149ba6", func := "knapsack/knapsacklaw05.EntityNames", spec := "entityNames", inPlace := ["internal/bytealg.IndexByteString", "internal/abi.NoEscape", "internal/bytealg.IndexString"], named := ["unicode/utf8.first", "unicode/utf8.acceptRanges", "internal/bytealg.MaxLen", "knapsack/entity.table"], apart := false, laid := [("unicode/utf8.acceptRanges", laid_unicode_utf8_acceptRanges), ("knapsack/entity.table", laid_knapsack_entity_table), ("unicode/utf8.first", laid_unicode_utf8_first)] }
def EntityNamesSaid : Prop := entityNamesRow.holds Tryd.pinned (OpenSpec.ofChange entityNamesSpec)

/-- ITS FALSE NEIGHBOUR: 'it returns false'. Refute it at one input. -/
def entityNamesWrong : ChangeSpec := { name := "entityNames", fn := fun _ => fun
  | [d] => { results := [.lit (.bool false)], args := [d] }
  | _ => none }
def EntityNamesWrongFalsely : Prop := entityNamesRow.holds Tryd.pinned (OpenSpec.ofChange entityNamesWrong)

/-- 'knapsacklaw05.EntityEscapes': WHATEVER THE INPUT: true; the input reads as it did. -/
def entityEscapesSpec : ChangeSpec := { name := "entityEscapes", fn := fun _ => fun
  | [d] => { results := [.lit (.bool true)], args := [d] }
  | _ => none }
def entityEscapesRow : OpenClaim := { program := "ytefijebbndnnjaadoor", sum := "7ba0d88e94d86e8383ef8be482b31778f7f52bf5571cefade2eca09207149ba6", func := "knapsack/knapsacklaw05.EntityEscapes", spec := "entityEscapes", inPlace := ["internal/bytealg.IndexByteString", "internal/abi.NoEscape", "internal/bytealg.IndexString", "sync/atomic.LoadUint32", "(*internal/sync.Mutex).Lock", "internal/race.Disable", "sync/atomic.CompareAndSwapInt32", "internal/race.Enable", "internal/race.Acquire", "(*internal/sync.Mutex).lockSlow", "internal/sync.runtime_canSpin", "internal/sync.runtime_doSpin", "internal/sync.throw", "internal/sync.runtime_nanotime", "internal/sync.runtime_SemacquireMutex", "sync/atomic.AddInt32", "(*internal/sync.Mutex).Unlock", "internal/race.ReleaseMerge", "(*internal/sync.Mutex).unlockSlow", "internal/sync.fatal", "internal/sync.runtime_Semrelease", "sync/atomic.StoreUint32"], unfollowed := true, recurses := true, named := ["unicode/utf8.first", "unicode/utf8.acceptRanges", "internal/bytealg.MaxLen", "knapsack/entity.table"], apart := false, laid := [("unicode/utf8.acceptRanges", laid_unicode_utf8_acceptRanges), ("knapsack/entity.table", laid_knapsack_entity_table), ("unicode/utf8.first", laid_unicode_utf8_first)] }
def EntityEscapesSaid : Prop := entityEscapesRow.holds Tryd.pinned (OpenSpec.ofChange entityEscapesSpec)

/-- ITS FALSE NEIGHBOUR: 'it returns false'. Refute it at one input. -/
def entityEscapesWrong : ChangeSpec := { name := "entityEscapes", fn := fun _ => fun
  | [d] => { results := [.lit (.bool false)], args := [d] }
  | _ => none }
def EntityEscapesWrongFalsely : Prop := entityEscapesRow.holds Tryd.pinned (OpenSpec.ofChange entityEscapesWrong)

/-- 'knapsacklaw05.EntityBack': WHATEVER THE INPUT: true; the input reads as it did. -/
def entityBackSpec : ChangeSpec := { name := "entityBack", fn := fun _ => fun
  | [d1, d2] => { results := [.lit (.bool true)], args := [d1, d2] }
  | _ => none }
def entityBackRow : OpenClaim := { program := "ytefijebbndnnjaadoor", sum := "7ba0d88e94d86e8383ef8be482b31778f7f52bf5571cefade2eca09207149ba6", func := "knapsack/knapsacklaw05.EntityBack", spec := "entityBack", inPlace := ["internal/bytealg.IndexByteString", "internal/abi.NoEscape", "internal/bytealg.IndexString", "sync/atomic.LoadUint32", "(*internal/sync.Mutex).Lock", "internal/race.Disable", "sync/atomic.CompareAndSwapInt32", "internal/race.Enable", "internal/race.Acquire", "(*internal/sync.Mutex).lockSlow", "internal/sync.runtime_canSpin", "internal/sync.runtime_doSpin", "internal/sync.throw", "internal/sync.runtime_nanotime", "internal/sync.runtime_SemacquireMutex", "sync/atomic.AddInt32", "(*internal/sync.Mutex).Unlock", "internal/race.ReleaseMerge", "(*internal/sync.Mutex).unlockSlow", "internal/sync.fatal", "internal/sync.runtime_Semrelease", "sync/atomic.StoreUint32"], unfollowed := true, recurses := true, named := ["unicode/utf8.first", "unicode/utf8.acceptRanges", "internal/bytealg.MaxLen", "knapsack/entity.table"], apart := false, laid := [("unicode/utf8.acceptRanges", laid_unicode_utf8_acceptRanges), ("knapsack/entity.table", laid_knapsack_entity_table), ("unicode/utf8.first", laid_unicode_utf8_first)] }
def EntityBackSaid : Prop := entityBackRow.holds Tryd.pinned (OpenSpec.ofChange entityBackSpec)

/-- ITS FALSE NEIGHBOUR: 'it returns false'. Refute it at one input. -/
def entityBackWrong : ChangeSpec := { name := "entityBack", fn := fun _ => fun
  | [d1, d2] => { results := [.lit (.bool false)], args := [d1, d2] }
  | _ => none }
def EntityBackWrongFalsely : Prop := entityBackRow.holds Tryd.pinned (OpenSpec.ofChange entityBackWrong)

/- THE SECOND FORM. 'bulk': how many values and letters a reading holds, each counted each time it is reached (what is shared counts as often as it is met; a slice's spare places count too). A statement '..UptoSaid' is the law's where the arguments, and the package variables that the reading takes, are together of bulk at most 1048576: NARROWER than '..Said'. Prove '..Said' where nothing that the law and all that it calls make is longer than what came in: it says more and counts as full. Else prove '..UptoSaid'. A law counts once. -/
mutual
def uptoBulk {H : Type} : DataW H → Nat
  | .lit (.string bytes) => bytes.length + 1
  | .lit _ => 1
  | .nil => 1
  | .ptr d => uptoBulk d + 1
  | .slice elems spare => uptoBulkAll elems + uptoBulkAll spare + 1
  | .agg parts => uptoBulkAll parts + 1
  | .iface _ d => uptoBulk d + 1
  | .map entries => uptoBulkEntries entries + 1
  | .held _ => 1
def uptoBulkAll {H : Type} : List (DataW H) → Nat
  | [] => 0
  | d :: r => uptoBulk d + uptoBulkAll r
def uptoBulkEntries {H : Type} : List (Lit × DataW H) → Nat
  | [] => 0
  | x :: r => uptoBulkEntry x + uptoBulkEntries r
def uptoBulkEntry {H : Type} : Lit × DataW H → Nat
  | (.string bytes, d) => bytes.length + uptoBulk d + 1
  | (_, d) => uptoBulk d + 1
 end
def uptoSmall : (H : Type) → List (DataW H) → Bool := fun _ ds => decide (uptoBulkAll ds ≤ 1048576)
def OpenSpec.upto (s : _root_.Go.ChangeSpec) : _root_.Go.OpenSpec := { _root_.Go.OpenSpec.ofChange s with cond := some uptoSmall }

/-- 'knapsacklaw05.EntityNumbers', WHERE WHAT IT READS IS OF BULK AT MOST 1048576: true; the input reads as it did. -/
def entityNumbersUptoRow : OpenClaim := { program := "ytefijebbndnnjaadoor", sum := "7ba0d88e94d86e8383ef8be482b31778f7f52bf5571cefade2eca09207149ba6", func := "knapsack/knapsacklaw05.EntityNumbers", spec := "entityNumbers", inPlace := ["internal/bytealg.IndexByteString", "internal/abi.NoEscape", "internal/bytealg.IndexString"], named := ["unicode/utf8.first", "unicode/utf8.acceptRanges", "internal/bytealg.MaxLen", "knapsack/entity.table"], apart := false, laid := [("unicode/utf8.acceptRanges", laid_unicode_utf8_acceptRanges), ("knapsack/entity.table", laid_knapsack_entity_table), ("unicode/utf8.first", laid_unicode_utf8_first)], narrowed := true }
def EntityNumbersUptoSaid : Prop := entityNumbersUptoRow.holds Tryd.pinned (OpenSpec.upto entityNumbersSpec)

/-- 'knapsacklaw05.EntityNext', WHERE WHAT IT READS IS OF BULK AT MOST 1048576: true; the input reads as it did. -/
def entityNextUptoRow : OpenClaim := { program := "ytefijebbndnnjaadoor", sum := "7ba0d88e94d86e8383ef8be482b31778f7f52bf5571cefade2eca09207149ba6", func := "knapsack/knapsacklaw05.EntityNext", spec := "entityNext", inPlace := ["internal/bytealg.IndexByteString", "internal/abi.NoEscape", "internal/bytealg.IndexString"], named := ["unicode/utf8.first", "unicode/utf8.acceptRanges", "internal/bytealg.MaxLen", "knapsack/entity.table"], apart := false, laid := [("unicode/utf8.acceptRanges", laid_unicode_utf8_acceptRanges), ("knapsack/entity.table", laid_knapsack_entity_table), ("unicode/utf8.first", laid_unicode_utf8_first)], narrowed := true }
def EntityNextUptoSaid : Prop := entityNextUptoRow.holds Tryd.pinned (OpenSpec.upto entityNextSpec)

/-- 'knapsacklaw05.EntityDecodes', WHERE WHAT IT READS IS OF BULK AT MOST 1048576: true; the input reads as it did. -/
def entityDecodesUptoRow : OpenClaim := { program := "ytefijebbndnnjaadoor", sum := "7ba0d88e94d86e8383ef8be482b31778f7f52bf5571cefade2eca09207149ba6", func := "knapsack/knapsacklaw05.EntityDecodes", spec := "entityDecodes", inPlace := ["internal/bytealg.IndexByteString", "internal/abi.NoEscape", "internal/bytealg.IndexString"], named := ["unicode/utf8.first", "unicode/utf8.acceptRanges", "internal/bytealg.MaxLen", "knapsack/entity.table"], apart := false, laid := [("unicode/utf8.acceptRanges", laid_unicode_utf8_acceptRanges), ("knapsack/entity.table", laid_knapsack_entity_table), ("unicode/utf8.first", laid_unicode_utf8_first)], narrowed := true }
def EntityDecodesUptoSaid : Prop := entityDecodesUptoRow.holds Tryd.pinned (OpenSpec.upto entityDecodesSpec)

/-- 'knapsacklaw05.EntityPlain', WHERE WHAT IT READS IS OF BULK AT MOST 1048576: true; the input reads as it did. -/
def entityPlainUptoRow : OpenClaim := { program := "ytefijebbndnnjaadoor", sum := "7ba0d88e94d86e8383ef8be482b31778f7f52bf5571cefade2eca09207149ba6", func := "knapsack/knapsacklaw05.EntityPlain", spec := "entityPlain", inPlace := ["internal/bytealg.IndexByteString", "internal/abi.NoEscape", "internal/bytealg.IndexString"], named := ["unicode/utf8.first", "unicode/utf8.acceptRanges", "internal/bytealg.MaxLen", "knapsack/entity.table"], apart := false, laid := [("unicode/utf8.acceptRanges", laid_unicode_utf8_acceptRanges), ("knapsack/entity.table", laid_knapsack_entity_table), ("unicode/utf8.first", laid_unicode_utf8_first)], narrowed := true }
def EntityPlainUptoSaid : Prop := entityPlainUptoRow.holds Tryd.pinned (OpenSpec.upto entityPlainSpec)

/-- 'knapsacklaw05.EntityNames', WHERE WHAT IT READS IS OF BULK AT MOST 1048576: true; the input reads as it did. -/
def entityNamesUptoRow : OpenClaim := { program := "ytefijebbndnnjaadoor", sum := "7ba0d88e94d86e8383ef8be482b31778f7f52bf5571cefade2eca09207149ba6", func := "knapsack/knapsacklaw05.EntityNames", spec := "entityNames", inPlace := ["internal/bytealg.IndexByteString", "internal/abi.NoEscape", "internal/bytealg.IndexString"], named := ["unicode/utf8.first", "unicode/utf8.acceptRanges", "internal/bytealg.MaxLen", "knapsack/entity.table"], apart := false, laid := [("unicode/utf8.acceptRanges", laid_unicode_utf8_acceptRanges), ("knapsack/entity.table", laid_knapsack_entity_table), ("unicode/utf8.first", laid_unicode_utf8_first)], narrowed := true }
def EntityNamesUptoSaid : Prop := entityNamesUptoRow.holds Tryd.pinned (OpenSpec.upto entityNamesSpec)

/-- 'knapsacklaw05.EntityEscapes', WHERE WHAT IT READS IS OF BULK AT MOST 1048576: true; the input reads as it did. -/
def entityEscapesUptoRow : OpenClaim := { program := "ytefijebbndnnjaadoor", sum := "7ba0d88e94d86e8383ef8be482b31778f7f52bf5571cefade2eca09207149ba6", func := "knapsack/knapsacklaw05.EntityEscapes", spec := "entityEscapes", inPlace := ["internal/bytealg.IndexByteString", "internal/abi.NoEscape", "internal/bytealg.IndexString", "sync/atomic.LoadUint32", "(*internal/sync.Mutex).Lock", "internal/race.Disable", "sync/atomic.CompareAndSwapInt32", "internal/race.Enable", "internal/race.Acquire", "(*internal/sync.Mutex).lockSlow", "internal/sync.runtime_canSpin", "internal/sync.runtime_doSpin", "internal/sync.throw", "internal/sync.runtime_nanotime", "internal/sync.runtime_SemacquireMutex", "sync/atomic.AddInt32", "(*internal/sync.Mutex).Unlock", "internal/race.ReleaseMerge", "(*internal/sync.Mutex).unlockSlow", "internal/sync.fatal", "internal/sync.runtime_Semrelease", "sync/atomic.StoreUint32"], unfollowed := true, recurses := true, named := ["unicode/utf8.first", "unicode/utf8.acceptRanges", "internal/bytealg.MaxLen", "knapsack/entity.table"], apart := false, laid := [("unicode/utf8.acceptRanges", laid_unicode_utf8_acceptRanges), ("knapsack/entity.table", laid_knapsack_entity_table), ("unicode/utf8.first", laid_unicode_utf8_first)], narrowed := true }
def EntityEscapesUptoSaid : Prop := entityEscapesUptoRow.holds Tryd.pinned (OpenSpec.upto entityEscapesSpec)

/-- 'knapsacklaw05.EntityBack', WHERE WHAT IT READS IS OF BULK AT MOST 1048576: true; the input reads as it did. -/
def entityBackUptoRow : OpenClaim := { program := "ytefijebbndnnjaadoor", sum := "7ba0d88e94d86e8383ef8be482b31778f7f52bf5571cefade2eca09207149ba6", func := "knapsack/knapsacklaw05.EntityBack", spec := "entityBack", inPlace := ["internal/bytealg.IndexByteString", "internal/abi.NoEscape", "internal/bytealg.IndexString", "sync/atomic.LoadUint32", "(*internal/sync.Mutex).Lock", "internal/race.Disable", "sync/atomic.CompareAndSwapInt32", "internal/race.Enable", "internal/race.Acquire", "(*internal/sync.Mutex).lockSlow", "internal/sync.runtime_canSpin", "internal/sync.runtime_doSpin", "internal/sync.throw", "internal/sync.runtime_nanotime", "internal/sync.runtime_SemacquireMutex", "sync/atomic.AddInt32", "(*internal/sync.Mutex).Unlock", "internal/race.ReleaseMerge", "(*internal/sync.Mutex).unlockSlow", "internal/sync.fatal", "internal/sync.runtime_Semrelease", "sync/atomic.StoreUint32"], unfollowed := true, recurses := true, named := ["unicode/utf8.first", "unicode/utf8.acceptRanges", "internal/bytealg.MaxLen", "knapsack/entity.table"], apart := false, laid := [("unicode/utf8.acceptRanges", laid_unicode_utf8_acceptRanges), ("knapsack/entity.table", laid_knapsack_entity_table), ("unicode/utf8.first", laid_unicode_utf8_first)], narrowed := true }
def EntityBackUptoSaid : Prop := entityBackUptoRow.holds Tryd.pinned (OpenSpec.upto entityBackSpec)

end Rows
end Go.Proofs.YtefijebbndnnjaaDoor
