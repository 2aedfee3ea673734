/-
  No cell of these rows narrows 'for every input' (looked for: loops, veiled, ifaces, maps, wideKeys, modest, calm, conditions, laid).
  DERIVED. THE GIVEN ROWS OF THIS SEAT. 8 by the template 'for every input the law returns true; each argument reads behind the call as it read before'; 0 by the template 'total and deterministic' (their statements: YtabmmampgmcibaaTotals.lean).
  GIVEN WITH THE SEED: the statements are not yours to turn. If you find one false, say at which input.
  Laid BY PROGRAM, IN A SANDBOX (cutbox-rows.mjs): the forced cells as the released guide's own fill.sh prints them over the translation 906c7b58bd65a048… (all of the seat's roots in one cut). By AI agents, Wed Nov 11 2026. No macro, syntax, notation, axiom, sorry.
-/
import Derived.Test.YtabmmampgmcibaaChecked
import GoSem.Claim
import GoSem.ClaimJoined
import GoSem.ClaimMapViews
import Derived.JoinedTies
import Derived.KernelRfl
namespace Go.Proofs.Ytabmmampgmcibaa
/- THE CELL 'sum', in the pinned program and in every row, IS THE sha256 OF THE DUMP (.gsa) THAT YtabmmampgmcibaaProg.lean LOADS. Nothing in Lean hashes anything: it is a label: what it is worth is what the hold of that sum in a sandbox is worth. -/
noncomputable def Try.pinned : Pinned := { name := "ytabmmampgmcibaa", sum := "906c7b58bd65a048f83ca030490bed9d4e5cddfae875be807619a980845eeb65", checked := Try.checked }
namespace Rows
def none {H : Type} : Left H := { results := [], args := [] }

/-- 'knapsacklaw03.ArenaHandles': WHATEVER THE INPUT: true; the input reads as it did. -/
def arenaHandlesSpec : ChangeSpec := { name := "arenaHandles", fn := fun _ => fun
  | [d1, d2, d3] => { results := [.lit (.bool true)], args := [d1, d2, d3] }
  | _ => none }
def arenaHandlesRow : OpenClaim := { program := "ytabmmampgmcibaa", sum := "906c7b58bd65a048f83ca030490bed9d4e5cddfae875be807619a980845eeb65", func := "knapsack/knapsacklaw03.ArenaHandles", spec := "arenaHandles", apart := false }
def ArenaHandlesSaid : Prop := arenaHandlesRow.holds Try.pinned (OpenSpec.ofChange arenaHandlesSpec)

/-- ITS FALSE NEIGHBOUR: 'it returns false'. Refute it at one input. -/
def arenaHandlesWrong : ChangeSpec := { name := "arenaHandles", fn := fun _ => fun
  | [d1, d2, d3] => { results := [.lit (.bool false)], args := [d1, d2, d3] }
  | _ => none }
def ArenaHandlesWrongFalsely : Prop := arenaHandlesRow.holds Try.pinned (OpenSpec.ofChange arenaHandlesWrong)

/-- 'knapsacklaw03.ArenaFresh': WHATEVER THE INPUT: true; the input reads as it did. -/
def arenaFreshSpec : ChangeSpec := { name := "arenaFresh", fn := fun _ => fun
  | [d1, d2, d3] => { results := [.lit (.bool true)], args := [d1, d2, d3] }
  | _ => none }
def arenaFreshRow : OpenClaim := { program := "ytabmmampgmcibaa", sum := "906c7b58bd65a048f83ca030490bed9d4e5cddfae875be807619a980845eeb65", func := "knapsack/knapsacklaw03.ArenaFresh", spec := "arenaFresh", apart := false }
def ArenaFreshSaid : Prop := arenaFreshRow.holds Try.pinned (OpenSpec.ofChange arenaFreshSpec)

/-- ITS FALSE NEIGHBOUR: 'it returns false'. Refute it at one input. -/
def arenaFreshWrong : ChangeSpec := { name := "arenaFresh", fn := fun _ => fun
  | [d1, d2, d3] => { results := [.lit (.bool false)], args := [d1, d2, d3] }
  | _ => none }
def ArenaFreshWrongFalsely : Prop := arenaFreshRow.holds Try.pinned (OpenSpec.ofChange arenaFreshWrong)

/-- 'knapsacklaw03.ArenaKinds': WHATEVER THE INPUT: true; the input reads as it did. -/
def arenaKindsSpec : ChangeSpec := { name := "arenaKinds", fn := fun _ => fun
  | [d1, d2, d3] => { results := [.lit (.bool true)], args := [d1, d2, d3] }
  | _ => none }
def arenaKindsRow : OpenClaim := { program := "ytabmmampgmcibaa", sum := "906c7b58bd65a048f83ca030490bed9d4e5cddfae875be807619a980845eeb65", func := "knapsack/knapsacklaw03.ArenaKinds", spec := "arenaKinds", apart := false }
def ArenaKindsSaid : Prop := arenaKindsRow.holds Try.pinned (OpenSpec.ofChange arenaKindsSpec)

/-- ITS FALSE NEIGHBOUR: 'it returns false'. Refute it at one input. -/
def arenaKindsWrong : ChangeSpec := { name := "arenaKinds", fn := fun _ => fun
  | [d1, d2, d3] => { results := [.lit (.bool false)], args := [d1, d2, d3] }
  | _ => none }
def ArenaKindsWrongFalsely : Prop := arenaKindsRow.holds Try.pinned (OpenSpec.ofChange arenaKindsWrong)

/-- 'knapsacklaw03.ArenaAt': WHATEVER THE INPUT: true; the input reads as it did. -/
def arenaAtSpec : ChangeSpec := { name := "arenaAt", fn := fun _ => fun
  | [d1, d2, d3] => { results := [.lit (.bool true)], args := [d1, d2, d3] }
  | _ => none }
def arenaAtRow : OpenClaim := { program := "ytabmmampgmcibaa", sum := "906c7b58bd65a048f83ca030490bed9d4e5cddfae875be807619a980845eeb65", func := "knapsack/knapsacklaw03.ArenaAt", spec := "arenaAt", apart := false }
def ArenaAtSaid : Prop := arenaAtRow.holds Try.pinned (OpenSpec.ofChange arenaAtSpec)

/-- ITS FALSE NEIGHBOUR: 'it returns false'. Refute it at one input. -/
def arenaAtWrong : ChangeSpec := { name := "arenaAt", fn := fun _ => fun
  | [d1, d2, d3] => { results := [.lit (.bool false)], args := [d1, d2, d3] }
  | _ => none }
def ArenaAtWrongFalsely : Prop := arenaAtRow.holds Try.pinned (OpenSpec.ofChange arenaAtWrong)

/-- 'knapsacklaw03.ArenaPlays': WHATEVER THE INPUT: true; the input reads as it did. -/
def arenaPlaysSpec : ChangeSpec := { name := "arenaPlays", fn := fun _ => fun
  | [d1, d2] => { results := [.lit (.bool true)], args := [d1, d2] }
  | _ => none }
def arenaPlaysRow : OpenClaim := { program := "ytabmmampgmcibaa", sum := "906c7b58bd65a048f83ca030490bed9d4e5cddfae875be807619a980845eeb65", func := "knapsack/knapsacklaw03.ArenaPlays", spec := "arenaPlays", apart := false }
def ArenaPlaysSaid : Prop := arenaPlaysRow.holds Try.pinned (OpenSpec.ofChange arenaPlaysSpec)

/-- ITS FALSE NEIGHBOUR: 'it returns false'. Refute it at one input. -/
def arenaPlaysWrong : ChangeSpec := { name := "arenaPlays", fn := fun _ => fun
  | [d1, d2] => { results := [.lit (.bool false)], args := [d1, d2] }
  | _ => none }
def ArenaPlaysWrongFalsely : Prop := arenaPlaysRow.holds Try.pinned (OpenSpec.ofChange arenaPlaysWrong)

/-- 'knapsacklaw03.ArenaSalts': WHATEVER THE INPUT: true; the input reads as it did. -/
def arenaSaltsSpec : ChangeSpec := { name := "arenaSalts", fn := fun _ => fun
  | [d1, d2, d3] => { results := [.lit (.bool true)], args := [d1, d2, d3] }
  | _ => none }
def arenaSaltsRow : OpenClaim := { program := "ytabmmampgmcibaa", sum := "906c7b58bd65a048f83ca030490bed9d4e5cddfae875be807619a980845eeb65", func := "knapsack/knapsacklaw03.ArenaSalts", spec := "arenaSalts", apart := false }
def ArenaSaltsSaid : Prop := arenaSaltsRow.holds Try.pinned (OpenSpec.ofChange arenaSaltsSpec)

/-- ITS FALSE NEIGHBOUR: 'it returns false'. Refute it at one input. -/
def arenaSaltsWrong : ChangeSpec := { name := "arenaSalts", fn := fun _ => fun
  | [d1, d2, d3] => { results := [.lit (.bool false)], args := [d1, d2, d3] }
  | _ => none }
def ArenaSaltsWrongFalsely : Prop := arenaSaltsRow.holds Try.pinned (OpenSpec.ofChange arenaSaltsWrong)

/-- 'knapsacklaw03.ArenaAll': WHATEVER THE INPUT: true; the input reads as it did. -/
def arenaAllSpec : ChangeSpec := { name := "arenaAll", fn := fun _ => fun
  | [d1, d2, d3] => { results := [.lit (.bool true)], args := [d1, d2, d3] }
  | _ => none }
def arenaAllRow : OpenClaim := { program := "ytabmmampgmcibaa", sum := "906c7b58bd65a048f83ca030490bed9d4e5cddfae875be807619a980845eeb65", func := "knapsack/knapsacklaw03.ArenaAll", spec := "arenaAll", unfollowed := true, recurses := true, apart := false }
def ArenaAllSaid : Prop := arenaAllRow.holds Try.pinned (OpenSpec.ofChange arenaAllSpec)

/-- ITS FALSE NEIGHBOUR: 'it returns false'. Refute it at one input. -/
def arenaAllWrong : ChangeSpec := { name := "arenaAll", fn := fun _ => fun
  | [d1, d2, d3] => { results := [.lit (.bool false)], args := [d1, d2, d3] }
  | _ => none }
def ArenaAllWrongFalsely : Prop := arenaAllRow.holds Try.pinned (OpenSpec.ofChange arenaAllWrong)

/-- 'knapsacklaw03.ArenaClone': WHATEVER THE INPUT: true; the input reads as it did. -/
def arenaCloneSpec : ChangeSpec := { name := "arenaClone", fn := fun _ => fun
  | [d1, d2, d3] => { results := [.lit (.bool true)], args := [d1, d2, d3] }
  | _ => none }
def arenaCloneRow : OpenClaim := { program := "ytabmmampgmcibaa", sum := "906c7b58bd65a048f83ca030490bed9d4e5cddfae875be807619a980845eeb65", func := "knapsack/knapsacklaw03.ArenaClone", spec := "arenaClone", apart := false }
def ArenaCloneSaid : Prop := arenaCloneRow.holds Try.pinned (OpenSpec.ofChange arenaCloneSpec)

/-- ITS FALSE NEIGHBOUR: 'it returns false'. Refute it at one input. -/
def arenaCloneWrong : ChangeSpec := { name := "arenaClone", fn := fun _ => fun
  | [d1, d2, d3] => { results := [.lit (.bool false)], args := [d1, d2, d3] }
  | _ => none }
def ArenaCloneWrongFalsely : Prop := arenaCloneRow.holds Try.pinned (OpenSpec.ofChange arenaCloneWrong)

/- THE SECOND FORM. 'bulk': how many values and letters a reading holds, each counted each time it is reached (what is shared counts as often as it is met; a slice's spare places count too). A statement '..UptoSaid' is the law's where the arguments, and the package variables that the reading takes, are together of bulk at most 1048576: NARROWER than '..Said'. Prove '..Said' where nothing that the law and all that it calls make is longer than what came in: it says more and counts as full. Else prove '..UptoSaid'. A law counts once. -/
mutual
def uptoBulk {H : Type} : DataW H → Nat
  | .lit (.string bytes) => bytes.length + 1
  | .lit _ => 1
  | .nil => 1
  | .ptr d => uptoBulk d + 1
  | .slice elems spare => uptoBulkAll elems + uptoBulkAll spare + 1
  | .agg parts => uptoBulkAll parts + 1
  | .iface _ d => uptoBulk d + 1
  | .map entries => uptoBulkEntries entries + 1
  | .held _ => 1
def uptoBulkAll {H : Type} : List (DataW H) → Nat
  | [] => 0
  | d :: r => uptoBulk d + uptoBulkAll r
def uptoBulkEntries {H : Type} : List (Lit × DataW H) → Nat
  | [] => 0
  | x :: r => uptoBulkEntry x + uptoBulkEntries r
def uptoBulkEntry {H : Type} : Lit × DataW H → Nat
  | (.string bytes, d) => bytes.length + uptoBulk d + 1
  | (_, d) => uptoBulk d + 1
 end
def uptoSmall : (H : Type) → List (DataW H) → Bool := fun _ ds => decide (uptoBulkAll ds ≤ 1048576)
def OpenSpec.upto (s : _root_.Go.ChangeSpec) : _root_.Go.OpenSpec := { _root_.Go.OpenSpec.ofChange s with cond := some uptoSmall }

/-- 'knapsacklaw03.ArenaHandles', WHERE WHAT IT READS IS OF BULK AT MOST 1048576: true; the input reads as it did. -/
def arenaHandlesUptoRow : OpenClaim := { program := "ytabmmampgmcibaa", sum := "906c7b58bd65a048f83ca030490bed9d4e5cddfae875be807619a980845eeb65", func := "knapsack/knapsacklaw03.ArenaHandles", spec := "arenaHandles", apart := false, narrowed := true }
def ArenaHandlesUptoSaid : Prop := arenaHandlesUptoRow.holds Try.pinned (OpenSpec.upto arenaHandlesSpec)

/-- 'knapsacklaw03.ArenaFresh', WHERE WHAT IT READS IS OF BULK AT MOST 1048576: true; the input reads as it did. -/
def arenaFreshUptoRow : OpenClaim := { program := "ytabmmampgmcibaa", sum := "906c7b58bd65a048f83ca030490bed9d4e5cddfae875be807619a980845eeb65", func := "knapsack/knapsacklaw03.ArenaFresh", spec := "arenaFresh", apart := false, narrowed := true }
def ArenaFreshUptoSaid : Prop := arenaFreshUptoRow.holds Try.pinned (OpenSpec.upto arenaFreshSpec)

/-- 'knapsacklaw03.ArenaKinds', WHERE WHAT IT READS IS OF BULK AT MOST 1048576: true; the input reads as it did. -/
def arenaKindsUptoRow : OpenClaim := { program := "ytabmmampgmcibaa", sum := "906c7b58bd65a048f83ca030490bed9d4e5cddfae875be807619a980845eeb65", func := "knapsack/knapsacklaw03.ArenaKinds", spec := "arenaKinds", apart := false, narrowed := true }
def ArenaKindsUptoSaid : Prop := arenaKindsUptoRow.holds Try.pinned (OpenSpec.upto arenaKindsSpec)

/-- 'knapsacklaw03.ArenaAt', WHERE WHAT IT READS IS OF BULK AT MOST 1048576: true; the input reads as it did. -/
def arenaAtUptoRow : OpenClaim := { program := "ytabmmampgmcibaa", sum := "906c7b58bd65a048f83ca030490bed9d4e5cddfae875be807619a980845eeb65", func := "knapsack/knapsacklaw03.ArenaAt", spec := "arenaAt", apart := false, narrowed := true }
def ArenaAtUptoSaid : Prop := arenaAtUptoRow.holds Try.pinned (OpenSpec.upto arenaAtSpec)

/-- 'knapsacklaw03.ArenaPlays', WHERE WHAT IT READS IS OF BULK AT MOST 1048576: true; the input reads as it did. -/
def arenaPlaysUptoRow : OpenClaim := { program := "ytabmmampgmcibaa", sum := "906c7b58bd65a048f83ca030490bed9d4e5cddfae875be807619a980845eeb65", func := "knapsack/knapsacklaw03.ArenaPlays", spec := "arenaPlays", apart := false, narrowed := true }
def ArenaPlaysUptoSaid : Prop := arenaPlaysUptoRow.holds Try.pinned (OpenSpec.upto arenaPlaysSpec)

/-- 'knapsacklaw03.ArenaSalts', WHERE WHAT IT READS IS OF BULK AT MOST 1048576: true; the input reads as it did. -/
def arenaSaltsUptoRow : OpenClaim := { program := "ytabmmampgmcibaa", sum := "906c7b58bd65a048f83ca030490bed9d4e5cddfae875be807619a980845eeb65", func := "knapsack/knapsacklaw03.ArenaSalts", spec := "arenaSalts", apart := false, narrowed := true }
def ArenaSaltsUptoSaid : Prop := arenaSaltsUptoRow.holds Try.pinned (OpenSpec.upto arenaSaltsSpec)

/-- 'knapsacklaw03.ArenaAll', WHERE WHAT IT READS IS OF BULK AT MOST 1048576: true; the input reads as it did. -/
def arenaAllUptoRow : OpenClaim := { program := "ytabmmampgmcibaa", sum := "906c7b58bd65a048f83ca030490bed9d4e5cddfae875be807619a980845eeb65", func := "knapsack/knapsacklaw03.ArenaAll", spec := "arenaAll", unfollowed := true, recurses := true, apart := false, narrowed := true }
def ArenaAllUptoSaid : Prop := arenaAllUptoRow.holds Try.pinned (OpenSpec.upto arenaAllSpec)

/-- 'knapsacklaw03.ArenaClone', WHERE WHAT IT READS IS OF BULK AT MOST 1048576: true; the input reads as it did. -/
def arenaCloneUptoRow : OpenClaim := { program := "ytabmmampgmcibaa", sum := "906c7b58bd65a048f83ca030490bed9d4e5cddfae875be807619a980845eeb65", func := "knapsack/knapsacklaw03.ArenaClone", spec := "arenaClone", apart := false, narrowed := true }
def ArenaCloneUptoSaid : Prop := arenaCloneUptoRow.holds Try.pinned (OpenSpec.upto arenaCloneSpec)

end Rows
end Go.Proofs.Ytabmmampgmcibaa
