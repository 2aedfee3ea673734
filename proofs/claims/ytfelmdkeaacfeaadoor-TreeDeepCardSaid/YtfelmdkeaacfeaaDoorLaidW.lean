/- A world for the witness: what the row's list says, laid. -/
import Derived.Test.YtfelmdkeaacfeaaDoorClose
import Derived.Test.YtfelmdkeaacfeaaDoorCards
import Derived.Test.YtfelmdkeaacfeaaDoorTie
import Derived.Shelf.Vars
import Derived.Lib.LaidU8T
import Derived.Shelf.Unicode.ValidAny
import Derived.Lib.LaidIn
import Derived.Deep.DeepHandedRow
import Derived.Deep.DeepWitnessRowRef
import Derived.SizedLaws
namespace Go.Proofs.YtfelmdkeaacfeaaDoor.W
open Go.ChangeShapes Go.WideShapes Go.ChangeAt Go.RowKit Go.Joins Go.Shelf
set_option linter.unusedVariables false

/-- the list of the row -/
def lst : List (String × DataW Unit) := [("unicode/utf8.acceptRanges", Rows.laid_unicode_utf8_acceptRanges), ("unicode/utf8.first", Rows.laid_unicode_utf8_first)]
/-- A WORLD FOR THE WITNESS: the settled world, the two variables holding what the list says. -/
noncomputable def laidWorld (os : Os) : World :=
  let w0 := World.holding Tryd.prog os ⟨#[], #[], []⟩
  let put (h : Array Obj) (g : Nat) (cs : Array Value) : Array Obj := h.modify g fun
    | .cells _ t frozen => .cells cs t frozen
    | o => o
  let h1 := put w0.heap 0 (Lib.firstTab.map fun z => Value.int .u8 z).toArray
  let h2 := put h1 1 ((List.range 16).flatMap fun i => [Value.int .u8 (Lib.accLo i), Value.int .u8 (Lib.accHi i)]).toArray
  { w0 with heap := h2 }
theorem laid_met (os : Os) (args : Array Value) : laidMet Tryd.prog lst ((laidWorld os).forCall (fun _ _ => 0) ⟨#[], args, []⟩).memory :=
  (LaidIn.of_run (l := lst) [0, 1] 8 (by kernel_rfl) (by kernel_rfl) (by kernel_rfl) (by kernel_rfl)).met
end Go.Proofs.YtfelmdkeaacfeaaDoor.W
