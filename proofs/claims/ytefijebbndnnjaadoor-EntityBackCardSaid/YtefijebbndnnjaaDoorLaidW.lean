/- What the row's list gives a walk (Laid), and a world for the witness. -/
import Derived.Test.YtefijebbndnnjaaDoorLaid
import Derived.Test.YtefijebbndnnjaaDoorClose
import Derived.Test.YtefijebbndnnjaaDoorCards
import Derived.Test.YtefijebbndnnjaaDoorTie
import Derived.Shelf.Vars
import Derived.Lib.LaidIn
import Derived.Deep.DeepHandedRow
import Derived.Deep.DeepWitnessRowRef
import Derived.SizedLaws
namespace Go.Proofs.YtefijebbndnnjaaDoor.W
open Go.ChangeShapes Go.WideShapes Go.ChangeAt Go.RowKit Go.Joins Go.Shelf
set_option linter.unusedVariables false

/-- the list of every row of this seat -/
def lst : List (String × DataW Unit) := [("unicode/utf8.acceptRanges", Rows.laid_unicode_utf8_acceptRanges), ("knapsack/entity.table", Rows.laid_knapsack_entity_table), ("unicode/utf8.first", Rows.laid_unicode_utf8_first)]
theorem first_eq : Rows.laid_unicode_utf8_first = Lib.firstData := by kernel_rfl
theorem accept_eq : (Rows.laid_unicode_utf8_acceptRanges : DataW Unit) = Lib.acceptData := by kernel_rfl

set_option maxRecDepth 100000 in
theorem laid_of {w : World} (h : laidMetH Tryd.prog lst w) (hs : w.ShapedOpen Tryd.prog) : Laid w where
  tabs := by
    have h1 := Lib.laidMet.reads h (.tail _ (.tail _ (.head _)))
    have h2 := Lib.laidMet.reads h (.head _)
    rw [first_eq] at h1
    rw [accept_eq] at h2
    exact utf8Tabs_of_readsT (U8Types.of196 Tryd.laysValid) ⟨by kernel_rfl, by kernel_rfl, by kernel_rfl, by kernel_rfl, by kernel_rfl, by kernel_rfl, by kernel_rfl⟩ h1 h2
  tab := fun i x hx => tab_of_reads (Lib.laidMet.reads h (.tail _ (.head _))) i x hx
  maxl := Tryd.laysM145.s1_3 w hs

/-- A WORLD FOR THE WITNESS: the settled world, the three variables holding what the list says. -/
noncomputable def laidWorld (os : Os) : World :=
  let w0 := World.holding Tryd.prog os ⟨#[], #[], []⟩
  let put (h : Array Obj) (g : Nat) (cs : Array Value) : Array Obj := h.modify g fun
    | .cells _ t frozen => .cells cs t frozen
    | o => o
  let h1 := put w0.heap 1 (Lib.firstTab.map fun z => Value.int .u8 z).toArray
  let h2 := put h1 2 ((List.range 16).flatMap fun i => [Value.int .u8 (Lib.accLo i), Value.int .u8 (Lib.accHi i)]).toArray
  let h3 := put h2 0 (tabE.flatMap fun x => [Value.string ⟨x.1.toArray⟩, Value.string ⟨x.2.toArray⟩]).toArray
  { w0 with heap := h3 }
theorem laid_met (os : Os) (args : Array Value) : laidMet Tryd.prog lst ((laidWorld os).forCall (fun _ _ => 0) ⟨#[], args, []⟩).memory :=
  (LaidIn.of_run (l := lst) [0, 1, 2] 8 (by kernel_rfl) (by kernel_rfl) (by kernel_rfl) (by kernel_rfl)).met
end Go.Proofs.YtefijebbndnnjaaDoor.W
