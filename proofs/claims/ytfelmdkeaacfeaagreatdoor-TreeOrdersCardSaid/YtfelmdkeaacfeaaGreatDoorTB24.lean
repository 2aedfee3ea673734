/- Texts joined: Whole Formed RegI Iter. -/
import Derived.Test.YtfelmdkeaacfeaaGreatDoorTB1
import Derived.Test.YtfelmdkeaacfeaaGreatDoorTB23
import Derived.Test.YtfelmdkeaacfeaaGreatDoorTB10
import Derived.Test.YtfelmdkeaacfeaaGreatDoorTB5
import Derived.OrdersIn
import Derived.TacticsIn
import Derived.RangeFuncNested
import Derived.RangeFuncBound
import Derived.RangeFuncCalls
import Derived.RangeFuncLeaves
import Derived.Shelf.Abstract
import Derived.Shelf.RegionOpen
import Derived.WalkKit
import Derived.OwnWalkIn
import Derived.TacticsInMore
import Derived.LoopNIn
import Derived.LoopIn
set_option maxRecDepth 100000
set_option maxHeartbeats 40000000
set_option linter.unusedVariables false
set_option linter.unusedSimpArgs false
section
namespace Go.Proofs.YtfelmdkeaacfeaaGreatDoor.W
open Go.RowKit

end Go.Proofs.YtfelmdkeaacfeaaGreatDoor.W
end
section
namespace Go.Proofs.YtfelmdkeaacfeaaGreatDoor.W
open Go
section
variable {P : Program} {ops : Array Oper} {L : Pl} {md : Region.Mode} {m n0 : Nat} {Q : Array Bool → Nat → List Ob → Act → Prop}
end
end Go.Proofs.YtfelmdkeaacfeaaGreatDoor.W
end
section
namespace Go.Proofs.YtfelmdkeaacfeaaGreatDoor.W
open Go.RowKit
attribute [local go_sem] Oper.semAt_some
abbrev SV (S:Tr):Type:={i:Nat // ∃n,S.slots[i]? = Option.some (Option.some n)}
def VE:Nd:=⟨0,[],.slice none 0 0,[],[],0,0,0,0,0⟩
def jh (S:Tr)(i:Nat):Nd:=(S.at i).getD VE
theorem kU {W w:World}(h:Below W.heap.size W w):W.grownBy w none:=⟨h.os,h.tape,h.output,h.size,fun k hk _=>h.block k hk⟩
end Go.Proofs.YtfelmdkeaacfeaaGreatDoor.W
end
