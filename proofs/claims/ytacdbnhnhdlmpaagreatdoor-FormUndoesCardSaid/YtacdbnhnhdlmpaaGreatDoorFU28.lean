/- Texts joined: DropB Mdrp TwS Mrep TwR Mwlk TwD TwX. -/
import Derived.Test.YtacdbnhnhdlmpaaGreatDoorFU26
import Derived.Test.YtacdbnhnhdlmpaaGreatDoorFU24
import Derived.Test.YtacdbnhnhdlmpaaGreatDoorFU27
import Derived.Test.YtacdbnhnhdlmpaaGreatDoorFU20
import Derived.Test.YtacdbnhnhdlmpaaGreatDoorFU6
import Derived.Test.YtacdbnhnhdlmpaaGreatDoorFU23
import Derived.LoopTactic
import Derived.RegionTactic
set_option maxRecDepth 100000
set_option maxHeartbeats 40000000
set_option linter.unusedVariables false
set_option linter.unusedSimpArgs false
section
namespace Go.Proofs.YtacdbnhnhdlmpaaGreatDoor.W
open Go.RowKit






end Go.Proofs.YtacdbnhnhdlmpaaGreatDoor.W
end
