/- Texts joined: DoY ReF EqA Equ. -/
import Derived.Test.YtfelmdkeaacfeaaGreatDoorTB1
import Derived.Test.YtfelmdkeaacfeaaGreatDoorTB35
import Derived.Test.YtfelmdkeaacfeaaGreatDoorTB36
import Derived.Test.YtfelmdkeaacfeaaGreatDoorTB37
import Derived.Test.YtfelmdkeaacfeaaGreatDoorTB40
import Derived.Test.YtfelmdkeaacfeaaGreatDoorTB28
import Derived.Test.YtfelmdkeaacfeaaGreatDoorTB31
import Derived.Test.YtfelmdkeaacfeaaGreatDoorTB25
import Derived.Test.YtfelmdkeaacfeaaGreatDoorTB14
set_option maxRecDepth 100000
set_option maxHeartbeats 40000000
set_option linter.unusedVariables false
set_option linter.unusedSimpArgs false
section
namespace Go.Proofs.YtfelmdkeaacfeaaGreatDoor.W
open Go.RowKit
theorem UG {ex:Prop}{E:Nat→Prop}{c x:Nat}{B:Nat}{w0 w:World}{l:List Ob}{g R Q:Nat}{hv sv fv nv:Value}{S:Tr}{K:Nat→List Nat}{d:Nat→Nat}{X:List MX}{σ : Nat→Nat}
  (hLd:Laid w)(h:All B w0 (kK g R Q hv (iZ S σ (ms X)) S sv fv nv X ++ l) w)(T:CX ex E c x S K d (ms X) σ)(hX:X.length≤600)(hx:x≤2000)(hce:ex→c≤60)(hc6:c≤200)(o:ou)(ho:o.Ok)(hE:∀y,E y→(S.at y).isSome=true) :
  Calls Tryz.prog 13 #[.pointer (some ⟨g,0,none⟩),.agg (opC o).toArray] w (E8 ex E c x B w0 l g R Q S K d (ms X) σ o):=by
 have h10:o.k % 10 < 10:=jr _ (by omega)
 rcases(show o.k % 10=0∨o.k % 10=1∨o.k % 10=2∨o.k % 10=3∨o.k % 10=4∨o.k % 10=5∨o.k % 10=6∨o.k % 10=7∨o.k % 10=8∨o.k % 10=9 by omega) with hk | hk | hk | hk | hk | hk | hk | hk | hk | hk
 ·exact Qw (by omega) hLd h T hX hx hce hc6 o ho hk hE
 ·exact Qw (by omega) hLd h T hX hx hce hc6 o ho hk hE
 ·exact Qw (by omega) hLd h T hX hx hce hc6 o ho hk hE
 ·exact UC hLd h T hX hx hce hc6 o ho hk
 ·exact UB hLd h T hX hx hce hc6 o ho hk
 ·exact Uz hLd h T hX hx hce hc6 o ho hk
 ·exact UD hLd h T hX hx hce hc6 o ho hk
 ·exact UA hLd h T hX hx hce hc6 o ho hk
 ·exact UF hLd h T hX hx hce hc6 o ho hk hE
 ·exact UE hLd h T hX hx hce hc6 o ho hk



end Go.Proofs.YtfelmdkeaacfeaaGreatDoor.W
end
