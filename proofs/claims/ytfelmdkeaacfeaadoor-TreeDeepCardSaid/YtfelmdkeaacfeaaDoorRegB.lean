/- Regions that draw their order, over what lay there before: loads and calls that leave it alone, then a tail in a forced order. No program in sight. -/
import Derived.Test.YtfelmdkeaacfeaaDoorRegM
namespace Go.Proofs.YtfelmdkeaacfeaaDoor.W
open Go
set_option linter.unusedVariables false
/-- the worlds in which what lay in w0 lies still -/
abbrev StB (w0 : World) (w : World) : Prop := RowKit.Below w0.heap.size w0 w
abbrev plB (w0 : World) (val : Nat → Value) : Pl := ⟨StB w0, fun _ _ w => StB w0 w, val, fun _ _ => undef, fun _ => [], fun _ => 0⟩
theorem stb_ne (w0 : World) : Nonempty (InS (StB w0)) := ⟨⟨w0, RowKit.Below.refl _ _⟩⟩
theorem reg_b {P : Program} {id : Nat} {Q' : Exit → Act → World → Prop} {a : Act} {w : World} {ls : List Oper} (val : Nat → Value) (m : Nat)
    (hm : P.follows .mixedOrders = true) (hB : all4 .any ls.toArray m (ls.length - m) = true)
    (h : wp4 P ls.toArray (plB w val) (fun k X a' => ∀ w', StB w w' → wpList P ls.toArray Q' (ls.drop m) a' w') 0 0 [] (ls.take m) a) : (Code.region id ls.toArray true).wp P Q' a w :=
  reg_m (plB w val) m hm hB (fun k X w h => h) (fun k X w' cs ty h => h.alloc h.size _) (fun k X Y w hp h => h) ((RowKit.Below.refl _ _).drew) h
end Go.Proofs.YtfelmdkeaacfeaaDoor.W
