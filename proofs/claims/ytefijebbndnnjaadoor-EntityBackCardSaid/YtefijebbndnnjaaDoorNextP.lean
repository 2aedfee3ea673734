/- Next, plain: what the program computes. -/
import Derived.Test.YtefijebbndnnjaaDoorNumc
import Derived.Test.YtefijebbndnnjaaDoorGoes
import Derived.Test.YtefijebbndnnjaaDoorLookP
set_option linter.unusedVariables false
namespace Go.Proofs.YtefijebbndnnjaaDoor.W

/-- the names that need no semicolon -/
def shorts : List (List UInt8) := [[97, 109, 112], [108, 116], [103, 116], [113, 117, 111, 116]]
/-- does a short name end here -/
def endsP (rest : List UInt8) : Bool := match rest with | [] => true | c :: _ => !goesP c
def shortP (t : List UInt8) : List (List UInt8) → List UInt8 × Nat
  | [] => ([], 0)
  | n :: r => if Lib.hasPrefix t n && endsP (Lib.trimPrefix t n) then ((lookP n).getD [], n.length + 1) else shortP t r
def nameP (t : List UInt8) : Option (List UInt8 × Nat) :=
  if (Lib.cut t [59]).2.2 then (lookP (Lib.cut t [59]).1).map fun c => (c, (Lib.cut t [59]).1.length + 2) else none
def nextE (l : List UInt8) : List UInt8 × Nat :=
  if Lib.hasPrefix l [38, 35, 120] || Lib.hasPrefix l [38, 35, 88] then numericP l 3 16
  else if Lib.hasPrefix l [38, 35] then numericP l 2 10
  else if !Lib.hasPrefix l [38] then ([], 0)
  else (nameP (l.drop 1)).getD (shortP (l.drop 1) shorts)
end Go.Proofs.YtefijebbndnnjaaDoor.W
