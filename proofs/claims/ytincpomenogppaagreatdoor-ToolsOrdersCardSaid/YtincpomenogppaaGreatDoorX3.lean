/- Contracts of functions that the law reaches. -/
import Derived.Test.YtincpomenogppaaGreatDoorX1
import Derived.Test.YtincpomenogppaaGreatDoorLiftH
set_option linter.unusedSimpArgs false
set_option linter.unusedVariables false
namespace Go.Proofs.YtincpomenogppaaGreatDoor
open Go Go.RowKit Go.Proofs.YtincpomenogppaaGreatDoor Go.Proofs.YtincpomenogppaaGreatDoor.Lift
set_option maxRecDepth 100000

def prefixS (l p : List UInt8) : Bool := decide (p.length ≤ l.length) && (l.take p.length == p)
def cutB (c : UInt8) : List UInt8 → List UInt8 × List UInt8 × Bool
  | [] => ([], [], false)
  | b :: l => if b = c then ([], l, true) else (b :: (cutB c l).1, (cutB c l).2.1, (cutB c l).2.2)
end Go.Proofs.YtincpomenogppaaGreatDoor
