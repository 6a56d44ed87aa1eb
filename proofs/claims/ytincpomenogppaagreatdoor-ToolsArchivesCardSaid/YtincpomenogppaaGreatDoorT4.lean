/- Contracts of functions that the law reaches. -/
import Derived.Test.YtincpomenogppaaGreatDoorT2
set_option linter.unusedSimpArgs false
set_option linter.unusedVariables false
namespace Go.Proofs.YtincpomenogppaaGreatDoor
open Go Go.RowKit Go.Proofs.YtincpomenogppaaGreatDoor Go.Proofs.YtincpomenogppaaGreatDoor.Lift
set_option maxRecDepth 100000

end Go.Proofs.YtincpomenogppaaGreatDoor

namespace Go.Proofs.YtincpomenogppaaGreatDoor
open Go Go.RowKit Go.Proofs.YtincpomenogppaaGreatDoor Go.Proofs.YtincpomenogppaaGreatDoor.Lift
set_option maxRecDepth 100000

def lenS (l : List UInt8) (w : Bool) : Nat := if w = true then l.length / 4 else l.length
def sLen : List PV → Prop × PV
  | [.agg [.str l, .bool w]] => (l.length ≤ 1000000000, .int .i64 (lenS l w))
  | _ => PBad
end Go.Proofs.YtincpomenogppaaGreatDoor
