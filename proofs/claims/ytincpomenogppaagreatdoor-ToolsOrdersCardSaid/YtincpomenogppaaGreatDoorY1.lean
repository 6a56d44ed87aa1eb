/- Contracts of functions that the law reaches. -/
import Derived.Test.YtincpomenogppaaGreatDoorX3
set_option linter.unusedSimpArgs false
set_option linter.unusedVariables false
namespace Go.Proofs.YtincpomenogppaaGreatDoor
open Go Go.RowKit Go.Proofs.YtincpomenogppaaGreatDoor Go.Proofs.YtincpomenogppaaGreatDoor.Lift
set_option maxRecDepth 100000

theorem contL_len (ls : List (List UInt8)) : (contL ls).length = ls.length := by unfold contL; rw [List.length_map]
end Go.Proofs.YtincpomenogppaaGreatDoor
