/- Contracts of functions that the law reaches. -/
import Derived.Test.YtincpomenogppaaGreatDoorT4
set_option linter.unusedSimpArgs false
set_option linter.unusedVariables false
namespace Go.Proofs.YtincpomenogppaaGreatDoor
open Go Go.RowKit Go.Proofs.YtincpomenogppaaGreatDoor Go.Proofs.YtincpomenogppaaGreatDoor.Lift
set_option maxRecDepth 100000

end Go.Proofs.YtincpomenogppaaGreatDoor

namespace Go.Proofs.YtincpomenogppaaGreatDoor
open Go Go.RowKit Go.Proofs.YtincpomenogppaaGreatDoor Go.Proofs.YtincpomenogppaaGreatDoor.Lift
set_option maxRecDepth 100000

theorem runesAt_len (s : ByteArray) : ∀ n i, (runesAt s n i).length ≤ n
  | 0, _ => Nat.le_refl _
  | n + 1, i => by
    unfold runesAt
    split
    · simp only [List.length_cons]
      exact Nat.succ_le_succ (runesAt_len s n _)
    · exact Nat.zero_le _
end Go.Proofs.YtincpomenogppaaGreatDoor
