/- Contracts of functions that the law reaches. -/
import Derived.Test.YtincpomenogppaaGreatDoorX7
set_option linter.unusedSimpArgs false
set_option linter.unusedVariables false
namespace Go.Proofs.YtincpomenogppaaGreatDoor
open Go Go.RowKit Go.Proofs.YtincpomenogppaaGreatDoor Go.Proofs.YtincpomenogppaaGreatDoor.Lift
set_option maxRecDepth 100000

theorem cutB_app (c : UInt8) (l : List UInt8) : c ∉ (cutB c l).1 ∧ l = (cutB c l).1 ++ (if (cutB c l).2.2 then c :: (cutB c l).2.1 else []) ∧ ((cutB c l).2.2 = false → (cutB c l).2.1 = []) := by
  by_cases h : c ∈ l
  · obtain ⟨p, r, rfl, hp⟩ := first_of h
    rw [cutB_in hp]
    exact ⟨hp, by simp, fun k => by cases k⟩
  · rw [cutB_out h]
    exact ⟨h, by simp, fun _ => rfl⟩
end Go.Proofs.YtincpomenogppaaGreatDoor

namespace Go.Proofs.YtincpomenogppaaGreatDoor
open Go Go.RowKit Go.Proofs.YtincpomenogppaaGreatDoor Go.Proofs.YtincpomenogppaaGreatDoor.Lift
set_option maxRecDepth 100000

end Go.Proofs.YtincpomenogppaaGreatDoor
