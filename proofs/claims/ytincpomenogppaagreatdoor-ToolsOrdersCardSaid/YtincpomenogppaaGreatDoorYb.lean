/- Contracts of functions that the law reaches. -/
import Derived.Test.YtincpomenogppaaGreatDoorYa
import Derived.Test.YtincpomenogppaaGreatDoorWj
set_option linter.unusedSimpArgs false
set_option linter.unusedVariables false
namespace Go.Proofs.YtincpomenogppaaGreatDoor
open Go Go.RowKit Go.Proofs.YtincpomenogppaaGreatDoor Go.Proofs.YtincpomenogppaaGreatDoor.Lift
set_option maxRecDepth 100000

def sSort : List PV → Prop × PV
  | [.str s, .bool d] => (s.length ≤ 1000000 ∧ (sortT d s).length ≤ 100000000000000, .str (sortT d s))
  | _ => PBad
noncomputable def eSort : SpecE env := ⟨20, sSort, fun args h hc => by
  unfold sSort at hc ⊢
  split at hc
  · exact .inl (Sort_ok _ _ hc.1 hc.2 h)
  · exact hc.elim⟩
def sAwakeL : List PV → Prop × PV
  | [] => (True, .bool true)
  | _ => PBad
noncomputable def eAwakeL : SpecE env := ⟨7, sAwakeL, fun args h hc => by
  unfold sAwakeL at hc ⊢
  split at hc
  · exact .inl (Awake_ok h)
  · exact hc.elim⟩
end Go.Proofs.YtincpomenogppaaGreatDoor
