/- What the rows of this seat list of package variables: nothing of it is read by AuthNil. -/
import Derived.Test.YtpgnfbdkhakbdaaGreatDoorRows
import Derived.Test.YtpgnfbdkhakbdaaGreatDoorEnv
import Derived.Test.YtpgnfbdkhakbdaaGreatDoorLiftD
import Derived.LaidLaws
import Derived.Plain9
import Derived.MakeChecks
set_option linter.unusedSimpArgs false
set_option linter.unusedVariables false
namespace Go.Proofs.YtpgnfbdkhakbdaaGreatDoor
open Go Go.RowKit Go.Proofs.YtpgnfbdkhakbdaaGreatDoor Go.Proofs.YtpgnfbdkhakbdaaGreatDoor.Lift
theorem open_st {cs : List PV} (h : VSh .str cs) : ∃ l, l.length ≤ maxLen ∧ cs = [.str l] := by
  obtain ⟨l, rfl, hl⟩ := h
  exact ⟨l, hl, rfl⟩
theorem laid_glob {W : World} (_ : laidMetH Tryz.prog Rows.authNilRow.laid W) :
    (∀ g cs, Go.Proofs.YtpgnfbdkhakbdaaGreatDoor.Lift.look env.gl g = some cs → R1 W (fun b => b < W.heap.size) (.elem cs) (.pointer (some ⟨g, 0, none⟩))) ∧ gwinv W (fun b => b < W.heap.size) :=
  ⟨fun g cs e => (by have e : (none : Option (List PV)) = some cs := e; cases e), trivial⟩
end Go.Proofs.YtpgnfbdkhakbdaaGreatDoor
