/- Contracts of functions that the law reaches. -/
import Derived.Test.YtincpomenogppaaDoorT5
set_option linter.unusedSimpArgs false
set_option linter.unusedVariables false
namespace Go.Proofs.YtincpomenogppaaDoor
open Go Go.RowKit Go.Proofs.YtincpomenogppaaDoor Go.Proofs.YtincpomenogppaaDoor.Lift
set_option maxRecDepth 100000

theorem unR_elR (ns : List Int) : unR (elR ns) = some ns := unR_map ns
/-- Is a character wide? -/
def anyWide (ns : List Int) : Bool := ns.any fun c => decide (255 < c)
def packL (ns : List Int) : List UInt8 := if anyWide ns = true then ns.flatMap be4 else ns.map u8of
def sPack : List PV → Prop × PV
  | [.list 1 xs] => match unR xs with
    | some ns => (ns.length ≤ 1000000000, .agg [.str (packL ns), .bool (anyWide ns)])
    | none => PBad
  | _ => PBad
end Go.Proofs.YtincpomenogppaaDoor
