/- Contracts of functions that the law reaches. -/
import Derived.Test.YthlibdhjcjangaaDoorTg
set_option linter.unusedSimpArgs false
set_option linter.unusedVariables false
namespace Go.Proofs.YthlibdhjcjangaaDoor
open Go Go.RowKit Go.Proofs.YthlibdhjcjangaaDoor Go.Proofs.YthlibdhjcjangaaDoor.Lift
set_option maxRecDepth 100000

theorem atS_in (ns : List Int) (i : Nat) (hi : i < ns.length) (hv : okChars ns) : atS (packL ns) (anyWide ns) (i : Int) = .tuple [.int .i64 (ns.getD i 0), .int .i64 0] := by
  unfold atS
  rw [packL_len, if_neg (by omega), Int.toNat_natCast, packed_char ns i hi hv]
theorem atS_end (ns : List Int) : atS (packL ns) (anyWide ns) (ns.length : Int) = .tuple [.int .i64 0, .int .i64 11] := by
  unfold atS
  rw [packL_len, if_pos (by omega)]
theorem atS_neg (ns : List Int) : atS (packL ns) (anyWide ns) (-1) = .tuple [.int .i64 0, .int .i64 11] := by
  unfold atS
  rw [if_pos (by omega)]
end Go.Proofs.YthlibdhjcjangaaDoor
