/- Contracts of functions that the law reaches. -/
import Derived.Test.YthlibdhjcjangaaDoorTm
set_option linter.unusedSimpArgs false
set_option linter.unusedVariables false
namespace Go.Proofs.YthlibdhjcjangaaDoor
open Go Go.RowKit Go.Proofs.YthlibdhjcjangaaDoor Go.Proofs.YthlibdhjcjangaaDoor.Lift
set_option maxRecDepth 100000

/-! text.Str.Slice -/
def sliceS (l : List UInt8) (w : Bool) (i j : Int) : PV :=
  if i < 0 ∨ j < i ∨ (lenS l w : Int) < j then .tuple [.agg [.str [], .bool false], .int .i64 11]
  else if w = true then .tuple [strV (((charsS l w).take j.toNat).drop i.toNat), .int .i64 0]
  else .tuple [.agg [.str ((l.take j.toNat).drop i.toNat), .bool false], .int .i64 0]
def sSliceT : List PV → Prop × PV
  | [.agg [.str l, .bool w], .int .i64 i, .int .i64 j] => (l.length ≤ 1000000000, sliceS l w i j)
  | _ => PBad
theorem elR_part (ns : List Int) (a b : Nat) : ((elR ns).take b).drop a = elR ((ns.take b).drop a) := by simp [elR]
end Go.Proofs.YthlibdhjcjangaaDoor
