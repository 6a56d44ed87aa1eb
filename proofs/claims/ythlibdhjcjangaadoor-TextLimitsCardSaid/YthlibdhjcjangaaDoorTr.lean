/- Contracts of functions that the law reaches. -/
import Derived.Test.YthlibdhjcjangaaDoorTq
set_option linter.unusedSimpArgs false
set_option linter.unusedVariables false
namespace Go.Proofs.YthlibdhjcjangaaDoor
open Go Go.RowKit Go.Proofs.YthlibdhjcjangaaDoor Go.Proofs.YthlibdhjcjangaaDoor.Lift
set_option maxRecDepth 100000

def sSet : List PV → Prop × PV
  | [.agg [.str l, .bool w], .int .i64 i, .int .i64 c] => (l.length ≤ 100000000, setS l w i c)
  | _ => PBad
noncomputable def eSet : SpecE env := ⟨14, sSet, fun args h hc => by
  unfold sSet at hc ⊢
  split at hc
  · rename_i l w i c; exact .inl (Set_ok l w i c h hc)
  · exact hc.elim⟩
/-! acheronref01.Compare -/
def sCompareR : List PV → Prop × PV
  | [.list 1 xs, .list 1 ys] => match unI xs, unI ys with
    | some a, some b => (a.length ≤ 1000000000 ∧ b.length ≤ 1000000000, .int .i64 (cmpI a b))
    | _, _ => PBad
  | _ => PBad
end Go.Proofs.YthlibdhjcjangaaDoor
