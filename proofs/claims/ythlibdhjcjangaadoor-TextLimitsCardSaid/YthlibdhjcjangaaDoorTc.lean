/- Contracts of functions that the law reaches. -/
import Derived.Test.YthlibdhjcjangaaDoorTp
set_option linter.unusedSimpArgs false
set_option linter.unusedVariables false
namespace Go.Proofs.YthlibdhjcjangaaDoor
open Go Go.RowKit Go.Proofs.YthlibdhjcjangaaDoor Go.Proofs.YthlibdhjcjangaaDoor.Lift
set_option maxRecDepth 100000

theorem lastN_take (s : List UInt8) (c : UInt8) (n : Nat) : ∀ k, k ≤ n → lastN (s.take n) c k = lastN s c k
  | 0, _ => rfl
  | k + 1, h => by
    unfold lastN
    rw [lastN_take s c n k (by omega)]
    have : (s.take n).getD k 0 = s.getD k 0 := by
      simp only [List.getD_eq_getElem?_getD, List.getElem?_take]
      rw [if_pos (by omega)]
    rw [this]
end Go.Proofs.YthlibdhjcjangaaDoor
