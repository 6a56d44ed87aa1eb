/- Contracts of functions that the law reaches. -/
import Derived.Test.YthlibdhjcjangaaDoorT9
set_option linter.unusedSimpArgs false
set_option linter.unusedVariables false
namespace Go.Proofs.YthlibdhjcjangaaDoor
open Go Go.RowKit Go.Proofs.YthlibdhjcjangaaDoor Go.Proofs.YthlibdhjcjangaaDoor.Lift
set_option maxRecDepth 100000

/-! acheronref01.Decode -/
/-- Elements that are numbers. -/
def elI (ns : List Int) : List (List PV) := ns.map fun n => [.int .i64 n]
theorem elI_len (ns : List Int) : (elI ns).length = ns.length := by simp [elI]
def decodeS : Nat → List UInt8 → List Int
  | 0, _ => []
  | n + 1, l => if 0 < l.length then (firstS l).1 :: decodeS n (l.drop (firstS l).2) else []
theorem tailS_le (l : List UInt8) (n : Nat) (c0 : Int) (h1 : 1 ≤ n) (h0 : 0 < l.length) : 1 ≤ (tailS l n c0).2 ∧ (tailS l n c0).2 ≤ l.length := by
  unfold tailS
  split
  · exact ⟨Nat.le_refl _, h0⟩
  · split
    · split
      · exact ⟨h1, by omega⟩
      · exact ⟨Nat.le_refl _, h0⟩
    · exact ⟨Nat.le_refl _, h0⟩
theorem firstS_le (l : List UInt8) (h0 : 0 < l.length) : 1 ≤ (firstS l).2 ∧ (firstS l).2 ≤ l.length := by
  unfold firstS
  dsimp only
  split
  · exact tailS_le _ _ _ (by omega) h0
  · split
    · exact tailS_le _ _ _ (by omega) h0
    · split
      · exact tailS_le _ _ _ (by omega) h0
      · split
        · exact ⟨Nat.le_refl _, h0⟩
        · exact tailS_le _ _ _ (by omega) h0
theorem decodeS_len : ∀ (n : Nat) (l : List UInt8), (decodeS n l).length ≤ n
  | 0, _ => Nat.le_refl _
  | n + 1, l => by
    unfold decodeS
    split
    · simp only [List.length_cons]
      exact Nat.succ_le_succ (decodeS_len n _)
    · exact Nat.zero_le _
def sDecode : List PV → Prop × PV
  | [.str l] => (l.length ≤ 1000000000, .list 1 (elI (decodeS l.length l)))
  | _ => PBad
end Go.Proofs.YthlibdhjcjangaaDoor
