/- Contracts of functions that the law reaches. -/
import Derived.Test.YtincpomenogppaaGreatDoorW4
set_option linter.unusedSimpArgs false
set_option linter.unusedVariables false
namespace Go.Proofs.YtincpomenogppaaGreatDoor
open Go Go.RowKit Go.Proofs.YtincpomenogppaaGreatDoor Go.Proofs.YtincpomenogppaaGreatDoor.Lift
set_option maxRecDepth 100000

def lcs : List (List UInt8) → List (List UInt8) → Nat
  | [], _ => 0
  | _ :: _, [] => 0
  | x :: xs, y :: ys => if x = y then lcs xs ys + 1 else max (lcs xs (y :: ys)) (lcs (x :: xs) ys)
theorem lcs_le : ∀ x y, lcs x y ≤ x.length ∧ lcs x y ≤ y.length
  | [], y => by unfold lcs; simp
  | _ :: _, [] => by unfold lcs; simp
  | x :: xs, y :: ys => by
    have h1 := lcs_le xs ys
    have h2 := lcs_le xs (y :: ys)
    have h3 := lcs_le (x :: xs) ys
    unfold lcs
    split
    · simp; omega
    · simp at h2 h3 ⊢; omega
def tabT (x y : List (List UInt8)) (i k : Nat) : Nat := lcs (x.drop i) (y.drop k)
theorem tabT_le (x y : List (List UInt8)) (i k : Nat) : tabT x y i k ≤ x.length ∧ tabT x y i k ≤ y.length := by
  have := lcs_le (x.drop i) (y.drop k)
  rw [List.length_drop, List.length_drop] at this
  unfold tabT
  omega
theorem tabT_end (x y : List (List UInt8)) {i k : Nat} (h : x.length ≤ i ∨ y.length ≤ k) : tabT x y i k = 0 := by
  have := lcs_le (x.drop i) (y.drop k)
  rw [List.length_drop, List.length_drop] at this
  unfold tabT
  omega
theorem tabT_step {x y : List (List UInt8)} {i k : Nat} (hi : i < x.length) (hk : k < y.length) : tabT x y i k = if x[i] = y[k] then tabT x y (i + 1) (k + 1) + 1 else max (tabT x y (i + 1) k) (tabT x y i (k + 1)) := by
  unfold tabT
  rw [List.drop_eq_getElem_cons hi, List.drop_eq_getElem_cons hk, lcs]
end Go.Proofs.YtincpomenogppaaGreatDoor
