/- Contracts of functions that the law reaches. -/
import Derived.Test.YtincpomenogppaaDoorW4
set_option linter.unusedSimpArgs false
set_option linter.unusedVariables false
namespace Go.Proofs.YtincpomenogppaaDoor
open Go Go.RowKit Go.Proofs.YtincpomenogppaaDoor Go.Proofs.YtincpomenogppaaDoor.Lift
set_option maxRecDepth 100000

/-! Common lines (no program in sight) -/
def lcs : List (List UInt8) → List (List UInt8) → Nat
  | [], _ => 0
  | _ :: _, [] => 0
  | x :: xs, y :: ys => if x = y then lcs xs ys + 1 else max (lcs xs (y :: ys)) (lcs (x :: xs) ys)
theorem lcs_nil : ∀ x, lcs x [] = 0
  | [] => by unfold lcs; rfl
  | _ :: _ => by unfold lcs; rfl
theorem lcs_le : ∀ x y, lcs x y ≤ x.length ∧ lcs x y ≤ y.length
  | [], y => by unfold lcs; simp
  | _ :: _, [] => by unfold lcs; simp
  | x :: xs, y :: ys => by
    have h1 := lcs_le xs ys
    have h2 := lcs_le xs (y :: ys)
    have h3 := lcs_le (x :: xs) ys
    unfold lcs
    split
    · simp; omega
    · simp at h2 h3 ⊢; omega
theorem lcs_mono : ∀ (x y : List (List UInt8)) (a : List UInt8), lcs x y ≤ lcs (a :: x) y ∧ lcs (a :: x) y ≤ lcs x y + 1 ∧ lcs x y ≤ lcs x (a :: y) ∧ lcs x (a :: y) ≤ lcs x y + 1
  | [], y, a => by
    refine ⟨?_, ?_, ?_, ?_⟩
    · show lcs [] y ≤ _; unfold lcs; exact Nat.zero_le _
    · have := (lcs_le [a] y).1; simp at this; omega
    · unfold lcs; exact Nat.le_refl _
    · unfold lcs; omega
  | b :: x, [], a => by
    rw [lcs_nil, lcs_nil]
    refine ⟨Nat.le_refl _, Nat.zero_le _, Nat.zero_le _, ?_⟩
    exact (lcs_le (b :: x) [a]).2
  | b :: x, c :: y, a => by
    obtain ⟨p1, p2, p3, p4⟩ := lcs_mono x (c :: y) b
    obtain ⟨q1, q2, q3, q4⟩ := lcs_mono x y a
    obtain ⟨r1, r2, r3, r4⟩ := lcs_mono (b :: x) y c
    obtain ⟨s1, s2, s3, s4⟩ := lcs_mono (b :: x) y a
    obtain ⟨t1, t2, t3, t4⟩ := lcs_mono x (c :: y) a
    obtain ⟨u1, u2, u3, u4⟩ := lcs_mono x y b
    have ea : lcs (a :: b :: x) (c :: y) = if a = c then lcs (b :: x) y + 1 else max (lcs (b :: x) (c :: y)) (lcs (a :: b :: x) y) := by rw [lcs]
    have eb : lcs (b :: x) (a :: c :: y) = if b = a then lcs x (c :: y) + 1 else max (lcs x (a :: c :: y)) (lcs (b :: x) (c :: y)) := by rw [lcs]
    rw [ea, eb]
    refine ⟨?_, ?_, ?_, ?_⟩ <;> split <;> omega
  termination_by x y => x.length + y.length
/-- The table: how many common lines there are from two places on. -/
def tabT (x y : List (List UInt8)) (i k : Nat) : Nat := lcs (x.drop i) (y.drop k)
theorem tabT_le (x y : List (List UInt8)) (i k : Nat) : tabT x y i k ≤ x.length ∧ tabT x y i k ≤ y.length := by
  have := lcs_le (x.drop i) (y.drop k)
  rw [List.length_drop, List.length_drop] at this
  unfold tabT
  omega
theorem tabT_end (x y : List (List UInt8)) {i k : Nat} (h : x.length ≤ i ∨ y.length ≤ k) : tabT x y i k = 0 := by
  have := lcs_le (x.drop i) (y.drop k)
  rw [List.length_drop, List.length_drop] at this
  unfold tabT
  omega
theorem tabT_step {x y : List (List UInt8)} {i k : Nat} (hi : i < x.length) (hk : k < y.length) : tabT x y i k = if x[i] = y[k] then tabT x y (i + 1) (k + 1) + 1 else max (tabT x y (i + 1) k) (tabT x y i (k + 1)) := by
  unfold tabT
  rw [List.drop_eq_getElem_cons hi, List.drop_eq_getElem_cons hk, lcs]
end Go.Proofs.YtincpomenogppaaDoor
