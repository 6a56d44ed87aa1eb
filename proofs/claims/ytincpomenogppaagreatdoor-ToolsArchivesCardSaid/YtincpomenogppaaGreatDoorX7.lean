/- Contracts of functions that the law reaches. -/
import Derived.Test.YtincpomenogppaaGreatDoorX5
set_option linter.unusedSimpArgs false
set_option linter.unusedVariables false
namespace Go.Proofs.YtincpomenogppaaGreatDoor
open Go Go.RowKit Go.Proofs.YtincpomenogppaaGreatDoor Go.Proofs.YtincpomenogppaaGreatDoor.Lift
set_option maxRecDepth 100000

theorem splitG_short (c : UInt8) : ∀ l : List UInt8, ∀ w ∈ splitG c 0 l, w.length ≤ l.length
  | [], w, h => by
    have h : w ∈ [[]] := h
    rw [List.mem_singleton.1 h]; exact Nat.le_refl _
  | b :: l, w, h => by
    have ih := splitG_short c l
    unfold splitG at h
    split at h
    · rcases List.mem_cons.1 h with rfl | h
      · simp
      · have := ih w h; rw [List.length_cons]; omega
    · split at h
      · rw [List.mem_singleton.1 h]; simp
      · rename_i x xs e
        rw [e] at ih
        rcases List.mem_cons.1 h with rfl | h
        · have := ih x (List.mem_cons_self ..)
          rw [List.length_cons, List.length_cons]; omega
        · have := ih w (List.mem_cons_of_mem _ h); rw [List.length_cons]; omega
end Go.Proofs.YtincpomenogppaaGreatDoor

namespace Go.Proofs.YtincpomenogppaaGreatDoor
open Go Go.RowKit Go.Proofs.YtincpomenogppaaGreatDoor Go.Proofs.YtincpomenogppaaGreatDoor.Lift
set_option maxRecDepth 100000

def digB (b : UInt8) : Bool := decide (48 ≤ b.toNat) && decide (b.toNat ≤ 57)
def rnumF : Nat → List UInt8 → Int × Nat
  | acc, [] => ((acc : Nat), 0)
  | acc, b :: l => if digB b = true then
      (if (9223372036854775807 - (b.toNat - 48)) / 10 < acc then (-1, 0) else ((rnumF (10 * acc + (b.toNat - 48)) l).1, (rnumF (10 * acc + (b.toNat - 48)) l).2 + 1))
    else ((acc : Nat), 0)
theorem rnumF_len : ∀ (l : List UInt8) (acc : Nat), (rnumF acc l).2 ≤ l.length
  | [], acc => Nat.le_refl _
  | b :: l, acc => by
    unfold rnumF
    split
    · split
      · exact Nat.zero_le _
      · have := rnumF_len l (10 * acc + (b.toNat - 48))
        simp; omega
    · exact Nat.zero_le _
theorem rnumF_bounds : ∀ (l : List UInt8) (acc : Nat), acc ≤ 9223372036854775807 → -1 ≤ (rnumF acc l).1 ∧ (rnumF acc l).1 ≤ 9223372036854775807
  | [], acc, h => ⟨by show (-1 : Int) ≤ (acc : Nat); omega, by show ((acc : Nat) : Int) ≤ _; omega⟩
  | b :: l, acc, h => by
    unfold rnumF
    split
    · rename_i hd
      unfold digB at hd
      rw [Bool.and_eq_true, decide_eq_true_eq, decide_eq_true_eq] at hd
      split
      · exact ⟨by decide, by decide⟩
      · exact rnumF_bounds l _ (by omega)
    · exact ⟨by show (-1 : Int) ≤ (acc : Nat); omega, by show ((acc : Nat) : Int) ≤ _; omega⟩
end Go.Proofs.YtincpomenogppaaGreatDoor
