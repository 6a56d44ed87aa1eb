/- Contracts of functions that the law reaches. -/
import Derived.Test.YtincpomenogppaaGreatDoorY5
set_option linter.unusedSimpArgs false
set_option linter.unusedVariables false
namespace Go.Proofs.YtincpomenogppaaGreatDoor
open Go Go.RowKit Go.Proofs.YtincpomenogppaaGreatDoor Go.Proofs.YtincpomenogppaaGreatDoor.Lift
set_option maxRecDepth 100000

def ltD (down : Bool) (a b : List UInt8) : Bool := if down = true then !(lessB a b || a == b) else lessB a b
def scanB (down : Bool) (cs : List (List UInt8)) (us : List Bool) : Nat → Nat → Int → Int
  | 0, _, b => b
  | n + 1, i, b => scanB down cs us n (i + 1) (if us.getD i false = true then b else if b < 0 ∨ ltD down (cs.getD i []) (cs.getD b.toNat []) = true then (i : Int) else b)
def selF (down : Bool) (cs : List (List UInt8)) : Nat → List Bool → List UInt8
  | 0, _ => []
  | n + 1, us => (cs.getD (scanB down cs us cs.length 0 (-1)).toNat [] ++ [10]) ++ selF down cs n (us.set (scanB down cs us cs.length 0 (-1)).toNat true)
theorem scan_found (down : Bool) (cs : List (List UInt8)) (us : List Bool) : ∀ (n i : Nat) (b : Int), (b < 0 ∨ (b < i ∧ us.getD b.toNat false = false)) → i + n ≤ us.length →
    (0 ≤ b ∨ ∃ k, i ≤ k ∧ k < i + n ∧ us.getD k false = false) →
    0 ≤ scanB down cs us n i b ∧ scanB down cs us n i b < ((i + n : Nat) : Int) ∧ us.getD (scanB down cs us n i b).toNat false = false
  | 0, i, b, hb, _, hk => by
    show 0 ≤ b ∧ b < ((i + 0 : Nat) : Int) ∧ us.getD b.toNat false = false
    rcases hk with hk | ⟨k, k1, k2, _⟩
    · rcases hb with hb | ⟨h1, h2⟩
      · omega
      · exact ⟨hk, by omega, h2⟩
    · omega
  | n + 1, i, b, hb, hl, hk => by
    unfold scanB
    have hin : i + (n + 1) = i + 1 + n := by omega
    rw [hin]
    by_cases hu : us.getD i false = true
    · rw [if_pos hu]
      refine scan_found down cs us n (i + 1) b (hb.imp id fun ⟨h1, h2⟩ => ⟨by omega, h2⟩) (by omega) ?_
      rcases hk with hk | ⟨k, k1, k2, k3⟩
      · exact .inl hk
      · refine .inr ⟨k, ?_, by omega, k3⟩
        rcases Nat.eq_or_lt_of_le k1 with e | e
        · subst e; rw [hu] at k3; cases k3
        · exact e
    · rw [if_neg hu]
      have hu : us.getD i false = false := by cases e : us.getD i false; rfl; exact absurd e hu
      split
      · exact scan_found down cs us n (i + 1) i (.inr ⟨by omega, by rw [Int.toNat_natCast]; exact hu⟩) (by omega) (.inl (by omega))
      · rename_i hnb
        exact scan_found down cs us n (i + 1) b (hb.imp id fun ⟨h1, h2⟩ => ⟨by omega, h2⟩) (by omega) (.inl (by omega))
theorem unused {us : List Bool} {n : Nat} (h : us.length = n) (hc : 0 < us.count false) : ∃ k, 0 ≤ k ∧ k < 0 + n ∧ us.getD k false = false := by
  obtain ⟨k, hk, e⟩ := List.getElem_of_mem (List.count_pos_iff.1 hc)
  exact ⟨k, Nat.zero_le _, by omega, by rw [List.getD_eq_getElem?_getD, List.getElem?_eq_getElem hk]; exact e⟩
theorem count_set_true {us : List Bool} {m : Nat} (h : m < us.length) (e : us.getD m false = false) : (us.set m true).count false = us.count false - 1 := by
  have e : us[m] = false := by rw [List.getD_eq_getElem?_getD, List.getElem?_eq_getElem h] at e; exact e
  rw [List.count_set h, e]
  simp
end Go.Proofs.YtincpomenogppaaGreatDoor
