/- Contracts of functions that the law reaches. -/
import Derived.Test.YtincpomenogppaaGreatDoorT8
import Derived.Lib.IndexLaws
set_option linter.unusedSimpArgs false
set_option linter.unusedVariables false
namespace Go.Proofs.YtincpomenogppaaGreatDoor
open Go Go.RowKit Go.Proofs.YtincpomenogppaaGreatDoor Go.Proofs.YtincpomenogppaaGreatDoor.Lift
set_option maxRecDepth 100000

def strL (l : List (List UInt8)) : List (List PV) := l.map fun x => [PV.str x]
theorem strL_len (l : List (List UInt8)) : (strL l).length = l.length := List.length_map _
theorem strL_at {l : List (List UInt8)} {i : Nat} (h : i < l.length) : (strL l).getD i [] = [.str l[i]] := by
  unfold strL
  rw [List.getD_eq_getElem?_getD, List.getElem?_eq_getElem (by rw [List.length_map]; exact h)]
  simp
theorem strL_append (a b : List (List UInt8)) : strL (a ++ b) = strL a ++ strL b := List.map_append
theorem strL_drop (a : List (List UInt8)) (n : Nat) : (strL a).drop n = strL (a.drop n) := by unfold strL; rw [List.map_drop]
theorem strL_take (a : List (List UInt8)) (n : Nat) : (strL a).take n = strL (a.take n) := by unfold strL; rw [List.map_take]
theorem strL_wide (a : List (List UInt8)) : ∀ x ∈ strL a, x.length = 1 := fun x hx => by
  unfold strL at hx
  obtain ⟨y, _, rfl⟩ := List.mem_map.1 hx
  rfl
theorem strL_flat : ∀ a : List (List UInt8), (strL a).flatten = a.map PV.str
  | [] => rfl
  | x :: a => by
    show [PV.str x] ++ (strL a).flatten = _
    rw [strL_flat a]; rfl
def unS : List (List PV) → Option (List (List UInt8))
  | [] => some []
  | [.str x] :: l => match unS l with | some r => some (x :: r) | none => none
  | _ => none
theorem unS_spec : ∀ {xs : List (List PV)} {l : List (List UInt8)}, unS xs = some l → xs = strL l
  | [], l, h => by
    have : [] = l := Option.some.inj h
    subst this; rfl
  | x :: xs, l, h => by
    unfold unS at h
    split at h
    · rename_i e; cases e
    · rename_i y l' e
      injection e with e1 e2
      subst e1 e2
      split at h
      · rename_i r hr
        have := Option.some.inj h
        subst this
        rw [unS_spec hr]
        rfl
      · cases h
    · cases h
theorem unS_el : ∀ l : List (List UInt8), unS (strL l) = some l
  | [] => rfl
  | x :: l => by
    show (match unS (strL l) with | some r => some (x :: r) | none => none) = _
    rw [unS_el l]
theorem idx_none {l : List UInt8} {c : UInt8} (h : c ∉ l) : Lib.indexByte l c = -1 := by
  induction l with
  | nil => rfl
  | cons b l ih =>
    simp only [List.mem_cons, not_or] at h
    unfold Lib.indexByte
    rw [ih h.2]
    have : (b == c) = false := by rw [beq_eq_false_iff_ne]; exact fun e => h.1 e.symm
    rw [this]
    rfl
theorem idx_at {p r : List UInt8} {c : UInt8} (h : c ∉ p) : Lib.indexByte (p ++ c :: r) c = (p.length : Nat) := by
  induction p with
  | nil => simp [Lib.indexByte]
  | cons b p ih =>
    simp only [List.mem_cons, not_or] at h
    rw [List.cons_append]
    unfold Lib.indexByte
    rw [ih h.2]
    have : (b == c) = false := by rw [beq_eq_false_iff_ne]; exact fun e => h.1 e.symm
    rw [this]
    have h2 : (((p.length : Nat) : Int) == -1) = false := by rw [beq_eq_false_iff_ne]; omega
    rw [h2]
    simp
theorem first_of {l : List UInt8} {c : UInt8} (h : c ∈ l) : ∃ p r, l = p ++ c :: r ∧ c ∉ p := by
  induction l with
  | nil => cases h
  | cons b l ih =>
    by_cases e : c = b
    · subst e; exact ⟨[], l, rfl, by simp⟩
    · obtain ⟨p, r, rfl, hp⟩ := ih (by simpa [e] using h)
      exact ⟨b :: p, r, rfl, by simp [e, hp]⟩
def splitG (c : UInt8) (k : Nat) : List UInt8 → List (List UInt8)
  | [] => [[]]
  | b :: l => if b = c then ([c].take k) :: splitG c k l else match splitG c k l with | [] => [[b]] | x :: xs => (b :: x) :: xs
theorem splitG_len (c : UInt8) (k : Nat) : ∀ l, (splitG c k l).length = l.count c + 1
  | [] => rfl
  | b :: l => by
    have ih := splitG_len c k l
    unfold splitG
    split
    · rename_i e; subst e; simp [ih]
    · rename_i e
      rw [List.count_cons_of_ne e]
      split
      · rename_i h; rw [h] at ih; simp at ih
      · rename_i h; rw [h] at ih; simp at ih ⊢; omega
theorem splitG_line {c : UInt8} (k : Nat) {p r : List UInt8} (h : c ∉ p) : splitG c k (p ++ c :: r) = (p ++ [c].take k) :: splitG c k r := by
  induction p with
  | nil => simp [splitG]
  | cons b p ih =>
    simp only [List.mem_cons, not_or] at h
    rw [List.cons_append, splitG, if_neg (fun e => h.1 e.symm), ih h.2]
    rfl
theorem splitG_end {c : UInt8} (k : Nat) {p : List UInt8} (h : c ∉ p) : splitG c k p = [p] := by
  induction p with
  | nil => rfl
  | cons b p ih =>
    simp only [List.mem_cons, not_or] at h
    unfold splitG
    rw [if_neg (fun e => h.1 e.symm), ih h.2]
theorem splitG_ne (c : UInt8) (k : Nat) (l : List UInt8) : splitG c k l ≠ [] := fun h => by
  have := splitG_len c k l
  rw [h] at this
  simp at this
def linesOf : List UInt8 → List (List UInt8)
  | [] => []
  | b :: l => if b = 10 then [10] :: linesOf l else match linesOf l with | [] => [[b]] | x :: xs => (b :: x) :: xs
theorem linesOf_flat : ∀ l, (linesOf l).flatten = l
  | [] => rfl
  | b :: l => by
    have ih := linesOf_flat l
    unfold linesOf
    split
    · rename_i e; subst e; simp [ih]
    · split
      · rename_i h; rw [h] at ih; simp at ih ⊢; exact ih
      · rename_i h; rw [h] at ih; simp at ih ⊢; exact ih
theorem split_lines : ∀ l, (splitG 10 1 l = linesOf l ∧ (splitG 10 1 l).getLast? ≠ some []) ∨ splitG 10 1 l = linesOf l ++ [[]]
  | [] => .inr rfl
  | b :: l => by
    unfold splitG linesOf
    split
    · rename_i e
      subst e
      rcases split_lines l with ⟨h, h2⟩ | h
      · refine .inl ⟨by rw [h]; rfl, ?_⟩
        have hne := splitG_ne 10 1 l
        rw [List.getLast?_cons]
        cases e : (splitG 10 1 l).getLast? with
        | none => rw [List.getLast?_eq_none_iff] at e; exact absurd e hne
        | some y => rw [e] at h2; simpa using h2
      · exact .inr (by rw [h]; rfl)
    · rcases split_lines l with ⟨h, h2⟩ | h
      · rw [← h]
        split
        · rename_i e; exact absurd e (splitG_ne 10 1 l)
        · rename_i x xs e
          refine .inl ⟨rfl, ?_⟩
          rw [e] at h2
          cases xs with
          | nil => simp
          | cons y ys => rw [List.getLast?_cons_cons] at h2 ⊢; exact h2
      · rw [h]
        cases e : linesOf l with
        | nil => exact .inl ⟨rfl, by simp⟩
        | cons x xs => exact .inr rfl
end Go.Proofs.YtincpomenogppaaGreatDoor
