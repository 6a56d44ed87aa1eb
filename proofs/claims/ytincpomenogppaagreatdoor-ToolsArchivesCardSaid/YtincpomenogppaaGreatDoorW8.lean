/- Contracts of functions that the law reaches. -/
import Derived.Test.YtincpomenogppaaGreatDoorW7
set_option linter.unusedSimpArgs false
set_option linter.unusedVariables false
namespace Go.Proofs.YtincpomenogppaaGreatDoor
open Go Go.RowKit Go.Proofs.YtincpomenogppaaGreatDoor Go.Proofs.YtincpomenogppaaGreatDoor.Lift
set_option maxRecDepth 100000

structure Ed where
  a : Int
  b : Int
  del : List (List UInt8)
  ins : List (List UInt8)
deriving DecidableEq
def edV (e : Ed) : List PV := [.int .i64 e.a, .int .i64 e.b, .list 1 (strL e.del), .list 1 (strL e.ins)]
def edL (es : List Ed) : List (List PV) := es.map edV
theorem edL_len (es : List Ed) : (edL es).length = es.length := List.length_map _
theorem edL_at {es : List Ed} {i : Nat} (h : i < es.length) : (edL es).getD i [] = edV es[i] := by
  unfold edL
  rw [List.getD_eq_getElem?_getD, List.getElem?_eq_getElem (by rw [List.length_map]; exact h)]
  simp
theorem edL_append (a b : List Ed) : edL (a ++ b) = edL a ++ edL b := List.map_append
def untilE (x y : List (List UInt8)) (i j p q : Nat) : List Ed := if i < p ∨ j < q then [⟨i, j, (x.take p).drop i, (y.take q).drop j⟩] else []
def diffP (x y : List (List UInt8)) (p i j : Nat) : List Ed :=
  if h : p < x.length then
    if tabT x y i j = 0 then untilE x y i j x.length y.length
    else if idxL (y.drop j) x[p] < 0 ∨ tabT x y (p + 1) (j + (idxL (y.drop j) x[p]).toNat + 1) + 1 ≠ tabT x y i j then diffP x y (p + 1) i j
    else untilE x y i j p (j + (idxL (y.drop j) x[p]).toNat) ++ diffP x y (p + 1) (p + 1) (j + (idxL (y.drop j) x[p]).toNat + 1)
  else untilE x y i j x.length y.length
  termination_by x.length - p
theorem diffP_end {x y : List (List UInt8)} {p i j : Nat} (h : ¬ p < x.length ∨ tabT x y i j = 0) : diffP x y p i j = untilE x y i j x.length y.length := by
  unfold diffP
  split
  · rename_i h1
    rw [if_pos (h.resolve_left (fun k => k h1))]
  · rfl
theorem diffP_skip {x y : List (List UInt8)} {p i j : Nat} (h : p < x.length) (h0 : tabT x y i j ≠ 0) (h1 : idxL (y.drop j) x[p] < 0 ∨ tabT x y (p + 1) (j + (idxL (y.drop j) x[p]).toNat + 1) + 1 ≠ tabT x y i j) : diffP x y p i j = diffP x y (p + 1) i j := by
  conv => lhs; unfold diffP
  rw [dif_pos h, if_neg h0, if_pos h1]
theorem diffP_take {x y : List (List UInt8)} {p i j q : Nat} (h : p < x.length) (h0 : tabT x y i j ≠ 0) (hq : idxL (y.drop j) x[p] = (q : Nat)) (h1 : tabT x y (p + 1) (j + q + 1) + 1 = tabT x y i j) : diffP x y p i j = untilE x y i j p (j + q) ++ diffP x y (p + 1) (p + 1) (j + q + 1) := by
  conv => lhs; unfold diffP
  rw [dif_pos h, if_neg h0, hq, Int.toNat_natCast, if_neg (by omega)]
def diffS (x y : List (List UInt8)) : List Ed := diffP x y 0 0 0
theorem idxL_spec (l : List (List UInt8)) (s : List UInt8) : (idxL l s = -1 ∧ s ∉ l) ∨ ∃ k : Nat, ∃ hk : k < l.length, idxL l s = (k : Nat) ∧ l[k] = s ∧ ∀ j, (hj : j < k) → l[j]'(by omega) ≠ s := by
  unfold idxL
  cases h : l.findIdx? (fun y => s == y) with
  | none =>
    left
    refine ⟨rfl, fun hm => ?_⟩
    have := List.findIdx?_eq_none_iff.1 h s hm
    simp at this
  | some k =>
    right
    obtain ⟨hk, h1, h2⟩ := List.findIdx?_eq_some_iff_getElem.1 h
    refine ⟨k, hk, rfl, (by simpa using h1 : s = l[k]).symm, fun j hj e => ?_⟩
    have := h2 j hj
    simp [e] at this
end Go.Proofs.YtincpomenogppaaGreatDoor
