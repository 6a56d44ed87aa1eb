/- Contracts of functions that the law reaches. -/
import Derived.Test.YtincpomenogppaaDoorW7
set_option linter.unusedSimpArgs false
set_option linter.unusedVariables false
namespace Go.Proofs.YtincpomenogppaaDoor
open Go Go.RowKit Go.Proofs.YtincpomenogppaaDoor Go.Proofs.YtincpomenogppaaDoor.Lift
set_option maxRecDepth 100000

/-! Changes (no program in sight) -/
structure Ed where
  a : Int
  b : Int
  del : List (List UInt8)
  ins : List (List UInt8)
deriving DecidableEq
def edV (e : Ed) : List PV := [.int .i64 e.a, .int .i64 e.b, .list 1 (strL e.del), .list 1 (strL e.ins)]
def edL (es : List Ed) : List (List PV) := es.map edV
theorem edL_len (es : List Ed) : (edL es).length = es.length := List.length_map _
theorem edL_at {es : List Ed} {i : Nat} (h : i < es.length) : (edL es).getD i [] = edV es[i] := by
  unfold edL
  rw [List.getD_eq_getElem?_getD, List.getElem?_eq_getElem (by rw [List.length_map]; exact h)]
  simp
theorem edL_append (a b : List Ed) : edL (a ++ b) = edL a ++ edL b := List.map_append
/-- A change up to two places, if there is one. -/
def untilE (x y : List (List UInt8)) (i j p q : Nat) : List Ed := if i < p ∨ j < q then [⟨i, j, (x.take p).drop i, (y.take q).drop j⟩] else []
/-- The changes from the last kept lines on, if lines before p are not kept. -/
def diffP (x y : List (List UInt8)) (p i j : Nat) : List Ed :=
  if h : p < x.length then
    if tabT x y i j = 0 then untilE x y i j x.length y.length
    else if idxL (y.drop j) x[p] < 0 ∨ tabT x y (p + 1) (j + (idxL (y.drop j) x[p]).toNat + 1) + 1 ≠ tabT x y i j then diffP x y (p + 1) i j
    else untilE x y i j p (j + (idxL (y.drop j) x[p]).toNat) ++ diffP x y (p + 1) (p + 1) (j + (idxL (y.drop j) x[p]).toNat + 1)
  else untilE x y i j x.length y.length
  termination_by x.length - p
theorem diffP_end {x y : List (List UInt8)} {p i j : Nat} (h : ¬ p < x.length ∨ tabT x y i j = 0) : diffP x y p i j = untilE x y i j x.length y.length := by
  unfold diffP
  split
  · rename_i h1
    rw [if_pos (h.resolve_left (fun k => k h1))]
  · rfl
theorem diffP_skip {x y : List (List UInt8)} {p i j : Nat} (h : p < x.length) (h0 : tabT x y i j ≠ 0) (h1 : idxL (y.drop j) x[p] < 0 ∨ tabT x y (p + 1) (j + (idxL (y.drop j) x[p]).toNat + 1) + 1 ≠ tabT x y i j) : diffP x y p i j = diffP x y (p + 1) i j := by
  conv => lhs; unfold diffP
  rw [dif_pos h, if_neg h0, if_pos h1]
theorem diffP_take {x y : List (List UInt8)} {p i j q : Nat} (h : p < x.length) (h0 : tabT x y i j ≠ 0) (hq : idxL (y.drop j) x[p] = (q : Nat)) (h1 : tabT x y (p + 1) (j + q + 1) + 1 = tabT x y i j) : diffP x y p i j = untilE x y i j p (j + q) ++ diffP x y (p + 1) (p + 1) (j + q + 1) := by
  conv => lhs; unfold diffP
  rw [dif_pos h, if_neg h0, hq, Int.toNat_natCast, if_neg (by omega)]
def diffS (x y : List (List UInt8)) : List Ed := diffP x y 0 0 0
/-- Where a line is first. -/
theorem idxL_spec (l : List (List UInt8)) (s : List UInt8) : (idxL l s = -1 ∧ s ∉ l) ∨ ∃ k : Nat, ∃ hk : k < l.length, idxL l s = (k : Nat) ∧ l[k] = s ∧ ∀ j, (hj : j < k) → l[j]'(by omega) ≠ s := by
  unfold idxL
  cases h : l.findIdx? (fun y => s == y) with
  | none =>
    left
    refine ⟨rfl, fun hm => ?_⟩
    have := List.findIdx?_eq_none_iff.1 h s hm
    simp at this
  | some k =>
    right
    obtain ⟨hk, h1, h2⟩ := List.findIdx?_eq_some_iff_getElem.1 h
    refine ⟨k, hk, rfl, (by simpa using h1 : s = l[k]).symm, fun j hj e => ?_⟩
    have := h2 j hj
    simp [e] at this
theorem tab_up (x y : List (List UInt8)) {i j i' j' : Nat} (hi : i ≤ i') (hj : j ≤ j') : tabT x y i' j' ≤ tabT x y i j := by
  have one : ∀ (a b : List (List UInt8)) n, lcs (a.drop n) b ≤ lcs a b := by
    intro a b n
    induction n generalizing a with
    | zero => simp
    | succ n ih =>
      cases a with
      | nil => simp
      | cons c a => rw [List.drop_succ_cons]; exact Nat.le_trans (ih a) (lcs_mono a b c).1
  have two : ∀ (a b : List (List UInt8)) n, lcs a (b.drop n) ≤ lcs a b := by
    intro a b n
    induction n generalizing b with
    | zero => simp
    | succ n ih =>
      cases b with
      | nil => simp
      | cons c b => rw [List.drop_succ_cons]; exact Nat.le_trans (ih b) (lcs_mono a b c).2.2.1
  unfold tabT
  obtain ⟨d, rfl⟩ : ∃ d, i' = i + d := ⟨i' - i, by omega⟩
  obtain ⟨e, rfl⟩ : ∃ e, j' = j + e := ⟨j' - j, by omega⟩
  rw [← List.drop_drop, ← List.drop_drop]
  exact Nat.le_trans (one _ _ _) (two _ _ _)
/-- Equal lines are kept together with what is behind them. -/
theorem tab_eq {x y : List (List UInt8)} {i k : Nat} (hi : i < x.length) (hk : k < y.length) (e : x[i] = y[k]) : tabT x y i k = tabT x y (i + 1) (k + 1) + 1 := by
  rw [tabT_step hi hk, if_pos e]
/-- If lines are common, there are lines that can be kept. -/
theorem keep_ex : ∀ (x y : List (List UInt8)), lcs x y ≠ 0 → ∃ p q, ∃ (hp : p < x.length) (hq : q < y.length), x[p] = y[q] ∧ lcs (x.drop (p + 1)) (y.drop (q + 1)) + 1 = lcs x y
  | [], y, h => by unfold lcs at h; exact absurd rfl h
  | a :: x, [], h => by rw [lcs_nil] at h; exact absurd rfl h
  | a :: x, b :: y, h => by
    rw [lcs] at h
    by_cases e : a = b
    · subst e
      exact ⟨0, 0, by simp, by simp, rfl, by rw [lcs, if_pos rfl]; rfl⟩
    · rw [if_neg e] at h
      have hl : lcs (a :: x) (b :: y) = max (lcs x (b :: y)) (lcs (a :: x) y) := by rw [lcs, if_neg e]
      by_cases h2 : lcs (a :: x) y ≤ lcs x (b :: y)
      · obtain ⟨p, q, hp, hq, k1, k2⟩ := keep_ex x (b :: y) (by omega)
        exact ⟨p + 1, q, by simpa using hp, hq, by simpa using k1, by rw [hl, List.drop_succ_cons, k2]; omega⟩
      · obtain ⟨p, q, hp, hq, k1, k2⟩ := keep_ex (a :: x) y (by omega)
        exact ⟨p, q + 1, hp, by simpa using hq, by simpa using k1, by rw [hl, show (b :: y).drop (q + 1 + 1) = y.drop (q + 1) from rfl, k2]; omega⟩
  termination_by x y => x.length + y.length
/-- Can lines x[p] and y[q] be kept next? -/
def keepB (x y : List (List UInt8)) (i j p q : Nat) : Bool := decide (x.getD p [] = y.getD q []) && decide (tabT x y (p + 1) (q + 1) + 1 = tabT x y i j)
theorem keep_ex2 {x y : List (List UInt8)} {i j : Nat} (h : tabT x y i j ≠ 0) : ∃ p q, i ≤ p ∧ p < x.length ∧ j ≤ q ∧ q < y.length ∧ keepB x y i j p q = true := by
  obtain ⟨p, q, hp, hq, k1, k2⟩ := keep_ex (x.drop i) (y.drop j) h
  rw [List.length_drop] at hp hq
  rw [List.getElem_drop, List.getElem_drop] at k1
  rw [List.drop_drop, List.drop_drop] at k2
  refine ⟨i + p, j + q, by omega, by omega, by omega, by omega, ?_⟩
  unfold keepB
  rw [List.getD_eq_getElem?_getD, List.getD_eq_getElem?_getD, List.getElem?_eq_getElem (by omega), List.getElem?_eq_getElem (by omega)]
  simp only [Option.getD_some, Bool.and_eq_true, decide_eq_true_eq]
  refine ⟨k1, ?_⟩
  unfold tabT
  rw [show i + p + 1 = i + (p + 1) by omega, show j + q + 1 = j + (q + 1) by omega]
  exact k2
/-- If x[p] can be kept with some line, then with the first that equals it. -/
theorem keep_first {x y : List (List UInt8)} {i j p : Nat} (hp : p < x.length) (hi : i ≤ p) : (∃ q, j ≤ q ∧ q < y.length ∧ keepB x y i j p q = true) ↔ ¬ (idxL (y.drop j) x[p] < 0 ∨ tabT x y (p + 1) (j + (idxL (y.drop j) x[p]).toNat + 1) + 1 ≠ tabT x y i j) := by
  have hx : x.getD p [] = x[p] := by rw [List.getD_eq_getElem?_getD, List.getElem?_eq_getElem hp]; rfl
  constructor
  · rintro ⟨q, h1, h2, h3⟩
    unfold keepB at h3
    rw [Bool.and_eq_true, decide_eq_true_eq, decide_eq_true_eq, hx, List.getD_eq_getElem?_getD, List.getElem?_eq_getElem h2] at h3
    obtain ⟨e1, e2⟩ := h3
    have e1 : x[p] = y[q] := e1
    rcases idxL_spec (y.drop j) x[p] with ⟨_, hn⟩ | ⟨k, hk, hke, hkx, hkf⟩
    · exact absurd (by rw [e1]; have := List.getElem_mem (l := y.drop j) (n := q - j) (by rw [List.length_drop]; omega); rw [List.getElem_drop] at this; simpa [show j + (q - j) = q by omega] using this) hn
    · rw [List.length_drop] at hk
      have hkq : k ≤ q - j := by
        rcases Nat.lt_or_ge (q - j) k with h | h
        · exact absurd (by rw [List.getElem_drop]; simp [show j + (q - j) = q by omega, e1]) (hkf (q - j) h)
        · exact h
      rw [hke, Int.toNat_natCast]
      have hup := tab_up x y (i := p + 1) (i' := p + 1) (j := j + k + 1) (j' := q + 1) (Nat.le_refl _) (by omega)
      rw [List.getElem_drop] at hkx
      have heq := tab_eq hp (show j + k < y.length by omega) hkx.symm
      have hup2 := tab_up x y (i := i) (i' := p) (j := j) (j' := j + k) hi (by omega)
      omega
  · intro h
    rcases idxL_spec (y.drop j) x[p] with ⟨e, _⟩ | ⟨k, hk, hke, hkx, _⟩
    · exact absurd (.inl (by rw [e]; decide)) h
    · rw [List.length_drop] at hk
      rw [hke, Int.toNat_natCast] at h
      rw [List.getElem_drop] at hkx
      refine ⟨j + k, by omega, by omega, ?_⟩
      unfold keepB
      rw [hx, List.getD_eq_getElem?_getD, List.getElem?_eq_getElem (by omega)]
      simp only [Option.getD_some, Bool.and_eq_true, decide_eq_true_eq]
      exact ⟨hkx.symm, by omega⟩
end Go.Proofs.YtincpomenogppaaDoor
