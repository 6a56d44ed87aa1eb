/- Contracts of functions that the law reaches. -/
import Derived.Test.YthlibdhjcjangaaTv
import Derived.Lib.IndexMore
set_option linter.unusedSimpArgs false
set_option linter.unusedVariables false
namespace Go.Proofs.Ythlibdhjcjangaa
open Go Go.RowKit Go.Proofs.Ythlibdhjcjangaa Go.Proofs.Ythlibdhjcjangaa.Lift

/-! Where a list stands in another for the first time -/
def IsFind {α : Type} (a b : List α) (r : Int) : Prop := (r = -1 ∧ ∀ j, j ≤ a.length → ¬ b <+: a.drop j) ∨ (∃ i : Nat, r = i ∧ i ≤ a.length ∧ b <+: a.drop i ∧ ∀ j, j < i → ¬ b <+: a.drop j)
theorem IsFind.same {α : Type} {a b : List α} {r s : Int} (h1 : IsFind a b r) (h2 : IsFind a b s) : r = s := by
  rcases h1 with ⟨rfl, n1⟩ | ⟨i, rfl, hi, p1, q1⟩ <;> rcases h2 with ⟨rfl, n2⟩ | ⟨j, rfl, hj, p2, q2⟩
  · rfl
  · exact absurd p2 (n1 j hj)
  · exact absurd p1 (n2 i hi)
  · by_cases h : i < j
    · exact absurd p1 (q2 i h)
    · by_cases h' : j < i
      · exact absurd p2 (q1 j h')
      · omega
def findAt (a b : List Int) : Nat → Nat → Int
  | 0, _ => -1
  | n + 1, i => if b.isPrefixOf (a.drop i) then i else findAt a b n (i + 1)
def findI (a b : List Int) : Int := findAt a b (a.length + 1) 0
theorem findAt_spec (a b : List Int) : ∀ (n i : Nat), i + n = a.length + 1 → (∀ j, j < i → ¬ b <+: a.drop j) → IsFind a b (findAt a b n i)
  | 0, i, h, hn => .inl ⟨rfl, fun j hj => hn j (by omega)⟩
  | n + 1, i, h, hn => by
    unfold findAt
    split
    · rename_i hp
      exact .inr ⟨i, rfl, by omega, List.isPrefixOf_iff_prefix.1 hp, hn⟩
    · rename_i hp
      refine findAt_spec a b n (i + 1) (by omega) fun j hj => ?_
      by_cases e : j = i
      · subst e; exact fun hh => hp (List.isPrefixOf_iff_prefix.2 hh)
      · exact hn j (by omega)
theorem findI_spec (a b : List Int) : IsFind a b (findI a b) := findAt_spec a b _ _ (by omega) fun j hj => absurd hj (Nat.not_lt_zero j)
theorem cmpI_zero : ∀ (a b : List Int), cmpI a b = 0 ↔ a = b
  | [], [] => by simp [cmpI]
  | [], _ :: _ => by simp [cmpI]
  | _ :: _, [] => by simp [cmpI]
  | a :: x, b :: y => by
    rw [cmpI]
    split
    · simp; omega
    · split
      · simp; omega
      · rw [cmpI_zero x y]
        constructor
        · rintro rfl; congr 1; omega
        · intro h; injection h
theorem cmpI_anti : ∀ (a b : List Int), cmpI a b = - cmpI b a
  | [], [] => by simp [cmpI]
  | [], _ :: _ => by simp [cmpI]
  | _ :: _, [] => by simp [cmpI]
  | a :: x, b :: y => by
    rw [cmpI, cmpI, cmpI_anti x y]
    by_cases h1 : a < b
    · rw [if_pos h1, if_neg (by omega), if_pos h1]
    · by_cases h2 : b < a
      · rw [if_neg h1, if_pos h2, if_pos h2]; rfl
      · rw [if_neg h1, if_neg h2, if_neg h2, if_neg h1]
theorem cmpI_trans : ∀ (a b c : List Int), cmpI a b ≤ 0 → cmpI b c ≤ 0 → cmpI a c ≤ 0
  | [], _, [], _, _ => by simp [cmpI]
  | [], _, _ :: _, _, _ => by simp [cmpI]
  | _ :: _, [], _, h, _ => by simp [cmpI] at h
  | _ :: _, _ :: _, [], _, h => by simp [cmpI] at h
  | a :: x, b :: y, c :: z, h1, h2 => by
    rw [cmpI] at h1 h2 ⊢
    have ih := cmpI_trans x y z
    by_cases k1 : a < b
    · by_cases k2 : b < c
      · rw [if_pos (by omega)]; decide
      · rw [if_neg k2] at h2
        by_cases k3 : c < b
        · rw [if_pos k3] at h2; omega
        · rw [if_pos (by omega)]; decide
    · rw [if_neg k1] at h1
      by_cases k2 : b < a
      · rw [if_pos k2] at h1; omega
      · rw [if_neg k2] at h1
        by_cases k3 : b < c
        · rw [if_pos (by omega)]; decide
        · rw [if_neg k3] at h2
          by_cases k4 : c < b
          · rw [if_pos k4] at h2; omega
          · rw [if_neg k4] at h2
            rw [if_neg (by omega), if_neg (by omega)]
            exact ih h1 h2
theorem cmpI_range (a b : List Int) : -1 ≤ cmpI a b ∧ cmpI a b ≤ 1 := by
  induction a generalizing b with
  | nil => cases b <;> simp [cmpI]
  | cons a x ih =>
    cases b with
    | nil => simp [cmpI]
    | cons b y =>
      rw [cmpI]
      split
      · decide
      · split
        · decide
        · exact ih y
/-! The order and the places of what is packed -/
theorem cmpB_append : ∀ (x y xs ys : List UInt8), x.length = y.length → Lib.compareBytes (x ++ xs) (y ++ ys) = if Lib.compareBytes x y = 0 then Lib.compareBytes xs ys else Lib.compareBytes x y
  | [], [], xs, ys, _ => by simp [Lib.compareBytes]
  | a :: x, b :: y, xs, ys, h => by
    rw [List.cons_append, List.cons_append, Lib.compareBytes, Lib.compareBytes]
    split
    · rw [if_neg (by decide)]
    · split
      · rw [if_neg (by decide)]
      · exact cmpB_append x y xs ys (by simpa using h)
theorem cmpB_flat (f : Int → List UInt8) (L : Nat) (hL : ∀ c, (f c).length = L) (ok : Int → Prop) (hf : ∀ a b, ok a → ok b → Lib.compareBytes (f a) (f b) = if a < b then -1 else if b < a then 1 else 0) (hpos : 0 < L) :
    ∀ (x y : List Int), (∀ c ∈ x, ok c) → (∀ c ∈ y, ok c) → Lib.compareBytes (x.flatMap f) (y.flatMap f) = cmpI x y
  | [], [], _, _ => rfl
  | [], b :: y, _, _ => by
    rw [List.flatMap_cons, List.flatMap_nil]
    have := hL b
    cases h : f b with
    | nil => rw [h] at this; simp at this; omega
    | cons u us => rfl
  | a :: x, [], _, _ => by
    rw [List.flatMap_cons, List.flatMap_nil]
    have := hL a
    cases h : f a with
    | nil => rw [h] at this; simp at this; omega
    | cons u us => rfl
  | a :: x, b :: y, ha, hb => by
    rw [List.flatMap_cons, List.flatMap_cons, cmpB_append _ _ _ _ (by rw [hL, hL]), hf a b (ha a (List.mem_cons_self ..)) (hb b (List.mem_cons_self ..)), cmpI, cmpB_flat f L hL ok hf hpos x y (fun c hc => ha c (List.mem_cons_of_mem _ hc)) (fun c hc => hb c (List.mem_cons_of_mem _ hc))]
    split
    · rw [if_neg (by decide)]
    · split
      · rw [if_neg (by decide)]
      · rw [if_pos rfl]
theorem pre_flat (f : Int → List UInt8) (L : Nat) (hL : ∀ c, (f c).length = L) (ok : Int → Prop) (hf : ∀ a b, ok a → ok b → f a = f b → a = b) (hpos : 0 < L) :
    ∀ (x y : List Int), (∀ c ∈ x, ok c) → (∀ c ∈ y, ok c) → (x.flatMap f <+: y.flatMap f ↔ x <+: y)
  | [], y, _, _ => by simp
  | a :: x, [], _, _ => by
    rw [List.flatMap_cons, List.flatMap_nil]
    constructor
    · intro h
      have := h.length_le
      rw [List.length_append, hL, List.length_nil] at this
      omega
    · intro h
      have := h.length_le
      simp at this
  | a :: x, b :: y, ha, hb => by
    have ih := pre_flat f L hL ok hf hpos x y (fun c hc => ha c (List.mem_cons_of_mem _ hc)) (fun c hc => hb c (List.mem_cons_of_mem _ hc))
    rw [List.flatMap_cons, List.flatMap_cons, List.cons_prefix_cons]
    constructor
    · rintro ⟨t, ht⟩
      rw [List.append_assoc] at ht
      have := List.append_inj ht (by rw [hL, hL])
      exact ⟨hf a b (ha a (List.mem_cons_self ..)) (hb b (List.mem_cons_self ..)) this.1, ih.1 ⟨t, this.2⟩⟩
    · rintro ⟨rfl, h⟩
      obtain ⟨t, ht⟩ := ih.2 h
      exact ⟨t, by rw [List.append_assoc, ht]⟩
theorem drop_flat (f : Int → List UInt8) (L : Nat) (hL : ∀ c, (f c).length = L) : ∀ (x : List Int) (j : Nat), (x.flatMap f).drop (L * j) = (x.drop j).flatMap f
  | x, 0 => by simp
  | [], j + 1 => by simp
  | a :: x, j + 1 => by
    rw [List.flatMap_cons, List.drop_succ_cons, ← drop_flat f L hL x j, Nat.mul_succ, Nat.add_comm, ← List.drop_drop, List.drop_left' (hL a)]
/-- The range of a packed character. -/
def rngW (c : Int) : Prop := 0 ≤ c ∧ c < 2147483648
def rngN (c : Int) : Prop := 0 ≤ c ∧ c < 256
theorem be4_inj (a b : Int) (ha : rngW a) (hb : rngW b) (h : be4 a = be4 b) : a = b := by
  unfold be4 at h
  injection h with h1 h
  injection h with h2 h
  injection h with h3 h
  injection h with h4 h
  rw [← be32_be4 a ha.1 ha.2, ← be32_be4 b hb.1 hb.2, h1, h2, h3, h4]
theorem u1_inj (a b : Int) (ha : rngN a) (hb : rngN b) (h : [u8of a] = [u8of b]) : a = b := by
  injection h with h _
  have h1 := u8of_nat a
  have h2 := u8of_nat b
  rw [h] at h1
  have := ha.1; have := ha.2; have := hb.1; have := hb.2
  omega
theorem u8_lt (z y : Int) : (u8of z < u8of y) ↔ z % 256 < y % 256 := by
  have h1 := u8of_nat z
  have h2 := u8of_nat y
  rw [UInt8.lt_iff_toNat_lt]
  omega
theorem u1_cmp (a b : Int) (ha : rngN a) (hb : rngN b) : Lib.compareBytes [u8of a] [u8of b] = if a < b then -1 else if b < a then 1 else 0 := by
  have := ha.1; have := ha.2; have := hb.1; have := hb.2
  simp only [Lib.compareBytes, u8_lt]
  rw [Int.emod_eq_of_lt ha.1 ha.2, Int.emod_eq_of_lt hb.1 hb.2]
theorem be4_cmp (a b : Int) (ha : rngW a) (hb : rngW b) : Lib.compareBytes (be4 a) (be4 b) = if a < b then -1 else if b < a then 1 else 0 := by
  have h1 := ha.1; have h2 := ha.2; have h3 := hb.1; have h4 := hb.2
  have p24 : (2 : Int) ^ 24 = 16777216 := by rfl
  have p16 : (2 : Int) ^ 16 = 65536 := by rfl
  have p8 : (2 : Int) ^ 8 = 256 := by rfl
  unfold be4
  rw [p24, p16, p8]
  simp only [Lib.compareBytes, u8_lt]
  rw [Int.fdiv_eq_ediv_of_nonneg _ (by omega), Int.fdiv_eq_ediv_of_nonneg _ (by omega), Int.fdiv_eq_ediv_of_nonneg _ (by omega), Int.fdiv_eq_ediv_of_nonneg _ (by omega), Int.fdiv_eq_ediv_of_nonneg _ (by omega), Int.fdiv_eq_ediv_of_nonneg _ (by omega)]
  by_cases k1 : a < b
  · rw [if_pos k1]
    repeat' split
    all_goals first | rfl | omega
  · rw [if_neg k1]
    by_cases k2 : b < a
    · rw [if_pos k2]
      repeat' split
      all_goals first | rfl | omega
    · rw [if_neg k2]
      repeat' split
      all_goals first | rfl | omega
end Go.Proofs.Ythlibdhjcjangaa
