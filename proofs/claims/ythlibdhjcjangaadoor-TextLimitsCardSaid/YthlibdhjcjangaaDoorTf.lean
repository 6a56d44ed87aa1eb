/- Contracts of functions that the law reaches. -/
import Derived.Test.YthlibdhjcjangaaDoorTe
set_option linter.unusedSimpArgs false
set_option linter.unusedVariables false
namespace Go.Proofs.YthlibdhjcjangaaDoor
open Go Go.RowKit Go.Proofs.YthlibdhjcjangaaDoor Go.Proofs.YthlibdhjcjangaaDoor.Lift
set_option maxRecDepth 100000

/-! What is packed reads as it was -/
/-- A list of characters. -/
def okChars (ns : List Int) : Prop := ∀ c ∈ ns, isC c = true
theorem isC_iff {c : Int} : isC c = true ↔ 0 ≤ c ∧ c ≤ 1114111 ∧ (c < 55296 ∨ 57343 < c) := by
  unfold isC; rw [decide_eq_true_eq]
theorem runes_ok (l : List UInt8) : okChars (runesOf l) := by
  have key : ∀ (n i : Nat), ∀ c ∈ runesAt ⟨l.toArray⟩ n i, isC c = true := by
    intro n
    induction n with
    | zero => intro i c hc; simp [runesAt] at hc
    | succ n ih =>
      intro i c hc
      unfold runesAt at hc
      split at hc
      · rcases List.mem_cons.1 hc with rfl | hc
        · unfold Utf8.decode
          dsimp only
          rw [isC_iff]
          have b0 := ((⟨l.toArray⟩ : ByteArray).get! (i + 0)).toNat_lt
          split
          · dsimp only; omega
          · split
            · split
              · dsimp only; omega
              · simp only [Utf8.runeError]; omega
            · split
              · split
                · rename_i h
                  rw [Bool.and_eq_true] at h
                  have h2 := h.2
                  unfold Utf8.valid at h2
                  simp only [Bool.or_eq_true, Bool.and_eq_true, decide_eq_true_eq] at h2
                  dsimp only
                  omega
                · simp only [Utf8.runeError]; omega
              · split
                · split
                  · rename_i h
                    rw [Bool.and_eq_true] at h
                    have h2 := h.2
                    unfold Utf8.valid at h2
                    simp only [Bool.or_eq_true, Bool.and_eq_true, decide_eq_true_eq] at h2
                    dsimp only
                    omega
                  · simp only [Utf8.runeError]; omega
                · simp only [Utf8.runeError]; omega
        · exact ih _ c hc
      · cases hc
  exact key _ _
theorem be4_len (c : Int) : (be4 c).length = 4 := rfl
theorem flat_getD (ns : List Int) (i k : Nat) (hi : i < ns.length) (hk : k < 4) : (ns.flatMap be4).getD (4 * i + k) 0 = (be4 (ns.getD i 0)).getD k 0 := by
  induction ns generalizing i with
  | nil => simp at hi
  | cons c ns ih =>
    rw [List.flatMap_cons]
    cases i with
    | zero =>
      simp only [List.getD_eq_getElem?_getD]
      rw [List.getElem?_append_left (by rw [be4_len]; omega)]
      simp
    | succ i =>
      have := ih i (by simpa using hi)
      simp only [List.getD_eq_getElem?_getD] at this ⊢
      rw [List.getElem?_append_right (by rw [be4_len]; omega), be4_len, show 4 * (i + 1) + k - 4 = 4 * i + k by omega, this]
      simp
theorem packL_len (ns : List Int) : lenS (packL ns) (anyWide ns) = ns.length := by
  unfold lenS packL
  by_cases h : anyWide ns = true
  · rw [if_pos h, if_pos h, flat_len be4 4 be4_len]; omega
  · rw [if_neg h, if_neg h]; simp
theorem or32 (y i a : Nat) (hy : y < 2 ^ i) (h : 2 ^ i * a + y < 2147483648) : bitsOp .or .i32 ((2 ^ i * a : Nat) : Int) (y : Int) = ((2 ^ i * a + y : Nat) : Int) := by
  show IntKind.i32.wrap ((BitVec.ofInt 32 ((2 ^ i * a : Nat) : Int) ||| BitVec.ofInt 32 (y : Int)).toNat : Int) = _
  rw [BitVec.toNat_or, BitVec.toNat_ofInt, BitVec.toNat_ofInt]
  generalize hx : 2 ^ i * a = x at *
  have e1 : ((x : Int) % ((2 ^ 32 : Nat) : Int)).toNat = x := by omega
  have e2 : ((y : Int) % ((2 ^ 32 : Nat) : Int)).toNat = y := by omega
  rw [e1, e2, ← hx, ← Nat.two_pow_add_eq_or_of_lt hy a, hx, w32 (by omega) (by omega)]
theorem min24 : min 24 IntKind.i32.bits = 24 := rfl
theorem min16 : min 16 IntKind.i32.bits = 16 := rfl
theorem min8 : min 8 IntKind.i32.bits = 8 := rfl
theorem be32_nat (a b c d : UInt8) (ha : a.toNat < 128) : be32 a b c d = ((2 ^ 24 * a.toNat + 2 ^ 16 * b.toNat + 2 ^ 8 * c.toNat + d.toNat : Nat) : Int) := by
  have hb := b.toNat_lt
  have hc := c.toNat_lt
  have hd := d.toNat_lt
  unfold be32
  rw [min24, min16, min8]
  have e1 : ((a.toNat : Nat) : Int) * 2 ^ 24 = ((2 ^ 24 * a.toNat : Nat) : Int) := by rw [Int.natCast_mul, Int.mul_comm]; rfl
  have e2 : ((b.toNat : Nat) : Int) * 2 ^ 16 = ((2 ^ 16 * b.toNat : Nat) : Int) := by rw [Int.natCast_mul, Int.mul_comm]; rfl
  have e3 : ((c.toNat : Nat) : Int) * 2 ^ 8 = ((2 ^ 8 * c.toNat : Nat) : Int) := by rw [Int.natCast_mul, Int.mul_comm]; rfl
  rw [e1, e2, e3, w32 (by omega) (by omega), w32 (by omega) (by omega), w32 (by omega) (by omega)]
  rw [or32 (2 ^ 16 * b.toNat) 24 a.toNat (by omega) (by omega)]
  rw [show 2 ^ 24 * a.toNat + 2 ^ 16 * b.toNat = 2 ^ 16 * (2 ^ 8 * a.toNat + b.toNat) by omega, or32 (2 ^ 8 * c.toNat) 16 (2 ^ 8 * a.toNat + b.toNat) (by omega) (by omega)]
  rw [show 2 ^ 16 * (2 ^ 8 * a.toNat + b.toNat) + 2 ^ 8 * c.toNat = 2 ^ 8 * (2 ^ 16 * a.toNat + 2 ^ 8 * b.toNat + c.toNat) by omega, or32 d.toNat 8 (2 ^ 16 * a.toNat + 2 ^ 8 * b.toNat + c.toNat) (by omega) (by omega)]
theorem u8of_nat (z : Int) : ((u8of z).toNat : Int) = z % 256 := by
  unfold u8of
  rw [UInt8.toNat_ofNat']
  omega
theorem be32_be4 (c : Int) (h0 : 0 ≤ c) (h1 : c < 2147483648) : be32 (u8of (c.fdiv (2 ^ 24))) (u8of (c.fdiv (2 ^ 16))) (u8of (c.fdiv (2 ^ 8))) (u8of c) = c := by
  have p24 : (2 : Int) ^ 24 = 16777216 := by rfl
  have p16 : (2 : Int) ^ 16 = 65536 := by rfl
  have p8 : (2 : Int) ^ 8 = 256 := by rfl
  rw [p24, p16, p8, Int.fdiv_eq_ediv_of_nonneg _ (by omega), Int.fdiv_eq_ediv_of_nonneg _ (by omega), Int.fdiv_eq_ediv_of_nonneg _ (by omega)]
  have k1 := u8of_nat (c / 16777216)
  have k2 := u8of_nat (c / 65536)
  have k3 := u8of_nat (c / 256)
  have k4 := u8of_nat c
  rw [be32_nat _ _ _ _ (by omega)]
  omega
theorem packed_char (ns : List Int) (i : Nat) (hi : i < ns.length) (hv : okChars ns) : charS (packL ns) (anyWide ns) i = ns.getD i 0 := by
  have hm : ns.getD i 0 ∈ ns := by rw [List.getD_eq_getElem?_getD, List.getElem?_eq_getElem hi]; exact List.getElem_mem hi
  have hc := isC_iff.1 (hv _ hm)
  unfold charS packL
  by_cases h : anyWide ns = true
  · rw [if_pos h, if_pos h, show 4 * i = 4 * i + 0 from rfl, flat_getD ns i 0 hi (by omega), flat_getD ns i 1 hi (by omega), flat_getD ns i 2 hi (by omega), flat_getD ns i 3 hi (by omega)]
    exact be32_be4 _ hc.1 (by omega)
  · rw [if_neg h, if_neg h]
    have hn : ¬ 255 < ns.getD i 0 := by
      intro hh
      apply h
      unfold anyWide
      rw [List.any_eq_true]
      exact ⟨_, hm, by simpa using hh⟩
    have e : (ns.map u8of).getD i 0 = u8of (ns.getD i 0) := by
      simp only [List.getD_eq_getElem?_getD, List.getElem?_map, List.getElem?_eq_getElem hi, Option.map_some, Option.getD_some]
    rw [e, ← (u8of_eq (u8of (ns.getD i 0)) hc.1 (by omega)).1 rfl]
theorem packed_chars (ns : List Int) (hv : okChars ns) : charsS (packL ns) (anyWide ns) = ns := by
  apply List.ext_getElem?
  intro i
  unfold charsS
  rw [packL_len, List.getElem?_map]
  by_cases hi : i < ns.length
  · rw [List.getElem?_range hi, Option.map_some, packed_char ns i hi hv, List.getD_eq_getElem?_getD, List.getElem?_eq_getElem hi]
    rfl
  · rw [List.getElem?_eq_none (by simpa using Nat.le_of_not_lt hi), List.getElem?_eq_none (by omega)]
    rfl
end Go.Proofs.YthlibdhjcjangaaDoor
