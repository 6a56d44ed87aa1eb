/- Contracts of functions that the law reaches. -/
import Derived.Test.YthlibdhjcjangaaDoorTr
set_option linter.unusedSimpArgs false
set_option linter.unusedVariables false
namespace Go.Proofs.YthlibdhjcjangaaDoor
open Go Go.RowKit Go.Proofs.YthlibdhjcjangaaDoor Go.Proofs.YthlibdhjcjangaaDoor.Lift
set_option maxRecDepth 100000

theorem gd0 (a : UInt8) (l : List UInt8) : (a :: l).getD 0 0 = a := rfl
theorem gd1 (a b : UInt8) (l : List UInt8) : (a :: b :: l).getD 1 0 = b := rfl
theorem gd2 (a b c : UInt8) (l : List UInt8) : (a :: b :: c :: l).getD 2 0 = c := rfl
theorem gd3 (a b c d : UInt8) (l : List UInt8) : (a :: b :: c :: d :: l).getD 3 0 = d := rfl
set_option maxRecDepth 1000000 in
/-- What is encoded is decoded. -/
theorem decode_enc (c : Int) (hc : isC c = true) (rest : List UInt8) : Utf8.decode ⟨(encL c ++ rest).toArray⟩ 0 = (c.toNat, (encL c).length) := by
  have h := isC_iff.1 hc
  obtain ⟨n, rfl⟩ : ∃ n : Nat, c = (n : Int) := ⟨c.toNat, by omega⟩
  have hv : Utf8.valid (n : Int) = true := by
    unfold Utf8.valid
    simp only [Bool.or_eq_true, Bool.and_eq_true, decide_eq_true_eq]
    omega
  unfold encL Utf8.encode
  rw [if_pos hv, Int.toNat_natCast]
  dsimp only
  unfold Utf8.decode
  simp only [getB, size_mk, Nat.zero_add]
  by_cases h1 : n < 128
  · rw [if_pos h1]
    simp only [List.cons_append, List.nil_append, gd0, UInt8.toNat_ofNat']
    rw [if_pos (by omega)]
    exact Prod.ext (by dsimp only; omega) rfl
  · by_cases h2 : n < 2048
    · rw [if_neg h1, if_pos h2]
      simp only [List.cons_append, List.nil_append, gd0, gd1, UInt8.toNat_ofNat', List.length_cons]
      have e1 : ((192 + n / 64) % 2 ^ 8 / 32 == 6) = true := by rw [beq_iff_eq]; omega
      have e2 : ((128 + n % 64) % 2 ^ 8 / 64 == 2) = true := by rw [beq_iff_eq]; omega
      have e3 : decide (1 < rest.length + 1 + 1) = true := by rw [decide_eq_true_eq]; omega
      rw [if_neg (by omega)]
      simp only [e1, e2, e3, Bool.true_and, ↓reduceIte]
      rw [if_pos (by omega)]
      exact Prod.ext (by dsimp only; omega) rfl
    · by_cases h3 : n < 65536
      · rw [if_neg h1, if_neg h2, if_pos h3]
        simp only [List.cons_append, List.nil_append, gd0, gd1, gd2, UInt8.toNat_ofNat', List.length_cons]
        have e0 : ((224 + n / 4096) % 2 ^ 8 / 32 == 6) = false := by rw [beq_eq_false_iff_ne]; omega
        have e1 : ((224 + n / 4096) % 2 ^ 8 / 16 == 14) = true := by rw [beq_iff_eq]; omega
        have e2 : ((128 + n / 64 % 64) % 2 ^ 8 / 64 == 2) = true := by rw [beq_iff_eq]; omega
        have e4 : ((128 + n % 64) % 2 ^ 8 / 64 == 2) = true := by rw [beq_iff_eq]; omega
        have e3 : decide (1 < rest.length + 1 + 1 + 1) = true := by rw [decide_eq_true_eq]; omega
        have e5 : decide (2 < rest.length + 1 + 1 + 1) = true := by rw [decide_eq_true_eq]; omega
        have e6 : (224 + n / 4096) % 2 ^ 8 % 16 * 4096 + (128 + n / 64 % 64) % 2 ^ 8 % 64 * 64 + (128 + n % 64) % 2 ^ 8 % 64 = n := by omega
        rw [if_neg (by omega)]
        simp only [e0, e1, e2, e3, e4, e5, e6, Bool.true_and, Bool.false_and, Bool.false_eq_true, ↓reduceIte, hv, Bool.and_true, decide_eq_true_eq]
        rw [if_pos (by omega)]
        rfl
      · rw [if_neg h1, if_neg h2, if_neg h3]
        simp only [List.cons_append, List.nil_append, gd0, gd1, gd2, gd3, UInt8.toNat_ofNat', List.length_cons]
        have e0 : ((240 + n / 262144) % 2 ^ 8 / 32 == 6) = false := by rw [beq_eq_false_iff_ne]; omega
        have e0' : ((240 + n / 262144) % 2 ^ 8 / 16 == 14) = false := by rw [beq_eq_false_iff_ne]; omega
        have e1 : ((240 + n / 262144) % 2 ^ 8 / 8 == 30) = true := by rw [beq_iff_eq]; omega
        have e2 : ((128 + n / 4096 % 64) % 2 ^ 8 / 64 == 2) = true := by rw [beq_iff_eq]; omega
        have e4 : ((128 + n / 64 % 64) % 2 ^ 8 / 64 == 2) = true := by rw [beq_iff_eq]; omega
        have e7 : ((128 + n % 64) % 2 ^ 8 / 64 == 2) = true := by rw [beq_iff_eq]; omega
        have e3 : decide (1 < rest.length + 1 + 1 + 1 + 1) = true := by rw [decide_eq_true_eq]; omega
        have e5 : decide (2 < rest.length + 1 + 1 + 1 + 1) = true := by rw [decide_eq_true_eq]; omega
        have e8 : decide (3 < rest.length + 1 + 1 + 1 + 1) = true := by rw [decide_eq_true_eq]; omega
        have e6 : (240 + n / 262144) % 2 ^ 8 % 8 * 262144 + (128 + n / 4096 % 64) % 2 ^ 8 % 64 * 4096 + (128 + n / 64 % 64) % 2 ^ 8 % 64 * 64 + (128 + n % 64) % 2 ^ 8 % 64 = n := by omega
        rw [if_neg (by omega)]
        simp only [e0, e0', e1, e2, e3, e4, e5, e6, e7, e8, Bool.true_and, Bool.false_and, Bool.false_eq_true, ↓reduceIte, hv, Bool.and_true, decide_eq_true_eq]
        rw [if_pos (by omega)]
        rfl
theorem encL_len (c : Int) (hc : isC c = true) : 0 < (encL c).length := by
  rw [enc_law c hc]
  unfold encR
  split
  · simp
  · split
    · simp
    · split <;> simp
theorem encL_le (c : Int) (hc : isC c = true) : (encL c).length ≤ 4 := by
  rw [enc_law c hc]
  unfold encR
  split
  · simp
  · split
    · simp
    · split <;> simp
theorem decodeS_enc (ns : List Int) (hv : okChars ns) : ∀ n, (ns.flatMap encL).length ≤ n → decodeS n (ns.flatMap encL) = ns := by
  induction ns with
  | nil => intro n _; cases n <;> rfl
  | cons c ns ih =>
    intro n hn
    have hc := hv c (List.mem_cons_self ..)
    have hl := encL_len c hc
    rw [List.flatMap_cons] at hn ⊢
    rw [List.length_append] at hn
    cases n with
    | zero => omega
    | succ n =>
      have hf := first_law (encL c ++ ns.flatMap encL) (by rw [List.length_append]; omega)
      rw [decode_enc c hc] at hf
      have hci := isC_iff.1 hc
      unfold decodeS
      rw [hf, if_pos (by rw [List.length_append]; omega)]
      dsimp only
      rw [List.drop_left, ih (fun x hx => hv x (List.mem_cons_of_mem _ hx)) n (by omega), Int.toNat_of_nonneg hci.1]
theorem runes_enc (ns : List Int) (hv : okChars ns) : runesOf (ns.flatMap encL) = ns := by
  rw [← decode_law, decodeS_enc ns hv _ (Nat.le_refl _)]
theorem enc_len_le (ns : List Int) (hv : okChars ns) : (ns.flatMap encL).length ≤ 4 * ns.length := by
  induction ns with
  | nil => simp
  | cons c ns ih =>
    rw [List.flatMap_cons, List.length_append, List.length_cons]
    have := encL_le c (hv c (List.mem_cons_self ..))
    have := ih (fun x hx => hv x (List.mem_cons_of_mem _ hx))
    omega
theorem cmpB_self (l : List UInt8) : Lib.compareBytes l l = 0 := by
  induction l with
  | nil => rfl
  | cons a l ih => simp [Lib.compareBytes, ih]
theorem cmpS_self (l : List UInt8) (w : Bool) : cmpS l w l w = 0 := by
  unfold cmpS
  rw [if_pos rfl, cmpB_self]
theorem atS_narrow (l : List UInt8) (i : Nat) (hi : i < l.length) : atS l false (i : Int) = .tuple [.int .i64 ((l.getD i 0).toNat : Int), .int .i64 0] := by
  unfold atS lenS charS
  rw [if_neg (by simp; omega)]
  simp
theorem elB_getD {b : List UInt8} {i : Nat} (h : i < b.length) : (elB b).getD i [] = [.int .u8 ((b.getD i 0).toNat : Int)] := by
  simp [elB, List.getD_eq_getElem?_getD, h]
end Go.Proofs.YthlibdhjcjangaaDoor
