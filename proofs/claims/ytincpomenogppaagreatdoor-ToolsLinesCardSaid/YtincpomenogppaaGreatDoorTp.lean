/- Contracts of functions that the law reaches. -/
import Derived.Test.YtincpomenogppaaGreatDoorT9
set_option linter.unusedSimpArgs false
set_option linter.unusedVariables false
namespace Go.Proofs.YtincpomenogppaaGreatDoor
open Go Go.RowKit Go.Proofs.YtincpomenogppaaGreatDoor Go.Proofs.YtincpomenogppaaGreatDoor.Lift
set_option maxRecDepth 100000

theorem getB (l : List UInt8) (i : Nat) : (⟨l.toArray⟩ : ByteArray).get! i = l.getD i 0 := by
  simp [ByteArray.get!, List.getD_eq_getElem?_getD]
  rfl
theorem decode_drop (l : List UInt8) (i : Nat) (hi : i ≤ l.length) : Utf8.decode ⟨l.toArray⟩ i = Utf8.decode ⟨(l.drop i).toArray⟩ 0 := by
  have hg : ∀ k, (⟨l.toArray⟩ : ByteArray).get! (i + k) = (⟨(l.drop i).toArray⟩ : ByteArray).get! (0 + k) := fun k => by
    rw [getB, getB, Nat.zero_add, drop_getD]
  have hs : ∀ k, decide (i + k < (⟨l.toArray⟩ : ByteArray).size) = decide (0 + k < (⟨(l.drop i).toArray⟩ : ByteArray).size) := fun k => by
    rw [size_mk, size_mk, List.length_drop]
    simp only [decide_eq_decide]
    omega
  unfold Utf8.decode
  simp only [hg, hs]
theorem u8of_eq {z : Int} (b : UInt8) (h0 : 0 ≤ z) (h1 : z < 256) : (u8of z = b) ↔ z = (b.toNat : Int) := by
  have e : (u8of z).toNat = z.toNat := by
    unfold u8of
    rw [UInt8.toNat_ofNat']
    omega
  constructor
  · intro h; rw [← h, e]; omega
  · intro h; apply UInt8.toNat_inj.1; rw [e, h]; omega
theorem take1 (l : List UInt8) (h : 1 ≤ l.length) : l.take 1 = [l.getD 0 0] := by
  match l, h with
  | a :: l, _ => rfl
theorem take2 (l : List UInt8) (h : 2 ≤ l.length) : l.take 2 = [l.getD 0 0, l.getD 1 0] := by
  match l, h with
  | a :: b :: l, _ => rfl
theorem take3 (l : List UInt8) (h : 3 ≤ l.length) : l.take 3 = [l.getD 0 0, l.getD 1 0, l.getD 2 0] := by
  match l, h with
  | a :: b :: c :: l, _ => rfl
theorem take4 (l : List UInt8) (h : 4 ≤ l.length) : l.take 4 = [l.getD 0 0, l.getD 1 0, l.getD 2 0, l.getD 3 0] := by
  match l, h with
  | a :: b :: c :: d :: l, _ => rfl
theorem contB_iff (b : UInt8) : contB b = true ↔ b.toNat / 64 = 2 := by
  unfold contB
  rw [decide_eq_true_eq]
  omega
theorem tail_err {l : List UInt8} {n : Nat} {c0 : Int} (h : l.length < n ∨ ∃ j, j < n - 1 ∧ ¬ (l.getD (j + 1) 0).toNat / 64 = 2) : tailS l n c0 = (65533, 1) := by
  unfold tailS
  by_cases h1 : l.length < n
  · rw [if_pos h1]
  · rw [if_neg h1, if_neg]
    rw [Bool.not_eq_true, List.all_eq_false]
    obtain ⟨j, hj, hc⟩ := h.resolve_left h1
    exact ⟨j, List.mem_range.2 hj, fun e => hc ((contB_iff _).1 e)⟩
theorem tail_go {l : List UInt8} {n : Nat} {c0 : Int} (h1 : ¬ l.length < n) (h2 : ∀ j, j < n - 1 → (l.getD (j + 1) 0).toNat / 64 = 2) : tailS l n c0 = if isC (accC l c0 (n - 1)) = true ∧ encR (accC l c0 (n - 1)) = l.take n then (accC l c0 (n - 1), n) else (65533, 1) := by
  unfold tailS
  rw [if_neg h1, if_pos]
  rw [List.all_eq_true]
  intro j hj
  exact (contB_iff _).2 (h2 j (List.mem_range.1 hj))
theorem first_law (l : List UInt8) (h0 : 0 < l.length) : firstS l = (((Utf8.decode ⟨l.toArray⟩ 0).1 : Int), (Utf8.decode ⟨l.toArray⟩ 0).2) := by
  unfold Utf8.decode firstS
  simp only [getB, size_mk, Nat.zero_add]
  have b0 := (l.getD 0 0).toNat_lt
  by_cases c1 : (l.getD 0 0).toNat < 128
  · rw [if_neg (by omega), if_neg (by omega), if_neg (by omega), if_neg (by omega), if_pos (by omega), tail_go (by omega) (fun j hj => by omega), if_pos]
    · rfl
    · have hacc : accC l (((l.getD 0 0).toNat : Nat) : Int) (1 - 1) = ((l.getD 0 0).toNat : Nat) := rfl
      rw [hacc, take1 l h0]
      refine ⟨by unfold isC; rw [decide_eq_true_eq]; omega, ?_⟩
      unfold encR
      rw [if_pos (by omega), (u8of_eq (l.getD 0 0) (by omega) (by omega)).2 rfl]
  rw [if_neg c1]
  by_cases c2 : (l.getD 0 0).toNat < 192
  · have e1 : ((l.getD 0 0).toNat / 32 == 6) = false := by rw [beq_eq_false_iff_ne]; omega
    have e2 : ((l.getD 0 0).toNat / 16 == 14) = false := by rw [beq_eq_false_iff_ne]; omega
    have e3 : ((l.getD 0 0).toNat / 8 == 30) = false := by rw [beq_eq_false_iff_ne]; omega
    simp only [e1, e2, e3, Bool.false_and, Bool.false_eq_true, ↓reduceIte]
    rw [if_neg (by omega), if_neg (by omega), if_neg (by omega), if_pos (by omega)]
    rfl
  by_cases c3 : (l.getD 0 0).toNat < 224
  · have e1 : ((l.getD 0 0).toNat / 32 == 6) = true := by rw [beq_iff_eq]; omega
    have e2 : ((l.getD 0 0).toNat / 16 == 14) = false := by rw [beq_eq_false_iff_ne]; omega
    have e3 : ((l.getD 0 0).toNat / 8 == 30) = false := by rw [beq_eq_false_iff_ne]; omega
    simp only [e1, e2, e3, Bool.false_and, Bool.true_and, Bool.and_eq_true, decide_eq_true_eq, beq_iff_eq, Bool.false_eq_true, ↓reduceIte]
    rw [if_pos (by omega)]
    by_cases g1 : 1 < l.length ∧ (l.getD 1 0).toNat / 64 = 2
    · rw [if_pos g1, tail_go (by omega) (fun j hj => by have : j = 0 := by omega
                                                        subst this; exact g1.2)]
      have hb1 := (l.getD 1 0).toNat_lt
      have hacc : accC l (((l.getD 0 0).toNat : Nat) - 192) (2 - 1) = (((l.getD 0 0).toNat % 32 * 64 + (l.getD 1 0).toNat % 64 : Nat) : Int) := by
        simp only [accC, Nat.zero_add]; omega
      rw [hacc, take2 l (by omega)]
      by_cases g2 : 128 ≤ (l.getD 0 0).toNat % 32 * 64 + (l.getD 1 0).toNat % 64
      · rw [if_pos g2, if_pos]
        refine ⟨by unfold isC; rw [decide_eq_true_eq]; omega, ?_⟩
        unfold encR
        rw [if_neg (by omega), if_pos (by omega), Int.tdiv_eq_ediv_of_nonneg (by omega), Int.tmod_eq_emod_of_nonneg (by omega), (u8of_eq (l.getD 0 0) (by omega) (by omega)).2 (by omega), (u8of_eq (l.getD 1 0) (by omega) (by omega)).2 (by omega)]
      · rw [if_neg g2, if_neg]
        · rfl
        · rintro ⟨_, h⟩
          unfold encR at h
          rw [if_pos (by omega)] at h
          have := congrArg List.length h
          simp at this
    · rw [if_neg g1, tail_err]
      · rfl
      · by_cases g2 : 1 < l.length
        · exact .inr ⟨0, by omega, fun e => g1 ⟨g2, e⟩⟩
        · exact .inl (by omega)
  by_cases c4 : (l.getD 0 0).toNat < 240
  · have e1 : ((l.getD 0 0).toNat / 32 == 6) = false := by rw [beq_eq_false_iff_ne]; omega
    have e2 : ((l.getD 0 0).toNat / 16 == 14) = true := by rw [beq_iff_eq]; omega
    have e3 : ((l.getD 0 0).toNat / 8 == 30) = false := by rw [beq_eq_false_iff_ne]; omega
    simp only [e1, e2, e3, Bool.false_and, Bool.true_and, Bool.and_eq_true, decide_eq_true_eq, beq_iff_eq, Bool.false_eq_true, ↓reduceIte]
    rw [if_neg (by omega), if_pos (by omega)]
    by_cases g1 : (1 < l.length ∧ (l.getD 1 0).toNat / 64 = 2) ∧ 2 < l.length ∧ (l.getD 2 0).toNat / 64 = 2
    · rw [if_pos g1, tail_go (by omega) (fun j hj => by
        match j, hj with
        | 0, _ => exact g1.1.2
        | 1, _ => exact g1.2.2)]
      have hb1 := (l.getD 1 0).toNat_lt
      have hb2 := (l.getD 2 0).toNat_lt
      have hacc : accC l (((l.getD 0 0).toNat : Nat) - 224) (3 - 1) = (((l.getD 0 0).toNat % 16 * 4096 + (l.getD 1 0).toNat % 64 * 64 + (l.getD 2 0).toNat % 64 : Nat) : Int) := by
        simp only [accC, Nat.zero_add, Nat.reduceAdd]; omega
      rw [hacc, take3 l (by omega)]
      generalize hc : (l.getD 0 0).toNat % 16 * 4096 + (l.getD 1 0).toNat % 64 * 64 + (l.getD 2 0).toNat % 64 = c
      have hc9 : c < 65536 := by omega
      by_cases g2 : 2048 ≤ c ∧ (c < 55296 ∨ 57343 < c)
      · have hv : Utf8.valid (c : Int) = true := by
          unfold Utf8.valid
          simp only [Bool.or_eq_true, Bool.and_eq_true, decide_eq_true_eq]
          omega
        rw [if_pos (show c ≥ 0x800 ∧ Utf8.valid (c : Int) = true from ⟨g2.1, hv⟩), if_pos]
        refine ⟨by unfold isC; rw [decide_eq_true_eq]; omega, ?_⟩
        unfold encR
        rw [if_neg (by omega), if_neg (by omega), if_pos (by omega), Int.tdiv_eq_ediv_of_nonneg (a := (c : Int)) (by omega), Int.tdiv_eq_ediv_of_nonneg (a := (c : Int)) (by omega), Int.tmod_eq_emod_of_nonneg (by omega), Int.tmod_eq_emod_of_nonneg (by omega), (u8of_eq (l.getD 0 0) (by omega) (by omega)).2 (by omega), (u8of_eq (l.getD 1 0) (by omega) (by omega)).2 (by omega), (u8of_eq (l.getD 2 0) (by omega) (by omega)).2 (by omega)]
      · have hnv : ¬ (c ≥ 0x800 ∧ Utf8.valid (c : Int) = true) := by
          rintro ⟨h1, h2⟩
          unfold Utf8.valid at h2
          simp only [Bool.or_eq_true, Bool.and_eq_true, decide_eq_true_eq] at h2
          omega
        rw [if_neg hnv, if_neg]
        · rfl
        · rintro ⟨h1, h2⟩
          unfold isC at h1
          rw [decide_eq_true_eq] at h1
          have hlt : c < 2048 := by omega
          unfold encR at h2
          by_cases k1 : (c : Int) < 128
          · rw [if_pos k1] at h2
            have := congrArg List.length h2
            simp at this
          · rw [if_neg k1, if_pos (by omega)] at h2
            have := congrArg List.length h2
            simp at this
    · rw [if_neg g1, tail_err]
      · rfl
      · by_cases g2 : 2 < l.length
        · by_cases g3 : (l.getD 1 0).toNat / 64 = 2
          · exact .inr ⟨1, by omega, fun e => g1 ⟨⟨by omega, g3⟩, g2, e⟩⟩
          · exact .inr ⟨0, by omega, g3⟩
        · exact .inl (by omega)
  by_cases c5 : (l.getD 0 0).toNat < 248
  · have e1 : ((l.getD 0 0).toNat / 32 == 6) = false := by rw [beq_eq_false_iff_ne]; omega
    have e2 : ((l.getD 0 0).toNat / 16 == 14) = false := by rw [beq_eq_false_iff_ne]; omega
    have e3 : ((l.getD 0 0).toNat / 8 == 30) = true := by rw [beq_iff_eq]; omega
    simp only [e1, e2, e3, Bool.false_and, Bool.true_and, Bool.and_eq_true, decide_eq_true_eq, beq_iff_eq, Bool.false_eq_true, ↓reduceIte]
    rw [if_neg (by omega), if_neg (by omega), if_pos (by omega)]
    by_cases g1 : ((1 < l.length ∧ (l.getD 1 0).toNat / 64 = 2) ∧ 2 < l.length ∧ (l.getD 2 0).toNat / 64 = 2) ∧ 3 < l.length ∧ (l.getD 3 0).toNat / 64 = 2
    · rw [if_pos g1, tail_go (by omega) (fun j hj => by
        match j, hj with
        | 0, _ => exact g1.1.1.2
        | 1, _ => exact g1.1.2.2
        | 2, _ => exact g1.2.2)]
      have hb1 := (l.getD 1 0).toNat_lt
      have hb2 := (l.getD 2 0).toNat_lt
      have hb3 := (l.getD 3 0).toNat_lt
      have hacc : accC l (((l.getD 0 0).toNat : Nat) - 240) (4 - 1) = (((l.getD 0 0).toNat % 8 * 262144 + (l.getD 1 0).toNat % 64 * 4096 + (l.getD 2 0).toNat % 64 * 64 + (l.getD 3 0).toNat % 64 : Nat) : Int) := by
        simp only [accC, Nat.zero_add, Nat.reduceAdd]; omega
      rw [hacc, take4 l (by omega)]
      generalize hc : (l.getD 0 0).toNat % 8 * 262144 + (l.getD 1 0).toNat % 64 * 4096 + (l.getD 2 0).toNat % 64 * 64 + (l.getD 3 0).toNat % 64 = c
      by_cases g2 : 65536 ≤ c ∧ c ≤ 1114111
      · have hv : Utf8.valid (c : Int) = true := by
          unfold Utf8.valid
          simp only [Bool.or_eq_true, Bool.and_eq_true, decide_eq_true_eq]
          omega
        rw [if_pos (show c ≥ 0x10000 ∧ Utf8.valid (c : Int) = true from ⟨g2.1, hv⟩), if_pos]
        refine ⟨by unfold isC; rw [decide_eq_true_eq]; omega, ?_⟩
        unfold encR
        rw [if_neg (by omega), if_neg (by omega), if_neg (by omega), Int.tdiv_eq_ediv_of_nonneg (a := (c : Int)) (by omega), Int.tdiv_eq_ediv_of_nonneg (a := (c : Int)) (by omega), Int.tdiv_eq_ediv_of_nonneg (a := (c : Int)) (by omega), Int.tmod_eq_emod_of_nonneg (by omega), Int.tmod_eq_emod_of_nonneg (by omega), Int.tmod_eq_emod_of_nonneg (by omega), (u8of_eq (l.getD 0 0) (by omega) (by omega)).2 (by omega), (u8of_eq (l.getD 1 0) (by omega) (by omega)).2 (by omega), (u8of_eq (l.getD 2 0) (by omega) (by omega)).2 (by omega), (u8of_eq (l.getD 3 0) (by omega) (by omega)).2 (by omega)]
      · have hnv : ¬ (c ≥ 0x10000 ∧ Utf8.valid (c : Int) = true) := by
          rintro ⟨h1, h2⟩
          unfold Utf8.valid at h2
          simp only [Bool.or_eq_true, Bool.and_eq_true, decide_eq_true_eq] at h2
          omega
        rw [if_neg hnv, if_neg]
        · rfl
        · rintro ⟨h1, h2⟩
          unfold isC at h1
          rw [decide_eq_true_eq] at h1
          have hlt : c < 65536 := by omega
          unfold encR at h2
          by_cases k1 : (c : Int) < 128
          · rw [if_pos k1] at h2
            have := congrArg List.length h2
            simp at this
          · by_cases k2 : (c : Int) < 2048
            · rw [if_neg k1, if_pos k2] at h2
              have := congrArg List.length h2
              simp at this
            · rw [if_neg k1, if_neg k2, if_pos (by omega)] at h2
              have := congrArg List.length h2
              simp at this
    · rw [if_neg g1, tail_err]
      · rfl
      · by_cases g2 : 3 < l.length
        · by_cases g3 : (l.getD 1 0).toNat / 64 = 2
          · by_cases g4 : (l.getD 2 0).toNat / 64 = 2
            · exact .inr ⟨2, by omega, fun e => g1 ⟨⟨⟨by omega, g3⟩, by omega, g4⟩, g2, e⟩⟩
            · exact .inr ⟨1, by omega, g4⟩
          · exact .inr ⟨0, by omega, g3⟩
        · exact .inl (by omega)
  · have e1 : ((l.getD 0 0).toNat / 32 == 6) = false := by rw [beq_eq_false_iff_ne]; omega
    have e2 : ((l.getD 0 0).toNat / 16 == 14) = false := by rw [beq_eq_false_iff_ne]; omega
    have e3 : ((l.getD 0 0).toNat / 8 == 30) = false := by rw [beq_eq_false_iff_ne]; omega
    simp only [e1, e2, e3, Bool.false_and, Bool.false_eq_true, ↓reduceIte]
    rw [if_neg (by omega), if_neg (by omega), if_neg (by omega), if_pos (by omega)]
    rfl
theorem decodeS_eq : ∀ (n : Nat) (l : List UInt8) (i : Nat), i ≤ l.length → decodeS n (l.drop i) = runesAt ⟨l.toArray⟩ n i
  | 0, _, _, _ => rfl
  | n + 1, l, i, hi => by
    unfold decodeS runesAt
    rw [size_mk, List.length_drop]
    by_cases h : i < l.length
    · rw [if_pos (by omega), if_pos h]
      have hd : 0 < (l.drop i).length := by rw [List.length_drop]; omega
      have hf := first_law (l.drop i) hd
      rw [← decode_drop l i hi] at hf
      have hle := (firstS_le (l.drop i) hd).2
      rw [hf] at hle ⊢
      rw [List.length_drop] at hle
      dsimp only at hle ⊢
      rw [List.drop_drop, decodeS_eq n l _ (by omega)]
    · rw [if_neg (by omega), if_neg h]
theorem decode_law (l : List UInt8) : decodeS l.length l = runesOf l := by
  have := decodeS_eq l.length l 0 (Nat.zero_le _)
  rw [List.drop_zero] at this
  exact this
end Go.Proofs.YtincpomenogppaaGreatDoor
