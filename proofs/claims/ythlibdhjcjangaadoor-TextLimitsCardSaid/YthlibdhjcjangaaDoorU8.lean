/- Contracts of functions that the law reaches. -/
import Derived.Test.YthlibdhjcjangaaDoorU7
set_option linter.unusedSimpArgs false
set_option linter.unusedVariables false
namespace Go.Proofs.YthlibdhjcjangaaDoor
open Go Go.RowKit Go.Proofs.YthlibdhjcjangaaDoor Go.Proofs.YthlibdhjcjangaaDoor.Lift
set_option maxRecDepth 100000

/-! Plain laws of what is too long -/
theorem runes_one (c : Int) (hc : isC c = true) : runesOf (encR c) = [c] := by
  have h := runes_enc [c] (fun x hx => by rw [List.mem_singleton] at hx; rw [hx]; exact hc)
  rw [List.flatMap_cons, List.flatMap_nil, List.append_nil, enc_law c hc] at h
  exact h
theorem first_enc (c : Int) (hc : isC c = true) (r : List UInt8) : firstS (encL c ++ r) = (c, (encL c).length) := by
  have hl := encL_len c hc
  have hf := first_law (encL c ++ r) (by rw [List.length_append]; omega)
  rw [decode_enc c hc] at hf
  have := isC_iff.1 hc
  rw [hf, Int.toNat_of_nonneg this.1]
theorem enc_head (c : Int) (hc : isC c = true) (r : List UInt8) (b : UInt8) (hb : b.toNat < 128) (h : (encL c ++ r).getD 0 0 = b) : c = (b.toNat : Int) := by
  have hi := isC_iff.1 hc
  rw [enc_law c hc] at h
  unfold encR at h
  split at h
  · rw [List.cons_append, gd0] at h
    rw [← h, u8of_nat]; omega
  · split at h
    · rw [List.cons_append, gd0] at h
      have := congrArg (fun x : UInt8 => (x.toNat : Int)) h
      simp only [u8of_nat] at this
      rw [Int.tdiv_eq_ediv_of_nonneg hi.1] at this
      omega
    · split at h
      · rw [List.cons_append, gd0] at h
        have := congrArg (fun x : UInt8 => (x.toNat : Int)) h
        simp only [u8of_nat] at this
        rw [Int.tdiv_eq_ediv_of_nonneg hi.1] at this
        omega
      · rw [List.cons_append, gd0] at h
        have := congrArg (fun x : UInt8 => (x.toNat : Int)) h
        simp only [u8of_nat] at this
        rw [Int.tdiv_eq_ediv_of_nonneg hi.1] at this
        omega
theorem step_enc (s : List UInt8) (i : Nat) (c : Int) (r : List UInt8) (hc : isC c = true) (hd : s.drop i = encL c ++ r) (h1 : ¬ c = 10) (h2 : ¬ c = 34) (h3 : ¬ c = 92) : ustep s i = .char c (i + (encL c).length) := by
  have hl := encL_len c hc
  have hi : i < s.length := by
    have := congrArg List.length hd
    rw [List.length_drop, List.length_append] at this
    omega
  have hg : s.getD i 0 = (encL c ++ r).getD 0 0 := by rw [← hd, drop_getD]; rfl
  unfold ustep
  rw [if_pos hi, hg, if_neg (fun e => h2 (enc_head c hc r 34 (by decide) e)), if_neg (fun e => h1 (enc_head c hc r 10 (by decide) e)), if_neg (fun e => h3 (enc_head c hc r 92 (by decide) e)), hd, first_enc c hc]
theorem drop_zeros (K j : Nat) (t : List UInt8) (h : j ≤ K) : (34 :: (List.replicate K 0 ++ t) : List UInt8).drop (1 + j) = List.replicate (K - j) 0 ++ t := by
  rw [Nat.add_comm, List.drop_succ_cons, List.drop_append_of_le_length (by simp; exact h), List.drop_replicate]
theorem unq_zeros (c : Int) (hc : isC c = true) (h1 : ¬ c = 10) (h2 : ¬ c = 34) (h3 : ¬ c = 92) (K : Nat) (hK : K = 65536) (t : List UInt8) (m : Nat) :
    ∀ d j, j + d = K → unqS (34 :: (List.replicate K 0 ++ (encL c ++ t))) (m + d + 1) (1 + j) (List.replicate j 0) = ([], 1 + K, 3) := by
  intro d
  induction d with
  | zero =>
    intro j hj
    obtain rfl : j = K := by omega
    unfold unqS
    rw [step_enc _ _ c t hc (by rw [drop_zeros _ _ _ (Nat.le_refl _), Nat.sub_self]; rfl) h1 h2 h3]
    dsimp only
    rw [if_pos (by rw [List.length_replicate]; omega)]
  | succ d ih =>
    intro j hj
    have e0 : encL 0 = [0] := rfl
    have hd : (34 :: (List.replicate K 0 ++ (encL c ++ t)) : List UInt8).drop (1 + j) = encL 0 ++ (List.replicate (K - j - 1) 0 ++ (encL c ++ t)) := by
      rw [drop_zeros _ _ _ (by omega), e0]
      obtain ⟨q, hq⟩ : ∃ q, K - j = q + 1 := ⟨K - j - 1, by omega⟩
      rw [hq, List.replicate_succ]; rfl
    unfold unqS
    rw [step_enc _ _ 0 _ (by decide) hd (by decide) (by decide) (by decide)]
    dsimp only
    rw [if_neg (by rw [List.length_replicate]; omega), e0]
    have := ih (j + 1) (by omega)
    rw [List.replicate_succ'] at this
    exact this
theorem unquote_long (c : Int) (hc : isC c = true) (h1 : ¬ c = 10) (h2 : ¬ c = 34) (h3 : ¬ c = 92) (K : Nat) (hK : K = 65536) :
    unquoteS (34 :: (List.replicate K 0 ++ (encR c ++ [34]))) = ([], 1 + K, 3) := by
  have hl := encL_len c hc
  rw [← enc_law c hc]
  unfold unquoteS
  rw [if_pos ⟨by simp, rfl⟩]
  have hlen : (34 :: (List.replicate K 0 ++ (encL c ++ [34])) : List UInt8).length = ((encL c).length + 1) + K + 1 := by simp; omega
  rw [hlen]
  exact unq_zeros c hc h1 h2 h3 K hK [34] _ K 0 (by omega)
theorem zeros_wide (N : Nat) : anyWide (List.replicate N 0) = false := by
  unfold anyWide
  rw [List.any_eq_false]
  intro x hx
  rw [List.eq_of_mem_replicate hx]
  decide
theorem zeros_pack (N : Nat) : packL (List.replicate N 0) = List.replicate N 0 := by
  rw [packL_narrow (zeros_wide N), List.map_replicate]; rfl
theorem zeros_ok (N : Nat) : okChars (List.replicate N 0) := by
  intro x hx
  rw [List.eq_of_mem_replicate hx]; decide
theorem runes_zeros (N : Nat) : runesOf (List.replicate N 0) = List.replicate N 0 := by
  have h := runes_enc (List.replicate N 0) (zeros_ok N)
  have e : (List.replicate N (0 : Int)).flatMap encL = List.replicate N 0 := by
    induction N with
    | zero => rfl
    | succ n ih => rw [List.replicate_succ, List.flatMap_cons, ih (runes_enc _ (zeros_ok n)), List.replicate_succ]; rfl
  rw [e] at h
  exact h
theorem set_zeros (N : Nat) (c : Int) (hc : isC c = true) (hN : N ≤ 65536) : setS (List.replicate N 0) false (N : Nat) c = if N = 65536 then .tuple [noStr, .int .i64 3] else .tuple [strV (List.replicate N 0 ++ [c]), .int .i64 0] := by
  split
  · rename_i h
    unfold setS
    rw [if_neg (by rw [lenS, if_neg (by decide), List.length_replicate]; omega), if_neg (by rw [hc]; decide), if_pos (by omega)]
    rfl
  · rename_i h
    have := set_pack (List.replicate N 0) N c (zeros_ok N) (by omega) (by rw [List.length_replicate]; omega) (by rw [List.length_replicate]; omega) hc
    rw [zeros_pack, zeros_wide] at this
    rw [this]
    have e : setL (List.replicate N 0) (Int.toNat (N : Int)) c = List.replicate N 0 ++ [c] := by
      unfold setL
      rw [Int.toNat_natCast, List.take_of_length_le (by simp), List.drop_eq_nil_of_le (by simp), List.append_nil]
    rw [e]
theorem elB_zeros (N : Nat) : elB (List.replicate N 0) = List.replicate N [.int .u8 0] := by
  unfold elB; rw [List.map_replicate]; rfl
end Go.Proofs.YthlibdhjcjangaaDoor
