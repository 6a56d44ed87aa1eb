/- Contracts of functions that the law reaches. -/
import Derived.Lib.SplitLaws
import Derived.Lib.IndexBytes
import Derived.Lib.AtoiTie
import Derived.Lib.ItoaLen
import Derived.Lib.ItoaNum
set_option linter.unusedSimpArgs false
set_option linter.unusedVariables false
namespace Go.Proofs.YthdmdeiaonkeoaaDoor
open Go

/-! What Split and Atoi do with what Text writes -/
theorem indexByte_at (c : UInt8) : ∀ (p r : List UInt8), c ∉ p → Lib.indexByte (p ++ c :: r) c = (p.length : Int)
  | [], r, _ => by simp [Lib.indexByte]
  | b :: p, r, h => by
    have hb : b ≠ c := fun e => h (by rw [e]; exact List.mem_cons_self ..)
    have ih := indexByte_at c p r (fun m => h (List.mem_cons_of_mem _ m))
    rw [List.cons_append, Lib.indexByte, ih]
    simp [hb]
theorem split_at (c : UInt8) (p r : List UInt8) (h : c ∉ p) : Lib.split (p ++ c :: r) [c] = p :: Lib.split r [c] := by
  unfold Lib.split
  rw [Lib.count_one, Lib.count_one, List.count_append, List.count_eq_zero_of_not_mem h, List.count_cons_self, Nat.zero_add]
  rw [Lib.splitK, Lib.index_one, indexByte_at c p r h, if_neg (by simp)]
  congr 1
  · simp
  · congr 1
    simp
theorem split_end (c : UInt8) (p : List UInt8) (h : c ∉ p) : Lib.split p [c] = [p] := by
  unfold Lib.split
  rw [Lib.count_one, List.count_eq_zero_of_not_mem h]
  rfl
theorem split_ne (s sep : List UInt8) : 1 ≤ (Lib.split s sep).length := by
  unfold Lib.split
  cases Lib.count s sep with
  | zero => exact Nat.le_refl _
  | succ k => unfold Lib.splitK; split <;> simp
/-- What Atoi hands back. -/
def atoiR (s : List UInt8) : Int := match Lib.atoiAll s with
  | .ok v => v
  | .range => Lib.atoiSat s
  | _ => 0
theorem digit_dec (d : Nat) (h : d < 10) : Lib.digitVal (UInt8.ofNat (48 + d)) = some d := by
  have key : ∀ d : Fin 10, Lib.digitVal (UInt8.ofNat (48 + d.val)) = some d.val := by decide
  exact key ⟨d, h⟩
theorem decFrom_snoc (l : List UInt8) (b : UInt8) : ∀ acc : Nat, Lib.decFrom acc (l ++ [b]) = (Lib.decFrom acc l).bind fun n => (Lib.digitVal b).map fun d => n * 10 + d := by
  induction l with
  | nil => intro acc; simp [Lib.decFrom]; cases Lib.digitVal b <;> rfl
  | cons a t ih =>
    intro acc
    simp only [List.cons_append, Lib.decFrom]
    cases Lib.digitVal a with
    | none => rfl
    | some d => exact ih _
theorem dec_dec : ∀ (n : Nat), Lib.decFrom 0 (Lib.decDigits n) = some n
  | n => by
    rw [Lib.decDigits]
    split
    · rename_i h
      simp only [Lib.decFrom, digit_dec _ h, Nat.zero_mul, Nat.zero_add]
    · rw [decFrom_snoc, dec_dec (n / 10), digit_dec _ (Nat.mod_lt _ (by omega))]
      simp
      omega
  termination_by n => n
  decreasing_by omega
theorem dec_ne (n : Nat) : Lib.decDigits n ≠ [] := by
  rw [Lib.decDigits]
  split <;> simp
theorem dec_first (n : Nat) : ∃ d r, d < 10 ∧ Lib.decDigits n = UInt8.ofNat (48 + d) :: r := by
  rw [Lib.decDigits]
  split
  · rename_i h; exact ⟨n, [], h, rfl⟩
  · obtain ⟨d, r, hd, e⟩ := dec_first (n / 10)
    exact ⟨d, r ++ [UInt8.ofNat (48 + n % 10)], hd, by rw [e]; rfl⟩
  termination_by n
  decreasing_by omega
theorem dec_mem (n : Nat) : ∀ b ∈ Lib.decDigits n, ∃ d, d < 10 ∧ b = UInt8.ofNat (48 + d) := by
  rw [Lib.decDigits]
  split
  · rename_i h; intro b hb; exact ⟨n, h, List.mem_singleton.1 hb⟩
  · intro b hb
    rcases List.mem_append.1 hb with hb | hb
    · exact dec_mem (n / 10) b hb
    · exact ⟨n % 10, Nat.mod_lt _ (by omega), List.mem_singleton.1 hb⟩
  termination_by n
  decreasing_by omega
theorem itoa_noSpace (n : Int) : (32 : UInt8) ∉ Lib.itoa n := by
  have key : ∀ d : Fin 10, (32 : UInt8) ≠ UInt8.ofNat (48 + d.val) := by decide
  have hd : ∀ m : Nat, (32 : UInt8) ∉ Lib.decDigits m := fun m hm => by
    obtain ⟨d, h, e⟩ := dec_mem m _ hm
    exact key ⟨d, h⟩ e
  unfold Lib.itoa
  split
  · intro h
    rcases List.mem_cons.1 h with h | h
    · exact absurd h (by decide)
    · exact hd _ h
  · exact hd _
theorem atoi_itoa (n : Int) (h : (Lib.itoa n).length ≤ 18) : atoiR (Lib.itoa n) = n := by
  have e : Lib.atoi (Lib.itoa n) = some n := by
    unfold Lib.itoa
    have hn : ∀ m : Nat, Lib.decNat (Lib.decDigits m) = some m := fun m => by
      have := dec_dec m
      have hne := dec_ne m
      unfold Lib.decNat
      cases hm : Lib.decDigits m with
      | nil => exact absurd hm hne
      | cons b r => rw [if_neg (by simp), ← hm]; exact this
    split
    · rename_i hneg
      simp only [Lib.atoi, hn]
      simp
      omega
    · rename_i hneg
      obtain ⟨d, r, hd, er⟩ := dec_first n.toNat
      have k1 : ∀ d : Fin 10, (UInt8.ofNat (48 + d.val) == 45) = false ∧ (UInt8.ofNat (48 + d.val) == 43) = false := by decide
      have := k1 ⟨d, hd⟩
      have hn := hn n.toNat
      rw [er] at hn ⊢
      simp only [Lib.atoi, this.1, this.2, hn]
      simp
      omega
  unfold atoiR
  rw [Lib.atoiAll_short _ h, e]
  rfl
end Go.Proofs.YthdmdeiaonkeoaaDoor
