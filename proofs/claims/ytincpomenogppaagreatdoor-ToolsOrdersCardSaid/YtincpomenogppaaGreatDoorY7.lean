/- Contracts of functions that the law reaches. -/
import Derived.Test.YtincpomenogppaaGreatDoorY6
set_option linter.unusedSimpArgs false
set_option linter.unusedVariables false
namespace Go.Proofs.YtincpomenogppaaGreatDoor
open Go Go.RowKit Go.Proofs.YtincpomenogppaaGreatDoor Go.Proofs.YtincpomenogppaaGreatDoor.Lift
set_option maxRecDepth 100000

theorem less_cons (a b : UInt8) (x y : List UInt8) : lessB (a :: x) (b :: y) = (decide (a < b) || (a == b && lessB x y)) := rfl
theorem less_nil (x : List UInt8) : lessB x [] = false := by cases x <;> rfl
theorem less_irr : ∀ x : List UInt8, lessB x x = false
  | [] => rfl
  | a :: x => by rw [less_cons, less_irr x]; simp
theorem u8_lt_iff {a b : UInt8} : a < b ↔ a.toNat < b.toNat := UInt8.lt_iff_toNat_lt
theorem less_trans : ∀ {x y z : List UInt8}, lessB x y = true → lessB y z = true → lessB x z = true
  | x, y, [], _, h => by rw [less_nil] at h; cases h
  | x, [], c :: z, h, _ => by rw [less_nil] at h; cases h
  | [], b :: y, c :: z, _, _ => rfl
  | a :: x, b :: y, c :: z, h1, h2 => by
    rw [less_cons] at h1 h2 ⊢
    simp only [Bool.or_eq_true, Bool.and_eq_true, decide_eq_true_eq, beq_iff_eq, u8_lt_iff] at h1 h2 ⊢
    rcases h1 with h1 | ⟨rfl, h1⟩
    · rcases h2 with h2 | ⟨rfl, h2⟩
      · exact .inl (by omega)
      · exact .inl h1
    · rcases h2 with h2 | ⟨rfl, h2⟩
      · exact .inl h2
      · exact .inr ⟨rfl, less_trans h1 h2⟩
theorem less_tri : ∀ {x y : List UInt8}, lessB x y = false → lessB y x = false → x = y
  | [], [], _, _ => rfl
  | [], b :: y, h, _ => by cases h
  | a :: x, [], _, h => by cases h
  | a :: x, b :: y, h1, h2 => by
    rw [less_cons] at h1 h2
    simp only [Bool.or_eq_false_iff, Bool.and_eq_false_imp, decide_eq_false_iff_not, beq_iff_eq, u8_lt_iff] at h1 h2
    have e : a = b := UInt8.toNat_inj.1 (by omega)
    subst e
    rw [less_tri (h1.2 rfl) (h2.2 rfl)]
theorem ltD_down (a b : List UInt8) : ltD true a b = lessB b a := by
  unfold ltD
  rw [if_pos rfl]
  cases h1 : lessB a b with
  | true =>
    cases h2 : lessB b a with
    | true => have := less_trans h1 h2; rw [less_irr] at this; cases this
    | false => rfl
  | false =>
    cases h2 : lessB b a with
    | true =>
      have : (a == b) = false := by
        rw [beq_eq_false_iff_ne]; rintro rfl; rw [less_irr] at h2; cases h2
      rw [this]; rfl
    | false => rw [less_tri h1 h2]; simp
theorem ltD_up (a b : List UInt8) : ltD false a b = lessB a b := by unfold ltD; rw [if_neg (by simp)]
theorem ltD_irr (d : Bool) (a : List UInt8) : ltD d a a = false := by cases d; rw [ltD_up, less_irr]; rw [ltD_down, less_irr]
theorem ltD_trans {d : Bool} {x y z : List UInt8} (h1 : ltD d x y = true) (h2 : ltD d y z = true) : ltD d x z = true := by
  cases d
  · rw [ltD_up] at *; exact less_trans h1 h2
  · rw [ltD_down] at *; exact less_trans h2 h1
theorem ltD_tri {d : Bool} {x y : List UInt8} (h1 : ltD d x y = false) (h2 : ltD d y x = false) : x = y := by
  cases d
  · rw [ltD_up] at *; exact less_tri h1 h2
  · rw [ltD_down] at *; exact less_tri h2 h1
theorem ltD_neg {d : Bool} {x y z : List UInt8} (h1 : ltD d x y = false) (h2 : ltD d y z = false) : ltD d x z = false := by
  cases h : ltD d x z with
  | false => rfl
  | true =>
    exfalso
    cases h3 : ltD d z y with
    | true => rw [ltD_trans h h3] at h1; cases h1
    | false =>
      have e := ltD_tri h2 h3
      subst e
      rw [h] at h1; cases h1
theorem scan_least (d : Bool) (cs : List (List UInt8)) (us : List Bool) : ∀ (n i : Nat) (b : Int), 0 ≤ scanB d cs us n i b →
    (0 ≤ b → ltD d (cs.getD b.toNat []) (cs.getD (scanB d cs us n i b).toNat []) = false) ∧
    (∀ k, i ≤ k → k < i + n → us.getD k false = false → ltD d (cs.getD k []) (cs.getD (scanB d cs us n i b).toNat []) = false)
  | 0, i, b, _ => ⟨fun _ => ltD_irr _ _, fun k k1 k2 => by omega⟩
  | n + 1, i, b, h0 => by
    unfold scanB at h0 ⊢
    by_cases hu : us.getD i false = true
    · rw [if_pos hu] at h0 ⊢
      obtain ⟨a1, a2⟩ := scan_least d cs us n (i + 1) b h0
      refine ⟨a1, fun k k1 k2 k3 => a2 k ?_ (by omega) k3⟩
      rcases Nat.eq_or_lt_of_le k1 with e | e
      · subst e; rw [hu] at k3; cases k3
      · exact e
    · rw [if_neg hu] at h0 ⊢
      by_cases hb : b < 0 ∨ ltD d (cs.getD i []) (cs.getD b.toNat []) = true
      · rw [if_pos hb] at h0 ⊢
        obtain ⟨a1, a2⟩ := scan_least d cs us n (i + 1) i h0
        have a1 := a1 (by omega)
        rw [Int.toNat_natCast] at a1
        refine ⟨fun hb0 => ?_, fun k k1 k2 k3 => ?_⟩
        · rcases hb with hb | hb
          · omega
          · cases h : ltD d (cs.getD b.toNat []) (cs.getD (scanB d cs us n (i + 1) i).toNat []) with
            | false => rfl
            | true => rw [ltD_trans hb h] at a1; cases a1
        · rcases Nat.eq_or_lt_of_le k1 with e | e
          · subst e; exact a1
          · exact a2 k e (by omega) k3
      · rw [if_neg hb] at h0 ⊢
        obtain ⟨a1, a2⟩ := scan_least d cs us n (i + 1) b h0
        have hb1 : ¬ b < 0 := fun h => hb (.inl h)
        have hb2 : ltD d (cs.getD i []) (cs.getD b.toNat []) = false := by
          cases h : ltD d (cs.getD i []) (cs.getD b.toNat []) with
          | false => rfl
          | true => exact absurd (.inr h) hb
        refine ⟨a1, fun k k1 k2 k3 => ?_⟩
        rcases Nat.eq_or_lt_of_le k1 with e | e
        · subst e; exact ltD_neg hb2 (a1 (by omega))
        · exact a2 k e (by omega) k3
def rem : List (List UInt8) → List Bool → List (List UInt8)
  | c :: cs, false :: us => c :: rem cs us
  | _ :: cs, true :: us => rem cs us
  | _, _ => []
theorem rem_len : ∀ {cs : List (List UInt8)} {us : List Bool}, us.length = cs.length → (rem cs us).length = us.count false
  | [], [], _ => rfl
  | [], _ :: _, h => by cases h
  | _ :: _, [], h => by cases h
  | c :: cs, false :: us, h => by
    rw [rem, List.length_cons, rem_len (Nat.succ.inj h), List.count_cons_self]
  | c :: cs, true :: us, h => by
    rw [rem, rem_len (Nat.succ.inj h), List.count_cons_of_ne (by simp)]
theorem rem_mem : ∀ {cs : List (List UInt8)} {us : List Bool} {x : List UInt8}, x ∈ rem cs us → ∃ k, k < cs.length ∧ us.getD k false = false ∧ cs.getD k [] = x
  | [], us, x, h => by simp [rem] at h
  | _ :: _, [], x, h => by simp [rem] at h
  | c :: cs, false :: us, x, h => by
    rw [rem] at h
    rcases List.mem_cons.1 h with rfl | h
    · exact ⟨0, by simp, rfl, rfl⟩
    · obtain ⟨k, k1, k2, k3⟩ := rem_mem h
      exact ⟨k + 1, by simp; omega, k2, k3⟩
  | c :: cs, true :: us, x, h => by
    rw [rem] at h
    obtain ⟨k, k1, k2, k3⟩ := rem_mem h
    exact ⟨k + 1, by simp; omega, k2, k3⟩
theorem rem_set : ∀ {cs : List (List UInt8)} {us : List Bool} {m : Nat}, us.length = cs.length → m < cs.length → us.getD m false = false → (rem cs us).Perm (cs.getD m [] :: rem cs (us.set m true))
  | [], _, m, _, h, _ => by cases h
  | c :: cs, [], m, h, _, _ => by cases h
  | c :: cs, false :: us, 0, h, _, _ => List.Perm.refl _
  | c :: cs, true :: us, 0, h, _, e => by cases e
  | c :: cs, false :: us, m + 1, h, hm, e => by
    have ih := rem_set (m := m) (Nat.succ.inj h) (Nat.lt_of_succ_lt_succ hm) e
    show (c :: rem cs us).Perm (cs.getD m [] :: c :: rem cs (us.set m true))
    exact (ih.cons c).trans (List.Perm.swap ..)
  | c :: cs, true :: us, m + 1, h, hm, e => rem_set (m := m) (Nat.succ.inj h) (Nat.lt_of_succ_lt_succ hm) e
theorem rem_all : ∀ cs : List (List UInt8), rem cs (List.replicate cs.length false) = cs
  | [] => rfl
  | c :: cs => by
    show c :: rem cs (List.replicate cs.length false) = c :: cs
    rw [rem_all cs]
theorem selF_sorted (d : Bool) (cs : List (List UInt8)) : ∀ (n : Nat) (us : List Bool) (q : List (List UInt8)), us.length = cs.length → us.count false = n → (rem cs us).Perm q → q.Pairwise (fun a b => ltD d b a = false) →
    selF d cs n us = (q.map (· ++ [10])).flatten
  | 0, us, q, hl, hn, hp, _ => by
    have h1 := hp.length_eq
    rw [rem_len hl, hn] at h1
    rw [List.length_eq_zero_iff.1 h1.symm]
    rfl
  | n + 1, us, q, hl, hn, hp, hs => by
    have h1 := hp.length_eq
    rw [rem_len hl, hn] at h1
    cases q with
    | nil => cases h1
    | cons x t =>
      have hf := scan_found d cs us cs.length 0 (-1) (.inl (by omega)) (by omega) (.inr (unused hl (by omega)))
      have hle := (scan_least d cs us cs.length 0 (-1) hf.1).2
      unfold selF
      obtain ⟨B, hB⟩ : ∃ B, B = scanB d cs us cs.length 0 (-1) := ⟨_, rfl⟩
      rw [← hB] at hf hle ⊢
      obtain ⟨b1, b2, b3⟩ := hf
      obtain ⟨m, rfl⟩ : ∃ m : Nat, B = (m : Int) := ⟨B.toNat, by omega⟩
      rw [Int.toNat_natCast] at b3 hle ⊢
      have hm : m < cs.length := by omega
      have hset := rem_set hl hm b3
      have hyq : cs.getD m [] ∈ x :: t := hp.subset (hset.symm.subset (List.mem_cons_self ..))
      have hxr : x ∈ rem cs us := hp.symm.subset (List.mem_cons_self ..)
      obtain ⟨k, k1, k2, k3⟩ := rem_mem hxr
      have hxy : ltD d x (cs.getD m []) = false := by rw [← k3]; exact hle k (Nat.zero_le _) (by omega) k2
      have hyx : ltD d (cs.getD m []) x = false := by
        rcases List.mem_cons.1 hyq with e | e
        · rw [e]; exact ltD_irr _ _
        · exact (List.pairwise_cons.1 hs).1 _ e
      have e := ltD_tri hyx hxy
      have hp2 : (rem cs (us.set m true)).Perm t := by
        have := hset.symm.trans hp
        rw [e] at this
        exact List.Perm.cons_inv this
      have ih := selF_sorted d cs n (us.set m true) t (by rw [List.length_set]; exact hl) (by rw [count_set_true (by omega) b3, hn]; rfl) hp2 (List.pairwise_cons.1 hs).2
      rw [ih, e]
      rfl
theorem sort_law (d : Bool) (cs q : List (List UInt8)) (hp : cs.Perm q) (hs : q.Pairwise (fun a b => ltD d b a = false)) : selF d cs cs.length (List.replicate cs.length false) = (q.map (· ++ [10])).flatten :=
  selF_sorted d cs cs.length _ q List.length_replicate List.count_replicate_self (by rw [rem_all]; exact hp) hs
end Go.Proofs.YtincpomenogppaaGreatDoor
