/- Contracts of functions that the law reaches. -/
import Derived.Test.YtincpomenogppaaGreatDoorY4
set_option linter.unusedSimpArgs false
set_option linter.unusedVariables false
namespace Go.Proofs.YtincpomenogppaaGreatDoor
open Go Go.RowKit Go.Proofs.YtincpomenogppaaGreatDoor Go.Proofs.YtincpomenogppaaGreatDoor.Lift
set_option maxRecDepth 100000

theorem RE_strInv {w : World} {I : Nat → Prop} : ∀ {xs : List (List UInt8)} {us : List Value}, RE w I 1 (strL xs) us → us = xs.map fun x => Value.string ⟨x.toArray⟩
  | [], us, h => h
  | x :: xs, us, h => by
    obtain ⟨u1, u2, rfl, _, ⟨u, us', rfl, hu, hn⟩, h⟩ := h
    have hn : us' = [] := hn
    have hu : u = .string ⟨x.toArray⟩ := hu
    subst hn hu
    rw [RE_strInv h]
    rfl
theorem JoinL_ok (xs : List (List UInt8)) (h : Heap) (hl : xs.flatten.length ≤ 140737488355328) (hn : xs.length ≤ 140737488355328) : SCalls env 40 [.list 1 (strL xs), .str []] h (Ret (.str xs.flatten) h) := by
  refine SCalls.ofBelow Tryz.func40 rfl rfl fun w I G vs g r => ?_
  obtain ⟨u, us, rfl, hu, u2, us2, rfl, hu2, h3⟩ := r
  have h3 : us2 = [] := h3
  subst h3
  obtain rfl : u2 = .string ⟨#[]⟩ := hu2
  refine ⟨.string ⟨xs.flatten.toArray⟩, fun _ => rfl, ?_⟩
  obtain ⟨A, c, ucs, rfl, k1, k2, k3, k4⟩ : ∃ A c us, u = .slice A (strL xs).length c ∧ (strL xs).length ≤ c ∧ c ≤ maxLen ∧ RE w I 1 (strL xs) us ∧ RowAt w I A us := hu
  have k3 := RE_strInv k3
  subst k3
  rw [strL_len] at k1 ⊢
  cases xs with
  | nil =>
    refine (Tryz.strings_Join_none A c ⟨#[]⟩ w).mono ?_
    rintro e w' ⟨he, rfl⟩
    exact ⟨he, Below.refl _ _⟩
  | cons x0 xs0 =>
    obtain ⟨ad, rfl, hI, hcells⟩ := k4 (by simp)
    obtain ⟨bk, o, sp⟩ := ad
    have hsp : sp = none := by
      have := hcells 0 _ rfl
      cases sp with
      | none => rfl
      | some q =>
        exfalso
        unfold World.cell? at this
        have hs : ((⟨bk, o, some q⟩ : Addr).add 0).spot.isSome = true := by unfold Addr.add; split <;> simp_all
        split at this
        · rw [hs, if_pos rfl] at this; cases this
        · cases this
    subst hsp
    have hj := Tryz.strings_Join bk o c ((x0 :: xs0).map fun x => (⟨x.toArray⟩ : ByteArray)) ⟨#[]⟩ w (fun j x hx => by
      rw [List.getElem?_map] at hx
      cases e : (x0 :: xs0)[j]? with
      | none => rw [e] at hx; cases hx
      | some y =>
        rw [e] at hx
        have hx : (⟨y.toArray⟩ : ByteArray) = x := Option.some.inj hx
        subst hx
        have h1 := hcells j (.string ⟨y.toArray⟩) (by rw [List.getElem?_map, e]; rfl)
        have h2 : (⟨bk, o, none⟩ : Addr).add j = ⟨bk, o + j, none⟩ := by
          unfold Addr.add
          by_cases e0 : j = 0
          · subst e0; simp
          · simp [e0]
        rw [h2] at h1
        exact h1) (g.imm _ hI) (by simpa using hn) (by rw [List.length_map]; exact k1) (by
        rw [List.map_map]
        have : ((x0 :: xs0).map ((fun x : ByteArray => x.data.toList) ∘ fun x => (⟨x.toArray⟩ : ByteArray))) = x0 :: xs0 := by
          rw [show ((fun x : ByteArray => x.data.toList) ∘ fun x : List UInt8 => (⟨x.toArray⟩ : ByteArray)) = id from rfl, List.map_id]
        rw [this]
        show (Lib.join (x0 :: xs0) []).length ≤ _
        rw [join_flat]; exact hl)
    rw [List.length_map] at hj
    have e1 : ((x0 :: xs0).map fun x => (⟨x.toArray⟩ : ByteArray)).map (·.data.toList) = x0 :: xs0 := by
      rw [List.map_map, show ((fun x : ByteArray => x.data.toList) ∘ fun x : List UInt8 => (⟨x.toArray⟩ : ByteArray)) = id from rfl, List.map_id]
    rw [e1, show (⟨#[]⟩ : ByteArray).data.toList = [] from rfl, join_flat] at hj
    exact hj
def hk (n : Int) (len : Nat) : Nat := if n < 0 then 0 else min n.toNat len
end Go.Proofs.YtincpomenogppaaGreatDoor
