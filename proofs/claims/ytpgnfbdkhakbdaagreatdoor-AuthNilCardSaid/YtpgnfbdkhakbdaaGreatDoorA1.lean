/- Contracts of functions that the law reaches. -/
import Derived.Test.YtpgnfbdkhakbdaaGreatDoorEnv
import Derived.Test.YtpgnfbdkhakbdaaGreatDoorShelf
import Derived.Test.YtpgnfbdkhakbdaaGreatDoorLiftH
set_option linter.unusedSimpArgs false
set_option linter.unusedVariables false
namespace Go.Proofs.YtpgnfbdkhakbdaaGreatDoor
open Go Go.RowKit Go.Proofs.YtpgnfbdkhakbdaaGreatDoor Go.Proofs.YtpgnfbdkhakbdaaGreatDoor.Lift
set_option maxRecDepth 100000

theorem incSelf (h : Heap) : Lift.Inc h h := fun _ _ e => e
theorem Inc.over {h0 h1 : Heap} (i : Lift.Inc h0 h1) {q : Nat} (hq : h0 q = none) (Y : AObj) : Lift.Inc h0 (h1.put q Y) := fun k X e => by
  have : k ≠ q := by rintro rfl; rw [hq] at e; cases e
  rw [Heap.put_ne _ _ this]; exact i _ _ e

def strL (l : List (List UInt8)) : List (List PV) := l.map fun x => [PV.str x]
theorem strL_len (l : List (List UInt8)) : (strL l).length = l.length := List.length_map _
def unS : List (List PV) → Option (List (List UInt8))
  | [] => some []
  | [.str x] :: l => match unS l with | some r => some (x :: r) | none => none
  | _ => none
theorem unS_spec : ∀ {xs : List (List PV)} {l : List (List UInt8)}, unS xs = some l → xs = strL l
  | [], l, h => by
    have : [] = l := Option.some.inj h
    subst this; rfl
  | x :: xs, l, h => by
    unfold unS at h
    split at h
    · rename_i e; cases e
    · rename_i y l' e
      injection e with e1 e2
      subst e1 e2
      split at h
      · rename_i r hr
        have := Option.some.inj h
        subst this
        rw [unS_spec hr]
        rfl
      · cases h
    · cases h
theorem RE_strInv {w : World} {I : Nat → Prop} : ∀ {xs : List (List UInt8)} {us : List Value}, RE w I 1 (strL xs) us → us = xs.map fun x => Value.string ⟨x.toArray⟩
  | [], us, h => h
  | x :: xs, us, h => by
    obtain ⟨u1, u2, rfl, _, ⟨u, us', rfl, hu, hn⟩, h⟩ := h
    have hn : us' = [] := hn
    have hu : u = .string ⟨x.toArray⟩ := hu
    subst hn hu
    rw [RE_strInv h]
    rfl
theorem JoinS_ok (xs : List (List UInt8)) (sep : List UInt8) (h : Heap) (hl : (Lib.join xs sep).length ≤ 140737488355328) (hn : xs.length ≤ 140737488355328) : SCalls env 50 [.list 1 (strL xs), .str sep] h (Ret (.str (Lib.join xs sep)) h) := by
  refine SCalls.ofBelow Tryz.func50 rfl rfl fun w I G vs g r => ?_
  obtain ⟨u, us, rfl, hu, u2, us2, rfl, hu2, h3⟩ := r
  have h3 : us2 = [] := h3
  subst h3
  obtain rfl : u2 = .string ⟨sep.toArray⟩ := hu2
  refine ⟨.string ⟨(Lib.join xs sep).toArray⟩, fun _ => rfl, ?_⟩
  obtain ⟨A, c, ucs, rfl, k1, k2, k3, k4⟩ : ∃ A c us, u = .slice A (strL xs).length c ∧ (strL xs).length ≤ c ∧ c ≤ maxLen ∧ RE w I 1 (strL xs) us ∧ RowAt w I A us := hu
  have k3 := RE_strInv k3
  subst k3
  rw [strL_len] at k1 ⊢
  cases xs with
  | nil =>
    refine (Tryz.strings_Join_none A c ⟨sep.toArray⟩ w).mono ?_
    rintro e w' ⟨he, rfl⟩
    exact ⟨he, Below.refl _ _⟩
  | cons x0 xs0 =>
    obtain ⟨ad, rfl, hI, hcells⟩ := k4 (by simp)
    obtain ⟨bk, o, sp⟩ := ad
    have hsp : sp = none := by
      have := hcells 0 _ rfl
      cases sp with
      | none => rfl
      | some q =>
        exfalso
        unfold World.cell? at this
        have hs : ((⟨bk, o, some q⟩ : Addr).add 0).spot.isSome = true := by unfold Addr.add; split <;> simp_all
        split at this
        · rw [hs, if_pos rfl] at this; cases this
        · cases this
    subst hsp
    have hj := Tryz.strings_Join bk o c ((x0 :: xs0).map fun x => (⟨x.toArray⟩ : ByteArray)) ⟨sep.toArray⟩ w (fun j x hx => by
      rw [List.getElem?_map] at hx
      cases e : (x0 :: xs0)[j]? with
      | none => rw [e] at hx; cases hx
      | some y =>
        rw [e] at hx
        have hx : (⟨y.toArray⟩ : ByteArray) = x := Option.some.inj hx
        subst hx
        have h1 := hcells j (.string ⟨y.toArray⟩) (by rw [List.getElem?_map, e]; rfl)
        have h2 : (⟨bk, o, none⟩ : Addr).add j = ⟨bk, o + j, none⟩ := by
          unfold Addr.add
          by_cases e0 : j = 0
          · subst e0; simp
          · simp [e0]
        rw [h2] at h1
        exact h1) (g.imm _ hI) (by simpa using hn) (by rw [List.length_map]; exact k1) (by
        rw [List.map_map]
        have : ((x0 :: xs0).map ((fun x : ByteArray => x.data.toList) ∘ fun x => (⟨x.toArray⟩ : ByteArray))) = x0 :: xs0 := by
          rw [show ((fun x : ByteArray => x.data.toList) ∘ fun x : List UInt8 => (⟨x.toArray⟩ : ByteArray)) = id from rfl, List.map_id]
        rw [this]
        exact hl)
    rw [List.length_map] at hj
    have e1 : ((x0 :: xs0).map fun x => (⟨x.toArray⟩ : ByteArray)).map (·.data.toList) = x0 :: xs0 := by
      rw [List.map_map, show ((fun x : ByteArray => x.data.toList) ∘ fun x : List UInt8 => (⟨x.toArray⟩ : ByteArray)) = id from rfl, List.map_id]
    rw [e1] at hj
    exact hj
def sJoinS : List PV → Prop × PV
  | [.list 1 xs, .str sep] => match unS xs with
    | some l => ((Lib.join l sep).length ≤ 140737488355328 ∧ l.length ≤ 140737488355328, .str (Lib.join l sep))
    | none => PBad
  | _ => PBad
noncomputable def eJoinS : SpecE env := ⟨50, sJoinS, fun args h hc => by
  unfold sJoinS at hc ⊢
  split at hc
  · split at hc
    · rename_i l hl; rw [unS_spec hl]; exact .inl (JoinS_ok l _ h hc.1 hc.2)
    · exact hc.elim
  · exact hc.elim⟩
def sItoaS : List PV → Prop × PV
  | [.int .i64 n] => (0 ≤ n ∧ n < 100, .str (Lib.decDigits n.toNat))
  | _ => PBad
noncomputable def eItoaS : SpecE env := ⟨51, sItoaS, fun args h hc => by
  unfold sItoaS at hc ⊢
  split at hc
  · rename_i n
    refine .inl (SCalls.ofRead Tryz.func51 rfl rfl fun w I G vs g r => ?_)
    obtain ⟨u, us, rfl, hu, h3⟩ := r
    have h3 : us = [] := h3
    subst h3
    obtain rfl : u = .int .i64 n := hu
    have e : ((n.toNat : Nat) : Int) = n := by have := hc.1; omega
    have := Tryz.strconv_Itoa_small n.toNat (by have := hc.1; have := hc.2; omega) w
    rw [e] at this
    exact ⟨.string ⟨(Lib.decDigits n.toNat).toArray⟩, rfl, this⟩
  · exact hc.elim⟩
def sContain1 : List PV → Prop × PV
  | [.str s, .str [c]] => (True, .bool (decide (0 ≤ Lib.indexByte s c)))
  | _ => PBad
noncomputable def eContain1 : SpecE env := ⟨76, sContain1, fun args h hc => by
  unfold sContain1 at hc ⊢
  split at hc
  · rename_i s c
    refine .inl (SCalls.ofRead Tryz.func76 rfl rfl fun w I G vs g r => ?_)
    obtain ⟨u, us, rfl, hu, u2, us2, rfl, hu2, h3⟩ := r
    have h3 : us2 = [] := h3
    subst h3
    obtain rfl : u = .string ⟨s.toArray⟩ := hu
    obtain rfl : u2 = .string ⟨[c].toArray⟩ := hu2
    exact ⟨.bool (decide (0 ≤ Lib.indexByte s c)), rfl, Tryz.strings_Contains_one ⟨s.toArray⟩ c w⟩
  · exact hc.elim⟩
end Go.Proofs.YtpgnfbdkhakbdaaGreatDoor
