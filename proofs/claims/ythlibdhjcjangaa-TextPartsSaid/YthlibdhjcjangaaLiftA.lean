/- The lifted values: what an abstract value says of a value in a world. -/
import Derived.Tactics
import Derived.Below
import Derived.Laws.Sem
set_option linter.unusedSimpArgs false
set_option linter.unusedVariables false
namespace Go.Proofs.Ythlibdhjcjangaa.Lift
open Go

/-- An abstract value. 'list': a slice that nobody writes, each element by its cells; 'elem': the address of cells that nobody writes; 'val': a value as it is. -/
inductive PV where
  | int (k : IntKind) (n : Int)
  | bool (b : Bool)
  | str (l : List UInt8)
  | val (v : Value)
  | list (sz : Nat) (xs : List (List PV))
  | elem (cs : List PV)
  | iface (t : TypeId) (a : Bool) (cs : List PV)
  | agg (cs : List PV)
  | tuple (vs : List PV)
  | any

/-- Cells that lie from an address on, in a block that nobody writes. -/
def RowAt (w : World) (I : Nat → Prop) (A : Option Addr) (us : List Value) : Prop :=
  us ≠ [] → ∃ ad, A = some ad ∧ I ad.block ∧ ∀ (j : Nat) u, us[j]? = some u → w.cell? (ad.add j) = some u

/-- A value out of its cells: of a struct or an array, or of one cell. -/
def ofCells (a : Bool) (us : List Value) : Value := if a then .agg us.toArray else us.getD 0 (.tuple #[])

mutual
/-- One cell. -/
def R1 (w : World) (I : Nat → Prop) : PV → Value → Prop
  | .int k n, v => v = .int k n
  | .bool b, v => v = .bool b
  | .str l, v => v = .string ⟨l.toArray⟩
  | .val u, v => v = u ∧ u.oneCell' = true
  | .list sz xs, v => ∃ A c us, v = .slice A xs.length c ∧ xs.length ≤ c ∧ c ≤ maxLen ∧ RE w I sz xs us ∧ RowAt w I A us
  | .elem cs, v => ∃ ad us, v = .pointer (some ad) ∧ RL w I cs us ∧ RowAt w I (some ad) us
  | .iface t a cs, v => ∃ us, v = .iface t (ofCells a us) ∧ RL w I cs us
  | .agg _, _ => False
  | .tuple _, _ => False
  | .any, v => v.oneCell' = true
/-- Cells. -/
def RL (w : World) (I : Nat → Prop) : List PV → List Value → Prop
  | [], us => us = []
  | x :: xs, us => ∃ u us', us = u :: us' ∧ R1 w I x u ∧ RL w I xs us'
/-- Elements of a size. -/
def RE (w : World) (I : Nat → Prop) (sz : Nat) : List (List PV) → List Value → Prop
  | [], us => us = []
  | x :: xs, us => ∃ u1 u2, us = u1 ++ u2 ∧ u1.length = sz ∧ RL w I x u1 ∧ RE w I sz xs u2
end

/-- What was readable still is, and stands. -/
def Keeps (w : World) (I : Nat → Prop) (w' : World) (I' : Nat → Prop) : Prop := ∀ k, I k → I' k ∧ w'.heap[k]? = w.heap[k]?

theorem add_block (ad : Addr) (j : Nat) : (ad.add j).block = ad.block := by unfold Addr.add; split <;> rfl

theorem RowAt.keeps {w w' : World} {I I' : Nat → Prop} (hk : Keeps w I w' I') {A : Option Addr} {us : List Value} (h : RowAt w I A us) : RowAt w' I' A us := by
  intro hne
  obtain ⟨ad, e, hI, hc⟩ := h hne
  refine ⟨ad, e, (hk _ hI).1, fun j u hj => ?_⟩
  rw [World.cell?_of_block (w := w) (by rw [add_block]; exact (hk _ hI).2)]
  exact hc j u hj

mutual
theorem R1.keeps {w w' : World} {I I' : Nat → Prop} (hk : Keeps w I w' I') : ∀ (x : PV) (v : Value), R1 w I x v → R1 w' I' x v
  | .int _ _, _, h => by simpa only [R1] using h
  | .bool _, _, h => by simpa only [R1] using h
  | .str _, _, h => by simpa only [R1] using h
  | .val _, _, h => by simpa only [R1] using h
  | .list sz xs, v, h => by
    simp only [R1] at h ⊢
    obtain ⟨A, c, us, e, h1, h2, h3, h4⟩ := h
    exact ⟨A, c, us, e, h1, h2, RE.keeps hk sz xs us h3, h4.keeps hk⟩
  | .elem cs, v, h => by
    simp only [R1] at h ⊢
    obtain ⟨ad, us, e, h3, h4⟩ := h
    exact ⟨ad, us, e, RL.keeps hk cs us h3, h4.keeps hk⟩
  | .iface t a cs, v, h => by
    simp only [R1] at h ⊢
    obtain ⟨us, e, h3⟩ := h
    exact ⟨us, e, RL.keeps hk cs us h3⟩
  | .agg _, _, h => by simp only [R1] at h
  | .tuple _, _, h => by simp only [R1] at h
  | .any, _, h => by simpa only [R1] using h
theorem RL.keeps {w w' : World} {I I' : Nat → Prop} (hk : Keeps w I w' I') : ∀ (xs : List PV) (us : List Value), RL w I xs us → RL w' I' xs us
  | [], _, h => by simpa only [RL] using h
  | x :: xs, us, h => by
    simp only [RL] at h ⊢
    obtain ⟨u, us', e, h1, h2⟩ := h
    exact ⟨u, us', e, R1.keeps hk x u h1, RL.keeps hk xs us' h2⟩
theorem RE.keeps {w w' : World} {I I' : Nat → Prop} (hk : Keeps w I w' I') (sz : Nat) : ∀ (xs : List (List PV)) (us : List Value), RE w I sz xs us → RE w' I' sz xs us
  | [], _, h => by simpa only [RE] using h
  | x :: xs, us, h => by
    simp only [RE] at h ⊢
    obtain ⟨u1, u2, e, h1, h2, h3⟩ := h
    exact ⟨u1, u2, e, h1, RL.keeps hk x u1 h2, RE.keeps hk sz xs u2 h3⟩
end

/-- What a slot holds (no tuple). -/
def R0 (w : World) (I : Nat → Prop) : PV → Value → Prop
  | .any, _ => True
  | .tuple _, _ => False
  | .agg cs, v => ∃ us, v = .agg us.toArray ∧ RL w I cs us
  | x, v => R1 w I x v
def R0s (w : World) (I : Nat → Prop) : List PV → List Value → Prop
  | [], us => us = []
  | x :: xs, us => ∃ u us', us = u :: us' ∧ R0 w I x u ∧ R0s w I xs us'
/-- What a slot holds. -/
def R (w : World) (I : Nat → Prop) : PV → Value → Prop
  | .tuple xs, v => ∃ us, v = .tuple us.toArray ∧ R0s w I xs us
  | x, v => R0 w I x v

theorem R0.keeps {w w' : World} {I I' : Nat → Prop} (hk : Keeps w I w' I') (x : PV) (v : Value) (h : R0 w I x v) : R0 w' I' x v := by
  cases x with
  | any => trivial
  | tuple _ => exact h
  | agg cs => obtain ⟨us, e, h⟩ := h; exact ⟨us, e, RL.keeps hk _ _ h⟩
  | _ => exact R1.keeps hk _ _ h
theorem R0s.keeps {w w' : World} {I I' : Nat → Prop} (hk : Keeps w I w' I') : ∀ (xs : List PV) (us : List Value), R0s w I xs us → R0s w' I' xs us
  | [], _, h => h
  | x :: xs, us, ⟨u, us', e, h1, h2⟩ => ⟨u, us', e, R0.keeps hk x u h1, R0s.keeps hk xs us' h2⟩
theorem R.keeps {w w' : World} {I I' : Nat → Prop} (hk : Keeps w I w' I') (x : PV) (v : Value) (h : R w I x v) : R w' I' x v := by
  cases x with
  | tuple xs => obtain ⟨us, e, h⟩ := h; exact ⟨us, e, R0s.keeps hk _ _ h⟩
  | _ => simp only [R] at h ⊢; exact R0.keeps hk _ _ h
end Go.Proofs.Ythlibdhjcjangaa.Lift
