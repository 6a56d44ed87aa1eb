/- Contracts of functions that the law reaches. -/
import Derived.Test.YtincpomenogppaaGreatDoorW3
set_option linter.unusedSimpArgs false
set_option linter.unusedVariables false
namespace Go.Proofs.YtincpomenogppaaGreatDoor
open Go Go.RowKit Go.Proofs.YtincpomenogppaaGreatDoor Go.Proofs.YtincpomenogppaaGreatDoor.Lift
set_option maxRecDepth 100000

def endB (l : List UInt8) : Bool := l.getLast? == some 10
theorem suffix_10 (l : List UInt8) : suffixS l [10] = endB l := by
  unfold suffixS endB
  rcases List.eq_nil_or_concat l with rfl | ⟨p, b, rfl⟩
  · rfl
  · simp
theorem cut_10 (p : List UInt8) (b : UInt8) : cutS (p ++ [b]) [10] = if b = 10 then p else p ++ [b] := by
  unfold cutS
  rw [suffix_10]
  unfold endB
  simp
def sLB (g : List UInt8 → Bool) : List PV → Prop × PV
  | [.str l] => (l.length ≤ 1000000000, .bool (g l))
  | _ => PBad
def lineB (l : List UInt8) : Bool := !l.isEmpty && !l.dropLast.contains 10
theorem WholeB_ok (l : List UInt8) (h : Heap) (hl : l.length ≤ 1000000000) : SCalls env 56 [.str l] h (Ret (.bool (lineB l)) h) := by
  refine SCalls.body Tryz.func56 rfl rfl (by simp [Tryz.ntmps56]) ?_
  cases l with
  | nil =>
    refine SW.run [eContains1] _ ?_
    simp only [wpC, mayStop, stops, isFlt, Specs.has, eContains1, Specs.hasO, Bool.or_false, Specs.hasH, List.any_cons, List.any_nil, Bool.false_eq_true, ↓reduceIte, wpS, wantedA, okDst, Tryz.ntmps56, Nat.reduceLT, decide_true, step1, isOwnCall, hxOp, px, AS.eval, ofConst, ofVal, thenQ, ty3, Bool.not_true, AS.put, enumA, dropKey, reduceCtorEq, AS.get, Lift.look, Nat.succ_ne_zero, Option.getD_some, Nat.reduceEqDiff, isNilC, pbinP, pbinS, beq_self_eq_true, List.getElem?_toArray, List.getElem?_cons_succ, List.getElem?_cons_zero, Option.bind_some, beq_ft, Option.some.injEq, ppick_false, RPost, sres, Tryz.results56, sresL, sres1, lineB, Ret_fin, HTo_self, and_true, exists_eq_left', true_and]
    rfl
  | cons b l =>
    obtain ⟨L, hL⟩ : ∃ L, L = b :: l := ⟨_, rfl⟩
    have e1 : (L != ([] : List UInt8)) = true := by rw [hL]; simp
    have hll : L.length = l.length + 1 := by rw [hL]; rfl
    rw [← hL] at hl ⊢
    have hw : IntKind.i64.wrap (((L.length : Nat) : Int) - 1) = ((l.length : Nat) : Int) := by rw [w64 (by omega) (by omega)]; omega
    have hle : ((l.length : Nat) : Int) ≤ (L.length : Int) := by omega
    have hdl : L.take l.length = L.dropLast := by rw [List.dropLast_eq_take, hll]; rfl
    refine SW.run [eContains1] _ ?_
    simp only [wpC, mayStop, stops, isFlt, Specs.has, eContains1, Specs.hasO, Bool.or_false, Specs.hasH, List.any_cons, List.any_nil, Bool.false_eq_true, ↓reduceIte, wpS, wantedA, okDst, Tryz.ntmps56, Nat.reduceLT, decide_true, step1, isOwnCall, hxOp, px, AS.eval, ofConst, ofVal, thenQ, ty3, Bool.not_true, AS.put, enumA, dropKey, reduceCtorEq, AS.get, Lift.look, Nat.succ_ne_zero, Option.getD_some, Nat.reduceEqDiff, isNilC, pbinP, pbinS, List.getElem?_toArray, List.getElem?_cons_succ, List.getElem?_cons_zero, Option.bind_some, Option.some.injEq, pcall, ty9, plen, okLen, and_self, pbinI, hw, pslice, pB, Int.cast_ofNat_Int, Int.reduceLE, Int.natCast_nonneg, hle, Int.reduceToNat, Int.toNat_natCast, hdl, List.drop_zero, okArg, List.all_cons, List.all_nil, Bool.and_true, Specs.at, List.map_cons, List.map_nil, sContains1, pun, ppick_bool, RPost, sres, Tryz.results56, sresL, sres1, lineB, Ret_fin, HTo_self, and_true, exists_eq_left', true_and, PBad, false_and, and_false, pflt]
    rw [hL]
    rfl
noncomputable def eWholeB : SpecE env := ⟨56, sLB lineB, fun args h hc => by
  unfold sLB at hc ⊢
  split at hc
  · rename_i l; exact .inl (WholeB_ok l h hc)
  · exact hc.elim⟩
end Go.Proofs.YtincpomenogppaaGreatDoor

namespace Go.Proofs.YtincpomenogppaaGreatDoor
open Go Go.RowKit Go.Proofs.YtincpomenogppaaGreatDoor Go.Proofs.YtincpomenogppaaGreatDoor.Lift
set_option maxRecDepth 100000

def lcs : List (List UInt8) → List (List UInt8) → Nat
  | [], _ => 0
  | _ :: _, [] => 0
  | x :: xs, y :: ys => if x = y then lcs xs ys + 1 else max (lcs xs (y :: ys)) (lcs (x :: xs) ys)
theorem lcs_le : ∀ x y, lcs x y ≤ x.length ∧ lcs x y ≤ y.length
  | [], y => by unfold lcs; simp
  | _ :: _, [] => by unfold lcs; simp
  | x :: xs, y :: ys => by
    have h1 := lcs_le xs ys
    have h2 := lcs_le xs (y :: ys)
    have h3 := lcs_le (x :: xs) ys
    unfold lcs
    split
    · simp; omega
    · simp at h2 h3 ⊢; omega
def tabT (x y : List (List UInt8)) (i k : Nat) : Nat := lcs (x.drop i) (y.drop k)
theorem tabT_le (x y : List (List UInt8)) (i k : Nat) : tabT x y i k ≤ x.length ∧ tabT x y i k ≤ y.length := by
  have := lcs_le (x.drop i) (y.drop k)
  rw [List.length_drop, List.length_drop] at this
  unfold tabT
  omega
theorem tabT_end (x y : List (List UInt8)) {i k : Nat} (h : x.length ≤ i ∨ y.length ≤ k) : tabT x y i k = 0 := by
  have := lcs_le (x.drop i) (y.drop k)
  rw [List.length_drop, List.length_drop] at this
  unfold tabT
  omega
theorem tabT_step {x y : List (List UInt8)} {i k : Nat} (hi : i < x.length) (hk : k < y.length) : tabT x y i k = if x[i] = y[k] then tabT x y (i + 1) (k + 1) + 1 else max (tabT x y (i + 1) k) (tabT x y i (k + 1)) := by
  unfold tabT
  rw [List.drop_eq_getElem_cons hi, List.drop_eq_getElem_cons hk, lcs]
end Go.Proofs.YtincpomenogppaaGreatDoor
