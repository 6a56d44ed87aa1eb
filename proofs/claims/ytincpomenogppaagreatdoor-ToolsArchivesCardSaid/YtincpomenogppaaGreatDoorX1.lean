/- Contracts of functions that the law reaches. -/
import Derived.Test.YtincpomenogppaaGreatDoorX0
set_option linter.unusedSimpArgs false
set_option linter.unusedVariables false
namespace Go.Proofs.YtincpomenogppaaGreatDoor
open Go Go.RowKit Go.Proofs.YtincpomenogppaaGreatDoor Go.Proofs.YtincpomenogppaaGreatDoor.Lift
set_option maxRecDepth 100000

def digs (x : Nat × List UInt8) : List UInt8 := if x.1 = 0 ∧ x.2 ≠ [] then x.2 else Lib.decDigits x.1 ++ x.2
theorem digs_step (u : Nat) (s : List UInt8) (h : 0 < u ∨ s = []) : digs (u / 10, UInt8.ofNat (48 + u % 10) :: s) = digs (u, s) := by
  have h1 : ¬ (u = 0 ∧ s ≠ []) := fun ⟨a, b⟩ => h.elim (fun h => by omega) b
  unfold digs
  rw [if_neg h1]
  by_cases hu : u < 10
  · rw [if_pos ⟨by show u / 10 = 0; omega, by simp⟩]
    show _ = Lib.decDigits u ++ s
    rw [Lib.decDigits, dif_pos hu, Nat.mod_eq_of_lt hu]
    rfl
  · rw [if_neg (fun ⟨a, _⟩ => by have a : u / 10 = 0 := a; omega)]
    show Lib.decDigits (u / 10) ++ (UInt8.ofNat (48 + u % 10) :: s) = Lib.decDigits u ++ s
    rw [Lib.decDigits.eq_def u, dif_neg hu]
    simp
theorem dec_len (u : Nat) (hu : u < 18446744073709551616) : (Lib.decDigits u).length ≤ 20 := by
  have key : ∀ (k u : Nat), u < 10 ^ k → 0 < k → (Lib.decDigits u).length ≤ k := by
    intro k
    induction k with
    | zero => intro u _ h; exact absurd h (by omega)
    | succ k ih =>
      intro u h _
      by_cases h10 : u < 10
      · rw [Lib.decDigits, dif_pos h10]; simp
      · rw [Lib.decDigits, dif_neg h10, List.length_append]
        have hk : 0 < k := by
          cases k with
          | zero => simp at h; omega
          | succ k => omega
        have := ih (u / 10) (by rw [Nat.pow_succ] at h; omega) hk
        simp only [List.length_cons, List.length_nil]
        omega
  exact key 20 u (by omega) (by omega)
theorem digs_len {x : Nat × List UInt8} (h : (digs x).length ≤ 20) : x.2.length ≤ 20 := by
  unfold digs at h
  split at h
  · exact h
  · rw [List.length_append] at h; omega
def sDigits : List PV → Prop × PV
  | [.int .i64 n] => (0 ≤ n ∧ n ≤ 9223372036854775807, .str (Lib.itoa n))
  | _ => PBad
theorem byte_digit (u : Nat) : u8of ((48 + u % 10 : Nat) : Int) = UInt8.ofNat (48 + u % 10) := by
  unfold u8of
  congr 1
  omega
set_option maxRecDepth 100000 in
theorem Digits_ok (n : Nat) (h : Heap) (h1 : n ≤ 9223372036854775807) : SCalls env 60 [.int .i64 (n : Nat)] h (Ret (.str (Lib.itoa (n : Nat))) h) := by
  refine SCalls.body Tryz.func60 rfl rfl (by simp [Tryz.ntmps60]) ?_
  refine SW.seq (SW.run [] _ ?_)
  simp only [wpC, Bool.false_eq_true, ↓reduceIte, wpS, stops, wantedA, okDst, Tryz.ntmps60, Nat.reduceLT, decide_true, step1, isOwnCall, hxOp, px, AS.eval, ofConst, ofVal, thenQ, AS.put, enumA, dropKey, reduceCtorEq, true_and]
  refine SW.seq (SW.run [] _ ?_)
  simp only [wpC, Bool.false_eq_true, ↓reduceIte, wpS, stops, wantedA, okDst, Nat.reduceLT, decide_true, step1, isOwnCall, hxOp, px, AS.eval, ofConst, ofVal, thenQ, AS.put, dropKey, Nat.reduceEqDiff, reduceCtorEq, true_and]
  have hd := dec_len n (by omega)
  refine SW.seq (SW.block ?_)
  refine SW.loopH 21 (fun b : Nat × List UInt8 => [(0, .int .i64 (b.1 : Int)), (3, .str b.2)]) (fun _ => h) (fun b => digs b = Lib.decDigits n ∧ b.1 ≤ 9223372036854775807) (fun b => if b.2 = [] then b.1 + 1 else b.1) (n, []) ⟨by unfold digs; rw [if_neg (by simp)]; simp, h1⟩ ?_ ?_
  · exact ⟨rfl, HTo.refl _ _, ⟨rfl, rfl, trivial⟩⟩
  rintro ⟨u, s⟩ ⟨hinv, hub⟩
  have hub : u ≤ 9223372036854775807 := hub
  have hs20 := digs_len (x := (u, s)) (by rw [hinv]; exact hd)
  have hs20 : s.length ≤ 20 := hs20
  by_cases hgo : 0 < u ∨ s = []
  · have e1 : Int.tmod (u : Int) 10 = ((u % 10 : Nat) : Int) := by
      have := Int.ofNat_tmod u 10
      exact this.symm
    have e2 : IntKind.i64.wrap (48 + ((u % 10 : Nat) : Int)) = ((48 + u % 10 : Nat) : Int) := by
      rw [w64 (by omega) (by omega)]; rfl
    have e3 : IntKind.i64.wrap (Int.tdiv (u : Int) 10) = ((u / 10 : Nat) : Int) := by
      have := (Int.ofNat_tdiv u 10).symm
      rw [show Int.tdiv (u : Int) 10 = ((u / 10 : Nat) : Int) from this, w64 (by omega) (by omega)]
    have e4 := byte_digit u
    have hl : 1 + s.length ≤ 9223372036854775807 := by omega
    by_cases hu0 : 0 < u
    · have hu : (0 : Int) < (u : Int) := by omega
      refine SW.run [] _ ?_
      simp only [wpC, mayStop, stops, isFlt, Specs.has, Specs.hasO, Bool.or_false, Specs.hasH, Bool.not_false, List.any_cons, List.any_nil, Bool.false_eq_true, ↓reduceIte, wpS, wantedA, okDst, Nat.reduceLT, decide_true, step1, isOwnCall, hxOp, px, AS.eval, AS.get, Lift.look, Option.getD_some, AS.put, dropKey, reduceCtorEq, Nat.reduceEqDiff, isNilC, pbinP, ofConst, ofVal, pbinI, hu, List.getElem?_toArray, List.getElem?_cons_succ, List.getElem?_cons_zero, Option.bind_some, beq_tf, Option.some.injEq, ppick_true, thenQ, isB, tmpOf, asB, ty3, ty9, Nat.succ_ne_zero, ne_eq, Int.reduceEq, not_false_eq_true, and_self, e1, e2, ty5, pconvH, pconv, wrap_byte, e4, pbuildSlice, ty65, List.replicate, List.map_cons, List.map_nil, List.flatten_cons, List.flatten_nil, List.append_nil, pfill, PV.cells, List.length_cons, List.length_nil, Nat.zero_add, Nat.reduceMul, Nat.le_refl, splice, List.take_zero, List.nil_append, List.drop_succ_cons, List.drop_nil, Nat.reduceLeDiff, okZero, List.all_cons, Value.oneCell', List.all_nil, Bool.and_true, known, chunk, List.take_succ_cons, List.take_nil, unB, Int.natCast_nonneg, byte_lt_T, Int.toNat_natCast, UInt8.ofNat_toNat, pbinS, hl, List.cons_append, e3, inQ, HTo_self, hasAll, and_true, true_and]
      refine ⟨(u / 10, UInt8.ofNat (48 + u % 10) :: s), ⟨(digs_step u s hgo).trans hinv, by show u / 10 ≤ _; omega⟩, ?_, rfl, rfl⟩
      show (if (UInt8.ofNat (48 + u % 10) :: s) = [] then u / 10 + 1 else u / 10) < _
      rw [if_neg (by simp)]
      first
        | omega
        | (split <;> omega)
    · have hs : s = [] := hgo.resolve_left hu0
      subst hs
      have hu : ¬ (0 : Int) < (u : Int) := by omega
      refine SW.run [] _ ?_
      simp only [wpC, mayStop, stops, isFlt, Specs.has, Specs.hasO, Bool.or_false, Specs.hasH, Bool.not_false, List.any_cons, List.any_nil, Bool.false_eq_true, ↓reduceIte, wpS, wantedA, okDst, Nat.reduceLT, decide_true, step1, isOwnCall, hxOp, px, AS.eval, AS.get, Lift.look, Option.getD_some, AS.put, dropKey, reduceCtorEq, Nat.reduceEqDiff, isNilC, pbinP, ofConst, ofVal, pbinI, hu, decide_false, List.getElem?_toArray, List.getElem?_cons_succ, List.getElem?_cons_zero, Option.bind_some, beq_self_eq_true, pbinS, ppick_bool, thenQ, isB, tmpOf, asB, ty3, ty9, Nat.succ_ne_zero, ne_eq, Int.reduceEq, not_false_eq_true, and_self, e1, e2, ty5, pconvH, pconv, wrap_byte, e4, pbuildSlice, ty65, List.replicate, List.map_cons, List.map_nil, List.flatten_cons, List.flatten_nil, List.append_nil, pfill, PV.cells, List.length_cons, List.length_nil, Nat.zero_add, Nat.reduceMul, Nat.le_refl, splice, List.take_zero, List.nil_append, List.drop_succ_cons, List.drop_nil, Nat.reduceLeDiff, okZero, List.all_cons, Value.oneCell', List.all_nil, Bool.and_true, known, chunk, List.take_succ_cons, List.take_nil, unB, Int.natCast_nonneg, byte_lt_T, Int.toNat_natCast, UInt8.ofNat_toNat, Nat.add_zero, e3, inQ, HTo_self, hasAll, and_true, true_and]
      refine ⟨(u / 10, UInt8.ofNat (48 + u % 10) :: []), ⟨(digs_step u [] hgo).trans hinv, by show u / 10 ≤ _; omega⟩, ?_, rfl, rfl⟩
      show (if (UInt8.ofNat (48 + u % 10) :: []) = [] then u / 10 + 1 else u / 10) < _
      rw [if_neg (by simp)]
      first
        | omega
        | (split <;> omega)
  · have hu0 : u = 0 := by omega
    have hs0 : s ≠ [] := fun e => hgo (.inr e)
    subst hu0
    have hs1 : (s == ([] : List UInt8)) = false := by simpa using hs0
    have hu : ¬ (0 : Int) < ((0 : Nat) : Int) := by omega
    have hres : Lib.itoa (n : Nat) = s := by
      unfold Lib.itoa
      rw [if_neg (by omega), Int.toNat_natCast, ← hinv]
      unfold digs
      rw [if_pos ⟨rfl, hs0⟩]
    rw [hres]
    refine SW.run [] _ ?_
    simp only [wpC, mayStop, stops, isFlt, Specs.has, Specs.hasO, Bool.or_false, Specs.hasH, Bool.not_false, List.any_cons, List.any_nil, Bool.false_eq_true, ↓reduceIte, wpS, wantedA, okDst, Nat.reduceLT, decide_true, step1, isOwnCall, hxOp, px, AS.eval, AS.get, Lift.look, Int.cast_ofNat_Int, Option.getD_some, AS.put, dropKey, reduceCtorEq, Nat.reduceEqDiff, isNilC, pbinP, ofConst, ofVal, pbinI, Int.lt_irrefl, decide_false, List.getElem?_toArray, List.getElem?_cons_succ, List.getElem?_cons_zero, Option.bind_some, beq_self_eq_true, pbinS, hs1, ppick_bool, thenQ, isB, tmpOf, asB, inQ, true_and]
    refine SW.run [] _ ?_
    simp only [wpC, mayStop, stops, isFlt, Specs.has, Specs.hasO, Bool.or_false, Specs.hasH, Bool.not_false, List.any_cons, List.any_nil, Bool.false_eq_true, ↓reduceIte, wpS, wantedA, okDst, Nat.reduceLT, decide_true, step1, isOwnCall, hxOp, px, AS.eval, AS.get, Lift.look, Nat.reduceEqDiff, reduceCtorEq, Option.getD_some, AS.put, dropKey, thenQ, RPost, sres, Tryz.results60, sresL, sres1, Option.some.injEq, Ret_fin, HTo_self, and_true, exists_eq_left', and_self]
noncomputable def eDigits : SpecE env := ⟨60, sDigits, fun args h hc => by
  unfold sDigits at hc ⊢
  split at hc
  · rename_i n
    obtain ⟨k, rfl⟩ : ∃ k : Nat, n = (k : Int) := ⟨n.toNat, by have := hc.1; omega⟩
    exact .inl (Digits_ok k h (by have := hc.2; omega))
  · exact hc.elim⟩
end Go.Proofs.YtincpomenogppaaGreatDoor

namespace Go.Proofs.YtincpomenogppaaGreatDoor
open Go Go.RowKit Go.Proofs.YtincpomenogppaaGreatDoor Go.Proofs.YtincpomenogppaaGreatDoor.Lift
set_option maxRecDepth 100000

end Go.Proofs.YtincpomenogppaaGreatDoor
