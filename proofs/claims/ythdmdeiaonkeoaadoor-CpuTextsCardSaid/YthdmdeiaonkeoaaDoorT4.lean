/- Contracts of functions that the law reaches. -/
import Derived.Test.YthdmdeiaonkeoaaDoorT3
set_option linter.unusedSimpArgs false
set_option linter.unusedVariables false
namespace Go.Proofs.YthdmdeiaonkeoaaDoor
open Go Go.RowKit Go.Proofs.YthdmdeiaonkeoaaDoor Go.Proofs.YthdmdeiaonkeoaaDoor.Lift

/-! acheronref25.Entry -/
def namesC : List UInt8 := [104, 97, 108, 116, 58, 105, 32, 115, 101, 116, 58, 97, 105, 32, 104, 105, 103, 104, 58, 97, 98, 105, 32, 99, 111, 112, 121, 58, 97, 98, 32, 108, 111, 97, 100, 58, 97, 98, 105, 32, 115, 116, 111, 114, 101, 58, 97, 98, 105, 32, 108, 111, 97, 100, 117, 58, 97, 98, 105, 32, 115, 116, 111, 114, 101, 117, 58, 97, 98, 105, 32, 97, 100, 100, 58, 97, 98, 99, 32, 115, 117, 98, 58, 97, 98, 99, 32, 109, 117, 108, 58, 97, 98, 99, 32, 97, 110, 100, 58, 97, 98, 99, 32, 111, 114, 58, 97, 98, 99, 32, 120, 111, 114, 58, 97, 98, 99, 32, 115, 104, 108, 58, 97, 98, 99, 32, 115, 104, 114, 58, 97, 98, 99, 32, 110, 101, 103, 58, 97, 98, 32, 98, 121, 116, 101, 58, 97, 98, 32, 119, 111, 114, 100, 58, 97, 98, 32, 102, 97, 100, 100, 58, 97, 98, 99, 32, 102, 115, 117, 98, 58, 97, 98, 99, 32, 102, 109, 117, 108, 58, 97, 98, 99, 32, 102, 100, 105, 118, 58, 97, 98, 99, 32, 102, 110, 101, 103, 58, 97, 98, 32, 106, 101, 113, 58, 98, 99, 105, 32, 106, 110, 101, 58, 98, 99, 105, 32, 106, 108, 116, 58, 98, 99, 105, 32, 102, 101, 113, 58, 98, 99, 105, 32, 102, 110, 101, 58, 98, 99, 105, 32, 102, 108, 116, 58, 98, 99, 105, 32, 102, 108, 101, 58, 98, 99, 105, 32, 106, 117, 109, 112, 58, 105, 32]
def chr (p : Nat) : Nat := (namesC.getD p 0).toNat
/-- Behind so many spaces: from a place on, with so many passed. -/
def skip1 (o : Nat) : Nat → Nat → Nat → Nat
  | 0, p, _ => p
  | f + 1, p, n => if n < o then skip1 o f (p + 1) (if chr p = 32 then n + 1 else n) else p
def ok1 (o : Nat) : Nat → Nat → Nat → Bool
  | 0, _, _ => false
  | f + 1, p, n => if n < o then decide (p < 264) && ok1 o f (p + 1) (if chr p = 32 then n + 1 else n) else true
/-- The next place of a byte. -/
def skip2 (c : Nat) : Nat → Nat → Nat
  | 0, p => p
  | f + 1, p => if chr p = c then p else skip2 c f (p + 1)
def ok2 (c : Nat) : Nat → Nat → Bool
  | 0, _ => false
  | f + 1, p => decide (p < 264) && (if chr p = c then true else ok2 c f (p + 1))
def e1 (o : Nat) : Nat := skip1 o 400 0 0
def e2 (o : Nat) : Nat := skip2 58 400 (e1 o)
def e3 (o : Nat) : Nat := skip2 32 400 (e2 o)
theorem entry_ok : (List.range 32).all (fun o => ok1 o 400 0 0 && ok2 58 400 (e1 o) && ok2 32 400 (e2 o) && decide (e1 o ≤ e2 o) && decide (e2 o + 1 ≤ e3 o) && decide (e3 o ≤ 264)) = true := by kernel_rfl
theorem entry_is : (List.range 32).all (fun o => decide ((namesC.take (e2 o)).drop (e1 o) = namesT.getD o []) && decide ((namesC.take (e3 o)).drop (e2 o + 1) = usesT.getD o [])) = true := by kernel_rfl
def nameS (o : Int) : List UInt8 := if knownS o = true then namesT.getD o.toNat [] else []
theorem namesC_len : namesC.length = 264 := by kernel_rfl
set_option maxRecDepth 100000 in
theorem Entry_ok (o : Int) (h : Heap) : SCalls env 26 [.int .i64 o] h (Ret (.tuple [.str (nameS o), .str (usesS o)]) h) := by
  refine SCalls.body Tryd.func26 rfl rfl (by simp [Tryd.ntmps26]) ?_
  refine SW.seq (SW.run [] _ ?_)
  simp only [wpC, Bool.false_eq_true, ↓reduceIte, wpS, stops, wantedA, okDst, Tryd.ntmps26, Nat.reduceLT, decide_true, step1, isOwnCall, hxOp, px, AS.eval, ofConst, ofVal, AS.put, enumA, dropKey, reduceCtorEq, thenQ, Nat.reduceEqDiff, true_and]
  by_cases h1 : o < 0
  · refine SW.run [] _ ?_
    simp only [wpC, mayStop, stops, isFlt, Specs.has, Specs.hasO, Bool.or_false, Bool.not_false, List.any_cons, List.any_nil, Bool.false_eq_true, ↓reduceIte, wpS, wantedA, okDst, Nat.reduceLT, decide_true, step1, isOwnCall, hxOp, px, AS.eval, AS.get, Lift.look, Nat.succ_ne_zero, Option.getD_some, AS.put, dropKey, Nat.reduceEqDiff, reduceCtorEq, pbinP, ofConst, ofVal, pbinI, h1, List.getElem?_toArray, List.getElem?_cons_succ, List.getElem?_cons_zero, Option.bind_some, beq_tf, Option.some.injEq, ppick_true, thenQ, isB, tmpOf, asB, RPost, sres, Tryd.results26, sresL, sres1, nameS, knownS, decide_eq_true_eq, usesS, Ret_fin, HTo_self, and_true, exists_eq_left', true_and]
    have : ¬ (0 ≤ o ∧ o < 32) := by omega
    simp only [this, decide_false, Bool.false_eq_true, if_false]
  by_cases h2 : 32 ≤ o
  · refine SW.run [] _ ?_
    simp only [wpC, mayStop, stops, isFlt, Specs.has, Specs.hasO, Bool.or_false, Bool.not_false, List.any_cons, List.any_nil, Bool.false_eq_true, ↓reduceIte, wpS, wantedA, okDst, Nat.reduceLT, decide_true, step1, isOwnCall, hxOp, px, AS.eval, AS.get, Lift.look, Nat.succ_ne_zero, Option.getD_some, AS.put, dropKey, Nat.reduceEqDiff, reduceCtorEq, pbinP, ofConst, ofVal, pbinI, h1, decide_false, List.getElem?_toArray, List.getElem?_cons_succ, List.getElem?_cons_zero, Option.bind_some, beq_self_eq_true, h2, ppick_bool, thenQ, isB, tmpOf, asB, RPost, sres, Tryd.results26, sresL, sres1, Option.some.injEq, nameS, knownS, decide_eq_true_eq, usesS, Ret_fin, HTo_self, and_true, exists_eq_left', true_and]
    have : ¬ (0 ≤ o ∧ o < 32) := by omega
    simp only [this, decide_false, Bool.false_eq_true, if_false]
  refine SW.seq (SW.run [] _ ?_)
  simp only [wpC, mayStop, stops, isFlt, Specs.has, Specs.hasO, Bool.or_false, Bool.not_false, List.any_cons, List.any_nil, Bool.false_eq_true, ↓reduceIte, wpS, wantedA, okDst, Nat.reduceLT, decide_true, step1, isOwnCall, hxOp, px, AS.eval, AS.get, Lift.look, Nat.succ_ne_zero, Option.getD_some, AS.put, dropKey, Nat.reduceEqDiff, reduceCtorEq, pbinP, ofConst, ofVal, pbinI, h1, decide_false, List.getElem?_toArray, List.getElem?_cons_succ, List.getElem?_cons_zero, Option.bind_some, beq_self_eq_true, h2, ppick_bool, thenQ, isB, tmpOf, asB, true_and]
  generalize hN : ByteArray.mk _ = nv
  have hnv : nv.data.toList = namesC := by rw [← hN]; rfl
  clear hN
  obtain ⟨m, rfl⟩ : ∃ m : Nat, o = (m : Int) := ⟨o.toNat, by omega⟩
  have hk : knownS (m : Int) = true := by unfold knownS; rw [decide_eq_true_eq]; omega
  have hm : m ∈ List.range 32 := List.mem_range.2 (by omega)
  have c1 := List.all_eq_true.1 entry_ok m hm
  have c2 := List.all_eq_true.1 entry_is m hm
  simp only [Bool.and_eq_true, decide_eq_true_eq] at c1 c2
  obtain ⟨⟨⟨⟨⟨k1, k2⟩, k3⟩, k4⟩, k5⟩, k6⟩ := c1
  refine SW.seq (SW.run [] _ ?_)
  simp only [wpC, Bool.false_eq_true, ↓reduceIte, wpS, stops, wantedA, okDst, Nat.reduceLT, decide_true, step1, isOwnCall, hxOp, px, AS.eval, ofConst, ofVal, thenQ, AS.put, dropKey, Nat.reduceEqDiff, reduceCtorEq, true_and]
  refine SW.seq (SW.seq (SW.run [] _ ?_))
  simp only [wpC, Bool.false_eq_true, ↓reduceIte, wpS, stops, wantedA, okDst, Nat.reduceLT, decide_true, step1, isOwnCall, hxOp, px, AS.eval, ofConst, ofVal, thenQ, AS.put, dropKey, Nat.reduceEqDiff, reduceCtorEq, true_and]
  refine SW.block (SW.loopK 43 (fun b : Nat × Nat × Nat => [(0, .int .i64 (m : Nat)), (4, .int .i64 (b.2.1 : Nat)), (5, .int .i64 (b.2.2 : Nat))]) (fun _ => h) (fun b => ok1 m b.1 b.2.1 b.2.2 = true ∧ skip1 m b.1 b.2.1 b.2.2 = e1 m ∧ b.1 + b.2.1 = 400 ∧ b.2.2 ≤ b.2.1) (fun b => b.1) (400, 0, 0) ⟨k1, rfl, rfl, Nat.le_refl _⟩ ?_ ?_)
  · simp only [Has, hasAll, AS.get, Lift.look, Nat.succ_ne_zero, ↓reduceIte, Option.getD_some, Nat.reduceEqDiff, Int.cast_ofNat_Int, and_self]
  · rintro ⟨f, p, n⟩ ⟨q1, q2, q3, q4⟩
    dsimp only at q1 q2 q3 q4
    cases f with
    | zero => cases q1
    | succ f =>
      unfold ok1 at q1
      unfold skip1 at q2
      refine SW.run [] _ ?_
      by_cases hlt : n < m
      · rw [if_pos hlt] at q1 q2
        rw [Bool.and_eq_true, decide_eq_true_eq] at q1
        have hp : p < namesC.length := by rw [namesC_len]; exact q1.1
        by_cases hc : chr p = 32
        · have hc' : ((((namesC.getD p 0).toNat : Nat) : Int) == 32) = true := by rw [beq_iff_eq]; unfold chr at hc; omega
          rw [if_pos hc] at q1 q2
          simp only [wpC, mayStop, stops, isFlt, Specs.has, Specs.hasO, Bool.or_false, Bool.not_false, List.any_cons, List.any_nil, Bool.false_eq_true, ↓reduceIte, wpS, wantedA, okDst, Nat.reduceLT, decide_true, step1, isOwnCall, hxOp, px, AS.eval, AS.get, Lift.look, reduceCtorEq, Nat.reduceEqDiff, Option.getD_some, AS.put, dropKey, Nat.succ_ne_zero, pbinP, pbinI, Int.ofNat_lt, hlt, thenQ, isB, tmpOf, asB, ty3, pindex, ty9, ofConst, ofVal, hnv, Int.natCast_nonneg, Int.toNat_natCast, hp, and_self, hc', inQ, Has, hasAll, and_true, true_and]
          have hw1 : IntKind.i64.wrap ((p : Int) + 1) = ((p + 1 : Nat) : Int) := by rw [w64 (by omega) (by omega)]; rfl
          have hw2 : IntKind.i64.wrap ((n : Int) + 1) = ((n + 1 : Nat) : Int) := by rw [w64 (by omega) (by omega)]; rfl
          exact ⟨(f, p + 1, n + 1), ⟨q1.2, q2, by dsimp only; omega, by dsimp only; omega⟩, by dsimp only; omega, by rw [hw1], by rw [hw2]⟩
        · have hc' : ((((namesC.getD p 0).toNat : Nat) : Int) == 32) = false := by rw [beq_eq_false_iff_ne]; unfold chr at hc; omega
          rw [if_neg hc] at q1 q2
          simp only [wpC, mayStop, stops, isFlt, Specs.has, Specs.hasO, Bool.or_false, Bool.not_false, List.any_cons, List.any_nil, Bool.false_eq_true, ↓reduceIte, wpS, wantedA, okDst, Nat.reduceLT, decide_true, step1, isOwnCall, hxOp, px, AS.eval, AS.get, Lift.look, reduceCtorEq, Nat.reduceEqDiff, Option.getD_some, AS.put, dropKey, Nat.succ_ne_zero, pbinP, pbinI, Int.ofNat_lt, hlt, thenQ, isB, tmpOf, asB, ty3, pindex, ty9, ofConst, ofVal, hnv, Int.natCast_nonneg, Int.toNat_natCast, hp, and_self, hc', inQ, Has, hasAll, and_true, true_and]
          have hw1 : IntKind.i64.wrap ((p : Int) + 1) = ((p + 1 : Nat) : Int) := by rw [w64 (by omega) (by omega)]; rfl
          exact ⟨(f, p + 1, n), ⟨q1.2, q2, by dsimp only; omega, by dsimp only; omega⟩, by dsimp only; omega, by rw [hw1], rfl⟩
      · rw [if_neg hlt] at q2
        subst q2
        simp only [wpC, mayStop, stops, isFlt, Specs.has, Specs.hasO, Bool.or_false, Bool.not_false, List.any_cons, List.any_nil, Bool.false_eq_true, ↓reduceIte, wpS, wantedA, okDst, Nat.reduceLT, decide_true, step1, isOwnCall, hxOp, px, AS.eval, AS.get, Lift.look, reduceCtorEq, Nat.reduceEqDiff, Option.getD_some, AS.put, dropKey, Nat.succ_ne_zero, pbinP, pbinI, Int.ofNat_lt, hlt, decide_false, thenQ, isB, tmpOf, asB, inQ, true_and]
        refine SW.run [] _ ?_
        simp only [wpC, mayStop, stops, isFlt, Specs.has, Specs.hasO, Bool.or_false, Bool.not_false, List.any_cons, List.any_nil, Bool.false_eq_true, ↓reduceIte, wpS, wantedA, okDst, Nat.reduceLT, decide_true, step1, isOwnCall, hxOp, px, AS.eval, AS.get, Lift.look, Nat.reduceEqDiff, reduceCtorEq, Option.getD_some, AS.put, dropKey, thenQ, true_and]
        refine SW.loopK 43 (fun b : Nat × Nat => [(4, .int .i64 (e1 m : Nat)), (6, .int .i64 (b.2 : Nat))]) (fun _ => h) (fun b => ok2 58 b.1 b.2 = true ∧ skip2 58 b.1 b.2 = e2 m) (fun b => b.1) (400, e1 m) ⟨k2, rfl⟩ ?_ ?_
        · simp only [Has, hasAll, AS.get, Lift.look, Nat.reduceEqDiff, ↓reduceIte, reduceCtorEq, Option.getD_some, and_self]
        rintro ⟨g, p⟩ ⟨r1, r2⟩
        dsimp only at r1 r2
        cases g with
        | zero => cases r1
        | succ g =>
          unfold ok2 at r1
          unfold skip2 at r2
          rw [Bool.and_eq_true, decide_eq_true_eq] at r1
          have hp : p < namesC.length := by rw [namesC_len]; exact r1.1
          refine SW.run [] _ ?_
          by_cases hc : chr p = 58
          · have hc' : ((((namesC.getD p 0).toNat : Nat) : Int) != 58) = false := by rw [bne_eq_false_iff_eq]; unfold chr at hc; omega
            rw [if_pos hc] at r2
            subst r2
            simp only [wpC, mayStop, stops, isFlt, Specs.has, Specs.hasO, Bool.or_false, Bool.not_false, List.any_cons, List.any_nil, Bool.false_eq_true, ↓reduceIte, wpS, wantedA, okDst, Nat.reduceLT, decide_true, step1, isOwnCall, hxOp, px, AS.eval, AS.get, Lift.look, Nat.reduceEqDiff, Option.getD_some, AS.put, dropKey, pindex, ty9, ofConst, ofVal, hnv, Int.natCast_nonneg, Int.toNat_natCast, hp, and_self, pbinP, pbinI, hc', thenQ, isB, tmpOf, asB, inQ, true_and]
            refine SW.run [] _ ?_
            simp only [wpC, mayStop, stops, isFlt, Specs.has, Specs.hasO, Bool.or_false, Bool.not_false, List.any_cons, List.any_nil, Bool.false_eq_true, ↓reduceIte, wpS, wantedA, okDst, Nat.reduceLT, decide_true, step1, isOwnCall, hxOp, px, AS.eval, AS.get, Lift.look, Nat.reduceEqDiff, Option.getD_some, AS.put, dropKey, thenQ, true_and]
            refine SW.run [] _ ?_
            simp only [wpC]
            refine SW.loopK 43 (fun b : Nat × Nat => [(4, .int .i64 (e1 m : Nat)), (6, .int .i64 (e2 m : Nat)), (7, .int .i64 (b.2 : Nat))]) (fun _ => h) (fun b => ok2 32 b.1 b.2 = true ∧ skip2 32 b.1 b.2 = e3 m) (fun b => b.1) (400, e2 m) ⟨k3, rfl⟩ ?_ ?_
            · simp only [Has, hasAll, AS.get, Lift.look, Nat.reduceEqDiff, ↓reduceIte, Option.getD_some, and_self]
            rintro ⟨g, p⟩ ⟨r1, r2⟩
            dsimp only at r1 r2
            cases g with
            | zero => cases r1
            | succ g =>
              unfold ok2 at r1
              unfold skip2 at r2
              rw [Bool.and_eq_true, decide_eq_true_eq] at r1
              have hp : p < namesC.length := by rw [namesC_len]; exact r1.1
              refine SW.run [] _ ?_
              by_cases hc : chr p = 32
              · have hc' : ((((namesC.getD p 0).toNat : Nat) : Int) != 32) = false := by rw [bne_eq_false_iff_eq]; unfold chr at hc; omega
                rw [if_pos hc] at r2
                subst r2
                simp only [wpC, mayStop, stops, isFlt, Specs.has, Specs.hasO, Bool.or_false, Bool.not_false, List.any_cons, List.any_nil, Bool.false_eq_true, ↓reduceIte, wpS, wantedA, okDst, Nat.reduceLT, decide_true, step1, isOwnCall, hxOp, px, AS.eval, AS.get, Lift.look, Nat.reduceEqDiff, Option.getD_some, AS.put, dropKey, pindex, ty9, ofConst, ofVal, hnv, Int.natCast_nonneg, Int.toNat_natCast, hp, and_self, pbinP, pbinI, hc', thenQ, isB, tmpOf, asB, inQ, true_and]
                refine SW.run [] _ ?_
                simp only [wpC, mayStop, stops, isFlt, Specs.has, Specs.hasO, Bool.or_false, Bool.not_false, List.any_cons, ty3, List.any_nil, ↓reduceIte]
                refine SW.regionAny [] [[0, 1, 2, 3, 4, 5, 6, 7, 8]] rfl (by rfl) (by kernel_rfl) ?_
                have hw1 : IntKind.i64.wrap (((e2 m : Nat) : Int) + 1) = ((e2 m + 1 : Nat) : Int) := by rw [w64 (by omega) (by omega)]; rfl
                have g1 : ((e1 m : Nat) : Int) ≤ ((e2 m : Nat) : Int) := by omega
                have g2 : ((e2 m : Nat) : Int) ≤ ((namesC.length : Nat) : Int) := by rw [namesC_len]; omega
                have g3 : ((e2 m + 1 : Nat) : Int) ≤ ((e3 m : Nat) : Int) := by omega
                have g4 : ((e3 m : Nat) : Int) ≤ ((namesC.length : Nat) : Int) := by rw [namesC_len]; omega
                have g5 : (0 : Int) ≤ ((e2 m + 1 : Nat) : Int) := by omega
                simp only [wpOL, wpO, LOp, List.getElem?_toArray, List.getElem?_cons_zero, okDst, Nat.reduceLT, decide_true, wantedA, ↓reduceIte, step1, isOwnCall, Bool.false_eq_true, hxOp, px, AS.eval, AS.get, Lift.look, Nat.reduceEqDiff, Option.getD_some, List.getElem?_cons_succ, AS.put, dropKey, pslice, ty9, ofConst, ofVal, hnv, pB, Int.natCast_nonneg, g1, g2, and_self, Int.toNat_natCast, c2.1, pbinP, pbinI, hw1, g5, g3, g4, c2.2, thenQ, true_and]
                refine SW.run [] _ ?_
                simp only [wpC, RPost, sres, Tryd.results26, sresL, sres1, AS.get, Lift.look, Nat.reduceEqDiff, ↓reduceIte, Option.getD_some, Option.some.injEq, nameS, hk, Int.toNat_natCast, usesS, Ret_fin, HTo_self, and_true, exists_eq_left']
              · have hc' : ((((namesC.getD p 0).toNat : Nat) : Int) != 32) = true := by rw [bne_iff_ne]; unfold chr at hc; omega
                rw [if_neg hc] at r1 r2
                simp only [wpC, mayStop, stops, isFlt, Specs.has, Specs.hasO, Bool.or_false, Bool.not_false, List.any_cons, List.any_nil, Bool.false_eq_true, ↓reduceIte, wpS, wantedA, okDst, Nat.reduceLT, decide_true, step1, isOwnCall, hxOp, px, AS.eval, AS.get, Lift.look, Nat.reduceEqDiff, Option.getD_some, AS.put, dropKey, pindex, ty9, ofConst, ofVal, hnv, Int.natCast_nonneg, Int.toNat_natCast, hp, and_self, pbinP, pbinI, hc', thenQ, isB, tmpOf, asB, ty3, inQ, Has, hasAll, and_true, true_and]
                have hw1 : IntKind.i64.wrap ((p : Int) + 1) = ((p + 1 : Nat) : Int) := by rw [w64 (by omega) (by omega)]; rfl
                exact ⟨(g, p + 1), ⟨r1.2, r2⟩, by dsimp only; omega, by rw [hw1]⟩
          · have hc' : ((((namesC.getD p 0).toNat : Nat) : Int) != 58) = true := by rw [bne_iff_ne]; unfold chr at hc; omega
            rw [if_neg hc] at r1 r2
            simp only [wpC, mayStop, stops, isFlt, Specs.has, Specs.hasO, Bool.or_false, Bool.not_false, List.any_cons, List.any_nil, Bool.false_eq_true, ↓reduceIte, wpS, wantedA, okDst, Nat.reduceLT, decide_true, step1, isOwnCall, hxOp, px, AS.eval, AS.get, Lift.look, Nat.reduceEqDiff, Option.getD_some, AS.put, dropKey, pindex, ty9, ofConst, ofVal, hnv, Int.natCast_nonneg, Int.toNat_natCast, hp, and_self, pbinP, pbinI, hc', thenQ, isB, tmpOf, asB, ty3, inQ, Has, hasAll, and_true, true_and]
            have hw1 : IntKind.i64.wrap ((p : Int) + 1) = ((p + 1 : Nat) : Int) := by rw [w64 (by omega) (by omega)]; rfl
            exact ⟨(g, p + 1), ⟨r1.2, r2⟩, by dsimp only; omega, by rw [hw1]⟩
end Go.Proofs.YthdmdeiaonkeoaaDoor
