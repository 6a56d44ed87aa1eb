/- Contracts of functions that the law reaches. -/
import Derived.Test.YthdmdeiaonkeoaaDoorT15
import Derived.Test.YthdmdeiaonkeoaaDoorLiftW
set_option linter.unusedSimpArgs false
set_option linter.unusedVariables false
namespace Go.Proofs.YthdmdeiaonkeoaaDoor
open Go Go.RowKit Go.Proofs.YthdmdeiaonkeoaaDoor Go.Proofs.YthdmdeiaonkeoaaDoor.Lift

/-! What an operation writes -/
def shlS (x y : Int) : Int := if y < 0 ∨ 63 < y then 0 else IntKind.i64.wrap (x * 2 ^ (min y.toNat IntKind.i64.bits))
def shrS (x y : Int) : Int := x.fdiv (2 ^ (min (if y < 0 ∨ 63 < y then 63 else y).toNat IntKind.i64.bits))
def fnegS (x : Int) : Int := if (FloatKind.f64.format.order (realN x) (realN x) != some .eq) = true then nanI else bitsOp .xor .i64 x (-9223372036854775808)
def compS (op x y : Int) : Int :=
  if op = 3 then x else if op = 8 then IntKind.i64.wrap (x + y) else if op = 9 then IntKind.i64.wrap (x - y) else if op = 10 then IntKind.i64.wrap (x * y)
  else if op = 11 then bitsOp .and .i64 x y else if op = 12 then bitsOp .or .i64 x y else if op = 13 then bitsOp .xor .i64 x y
  else if op = 14 then shlS x y else if op = 15 then shrS x y else if op = 16 then IntKind.i64.wrap (0 - x)
  else if op = 17 then x % 256 else if op = 18 then IntKind.i64.wrap (IntKind.i32.wrap x)
  else if op = 19 then fopS .add x y else if op = 20 then fopS .sub x y else if op = 21 then fopS .mul x y else if op = 22 then fopS .quo x y else fnegS x
theorem wrap8 (x : Int) : IntKind.i64.wrap (IntKind.u8.wrap x) = x % 256 := by
  have : IntKind.u8.wrap x = x % 256 := by rw [IntKind.wrap_u8]
  rw [this, w64 (by omega) (by omega)]
theorem w63 : IntKind.u64.wrap 63 = 63 := rfl
theorem sh_u64 {y : Int} (h : ¬ (y < 0 ∨ 63 < y)) : IntKind.u64.wrap y = y := by
  rw [IntKind.wrap_u64]
  omega
theorem u8of_mod (x : Int) : ((u8of x).toNat : Int) = x % 256 := by
  unfold u8of
  rw [UInt8.toNat_ofNat']
  omega
/-- The upper half out of the instruction, the lower out of a register. -/
def highS (i x : Int) : Int := IntKind.i64.wrap (i * 4294967296 + x % 4294967296)
theorem high_ref (i x : Int) : IntKind.i64.wrap (IntKind.i64.wrap (i * 2 ^ min 32 IntKind.i64.bits) + x % 4294967296) = highS i x := by
  rw [show min 32 IntKind.i64.bits = 32 from rfl, show (2 : Int) ^ 32 = 4294967296 by rfl]
  unfold highS
  rw [IntKind.wrap_i64, IntKind.wrap_i64, IntKind.wrap_i64]
  omega
theorem compC_3 (x y : Int) (h : Heap) : SCalls env 35 [.int .i64 3, .int .i64 x, .int .i64 y] h (Ret (.int .i64 (compS 3 x y)) h) := by
  refine SCalls.body Tryd.func35 rfl rfl (by simp [Tryd.ntmps35]) ?_
  refine SW.seq (SW.run [] _ ?_)
  simp only [wpC, Bool.false_eq_true, ↓reduceIte, wpS, stops, wantedA, okDst, Tryd.ntmps35, Nat.reduceLT, decide_true, step1, isOwnCall, hxOp, px, AS.eval, ofConst, ofVal, thenQ, AS.put, enumA, Nat.zero_add, Nat.reduceAdd, dropKey, reduceCtorEq, Nat.reduceEqDiff, true_and]
  refine SW.seq (SW.seq (SW.run [] _ ?_))
  simp only [wpC, Bool.false_eq_true, ↓reduceIte, wpS, stops, wantedA, okDst, Nat.reduceLT, decide_true, step1, isOwnCall, hxOp, px, AS.eval, AS.get, Lift.look, Nat.succ_ne_zero, Option.getD_some, thenQ, AS.put, dropKey, Nat.reduceEqDiff, reduceCtorEq, true_and]
  refine SW.block ?_
  refine SW.caseEq rfl rfl rfl rfl rfl rfl rfl rfl (by decide) rfl rfl rfl rfl ?_
  refine SW.run [] _ ?_
  simp only [wpC, mayStop, stops, isFlt, Specs.has, Specs.hasO, Bool.or_false, Bool.not_false, List.any_cons, List.any_nil, Bool.false_eq_true, ↓reduceIte, wpS, wantedA, okDst, Nat.reduceLT, decide_true, step1, isOwnCall, hxOp, px, AS.eval, AS.get, Lift.look, Nat.reduceEqDiff, reduceCtorEq, Option.getD_some, AS.put, dropKey, thenQ, inQ, RPost, sres, Tryd.results35, sresL, sres1, Option.some.injEq, Ret_fin, HTo_self, and_true, exists_eq_left', true_and]
  rfl
theorem compC_8 (x y : Int) (h : Heap) : SCalls env 35 [.int .i64 8, .int .i64 x, .int .i64 y] h (Ret (.int .i64 (compS 8 x y)) h) := by
  refine SCalls.body Tryd.func35 rfl rfl (by simp [Tryd.ntmps35]) ?_
  refine SW.seq (SW.run [] _ ?_)
  simp only [wpC, Bool.false_eq_true, ↓reduceIte, wpS, stops, wantedA, okDst, Tryd.ntmps35, Nat.reduceLT, decide_true, step1, isOwnCall, hxOp, px, AS.eval, ofConst, ofVal, thenQ, AS.put, enumA, Nat.zero_add, Nat.reduceAdd, dropKey, reduceCtorEq, Nat.reduceEqDiff, true_and]
  refine SW.seq (SW.seq (SW.run [] _ ?_))
  simp only [wpC, Bool.false_eq_true, ↓reduceIte, wpS, stops, wantedA, okDst, Nat.reduceLT, decide_true, step1, isOwnCall, hxOp, px, AS.eval, AS.get, Lift.look, Nat.succ_ne_zero, Option.getD_some, thenQ, AS.put, dropKey, Nat.reduceEqDiff, reduceCtorEq, true_and]
  refine SW.block ?_
  iterate 1 refine SW.caseNe rfl rfl rfl rfl rfl rfl rfl rfl (by decide) rfl rfl rfl rfl ?_
  refine SW.caseEq rfl rfl rfl rfl rfl rfl rfl rfl (by decide) rfl rfl rfl rfl ?_
  refine SW.run [] _ ?_
  simp only [wpC, mayStop, stops, isFlt, Specs.has, Specs.hasO, Bool.or_false, Bool.not_false, List.any_cons, ty2, List.any_nil, Bool.false_eq_true, ↓reduceIte, wpS, wantedA, okDst, Nat.reduceLT, decide_true, step1, isOwnCall, hxOp, px, AS.eval, AS.get, Lift.look, Nat.reduceEqDiff, reduceCtorEq, Option.getD_some, AS.put, dropKey, pbinP, pbinI, thenQ, inQ, RPost, sres, Tryd.results35, sresL, sres1, Option.some.injEq, Ret_fin, HTo_self, and_true, exists_eq_left', true_and]
  rfl
theorem compC_9 (x y : Int) (h : Heap) : SCalls env 35 [.int .i64 9, .int .i64 x, .int .i64 y] h (Ret (.int .i64 (compS 9 x y)) h) := by
  refine SCalls.body Tryd.func35 rfl rfl (by simp [Tryd.ntmps35]) ?_
  refine SW.seq (SW.run [] _ ?_)
  simp only [wpC, Bool.false_eq_true, ↓reduceIte, wpS, stops, wantedA, okDst, Tryd.ntmps35, Nat.reduceLT, decide_true, step1, isOwnCall, hxOp, px, AS.eval, ofConst, ofVal, thenQ, AS.put, enumA, Nat.zero_add, Nat.reduceAdd, dropKey, reduceCtorEq, Nat.reduceEqDiff, true_and]
  refine SW.seq (SW.seq (SW.run [] _ ?_))
  simp only [wpC, Bool.false_eq_true, ↓reduceIte, wpS, stops, wantedA, okDst, Nat.reduceLT, decide_true, step1, isOwnCall, hxOp, px, AS.eval, AS.get, Lift.look, Nat.succ_ne_zero, Option.getD_some, thenQ, AS.put, dropKey, Nat.reduceEqDiff, reduceCtorEq, true_and]
  refine SW.block ?_
  iterate 2 refine SW.caseNe rfl rfl rfl rfl rfl rfl rfl rfl (by decide) rfl rfl rfl rfl ?_
  refine SW.caseEq rfl rfl rfl rfl rfl rfl rfl rfl (by decide) rfl rfl rfl rfl ?_
  refine SW.run [] _ ?_
  simp only [wpC, mayStop, stops, isFlt, Specs.has, Specs.hasO, Bool.or_false, Bool.not_false, List.any_cons, ty2, List.any_nil, Bool.false_eq_true, ↓reduceIte, wpS, wantedA, okDst, Nat.reduceLT, decide_true, step1, isOwnCall, hxOp, px, AS.eval, AS.get, Lift.look, Nat.reduceEqDiff, reduceCtorEq, Option.getD_some, AS.put, dropKey, pbinP, pbinI, thenQ, inQ, RPost, sres, Tryd.results35, sresL, sres1, Option.some.injEq, Ret_fin, HTo_self, and_true, exists_eq_left', true_and]
  rfl
theorem compC_10 (x y : Int) (h : Heap) : SCalls env 35 [.int .i64 10, .int .i64 x, .int .i64 y] h (Ret (.int .i64 (compS 10 x y)) h) := by
  refine SCalls.body Tryd.func35 rfl rfl (by simp [Tryd.ntmps35]) ?_
  refine SW.seq (SW.run [] _ ?_)
  simp only [wpC, Bool.false_eq_true, ↓reduceIte, wpS, stops, wantedA, okDst, Tryd.ntmps35, Nat.reduceLT, decide_true, step1, isOwnCall, hxOp, px, AS.eval, ofConst, ofVal, thenQ, AS.put, enumA, Nat.zero_add, Nat.reduceAdd, dropKey, reduceCtorEq, Nat.reduceEqDiff, true_and]
  refine SW.seq (SW.seq (SW.run [] _ ?_))
  simp only [wpC, Bool.false_eq_true, ↓reduceIte, wpS, stops, wantedA, okDst, Nat.reduceLT, decide_true, step1, isOwnCall, hxOp, px, AS.eval, AS.get, Lift.look, Nat.succ_ne_zero, Option.getD_some, thenQ, AS.put, dropKey, Nat.reduceEqDiff, reduceCtorEq, true_and]
  refine SW.block ?_
  iterate 3 refine SW.caseNe rfl rfl rfl rfl rfl rfl rfl rfl (by decide) rfl rfl rfl rfl ?_
  refine SW.caseEq rfl rfl rfl rfl rfl rfl rfl rfl (by decide) rfl rfl rfl rfl ?_
  refine SW.run [] _ ?_
  simp only [wpC, mayStop, stops, isFlt, Specs.has, Specs.hasO, Bool.or_false, Bool.not_false, List.any_cons, ty2, List.any_nil, Bool.false_eq_true, ↓reduceIte, wpS, wantedA, okDst, Nat.reduceLT, decide_true, step1, isOwnCall, hxOp, px, AS.eval, AS.get, Lift.look, Nat.reduceEqDiff, reduceCtorEq, Option.getD_some, AS.put, dropKey, pbinP, pbinI, thenQ, inQ, RPost, sres, Tryd.results35, sresL, sres1, Option.some.injEq, Ret_fin, HTo_self, and_true, exists_eq_left', true_and]
  rfl
theorem compC_11 (x y : Int) (h : Heap) : SCalls env 35 [.int .i64 11, .int .i64 x, .int .i64 y] h (Ret (.int .i64 (compS 11 x y)) h) := by
  refine SCalls.body Tryd.func35 rfl rfl (by simp [Tryd.ntmps35]) ?_
  refine SW.seq (SW.run [] _ ?_)
  simp only [wpC, Bool.false_eq_true, ↓reduceIte, wpS, stops, wantedA, okDst, Tryd.ntmps35, Nat.reduceLT, decide_true, step1, isOwnCall, hxOp, px, AS.eval, ofConst, ofVal, thenQ, AS.put, enumA, Nat.zero_add, Nat.reduceAdd, dropKey, reduceCtorEq, Nat.reduceEqDiff, true_and]
  refine SW.seq (SW.seq (SW.run [] _ ?_))
  simp only [wpC, Bool.false_eq_true, ↓reduceIte, wpS, stops, wantedA, okDst, Nat.reduceLT, decide_true, step1, isOwnCall, hxOp, px, AS.eval, AS.get, Lift.look, Nat.succ_ne_zero, Option.getD_some, thenQ, AS.put, dropKey, Nat.reduceEqDiff, reduceCtorEq, true_and]
  refine SW.block ?_
  iterate 4 refine SW.caseNe rfl rfl rfl rfl rfl rfl rfl rfl (by decide) rfl rfl rfl rfl ?_
  refine SW.caseEq rfl rfl rfl rfl rfl rfl rfl rfl (by decide) rfl rfl rfl rfl ?_
  refine SW.run [] _ ?_
  simp only [wpC, mayStop, stops, isFlt, Specs.has, Specs.hasO, Bool.or_false, Bool.not_false, List.any_cons, List.any_nil, Bool.false_eq_true, ↓reduceIte, wpS, wantedA, okDst, Nat.reduceLT, decide_true, step1, isOwnCall, hxOp, px, AS.eval, AS.get, Lift.look, Nat.reduceEqDiff, reduceCtorEq, Option.getD_some, AS.put, dropKey, pbinP, pbinI, thenQ, inQ, RPost, sres, Tryd.results35, sresL, sres1, Option.some.injEq, Ret_fin, HTo_self, and_true, exists_eq_left', true_and]
  rfl
theorem compC_12 (x y : Int) (h : Heap) : SCalls env 35 [.int .i64 12, .int .i64 x, .int .i64 y] h (Ret (.int .i64 (compS 12 x y)) h) := by
  refine SCalls.body Tryd.func35 rfl rfl (by simp [Tryd.ntmps35]) ?_
  refine SW.seq (SW.run [] _ ?_)
  simp only [wpC, Bool.false_eq_true, ↓reduceIte, wpS, stops, wantedA, okDst, Tryd.ntmps35, Nat.reduceLT, decide_true, step1, isOwnCall, hxOp, px, AS.eval, ofConst, ofVal, thenQ, AS.put, enumA, Nat.zero_add, Nat.reduceAdd, dropKey, reduceCtorEq, Nat.reduceEqDiff, true_and]
  refine SW.seq (SW.seq (SW.run [] _ ?_))
  simp only [wpC, Bool.false_eq_true, ↓reduceIte, wpS, stops, wantedA, okDst, Nat.reduceLT, decide_true, step1, isOwnCall, hxOp, px, AS.eval, AS.get, Lift.look, Nat.succ_ne_zero, Option.getD_some, thenQ, AS.put, dropKey, Nat.reduceEqDiff, reduceCtorEq, true_and]
  refine SW.block ?_
  iterate 5 refine SW.caseNe rfl rfl rfl rfl rfl rfl rfl rfl (by decide) rfl rfl rfl rfl ?_
  refine SW.caseEq rfl rfl rfl rfl rfl rfl rfl rfl (by decide) rfl rfl rfl rfl ?_
  refine SW.run [] _ ?_
  simp only [wpC, mayStop, stops, isFlt, Specs.has, Specs.hasO, Bool.or_false, Bool.not_false, List.any_cons, List.any_nil, Bool.false_eq_true, ↓reduceIte, wpS, wantedA, okDst, Nat.reduceLT, decide_true, step1, isOwnCall, hxOp, px, AS.eval, AS.get, Lift.look, Nat.reduceEqDiff, reduceCtorEq, Option.getD_some, AS.put, dropKey, pbinP, pbinI, thenQ, inQ, RPost, sres, Tryd.results35, sresL, sres1, Option.some.injEq, Ret_fin, HTo_self, and_true, exists_eq_left', true_and]
  rfl
theorem compC_13 (x y : Int) (h : Heap) : SCalls env 35 [.int .i64 13, .int .i64 x, .int .i64 y] h (Ret (.int .i64 (compS 13 x y)) h) := by
  refine SCalls.body Tryd.func35 rfl rfl (by simp [Tryd.ntmps35]) ?_
  refine SW.seq (SW.run [] _ ?_)
  simp only [wpC, Bool.false_eq_true, ↓reduceIte, wpS, stops, wantedA, okDst, Tryd.ntmps35, Nat.reduceLT, decide_true, step1, isOwnCall, hxOp, px, AS.eval, ofConst, ofVal, thenQ, AS.put, enumA, Nat.zero_add, Nat.reduceAdd, dropKey, reduceCtorEq, Nat.reduceEqDiff, true_and]
  refine SW.seq (SW.seq (SW.run [] _ ?_))
  simp only [wpC, Bool.false_eq_true, ↓reduceIte, wpS, stops, wantedA, okDst, Nat.reduceLT, decide_true, step1, isOwnCall, hxOp, px, AS.eval, AS.get, Lift.look, Nat.succ_ne_zero, Option.getD_some, thenQ, AS.put, dropKey, Nat.reduceEqDiff, reduceCtorEq, true_and]
  refine SW.block ?_
  iterate 6 refine SW.caseNe rfl rfl rfl rfl rfl rfl rfl rfl (by decide) rfl rfl rfl rfl ?_
  refine SW.caseEq rfl rfl rfl rfl rfl rfl rfl rfl (by decide) rfl rfl rfl rfl ?_
  refine SW.run [] _ ?_
  simp only [wpC, mayStop, stops, isFlt, Specs.has, Specs.hasO, Bool.or_false, Bool.not_false, List.any_cons, List.any_nil, Bool.false_eq_true, ↓reduceIte, wpS, wantedA, okDst, Nat.reduceLT, decide_true, step1, isOwnCall, hxOp, px, AS.eval, AS.get, Lift.look, Nat.reduceEqDiff, reduceCtorEq, Option.getD_some, AS.put, dropKey, pbinP, pbinI, thenQ, inQ, RPost, sres, Tryd.results35, sresL, sres1, Option.some.injEq, Ret_fin, HTo_self, and_true, exists_eq_left', true_and]
  rfl
theorem compC_14 (x y : Int) (h : Heap) : SCalls env 35 [.int .i64 14, .int .i64 x, .int .i64 y] h (Ret (.int .i64 (compS 14 x y)) h) := by
  refine SCalls.body Tryd.func35 rfl rfl (by simp [Tryd.ntmps35]) ?_
  refine SW.seq (SW.run [] _ ?_)
  simp only [wpC, Bool.false_eq_true, ↓reduceIte, wpS, stops, wantedA, okDst, Tryd.ntmps35, Nat.reduceLT, decide_true, step1, isOwnCall, hxOp, px, AS.eval, ofConst, ofVal, thenQ, AS.put, enumA, Nat.zero_add, Nat.reduceAdd, dropKey, reduceCtorEq, Nat.reduceEqDiff, true_and]
  refine SW.seq (SW.seq (SW.run [] _ ?_))
  simp only [wpC, Bool.false_eq_true, ↓reduceIte, wpS, stops, wantedA, okDst, Nat.reduceLT, decide_true, step1, isOwnCall, hxOp, px, AS.eval, AS.get, Lift.look, Nat.succ_ne_zero, Option.getD_some, thenQ, AS.put, dropKey, Nat.reduceEqDiff, reduceCtorEq, true_and]
  refine SW.block ?_
  iterate 7 refine SW.caseNe rfl rfl rfl rfl rfl rfl rfl rfl (by decide) rfl rfl rfl rfl ?_
  refine SW.caseEq rfl rfl rfl rfl rfl rfl rfl rfl (by decide) rfl rfl rfl rfl ?_
  have e : compS 14 x y = shlS x y := rfl
  rw [e]
  unfold shlS
  by_cases h0 : y < 0
  · rw [if_pos (.inl h0)]
    refine SW.run [] _ ?_
    simp only [wpC, mayStop, stops, isFlt, Specs.has, Specs.hasO, Bool.or_false, Bool.not_false, List.any_cons, List.any_nil, Bool.false_eq_true, ↓reduceIte, wpS, wantedA, okDst, Nat.reduceLT, decide_true, step1, isOwnCall, hxOp, px, AS.eval, AS.get, Lift.look, Nat.reduceEqDiff, reduceCtorEq, Option.getD_some, AS.put, dropKey, pbinP, ofConst, ofVal, pbinI, h0, List.getElem?_toArray, List.getElem?_cons_succ, List.getElem?_cons_zero, Option.bind_some, beq_tf, Option.some.injEq, ppick_true, thenQ, isB, tmpOf, asB, inQ, RPost, sres, Tryd.results35, sresL, sres1, Ret_fin, HTo_self, and_true, exists_eq_left', and_self]
  · by_cases h1 : 63 < y
    · rw [if_pos (.inr h1)]
      refine SW.run [] _ ?_
      simp only [wpC, mayStop, stops, isFlt, Specs.has, Specs.hasO, Bool.or_false, Bool.not_false, List.any_cons, List.any_nil, Bool.false_eq_true, ↓reduceIte, wpS, wantedA, okDst, Nat.reduceLT, decide_true, step1, isOwnCall, hxOp, px, AS.eval, AS.get, Lift.look, Nat.reduceEqDiff, reduceCtorEq, Option.getD_some, AS.put, dropKey, pbinP, ofConst, ofVal, pbinI, h0, decide_false, List.getElem?_toArray, List.getElem?_cons_succ, List.getElem?_cons_zero, Option.bind_some, beq_self_eq_true, h1, ppick_bool, thenQ, isB, tmpOf, asB, inQ, RPost, sres, Tryd.results35, sresL, sres1, Option.some.injEq, Ret_fin, HTo_self, and_true, exists_eq_left', and_self]
    · rw [if_neg (by omega)]
      have hn : 0 ≤ y := by omega
      have hw := sh_u64 (y := y) (by omega)
      refine SW.run [] _ ?_
      simp only [wpC, mayStop, stops, isFlt, Specs.has, Specs.hasO, Bool.or_false, Bool.not_false, List.any_cons, List.any_nil, Bool.false_eq_true, ↓reduceIte, wpS, wantedA, okDst, Nat.reduceLT, decide_true, step1, isOwnCall, hxOp, px, AS.eval, AS.get, Lift.look, Nat.reduceEqDiff, reduceCtorEq, Option.getD_some, AS.put, dropKey, pbinP, ofConst, ofVal, pbinI, h0, decide_false, List.getElem?_toArray, List.getElem?_cons_succ, List.getElem?_cons_zero, Option.bind_some, beq_self_eq_true, h1, ppick_bool, thenQ, isB, tmpOf, asB, ty2, ty67, pconvH, pconv, hw, hn, inQ, RPost, sres, Tryd.results35, sresL, sres1, Option.some.injEq, Ret_fin, HTo_self, and_true, exists_eq_left', and_self]
theorem compC_15 (x y : Int) (h : Heap) : SCalls env 35 [.int .i64 15, .int .i64 x, .int .i64 y] h (Ret (.int .i64 (compS 15 x y)) h) := by
  refine SCalls.body Tryd.func35 rfl rfl (by simp [Tryd.ntmps35]) ?_
  refine SW.seq (SW.run [] _ ?_)
  simp only [wpC, Bool.false_eq_true, ↓reduceIte, wpS, stops, wantedA, okDst, Tryd.ntmps35, Nat.reduceLT, decide_true, step1, isOwnCall, hxOp, px, AS.eval, ofConst, ofVal, thenQ, AS.put, enumA, Nat.zero_add, Nat.reduceAdd, dropKey, reduceCtorEq, Nat.reduceEqDiff, true_and]
  refine SW.seq (SW.seq (SW.run [] _ ?_))
  simp only [wpC, Bool.false_eq_true, ↓reduceIte, wpS, stops, wantedA, okDst, Nat.reduceLT, decide_true, step1, isOwnCall, hxOp, px, AS.eval, AS.get, Lift.look, Nat.succ_ne_zero, Option.getD_some, thenQ, AS.put, dropKey, Nat.reduceEqDiff, reduceCtorEq, true_and]
  refine SW.block ?_
  iterate 8 refine SW.caseNe rfl rfl rfl rfl rfl rfl rfl rfl (by decide) rfl rfl rfl rfl ?_
  refine SW.caseEq rfl rfl rfl rfl rfl rfl rfl rfl (by decide) rfl rfl rfl rfl ?_
  have e : compS 15 x y = shrS x y := rfl
  rw [e]
  unfold shrS
  by_cases h0 : y < 0
  · rw [if_pos (.inl h0)]
    refine SW.run [] _ ?_
    simp only [wpC, mayStop, stops, isFlt, Specs.has, Specs.hasO, Bool.or_false, Bool.not_false, List.any_cons, List.any_nil, Bool.false_eq_true, ↓reduceIte, wpS, wantedA, okDst, Nat.reduceLT, decide_true, step1, isOwnCall, hxOp, px, AS.eval, AS.get, Lift.look, Nat.reduceEqDiff, reduceCtorEq, Option.getD_some, AS.put, dropKey, pbinP, ofConst, ofVal, pbinI, h0, List.getElem?_toArray, List.getElem?_cons_succ, List.getElem?_cons_zero, Option.bind_some, beq_tf, Option.some.injEq, ppick_true, thenQ, isB, tmpOf, asB, ty2, ty67, pconvH, pconv, w63, Int.reduceLE, Int.reduceToNat, inQ, RPost, sres, Tryd.results35, sresL, sres1, Ret_fin, HTo_self, and_true, exists_eq_left', and_self]
  · by_cases h1 : 63 < y
    · rw [if_pos (.inr h1)]
      refine SW.run [] _ ?_
      simp only [wpC, mayStop, stops, isFlt, Specs.has, Specs.hasO, Bool.or_false, Bool.not_false, List.any_cons, List.any_nil, Bool.false_eq_true, ↓reduceIte, wpS, wantedA, okDst, Nat.reduceLT, decide_true, step1, isOwnCall, hxOp, px, AS.eval, AS.get, Lift.look, Nat.reduceEqDiff, reduceCtorEq, Option.getD_some, AS.put, dropKey, pbinP, ofConst, ofVal, pbinI, h0, decide_false, List.getElem?_toArray, List.getElem?_cons_succ, List.getElem?_cons_zero, Option.bind_some, beq_self_eq_true, h1, ppick_bool, thenQ, isB, tmpOf, asB, ty2, ty67, pconvH, pconv, w63, Int.reduceLE, Int.reduceToNat, inQ, RPost, sres, Tryd.results35, sresL, sres1, Option.some.injEq, Ret_fin, HTo_self, and_true, exists_eq_left', and_self]
    · rw [if_neg (by omega)]
      have hn : 0 ≤ y := by omega
      have hw := sh_u64 (y := y) (by omega)
      refine SW.run [] _ ?_
      simp only [wpC, mayStop, stops, isFlt, Specs.has, Specs.hasO, Bool.or_false, Bool.not_false, List.any_cons, List.any_nil, Bool.false_eq_true, ↓reduceIte, wpS, wantedA, okDst, Nat.reduceLT, decide_true, step1, isOwnCall, hxOp, px, AS.eval, AS.get, Lift.look, Nat.reduceEqDiff, reduceCtorEq, Option.getD_some, AS.put, dropKey, pbinP, ofConst, ofVal, pbinI, h0, decide_false, List.getElem?_toArray, List.getElem?_cons_succ, List.getElem?_cons_zero, Option.bind_some, beq_self_eq_true, h1, ppick_bool, thenQ, isB, tmpOf, asB, ty2, ty67, pconvH, pconv, hw, hn, inQ, RPost, sres, Tryd.results35, sresL, sres1, Option.some.injEq, Ret_fin, HTo_self, and_true, exists_eq_left', and_self]
theorem compC_16 (x y : Int) (h : Heap) : SCalls env 35 [.int .i64 16, .int .i64 x, .int .i64 y] h (Ret (.int .i64 (compS 16 x y)) h) := by
  refine SCalls.body Tryd.func35 rfl rfl (by simp [Tryd.ntmps35]) ?_
  refine SW.seq (SW.run [] _ ?_)
  simp only [wpC, Bool.false_eq_true, ↓reduceIte, wpS, stops, wantedA, okDst, Tryd.ntmps35, Nat.reduceLT, decide_true, step1, isOwnCall, hxOp, px, AS.eval, ofConst, ofVal, thenQ, AS.put, enumA, Nat.zero_add, Nat.reduceAdd, dropKey, reduceCtorEq, Nat.reduceEqDiff, true_and]
  refine SW.seq (SW.seq (SW.run [] _ ?_))
  simp only [wpC, Bool.false_eq_true, ↓reduceIte, wpS, stops, wantedA, okDst, Nat.reduceLT, decide_true, step1, isOwnCall, hxOp, px, AS.eval, AS.get, Lift.look, Nat.succ_ne_zero, Option.getD_some, thenQ, AS.put, dropKey, Nat.reduceEqDiff, reduceCtorEq, true_and]
  refine SW.block ?_
  iterate 9 refine SW.caseNe rfl rfl rfl rfl rfl rfl rfl rfl (by decide) rfl rfl rfl rfl ?_
  refine SW.caseEq rfl rfl rfl rfl rfl rfl rfl rfl (by decide) rfl rfl rfl rfl ?_
  refine SW.run [] _ ?_
  simp only [wpC, mayStop, stops, isFlt, Specs.has, Specs.hasO, Bool.or_false, Bool.not_false, List.any_cons, List.any_nil, Bool.false_eq_true, ↓reduceIte, wpS, wantedA, okDst, Nat.reduceLT, decide_true, step1, isOwnCall, hxOp, px, AS.eval, AS.get, Lift.look, Nat.reduceEqDiff, reduceCtorEq, Option.getD_some, AS.put, dropKey, pun, thenQ, inQ, RPost, sres, Tryd.results35, sresL, sres1, Option.some.injEq, Ret_fin, HTo_self, and_true, exists_eq_left', true_and]
  rfl
theorem compC_17 (x y : Int) (h : Heap) : SCalls env 35 [.int .i64 17, .int .i64 x, .int .i64 y] h (Ret (.int .i64 (compS 17 x y)) h) := by
  refine SCalls.body Tryd.func35 rfl rfl (by simp [Tryd.ntmps35]) ?_
  refine SW.seq (SW.run [] _ ?_)
  simp only [wpC, Bool.false_eq_true, ↓reduceIte, wpS, stops, wantedA, okDst, Tryd.ntmps35, Nat.reduceLT, decide_true, step1, isOwnCall, hxOp, px, AS.eval, ofConst, ofVal, thenQ, AS.put, enumA, Nat.zero_add, Nat.reduceAdd, dropKey, reduceCtorEq, Nat.reduceEqDiff, true_and]
  refine SW.seq (SW.seq (SW.run [] _ ?_))
  simp only [wpC, Bool.false_eq_true, ↓reduceIte, wpS, stops, wantedA, okDst, Nat.reduceLT, decide_true, step1, isOwnCall, hxOp, px, AS.eval, AS.get, Lift.look, Nat.succ_ne_zero, Option.getD_some, thenQ, AS.put, dropKey, Nat.reduceEqDiff, reduceCtorEq, true_and]
  refine SW.block ?_
  iterate 10 refine SW.caseNe rfl rfl rfl rfl rfl rfl rfl rfl (by decide) rfl rfl rfl rfl ?_
  refine SW.caseEq rfl rfl rfl rfl rfl rfl rfl rfl (by decide) rfl rfl rfl rfl ?_
  refine SW.run [] _ ?_
  simp only [wpC, mayStop, stops, isFlt, Specs.has, Specs.hasO, Bool.or_false, Bool.not_false, List.any_cons, List.any_nil, Bool.false_eq_true, ↓reduceIte, wpS, wantedA, okDst, Nat.reduceLT, decide_true, step1, isOwnCall, hxOp, px, AS.eval, AS.get, Lift.look, Nat.reduceEqDiff, reduceCtorEq, Option.getD_some, AS.put, dropKey, ty2, ty5, pconvH, pconv, wrap_byte, w64_byte, thenQ, inQ, RPost, sres, Tryd.results35, sresL, sres1, Option.some.injEq, Ret_fin, HTo_self, and_true, exists_eq_left', true_and]
  show PV.int .i64 _ = PV.int .i64 (x % 256)
  rw [u8of_mod]
theorem compC_18 (x y : Int) (h : Heap) : SCalls env 35 [.int .i64 18, .int .i64 x, .int .i64 y] h (Ret (.int .i64 (compS 18 x y)) h) := by
  refine SCalls.body Tryd.func35 rfl rfl (by simp [Tryd.ntmps35]) ?_
  refine SW.seq (SW.run [] _ ?_)
  simp only [wpC, Bool.false_eq_true, ↓reduceIte, wpS, stops, wantedA, okDst, Tryd.ntmps35, Nat.reduceLT, decide_true, step1, isOwnCall, hxOp, px, AS.eval, ofConst, ofVal, thenQ, AS.put, enumA, Nat.zero_add, Nat.reduceAdd, dropKey, reduceCtorEq, Nat.reduceEqDiff, true_and]
  refine SW.seq (SW.seq (SW.run [] _ ?_))
  simp only [wpC, Bool.false_eq_true, ↓reduceIte, wpS, stops, wantedA, okDst, Nat.reduceLT, decide_true, step1, isOwnCall, hxOp, px, AS.eval, AS.get, Lift.look, Nat.succ_ne_zero, Option.getD_some, thenQ, AS.put, dropKey, Nat.reduceEqDiff, reduceCtorEq, true_and]
  refine SW.block ?_
  iterate 11 refine SW.caseNe rfl rfl rfl rfl rfl rfl rfl rfl (by decide) rfl rfl rfl rfl ?_
  refine SW.caseEq rfl rfl rfl rfl rfl rfl rfl rfl (by decide) rfl rfl rfl rfl ?_
  refine SW.run [] _ ?_
  simp only [wpC, mayStop, stops, isFlt, Specs.has, Specs.hasO, Bool.or_false, Bool.not_false, List.any_cons, List.any_nil, Bool.false_eq_true, ↓reduceIte, wpS, wantedA, okDst, Nat.reduceLT, decide_true, step1, isOwnCall, hxOp, px, AS.eval, AS.get, Lift.look, Nat.reduceEqDiff, reduceCtorEq, Option.getD_some, AS.put, dropKey, ty2, ty21, pconvH, pconv, thenQ, inQ, RPost, sres, Tryd.results35, sresL, sres1, Option.some.injEq, Ret_fin, HTo_self, and_true, exists_eq_left', true_and]
  rfl
theorem compC_19 (x y : Int) (h : Heap) : SCalls env 35 [.int .i64 19, .int .i64 x, .int .i64 y] h (Ret (.int .i64 (compS 19 x y)) h) := by
  refine SCalls.body Tryd.func35 rfl rfl (by simp [Tryd.ntmps35]) ?_
  refine SW.seq (SW.run [] _ ?_)
  simp only [wpC, Bool.false_eq_true, ↓reduceIte, wpS, stops, wantedA, okDst, Tryd.ntmps35, Nat.reduceLT, decide_true, step1, isOwnCall, hxOp, px, AS.eval, ofConst, ofVal, thenQ, AS.put, enumA, Nat.zero_add, Nat.reduceAdd, dropKey, reduceCtorEq, Nat.reduceEqDiff, true_and]
  refine SW.seq (SW.seq (SW.run [] _ ?_))
  simp only [wpC, Bool.false_eq_true, ↓reduceIte, wpS, stops, wantedA, okDst, Nat.reduceLT, decide_true, step1, isOwnCall, hxOp, px, AS.eval, AS.get, Lift.look, Nat.succ_ne_zero, Option.getD_some, thenQ, AS.put, dropKey, Nat.reduceEqDiff, reduceCtorEq, true_and]
  refine SW.block ?_
  iterate 12 refine SW.caseNe rfl rfl rfl rfl rfl rfl rfl rfl (by decide) rfl rfl rfl rfl ?_
  refine SW.caseEq rfl rfl rfl rfl rfl rfl rfl rfl (by decide) rfl rfl rfl rfl ?_
  refine SW.run [eReal] _ ?_
  simp only [wpC, mayStop, stops, isFlt, Specs.has, eReal, Specs.hasO, Nat.reduceLeDiff, Nat.reduceSub, false_and, ↓reduceIte, Bool.or_false, List.any_cons, Bool.not_true, ty89, Nat.reduceEqDiff, Bool.not_false, List.any_nil, Bool.or_true, Bool.false_eq_true, wpS, wantedA, okDst, Nat.reduceLT, decide_true, step1, isOwnCall, hxOp, px, AS.eval, AS.get, Lift.look, reduceCtorEq, Option.getD_some, and_self, AS.put, dropKey, pcall, okArg, ofConst, ofVal, List.all_cons, List.all_nil, Bool.and_true, Specs.at, List.map_cons, List.map_nil, sReal, true_and]
  refine SWO.fop .add 89 89 _ _ rfl rfl rfl rfl rfl rfl ?_
  intro r0 h0
  refine SWO.run [eBits] 1000 ?_
  simp only [wpS, stops, Specs.has, eBits, ↓reduceIte, Specs.hasO, Nat.reduceLeDiff, Nat.reduceSub, reduceCtorEq, and_self, Bool.or_false, Bool.not_true, Bool.false_eq_true, wantedA, okDst, AS.put, dropKey, Nat.reduceEqDiff, Nat.reduceLT, decide_true, step1, isOwnCall, hxOp, px, pcall, okArg, AS.eval, AS.get, Lift.look, ofConst, ofVal, List.all_cons, Option.getD_some, List.all_nil, Bool.and_true, Specs.at, List.map_cons, List.map_nil, sBits, fopS_law h0, thenQ, true_and]
  refine SW.run [] _ ?_
  simp only [wpC, inQ, thenQ, RPost, sres, Tryd.results35, sresL, sres1, AS.get, Lift.look, ↓reduceIte, Option.getD_some, Option.some.injEq, Ret_fin, HTo_self, and_true, exists_eq_left']
  rfl
theorem compC_20 (x y : Int) (h : Heap) : SCalls env 35 [.int .i64 20, .int .i64 x, .int .i64 y] h (Ret (.int .i64 (compS 20 x y)) h) := by
  refine SCalls.body Tryd.func35 rfl rfl (by simp [Tryd.ntmps35]) ?_
  refine SW.seq (SW.run [] _ ?_)
  simp only [wpC, Bool.false_eq_true, ↓reduceIte, wpS, stops, wantedA, okDst, Tryd.ntmps35, Nat.reduceLT, decide_true, step1, isOwnCall, hxOp, px, AS.eval, ofConst, ofVal, thenQ, AS.put, enumA, Nat.zero_add, Nat.reduceAdd, dropKey, reduceCtorEq, Nat.reduceEqDiff, true_and]
  refine SW.seq (SW.seq (SW.run [] _ ?_))
  simp only [wpC, Bool.false_eq_true, ↓reduceIte, wpS, stops, wantedA, okDst, Nat.reduceLT, decide_true, step1, isOwnCall, hxOp, px, AS.eval, AS.get, Lift.look, Nat.succ_ne_zero, Option.getD_some, thenQ, AS.put, dropKey, Nat.reduceEqDiff, reduceCtorEq, true_and]
  refine SW.block ?_
  iterate 13 refine SW.caseNe rfl rfl rfl rfl rfl rfl rfl rfl (by decide) rfl rfl rfl rfl ?_
  refine SW.caseEq rfl rfl rfl rfl rfl rfl rfl rfl (by decide) rfl rfl rfl rfl ?_
  refine SW.run [eReal] _ ?_
  simp only [wpC, mayStop, stops, isFlt, Specs.has, eReal, Specs.hasO, Nat.reduceLeDiff, Nat.reduceSub, false_and, ↓reduceIte, Bool.or_false, List.any_cons, Bool.not_true, ty89, Nat.reduceEqDiff, Bool.not_false, List.any_nil, Bool.or_true, Bool.false_eq_true, wpS, wantedA, okDst, Nat.reduceLT, decide_true, step1, isOwnCall, hxOp, px, AS.eval, AS.get, Lift.look, reduceCtorEq, Option.getD_some, and_self, AS.put, dropKey, pcall, okArg, ofConst, ofVal, List.all_cons, List.all_nil, Bool.and_true, Specs.at, List.map_cons, List.map_nil, sReal, true_and]
  refine SWO.fop .sub 89 89 _ _ rfl rfl rfl rfl rfl rfl ?_
  intro r0 h0
  refine SWO.run [eBits] 1000 ?_
  simp only [wpS, stops, Specs.has, eBits, ↓reduceIte, Specs.hasO, Nat.reduceLeDiff, Nat.reduceSub, reduceCtorEq, and_self, Bool.or_false, Bool.not_true, Bool.false_eq_true, wantedA, okDst, AS.put, dropKey, Nat.reduceEqDiff, Nat.reduceLT, decide_true, step1, isOwnCall, hxOp, px, pcall, okArg, AS.eval, AS.get, Lift.look, ofConst, ofVal, List.all_cons, Option.getD_some, List.all_nil, Bool.and_true, Specs.at, List.map_cons, List.map_nil, sBits, fopS_law h0, thenQ, true_and]
  refine SW.run [] _ ?_
  simp only [wpC, inQ, thenQ, RPost, sres, Tryd.results35, sresL, sres1, AS.get, Lift.look, ↓reduceIte, Option.getD_some, Option.some.injEq, Ret_fin, HTo_self, and_true, exists_eq_left']
  rfl
theorem compC_21 (x y : Int) (h : Heap) : SCalls env 35 [.int .i64 21, .int .i64 x, .int .i64 y] h (Ret (.int .i64 (compS 21 x y)) h) := by
  refine SCalls.body Tryd.func35 rfl rfl (by simp [Tryd.ntmps35]) ?_
  refine SW.seq (SW.run [] _ ?_)
  simp only [wpC, Bool.false_eq_true, ↓reduceIte, wpS, stops, wantedA, okDst, Tryd.ntmps35, Nat.reduceLT, decide_true, step1, isOwnCall, hxOp, px, AS.eval, ofConst, ofVal, thenQ, AS.put, enumA, Nat.zero_add, Nat.reduceAdd, dropKey, reduceCtorEq, Nat.reduceEqDiff, true_and]
  refine SW.seq (SW.seq (SW.run [] _ ?_))
  simp only [wpC, Bool.false_eq_true, ↓reduceIte, wpS, stops, wantedA, okDst, Nat.reduceLT, decide_true, step1, isOwnCall, hxOp, px, AS.eval, AS.get, Lift.look, Nat.succ_ne_zero, Option.getD_some, thenQ, AS.put, dropKey, Nat.reduceEqDiff, reduceCtorEq, true_and]
  refine SW.block ?_
  iterate 14 refine SW.caseNe rfl rfl rfl rfl rfl rfl rfl rfl (by decide) rfl rfl rfl rfl ?_
  refine SW.caseEq rfl rfl rfl rfl rfl rfl rfl rfl (by decide) rfl rfl rfl rfl ?_
  refine SW.run [eReal] _ ?_
  simp only [wpC, mayStop, stops, isFlt, Specs.has, eReal, Specs.hasO, Nat.reduceLeDiff, Nat.reduceSub, false_and, ↓reduceIte, Bool.or_false, List.any_cons, Bool.not_true, ty89, Nat.reduceEqDiff, Bool.not_false, List.any_nil, Bool.or_true, Bool.false_eq_true, wpS, wantedA, okDst, Nat.reduceLT, decide_true, step1, isOwnCall, hxOp, px, AS.eval, AS.get, Lift.look, reduceCtorEq, Option.getD_some, and_self, AS.put, dropKey, pcall, okArg, ofConst, ofVal, List.all_cons, List.all_nil, Bool.and_true, Specs.at, List.map_cons, List.map_nil, sReal, true_and]
  refine SWO.fop .mul 89 89 _ _ rfl rfl rfl rfl rfl rfl ?_
  intro r0 h0
  refine SWO.run [eBits] 1000 ?_
  simp only [wpS, stops, Specs.has, eBits, ↓reduceIte, Specs.hasO, Nat.reduceLeDiff, Nat.reduceSub, reduceCtorEq, and_self, Bool.or_false, Bool.not_true, Bool.false_eq_true, wantedA, okDst, AS.put, dropKey, Nat.reduceEqDiff, Nat.reduceLT, decide_true, step1, isOwnCall, hxOp, px, pcall, okArg, AS.eval, AS.get, Lift.look, ofConst, ofVal, List.all_cons, Option.getD_some, List.all_nil, Bool.and_true, Specs.at, List.map_cons, List.map_nil, sBits, fopS_law h0, thenQ, true_and]
  refine SW.run [] _ ?_
  simp only [wpC, inQ, thenQ, RPost, sres, Tryd.results35, sresL, sres1, AS.get, Lift.look, ↓reduceIte, Option.getD_some, Option.some.injEq, Ret_fin, HTo_self, and_true, exists_eq_left']
  rfl
theorem compC_22 (x y : Int) (h : Heap) : SCalls env 35 [.int .i64 22, .int .i64 x, .int .i64 y] h (Ret (.int .i64 (compS 22 x y)) h) := by
  refine SCalls.body Tryd.func35 rfl rfl (by simp [Tryd.ntmps35]) ?_
  refine SW.seq (SW.run [] _ ?_)
  simp only [wpC, Bool.false_eq_true, ↓reduceIte, wpS, stops, wantedA, okDst, Tryd.ntmps35, Nat.reduceLT, decide_true, step1, isOwnCall, hxOp, px, AS.eval, ofConst, ofVal, thenQ, AS.put, enumA, Nat.zero_add, Nat.reduceAdd, dropKey, reduceCtorEq, Nat.reduceEqDiff, true_and]
  refine SW.seq (SW.seq (SW.run [] _ ?_))
  simp only [wpC, Bool.false_eq_true, ↓reduceIte, wpS, stops, wantedA, okDst, Nat.reduceLT, decide_true, step1, isOwnCall, hxOp, px, AS.eval, AS.get, Lift.look, Nat.succ_ne_zero, Option.getD_some, thenQ, AS.put, dropKey, Nat.reduceEqDiff, reduceCtorEq, true_and]
  refine SW.block ?_
  iterate 15 refine SW.caseNe rfl rfl rfl rfl rfl rfl rfl rfl (by decide) rfl rfl rfl rfl ?_
  refine SW.caseEq rfl rfl rfl rfl rfl rfl rfl rfl (by decide) rfl rfl rfl rfl ?_
  refine SW.run [eReal] _ ?_
  simp only [wpC, mayStop, stops, isFlt, Specs.has, eReal, Specs.hasO, Nat.reduceLeDiff, Nat.reduceSub, false_and, ↓reduceIte, Bool.or_false, List.any_cons, Bool.not_true, ty89, Nat.reduceEqDiff, Bool.not_false, List.any_nil, Bool.or_true, Bool.false_eq_true, wpS, wantedA, okDst, Nat.reduceLT, decide_true, step1, isOwnCall, hxOp, px, AS.eval, AS.get, Lift.look, reduceCtorEq, Option.getD_some, and_self, AS.put, dropKey, pcall, okArg, ofConst, ofVal, List.all_cons, List.all_nil, Bool.and_true, Specs.at, List.map_cons, List.map_nil, sReal, true_and]
  refine SWO.fop .quo 89 89 _ _ rfl rfl rfl rfl rfl rfl ?_
  intro r0 h0
  refine SWO.run [eBits] 1000 ?_
  simp only [wpS, stops, Specs.has, eBits, ↓reduceIte, Specs.hasO, Nat.reduceLeDiff, Nat.reduceSub, reduceCtorEq, and_self, Bool.or_false, Bool.not_true, Bool.false_eq_true, wantedA, okDst, AS.put, dropKey, Nat.reduceEqDiff, Nat.reduceLT, decide_true, step1, isOwnCall, hxOp, px, pcall, okArg, AS.eval, AS.get, Lift.look, ofConst, ofVal, List.all_cons, Option.getD_some, List.all_nil, Bool.and_true, Specs.at, List.map_cons, List.map_nil, sBits, fopS_law h0, thenQ, true_and]
  refine SW.run [] _ ?_
  simp only [wpC, inQ, thenQ, RPost, sres, Tryd.results35, sresL, sres1, AS.get, Lift.look, ↓reduceIte, Option.getD_some, Option.some.injEq, Ret_fin, HTo_self, and_true, exists_eq_left']
  rfl
theorem compC_23 (x y : Int) (h : Heap) : SCalls env 35 [.int .i64 23, .int .i64 x, .int .i64 y] h (Ret (.int .i64 (compS 23 x y)) h) := by
  refine SCalls.body Tryd.func35 rfl rfl (by simp [Tryd.ntmps35]) ?_
  refine SW.seq (SW.run [] _ ?_)
  simp only [wpC, Bool.false_eq_true, ↓reduceIte, wpS, stops, wantedA, okDst, Tryd.ntmps35, Nat.reduceLT, decide_true, step1, isOwnCall, hxOp, px, AS.eval, ofConst, ofVal, thenQ, AS.put, enumA, Nat.zero_add, Nat.reduceAdd, dropKey, reduceCtorEq, Nat.reduceEqDiff, true_and]
  refine SW.seq (SW.seq (SW.run [] _ ?_))
  simp only [wpC, Bool.false_eq_true, ↓reduceIte, wpS, stops, wantedA, okDst, Nat.reduceLT, decide_true, step1, isOwnCall, hxOp, px, AS.eval, AS.get, Lift.look, Nat.succ_ne_zero, Option.getD_some, thenQ, AS.put, dropKey, Nat.reduceEqDiff, reduceCtorEq, true_and]
  refine SW.block ?_
  iterate 16 refine SW.caseNe rfl rfl rfl rfl rfl rfl rfl rfl (by decide) rfl rfl rfl rfl ?_
  refine SW.run [] _ ?_
  simp only [wpC, inQ, thenQ]
  have e : compS 23 x y = fnegS x := rfl
  rw [e]
  unfold fnegS nanI
  cases hb : (FloatKind.f64.format.order (realN x) (realN x) != some .eq) with
  | true =>
    refine SW.run [eReal] _ ?_
    simp only [wpC, mayStop, stops, isFlt, Specs.has, eReal, Specs.hasO, Nat.reduceLeDiff, Nat.reduceSub, false_and, ↓reduceIte, Bool.or_false, List.any_cons, Bool.not_true, List.any_nil, Bool.false_eq_true, wpS, wantedA, okDst, Nat.reduceLT, decide_true, step1, isOwnCall, hxOp, px, AS.eval, AS.get, Lift.look, Nat.reduceEqDiff, reduceCtorEq, Option.getD_some, and_self, AS.put, dropKey, pcall, okArg, ofConst, ofVal, List.all_cons, List.all_nil, Bool.and_true, Specs.at, List.map_cons, List.map_nil, sReal, pbinP, pflt, pfcmp, hb, thenQ, isB, tmpOf, asB, RPost, sres, Tryd.results35, sresL, sres1, Option.some.injEq, Ret_fin, HTo_self, and_true, exists_eq_left']
  | false =>
    refine SW.run [eReal] _ ?_
    simp only [wpC, mayStop, stops, isFlt, Specs.has, eReal, Specs.hasO, Nat.reduceLeDiff, Nat.reduceSub, false_and, ↓reduceIte, Bool.or_false, List.any_cons, Bool.not_true, List.any_nil, Bool.false_eq_true, wpS, wantedA, okDst, Nat.reduceLT, decide_true, step1, isOwnCall, hxOp, px, AS.eval, AS.get, Lift.look, Nat.reduceEqDiff, reduceCtorEq, Option.getD_some, and_self, AS.put, dropKey, pcall, okArg, ofConst, ofVal, List.all_cons, List.all_nil, Bool.and_true, Specs.at, List.map_cons, List.map_nil, sReal, pbinP, pflt, pfcmp, hb, thenQ, isB, tmpOf, asB, pbinI, RPost, sres, Tryd.results35, sresL, sres1, Option.some.injEq, Ret_fin, HTo_self, and_true, exists_eq_left']
theorem compR_1 (a b c i : Int) (x y : Int) (h : Heap) : SCalls env 36 [.agg [.int .i64 1, .int .i64 a, .int .i64 b, .int .i64 c, .int .i64 i], .int .i64 x, .int .i64 y] h (Ret (.int .i64 (i)) h) := by
  refine SCalls.body Tryd.func36 rfl rfl (by simp [Tryd.ntmps36]) ?_
  refine SW.seq (SW.run [] _ ?_)
  simp only [wpC, Bool.false_eq_true, ↓reduceIte, wpS, stops, wantedA, okDst, Tryd.ntmps36, Nat.reduceLT, decide_true, step1, known1, AS.eval, AS.get, enumA, Nat.zero_add, Nat.reduceAdd, Lift.look, Option.getD_some, AS.put, dropKey, reduceCtorEq, Nat.reduceEqDiff, isOwnCall, hxOp, px, ofConst, ofVal, thenQ, PV.cells, List.length_cons, List.length_nil, true_and]
  intro r hr
  refine SW.seq (SW.seq (SW.run [] _ ?_))
  simp only [wpC, Bool.false_eq_true, ↓reduceIte, wpS, stops, wantedA, okDst, Nat.reduceLT, decide_true, step1, isOwnCall, hxOp, px, pfieldAddr, fieldOf, ty25, fieldIn, List.getElem?_cons_zero, ty3, Option.map_some, AS.eval, AS.get, Lift.look, Nat.reduceEqDiff, Option.getD_some, ne_eq, Nat.succ_ne_zero, not_false_eq_true, Nat.add_zero, AS.put, dropKey, reduceCtorEq, pload, Heap.get_put, okOne, TK.isAgg, beq_self_eq_true, Bool.or_true, Nat.zero_add, List.length_cons, List.length_nil, Nat.reduceAdd, Nat.reduceLeDiff, and_self, Lift.valOf, List.drop_zero, List.take_succ_cons, List.take_zero, List.getD_cons_zero, thenQ, true_and]
  refine SW.block ?_
  refine SW.caseEq rfl rfl rfl rfl rfl rfl rfl rfl (by decide) rfl rfl rfl rfl ?_
  refine SW.run [] _ ?_
  simp only [wpC, mayStop, stops, isFlt, Specs.has, Specs.hasO, Bool.or_false, Bool.not_false, List.any_cons, List.any_nil, Bool.false_eq_true, ↓reduceIte, wpS, wantedA, okDst, Nat.reduceLT, decide_true, step1, isOwnCall, hxOp, px, pfieldAddr, fieldOf, ty25, fieldIn, List.getElem?_cons_succ, List.getElem?_cons_zero, ty3, Option.map_some, AS.eval, AS.get, Lift.look, Nat.reduceEqDiff, Option.getD_some, ne_eq, Nat.succ_ne_zero, not_false_eq_true, Nat.zero_add, AS.put, dropKey, reduceCtorEq, pload, Heap.get_put, okOne, TK.isAgg, beq_self_eq_true, Bool.or_true, Nat.reduceAdd, List.length_cons, List.length_nil, Nat.le_refl, and_self, Lift.valOf, List.drop_succ_cons, List.drop_zero, List.take_succ_cons, List.take_nil, List.getD_cons_zero, thenQ, inQ, RPost, sres, Tryd.results36, sresL, sres1, Option.some.injEq, Ret_fin, exists_eq_left', true_and]
  exact HTo.put (.refl _ _) hr _
theorem compR_2 (a b c i : Int) (x y : Int) (h : Heap) : SCalls env 36 [.agg [.int .i64 2, .int .i64 a, .int .i64 b, .int .i64 c, .int .i64 i], .int .i64 x, .int .i64 y] h (Ret (.int .i64 (highS i x)) h) := by
  refine SCalls.body Tryd.func36 rfl rfl (by simp [Tryd.ntmps36]) ?_
  refine SW.seq (SW.run [] _ ?_)
  simp only [wpC, Bool.false_eq_true, ↓reduceIte, wpS, stops, wantedA, okDst, Tryd.ntmps36, Nat.reduceLT, decide_true, step1, known1, AS.eval, AS.get, enumA, Nat.zero_add, Nat.reduceAdd, Lift.look, Option.getD_some, AS.put, dropKey, reduceCtorEq, Nat.reduceEqDiff, isOwnCall, hxOp, px, ofConst, ofVal, thenQ, PV.cells, List.length_cons, List.length_nil, true_and]
  intro r hr
  refine SW.seq (SW.seq (SW.run [] _ ?_))
  simp only [wpC, Bool.false_eq_true, ↓reduceIte, wpS, stops, wantedA, okDst, Nat.reduceLT, decide_true, step1, isOwnCall, hxOp, px, pfieldAddr, fieldOf, ty25, fieldIn, List.getElem?_cons_zero, ty3, Option.map_some, AS.eval, AS.get, Lift.look, Nat.reduceEqDiff, Option.getD_some, ne_eq, Nat.succ_ne_zero, not_false_eq_true, Nat.add_zero, AS.put, dropKey, reduceCtorEq, pload, Heap.get_put, okOne, TK.isAgg, beq_self_eq_true, Bool.or_true, Nat.zero_add, List.length_cons, List.length_nil, Nat.reduceAdd, Nat.reduceLeDiff, and_self, Lift.valOf, List.drop_zero, List.take_succ_cons, List.take_zero, List.getD_cons_zero, thenQ, true_and]
  refine SW.block ?_
  iterate 1 refine SW.caseNe rfl rfl rfl rfl rfl rfl rfl rfl (by decide) rfl rfl rfl rfl ?_
  refine SW.caseEq rfl rfl rfl rfl rfl rfl rfl rfl (by decide) rfl rfl rfl rfl ?_
  refine SW.run [] _ ?_
  simp only [wpC, mayStop, stops, isFlt, Specs.has, Specs.hasO, Bool.or_false, Bool.not_false, List.any_cons, ty2, List.any_nil, Bool.false_eq_true, ↓reduceIte, wpS, wantedA, okDst, Nat.reduceLT, decide_true, step1, isOwnCall, hxOp, px, pfieldAddr, fieldOf, ty25, fieldIn, List.getElem?_cons_succ, List.getElem?_cons_zero, ty3, Option.map_some, AS.eval, AS.get, Lift.look, Nat.reduceEqDiff, Option.getD_some, ne_eq, Nat.succ_ne_zero, not_false_eq_true, Nat.zero_add, AS.put, dropKey, reduceCtorEq, pload, Heap.get_put, okOne, TK.isAgg, beq_self_eq_true, Bool.or_true, Nat.reduceAdd, List.length_cons, List.length_nil, Nat.le_refl, and_self, Lift.valOf, List.drop_succ_cons, List.drop_zero, List.take_succ_cons, List.take_nil, List.getD_cons_zero, pbinP, ofConst, ofVal, pbinI, Int.reduceLE, Int.reduceToNat, and32, high_ref, thenQ, inQ, RPost, sres, Tryd.results36, sresL, sres1, Option.some.injEq, Ret_fin, exists_eq_left', true_and]
  exact HTo.put (.refl _ _) hr _
theorem compR_3 (a b c i : Int) (x y : Int) (h : Heap) : SCalls env 36 [.agg [.int .i64 3, .int .i64 a, .int .i64 b, .int .i64 c, .int .i64 i], .int .i64 x, .int .i64 y] h (Ret (.int .i64 (compS 3 x y)) h) := by
  refine SCalls.body Tryd.func36 rfl rfl (by simp [Tryd.ntmps36]) ?_
  refine SW.seq (SW.run [] _ ?_)
  simp only [wpC, Bool.false_eq_true, ↓reduceIte, wpS, stops, wantedA, okDst, Tryd.ntmps36, Nat.reduceLT, decide_true, step1, known1, AS.eval, AS.get, enumA, Nat.zero_add, Nat.reduceAdd, Lift.look, Option.getD_some, AS.put, dropKey, reduceCtorEq, Nat.reduceEqDiff, isOwnCall, hxOp, px, ofConst, ofVal, thenQ, PV.cells, List.length_cons, List.length_nil, true_and]
  intro r hr
  refine SW.seq (SW.seq (SW.run [] _ ?_))
  simp only [wpC, Bool.false_eq_true, ↓reduceIte, wpS, stops, wantedA, okDst, Nat.reduceLT, decide_true, step1, isOwnCall, hxOp, px, pfieldAddr, fieldOf, ty25, fieldIn, List.getElem?_cons_zero, ty3, Option.map_some, AS.eval, AS.get, Lift.look, Nat.reduceEqDiff, Option.getD_some, ne_eq, Nat.succ_ne_zero, not_false_eq_true, Nat.add_zero, AS.put, dropKey, reduceCtorEq, pload, Heap.get_put, okOne, TK.isAgg, beq_self_eq_true, Bool.or_true, Nat.zero_add, List.length_cons, List.length_nil, Nat.reduceAdd, Nat.reduceLeDiff, and_self, Lift.valOf, List.drop_zero, List.take_succ_cons, List.take_zero, List.getD_cons_zero, thenQ, true_and]
  refine SW.block ?_
  iterate 2 refine SW.caseNe rfl rfl rfl rfl rfl rfl rfl rfl (by decide) rfl rfl rfl rfl ?_
  refine SW.caseEq rfl rfl rfl rfl rfl rfl rfl rfl (by decide) rfl rfl rfl rfl ?_
  refine SW.run [] _ ?_
  simp only [wpC, mayStop, stops, isFlt, Specs.has, Specs.hasO, Bool.or_false, Bool.not_false, List.any_cons, List.any_nil, Bool.false_eq_true, ↓reduceIte, wpS, wantedA, okDst, Nat.reduceLT, decide_true, step1, isOwnCall, hxOp, px, AS.eval, AS.get, Lift.look, Nat.reduceEqDiff, reduceCtorEq, Option.getD_some, AS.put, dropKey, thenQ, inQ, RPost, sres, Tryd.results36, sresL, sres1, Option.some.injEq, Ret_fin, exists_eq_left', true_and]
  exact ⟨rfl, HTo.put (.refl _ _) hr _⟩
theorem compR_8 (a b c i : Int) (x y : Int) (h : Heap) : SCalls env 36 [.agg [.int .i64 8, .int .i64 a, .int .i64 b, .int .i64 c, .int .i64 i], .int .i64 x, .int .i64 y] h (Ret (.int .i64 (compS 8 x y)) h) := by
  refine SCalls.body Tryd.func36 rfl rfl (by simp [Tryd.ntmps36]) ?_
  refine SW.seq (SW.run [] _ ?_)
  simp only [wpC, Bool.false_eq_true, ↓reduceIte, wpS, stops, wantedA, okDst, Tryd.ntmps36, Nat.reduceLT, decide_true, step1, known1, AS.eval, AS.get, enumA, Nat.zero_add, Nat.reduceAdd, Lift.look, Option.getD_some, AS.put, dropKey, reduceCtorEq, Nat.reduceEqDiff, isOwnCall, hxOp, px, ofConst, ofVal, thenQ, PV.cells, List.length_cons, List.length_nil, true_and]
  intro r hr
  refine SW.seq (SW.seq (SW.run [] _ ?_))
  simp only [wpC, Bool.false_eq_true, ↓reduceIte, wpS, stops, wantedA, okDst, Nat.reduceLT, decide_true, step1, isOwnCall, hxOp, px, pfieldAddr, fieldOf, ty25, fieldIn, List.getElem?_cons_zero, ty3, Option.map_some, AS.eval, AS.get, Lift.look, Nat.reduceEqDiff, Option.getD_some, ne_eq, Nat.succ_ne_zero, not_false_eq_true, Nat.add_zero, AS.put, dropKey, reduceCtorEq, pload, Heap.get_put, okOne, TK.isAgg, beq_self_eq_true, Bool.or_true, Nat.zero_add, List.length_cons, List.length_nil, Nat.reduceAdd, Nat.reduceLeDiff, and_self, Lift.valOf, List.drop_zero, List.take_succ_cons, List.take_zero, List.getD_cons_zero, thenQ, true_and]
  refine SW.block ?_
  iterate 3 refine SW.caseNe rfl rfl rfl rfl rfl rfl rfl rfl (by decide) rfl rfl rfl rfl ?_
  refine SW.caseEq rfl rfl rfl rfl rfl rfl rfl rfl (by decide) rfl rfl rfl rfl ?_
  refine SW.run [] _ ?_
  simp only [wpC, mayStop, stops, isFlt, Specs.has, Specs.hasO, Bool.or_false, Bool.not_false, List.any_cons, ty2, List.any_nil, Bool.false_eq_true, ↓reduceIte, wpS, wantedA, okDst, Nat.reduceLT, decide_true, step1, isOwnCall, hxOp, px, AS.eval, AS.get, Lift.look, Nat.reduceEqDiff, reduceCtorEq, Option.getD_some, AS.put, dropKey, pbinP, pbinI, thenQ, inQ, RPost, sres, Tryd.results36, sresL, sres1, Option.some.injEq, Ret_fin, exists_eq_left', true_and]
  exact ⟨rfl, HTo.put (.refl _ _) hr _⟩
theorem compR_9 (a b c i : Int) (x y : Int) (h : Heap) : SCalls env 36 [.agg [.int .i64 9, .int .i64 a, .int .i64 b, .int .i64 c, .int .i64 i], .int .i64 x, .int .i64 y] h (Ret (.int .i64 (compS 9 x y)) h) := by
  refine SCalls.body Tryd.func36 rfl rfl (by simp [Tryd.ntmps36]) ?_
  refine SW.seq (SW.run [] _ ?_)
  simp only [wpC, Bool.false_eq_true, ↓reduceIte, wpS, stops, wantedA, okDst, Tryd.ntmps36, Nat.reduceLT, decide_true, step1, known1, AS.eval, AS.get, enumA, Nat.zero_add, Nat.reduceAdd, Lift.look, Option.getD_some, AS.put, dropKey, reduceCtorEq, Nat.reduceEqDiff, isOwnCall, hxOp, px, ofConst, ofVal, thenQ, PV.cells, List.length_cons, List.length_nil, true_and]
  intro r hr
  refine SW.seq (SW.seq (SW.run [] _ ?_))
  simp only [wpC, Bool.false_eq_true, ↓reduceIte, wpS, stops, wantedA, okDst, Nat.reduceLT, decide_true, step1, isOwnCall, hxOp, px, pfieldAddr, fieldOf, ty25, fieldIn, List.getElem?_cons_zero, ty3, Option.map_some, AS.eval, AS.get, Lift.look, Nat.reduceEqDiff, Option.getD_some, ne_eq, Nat.succ_ne_zero, not_false_eq_true, Nat.add_zero, AS.put, dropKey, reduceCtorEq, pload, Heap.get_put, okOne, TK.isAgg, beq_self_eq_true, Bool.or_true, Nat.zero_add, List.length_cons, List.length_nil, Nat.reduceAdd, Nat.reduceLeDiff, and_self, Lift.valOf, List.drop_zero, List.take_succ_cons, List.take_zero, List.getD_cons_zero, thenQ, true_and]
  refine SW.block ?_
  iterate 4 refine SW.caseNe rfl rfl rfl rfl rfl rfl rfl rfl (by decide) rfl rfl rfl rfl ?_
  refine SW.caseEq rfl rfl rfl rfl rfl rfl rfl rfl (by decide) rfl rfl rfl rfl ?_
  refine SW.run [] _ ?_
  simp only [wpC, mayStop, stops, isFlt, Specs.has, Specs.hasO, Bool.or_false, Bool.not_false, List.any_cons, ty2, List.any_nil, Bool.false_eq_true, ↓reduceIte, wpS, wantedA, okDst, Nat.reduceLT, decide_true, step1, isOwnCall, hxOp, px, AS.eval, AS.get, Lift.look, Nat.reduceEqDiff, reduceCtorEq, Option.getD_some, AS.put, dropKey, pbinP, pbinI, thenQ, inQ, RPost, sres, Tryd.results36, sresL, sres1, Option.some.injEq, Ret_fin, exists_eq_left', true_and]
  exact ⟨rfl, HTo.put (.refl _ _) hr _⟩
theorem compR_10 (a b c i : Int) (x y : Int) (h : Heap) : SCalls env 36 [.agg [.int .i64 10, .int .i64 a, .int .i64 b, .int .i64 c, .int .i64 i], .int .i64 x, .int .i64 y] h (Ret (.int .i64 (compS 10 x y)) h) := by
  refine SCalls.body Tryd.func36 rfl rfl (by simp [Tryd.ntmps36]) ?_
  refine SW.seq (SW.run [] _ ?_)
  simp only [wpC, Bool.false_eq_true, ↓reduceIte, wpS, stops, wantedA, okDst, Tryd.ntmps36, Nat.reduceLT, decide_true, step1, known1, AS.eval, AS.get, enumA, Nat.zero_add, Nat.reduceAdd, Lift.look, Option.getD_some, AS.put, dropKey, reduceCtorEq, Nat.reduceEqDiff, isOwnCall, hxOp, px, ofConst, ofVal, thenQ, PV.cells, List.length_cons, List.length_nil, true_and]
  intro r hr
  refine SW.seq (SW.seq (SW.run [] _ ?_))
  simp only [wpC, Bool.false_eq_true, ↓reduceIte, wpS, stops, wantedA, okDst, Nat.reduceLT, decide_true, step1, isOwnCall, hxOp, px, pfieldAddr, fieldOf, ty25, fieldIn, List.getElem?_cons_zero, ty3, Option.map_some, AS.eval, AS.get, Lift.look, Nat.reduceEqDiff, Option.getD_some, ne_eq, Nat.succ_ne_zero, not_false_eq_true, Nat.add_zero, AS.put, dropKey, reduceCtorEq, pload, Heap.get_put, okOne, TK.isAgg, beq_self_eq_true, Bool.or_true, Nat.zero_add, List.length_cons, List.length_nil, Nat.reduceAdd, Nat.reduceLeDiff, and_self, Lift.valOf, List.drop_zero, List.take_succ_cons, List.take_zero, List.getD_cons_zero, thenQ, true_and]
  refine SW.block ?_
  iterate 5 refine SW.caseNe rfl rfl rfl rfl rfl rfl rfl rfl (by decide) rfl rfl rfl rfl ?_
  refine SW.caseEq rfl rfl rfl rfl rfl rfl rfl rfl (by decide) rfl rfl rfl rfl ?_
  refine SW.run [] _ ?_
  simp only [wpC, mayStop, stops, isFlt, Specs.has, Specs.hasO, Bool.or_false, Bool.not_false, List.any_cons, ty2, List.any_nil, Bool.false_eq_true, ↓reduceIte, wpS, wantedA, okDst, Nat.reduceLT, decide_true, step1, isOwnCall, hxOp, px, AS.eval, AS.get, Lift.look, Nat.reduceEqDiff, reduceCtorEq, Option.getD_some, AS.put, dropKey, pbinP, pbinI, thenQ, inQ, RPost, sres, Tryd.results36, sresL, sres1, Option.some.injEq, Ret_fin, exists_eq_left', true_and]
  exact ⟨rfl, HTo.put (.refl _ _) hr _⟩
theorem compR_11 (a b c i : Int) (x y : Int) (h : Heap) : SCalls env 36 [.agg [.int .i64 11, .int .i64 a, .int .i64 b, .int .i64 c, .int .i64 i], .int .i64 x, .int .i64 y] h (Ret (.int .i64 (compS 11 x y)) h) := by
  refine SCalls.body Tryd.func36 rfl rfl (by simp [Tryd.ntmps36]) ?_
  refine SW.seq (SW.run [] _ ?_)
  simp only [wpC, Bool.false_eq_true, ↓reduceIte, wpS, stops, wantedA, okDst, Tryd.ntmps36, Nat.reduceLT, decide_true, step1, known1, AS.eval, AS.get, enumA, Nat.zero_add, Nat.reduceAdd, Lift.look, Option.getD_some, AS.put, dropKey, reduceCtorEq, Nat.reduceEqDiff, isOwnCall, hxOp, px, ofConst, ofVal, thenQ, PV.cells, List.length_cons, List.length_nil, true_and]
  intro r hr
  refine SW.seq (SW.seq (SW.run [] _ ?_))
  simp only [wpC, Bool.false_eq_true, ↓reduceIte, wpS, stops, wantedA, okDst, Nat.reduceLT, decide_true, step1, isOwnCall, hxOp, px, pfieldAddr, fieldOf, ty25, fieldIn, List.getElem?_cons_zero, ty3, Option.map_some, AS.eval, AS.get, Lift.look, Nat.reduceEqDiff, Option.getD_some, ne_eq, Nat.succ_ne_zero, not_false_eq_true, Nat.add_zero, AS.put, dropKey, reduceCtorEq, pload, Heap.get_put, okOne, TK.isAgg, beq_self_eq_true, Bool.or_true, Nat.zero_add, List.length_cons, List.length_nil, Nat.reduceAdd, Nat.reduceLeDiff, and_self, Lift.valOf, List.drop_zero, List.take_succ_cons, List.take_zero, List.getD_cons_zero, thenQ, true_and]
  refine SW.block ?_
  iterate 6 refine SW.caseNe rfl rfl rfl rfl rfl rfl rfl rfl (by decide) rfl rfl rfl rfl ?_
  refine SW.caseEq rfl rfl rfl rfl rfl rfl rfl rfl (by decide) rfl rfl rfl rfl ?_
  refine SW.run [] _ ?_
  simp only [wpC, mayStop, stops, isFlt, Specs.has, Specs.hasO, Bool.or_false, Bool.not_false, List.any_cons, List.any_nil, Bool.false_eq_true, ↓reduceIte, wpS, wantedA, okDst, Nat.reduceLT, decide_true, step1, isOwnCall, hxOp, px, AS.eval, AS.get, Lift.look, Nat.reduceEqDiff, reduceCtorEq, Option.getD_some, AS.put, dropKey, pbinP, pbinI, thenQ, inQ, RPost, sres, Tryd.results36, sresL, sres1, Option.some.injEq, Ret_fin, exists_eq_left', true_and]
  exact ⟨rfl, HTo.put (.refl _ _) hr _⟩
theorem compR_12 (a b c i : Int) (x y : Int) (h : Heap) : SCalls env 36 [.agg [.int .i64 12, .int .i64 a, .int .i64 b, .int .i64 c, .int .i64 i], .int .i64 x, .int .i64 y] h (Ret (.int .i64 (compS 12 x y)) h) := by
  refine SCalls.body Tryd.func36 rfl rfl (by simp [Tryd.ntmps36]) ?_
  refine SW.seq (SW.run [] _ ?_)
  simp only [wpC, Bool.false_eq_true, ↓reduceIte, wpS, stops, wantedA, okDst, Tryd.ntmps36, Nat.reduceLT, decide_true, step1, known1, AS.eval, AS.get, enumA, Nat.zero_add, Nat.reduceAdd, Lift.look, Option.getD_some, AS.put, dropKey, reduceCtorEq, Nat.reduceEqDiff, isOwnCall, hxOp, px, ofConst, ofVal, thenQ, PV.cells, List.length_cons, List.length_nil, true_and]
  intro r hr
  refine SW.seq (SW.seq (SW.run [] _ ?_))
  simp only [wpC, Bool.false_eq_true, ↓reduceIte, wpS, stops, wantedA, okDst, Nat.reduceLT, decide_true, step1, isOwnCall, hxOp, px, pfieldAddr, fieldOf, ty25, fieldIn, List.getElem?_cons_zero, ty3, Option.map_some, AS.eval, AS.get, Lift.look, Nat.reduceEqDiff, Option.getD_some, ne_eq, Nat.succ_ne_zero, not_false_eq_true, Nat.add_zero, AS.put, dropKey, reduceCtorEq, pload, Heap.get_put, okOne, TK.isAgg, beq_self_eq_true, Bool.or_true, Nat.zero_add, List.length_cons, List.length_nil, Nat.reduceAdd, Nat.reduceLeDiff, and_self, Lift.valOf, List.drop_zero, List.take_succ_cons, List.take_zero, List.getD_cons_zero, thenQ, true_and]
  refine SW.block ?_
  iterate 7 refine SW.caseNe rfl rfl rfl rfl rfl rfl rfl rfl (by decide) rfl rfl rfl rfl ?_
  refine SW.caseEq rfl rfl rfl rfl rfl rfl rfl rfl (by decide) rfl rfl rfl rfl ?_
  refine SW.run [] _ ?_
  simp only [wpC, mayStop, stops, isFlt, Specs.has, Specs.hasO, Bool.or_false, Bool.not_false, List.any_cons, List.any_nil, Bool.false_eq_true, ↓reduceIte, wpS, wantedA, okDst, Nat.reduceLT, decide_true, step1, isOwnCall, hxOp, px, AS.eval, AS.get, Lift.look, Nat.reduceEqDiff, reduceCtorEq, Option.getD_some, AS.put, dropKey, pbinP, pbinI, thenQ, inQ, RPost, sres, Tryd.results36, sresL, sres1, Option.some.injEq, Ret_fin, exists_eq_left', true_and]
  exact ⟨rfl, HTo.put (.refl _ _) hr _⟩
theorem compR_13 (a b c i : Int) (x y : Int) (h : Heap) : SCalls env 36 [.agg [.int .i64 13, .int .i64 a, .int .i64 b, .int .i64 c, .int .i64 i], .int .i64 x, .int .i64 y] h (Ret (.int .i64 (compS 13 x y)) h) := by
  refine SCalls.body Tryd.func36 rfl rfl (by simp [Tryd.ntmps36]) ?_
  refine SW.seq (SW.run [] _ ?_)
  simp only [wpC, Bool.false_eq_true, ↓reduceIte, wpS, stops, wantedA, okDst, Tryd.ntmps36, Nat.reduceLT, decide_true, step1, known1, AS.eval, AS.get, enumA, Nat.zero_add, Nat.reduceAdd, Lift.look, Option.getD_some, AS.put, dropKey, reduceCtorEq, Nat.reduceEqDiff, isOwnCall, hxOp, px, ofConst, ofVal, thenQ, PV.cells, List.length_cons, List.length_nil, true_and]
  intro r hr
  refine SW.seq (SW.seq (SW.run [] _ ?_))
  simp only [wpC, Bool.false_eq_true, ↓reduceIte, wpS, stops, wantedA, okDst, Nat.reduceLT, decide_true, step1, isOwnCall, hxOp, px, pfieldAddr, fieldOf, ty25, fieldIn, List.getElem?_cons_zero, ty3, Option.map_some, AS.eval, AS.get, Lift.look, Nat.reduceEqDiff, Option.getD_some, ne_eq, Nat.succ_ne_zero, not_false_eq_true, Nat.add_zero, AS.put, dropKey, reduceCtorEq, pload, Heap.get_put, okOne, TK.isAgg, beq_self_eq_true, Bool.or_true, Nat.zero_add, List.length_cons, List.length_nil, Nat.reduceAdd, Nat.reduceLeDiff, and_self, Lift.valOf, List.drop_zero, List.take_succ_cons, List.take_zero, List.getD_cons_zero, thenQ, true_and]
  refine SW.block ?_
  iterate 8 refine SW.caseNe rfl rfl rfl rfl rfl rfl rfl rfl (by decide) rfl rfl rfl rfl ?_
  refine SW.caseEq rfl rfl rfl rfl rfl rfl rfl rfl (by decide) rfl rfl rfl rfl ?_
  refine SW.run [] _ ?_
  simp only [wpC, mayStop, stops, isFlt, Specs.has, Specs.hasO, Bool.or_false, Bool.not_false, List.any_cons, List.any_nil, Bool.false_eq_true, ↓reduceIte, wpS, wantedA, okDst, Nat.reduceLT, decide_true, step1, isOwnCall, hxOp, px, AS.eval, AS.get, Lift.look, Nat.reduceEqDiff, reduceCtorEq, Option.getD_some, AS.put, dropKey, pbinP, pbinI, thenQ, inQ, RPost, sres, Tryd.results36, sresL, sres1, Option.some.injEq, Ret_fin, exists_eq_left', true_and]
  exact ⟨rfl, HTo.put (.refl _ _) hr _⟩
theorem compR_14 (a b c i : Int) (x y : Int) (h : Heap) : SCalls env 36 [.agg [.int .i64 14, .int .i64 a, .int .i64 b, .int .i64 c, .int .i64 i], .int .i64 x, .int .i64 y] h (Ret (.int .i64 (compS 14 x y)) h) := by
  refine SCalls.body Tryd.func36 rfl rfl (by simp [Tryd.ntmps36]) ?_
  refine SW.seq (SW.run [] _ ?_)
  simp only [wpC, Bool.false_eq_true, ↓reduceIte, wpS, stops, wantedA, okDst, Tryd.ntmps36, Nat.reduceLT, decide_true, step1, known1, AS.eval, AS.get, enumA, Nat.zero_add, Nat.reduceAdd, Lift.look, Option.getD_some, AS.put, dropKey, reduceCtorEq, Nat.reduceEqDiff, isOwnCall, hxOp, px, ofConst, ofVal, thenQ, PV.cells, List.length_cons, List.length_nil, true_and]
  intro r hr
  refine SW.seq (SW.seq (SW.run [] _ ?_))
  simp only [wpC, Bool.false_eq_true, ↓reduceIte, wpS, stops, wantedA, okDst, Nat.reduceLT, decide_true, step1, isOwnCall, hxOp, px, pfieldAddr, fieldOf, ty25, fieldIn, List.getElem?_cons_zero, ty3, Option.map_some, AS.eval, AS.get, Lift.look, Nat.reduceEqDiff, Option.getD_some, ne_eq, Nat.succ_ne_zero, not_false_eq_true, Nat.add_zero, AS.put, dropKey, reduceCtorEq, pload, Heap.get_put, okOne, TK.isAgg, beq_self_eq_true, Bool.or_true, Nat.zero_add, List.length_cons, List.length_nil, Nat.reduceAdd, Nat.reduceLeDiff, and_self, Lift.valOf, List.drop_zero, List.take_succ_cons, List.take_zero, List.getD_cons_zero, thenQ, true_and]
  refine SW.block ?_
  iterate 9 refine SW.caseNe rfl rfl rfl rfl rfl rfl rfl rfl (by decide) rfl rfl rfl rfl ?_
  refine SW.caseEq rfl rfl rfl rfl rfl rfl rfl rfl (by decide) rfl rfl rfl rfl ?_
  have e : compS 14 x y = shlS x y := rfl
  rw [e]
  unfold shlS
  by_cases h0 : y < 0
  · rw [if_pos (.inl h0)]
    refine SW.run [] _ ?_
    simp only [wpC, mayStop, stops, isFlt, Specs.has, Specs.hasO, Bool.or_false, Bool.not_false, List.any_cons, List.any_nil, Bool.false_eq_true, ↓reduceIte, wpS, wantedA, okDst, Nat.reduceLT, decide_true, step1, isOwnCall, hxOp, px, AS.eval, AS.get, Lift.look, Nat.reduceEqDiff, reduceCtorEq, Option.getD_some, AS.put, dropKey, pbinP, ofConst, ofVal, pbinI, h0, List.getElem?_toArray, List.getElem?_cons_succ, List.getElem?_cons_zero, Option.bind_some, beq_tf, Option.some.injEq, ppick_true, thenQ, isB, tmpOf, asB, inQ, RPost, sres, Tryd.results36, sresL, sres1, Ret_fin, exists_eq_left', true_and]
    exact HTo.put (.refl _ _) hr _
  · by_cases h1 : 63 < y
    · rw [if_pos (.inr h1)]
      refine SW.run [] _ ?_
      simp only [wpC, mayStop, stops, isFlt, Specs.has, Specs.hasO, Bool.or_false, Bool.not_false, List.any_cons, List.any_nil, Bool.false_eq_true, ↓reduceIte, wpS, wantedA, okDst, Nat.reduceLT, decide_true, step1, isOwnCall, hxOp, px, AS.eval, AS.get, Lift.look, Nat.reduceEqDiff, reduceCtorEq, Option.getD_some, AS.put, dropKey, pbinP, ofConst, ofVal, pbinI, h0, decide_false, List.getElem?_toArray, List.getElem?_cons_succ, List.getElem?_cons_zero, Option.bind_some, beq_self_eq_true, h1, ppick_bool, thenQ, isB, tmpOf, asB, inQ, RPost, sres, Tryd.results36, sresL, sres1, Option.some.injEq, Ret_fin, exists_eq_left', true_and]
      exact HTo.put (.refl _ _) hr _
    · rw [if_neg (by omega)]
      have hn : 0 ≤ y := by omega
      refine SW.run [] _ ?_
      simp only [wpC, mayStop, stops, isFlt, Specs.has, Specs.hasO, Bool.or_false, Bool.not_false, List.any_cons, List.any_nil, Bool.false_eq_true, ↓reduceIte, wpS, wantedA, okDst, Nat.reduceLT, decide_true, step1, isOwnCall, hxOp, px, AS.eval, AS.get, Lift.look, Nat.reduceEqDiff, reduceCtorEq, Option.getD_some, AS.put, dropKey, pbinP, ofConst, ofVal, pbinI, h0, decide_false, List.getElem?_toArray, List.getElem?_cons_succ, List.getElem?_cons_zero, Option.bind_some, beq_self_eq_true, h1, ppick_bool, thenQ, isB, tmpOf, asB, hn, inQ, RPost, sres, Tryd.results36, sresL, sres1, Option.some.injEq, Ret_fin, exists_eq_left', true_and]
      exact HTo.put (.refl _ _) hr _
theorem compR_15 (a b c i : Int) (x y : Int) (h : Heap) : SCalls env 36 [.agg [.int .i64 15, .int .i64 a, .int .i64 b, .int .i64 c, .int .i64 i], .int .i64 x, .int .i64 y] h (Ret (.int .i64 (compS 15 x y)) h) := by
  refine SCalls.body Tryd.func36 rfl rfl (by simp [Tryd.ntmps36]) ?_
  refine SW.seq (SW.run [] _ ?_)
  simp only [wpC, Bool.false_eq_true, ↓reduceIte, wpS, stops, wantedA, okDst, Tryd.ntmps36, Nat.reduceLT, decide_true, step1, known1, AS.eval, AS.get, enumA, Nat.zero_add, Nat.reduceAdd, Lift.look, Option.getD_some, AS.put, dropKey, reduceCtorEq, Nat.reduceEqDiff, isOwnCall, hxOp, px, ofConst, ofVal, thenQ, PV.cells, List.length_cons, List.length_nil, true_and]
  intro r hr
  refine SW.seq (SW.seq (SW.run [] _ ?_))
  simp only [wpC, Bool.false_eq_true, ↓reduceIte, wpS, stops, wantedA, okDst, Nat.reduceLT, decide_true, step1, isOwnCall, hxOp, px, pfieldAddr, fieldOf, ty25, fieldIn, List.getElem?_cons_zero, ty3, Option.map_some, AS.eval, AS.get, Lift.look, Nat.reduceEqDiff, Option.getD_some, ne_eq, Nat.succ_ne_zero, not_false_eq_true, Nat.add_zero, AS.put, dropKey, reduceCtorEq, pload, Heap.get_put, okOne, TK.isAgg, beq_self_eq_true, Bool.or_true, Nat.zero_add, List.length_cons, List.length_nil, Nat.reduceAdd, Nat.reduceLeDiff, and_self, Lift.valOf, List.drop_zero, List.take_succ_cons, List.take_zero, List.getD_cons_zero, thenQ, true_and]
  refine SW.block ?_
  iterate 10 refine SW.caseNe rfl rfl rfl rfl rfl rfl rfl rfl (by decide) rfl rfl rfl rfl ?_
  refine SW.caseEq rfl rfl rfl rfl rfl rfl rfl rfl (by decide) rfl rfl rfl rfl ?_
  have e : compS 15 x y = shrS x y := rfl
  rw [e]
  unfold shrS
  by_cases h0 : y < 0
  · rw [if_pos (.inl h0)]
    refine SW.run [] _ ?_
    simp only [wpC, mayStop, stops, isFlt, Specs.has, Specs.hasO, Bool.or_false, Bool.not_false, List.any_cons, List.any_nil, Bool.false_eq_true, ↓reduceIte, wpS, wantedA, okDst, Nat.reduceLT, decide_true, step1, isOwnCall, hxOp, px, AS.eval, AS.get, Lift.look, Nat.reduceEqDiff, reduceCtorEq, Option.getD_some, AS.put, dropKey, pbinP, ofConst, ofVal, pbinI, h0, List.getElem?_toArray, List.getElem?_cons_succ, List.getElem?_cons_zero, Option.bind_some, beq_tf, Option.some.injEq, ppick_true, thenQ, isB, tmpOf, asB, Int.reduceLE, Int.reduceToNat, inQ, RPost, sres, Tryd.results36, sresL, sres1, Ret_fin, exists_eq_left', true_and]
    exact HTo.put (.refl _ _) hr _
  · by_cases h1 : 63 < y
    · rw [if_pos (.inr h1)]
      refine SW.run [] _ ?_
      simp only [wpC, mayStop, stops, isFlt, Specs.has, Specs.hasO, Bool.or_false, Bool.not_false, List.any_cons, List.any_nil, Bool.false_eq_true, ↓reduceIte, wpS, wantedA, okDst, Nat.reduceLT, decide_true, step1, isOwnCall, hxOp, px, AS.eval, AS.get, Lift.look, Nat.reduceEqDiff, reduceCtorEq, Option.getD_some, AS.put, dropKey, pbinP, ofConst, ofVal, pbinI, h0, decide_false, List.getElem?_toArray, List.getElem?_cons_succ, List.getElem?_cons_zero, Option.bind_some, beq_self_eq_true, h1, ppick_bool, thenQ, isB, tmpOf, asB, Int.reduceLE, Int.reduceToNat, inQ, RPost, sres, Tryd.results36, sresL, sres1, Option.some.injEq, Ret_fin, exists_eq_left', true_and]
      exact HTo.put (.refl _ _) hr _
    · rw [if_neg (by omega)]
      have hn : 0 ≤ y := by omega
      refine SW.run [] _ ?_
      simp only [wpC, mayStop, stops, isFlt, Specs.has, Specs.hasO, Bool.or_false, Bool.not_false, List.any_cons, List.any_nil, Bool.false_eq_true, ↓reduceIte, wpS, wantedA, okDst, Nat.reduceLT, decide_true, step1, isOwnCall, hxOp, px, AS.eval, AS.get, Lift.look, Nat.reduceEqDiff, reduceCtorEq, Option.getD_some, AS.put, dropKey, pbinP, ofConst, ofVal, pbinI, h0, decide_false, List.getElem?_toArray, List.getElem?_cons_succ, List.getElem?_cons_zero, Option.bind_some, beq_self_eq_true, h1, ppick_bool, thenQ, isB, tmpOf, asB, hn, inQ, RPost, sres, Tryd.results36, sresL, sres1, Option.some.injEq, Ret_fin, exists_eq_left', true_and]
      exact HTo.put (.refl _ _) hr _
theorem compR_16 (a b c i : Int) (x y : Int) (h : Heap) : SCalls env 36 [.agg [.int .i64 16, .int .i64 a, .int .i64 b, .int .i64 c, .int .i64 i], .int .i64 x, .int .i64 y] h (Ret (.int .i64 (compS 16 x y)) h) := by
  refine SCalls.body Tryd.func36 rfl rfl (by simp [Tryd.ntmps36]) ?_
  refine SW.seq (SW.run [] _ ?_)
  simp only [wpC, Bool.false_eq_true, ↓reduceIte, wpS, stops, wantedA, okDst, Tryd.ntmps36, Nat.reduceLT, decide_true, step1, known1, AS.eval, AS.get, enumA, Nat.zero_add, Nat.reduceAdd, Lift.look, Option.getD_some, AS.put, dropKey, reduceCtorEq, Nat.reduceEqDiff, isOwnCall, hxOp, px, ofConst, ofVal, thenQ, PV.cells, List.length_cons, List.length_nil, true_and]
  intro r hr
  refine SW.seq (SW.seq (SW.run [] _ ?_))
  simp only [wpC, Bool.false_eq_true, ↓reduceIte, wpS, stops, wantedA, okDst, Nat.reduceLT, decide_true, step1, isOwnCall, hxOp, px, pfieldAddr, fieldOf, ty25, fieldIn, List.getElem?_cons_zero, ty3, Option.map_some, AS.eval, AS.get, Lift.look, Nat.reduceEqDiff, Option.getD_some, ne_eq, Nat.succ_ne_zero, not_false_eq_true, Nat.add_zero, AS.put, dropKey, reduceCtorEq, pload, Heap.get_put, okOne, TK.isAgg, beq_self_eq_true, Bool.or_true, Nat.zero_add, List.length_cons, List.length_nil, Nat.reduceAdd, Nat.reduceLeDiff, and_self, Lift.valOf, List.drop_zero, List.take_succ_cons, List.take_zero, List.getD_cons_zero, thenQ, true_and]
  refine SW.block ?_
  iterate 11 refine SW.caseNe rfl rfl rfl rfl rfl rfl rfl rfl (by decide) rfl rfl rfl rfl ?_
  refine SW.caseEq rfl rfl rfl rfl rfl rfl rfl rfl (by decide) rfl rfl rfl rfl ?_
  refine SW.run [] _ ?_
  simp only [wpC, mayStop, stops, isFlt, Specs.has, Specs.hasO, Bool.or_false, Bool.not_false, List.any_cons, List.any_nil, Bool.false_eq_true, ↓reduceIte, wpS, wantedA, okDst, Nat.reduceLT, decide_true, step1, isOwnCall, hxOp, px, AS.eval, AS.get, Lift.look, Nat.reduceEqDiff, reduceCtorEq, Option.getD_some, AS.put, dropKey, pun, thenQ, inQ, RPost, sres, Tryd.results36, sresL, sres1, Option.some.injEq, Ret_fin, exists_eq_left', true_and]
  exact ⟨rfl, HTo.put (.refl _ _) hr _⟩
theorem compR_17 (a b c i : Int) (x y : Int) (h : Heap) : SCalls env 36 [.agg [.int .i64 17, .int .i64 a, .int .i64 b, .int .i64 c, .int .i64 i], .int .i64 x, .int .i64 y] h (Ret (.int .i64 (compS 17 x y)) h) := by
  refine SCalls.body Tryd.func36 rfl rfl (by simp [Tryd.ntmps36]) ?_
  refine SW.seq (SW.run [] _ ?_)
  simp only [wpC, Bool.false_eq_true, ↓reduceIte, wpS, stops, wantedA, okDst, Tryd.ntmps36, Nat.reduceLT, decide_true, step1, known1, AS.eval, AS.get, enumA, Nat.zero_add, Nat.reduceAdd, Lift.look, Option.getD_some, AS.put, dropKey, reduceCtorEq, Nat.reduceEqDiff, isOwnCall, hxOp, px, ofConst, ofVal, thenQ, PV.cells, List.length_cons, List.length_nil, true_and]
  intro r hr
  refine SW.seq (SW.seq (SW.run [] _ ?_))
  simp only [wpC, Bool.false_eq_true, ↓reduceIte, wpS, stops, wantedA, okDst, Nat.reduceLT, decide_true, step1, isOwnCall, hxOp, px, pfieldAddr, fieldOf, ty25, fieldIn, List.getElem?_cons_zero, ty3, Option.map_some, AS.eval, AS.get, Lift.look, Nat.reduceEqDiff, Option.getD_some, ne_eq, Nat.succ_ne_zero, not_false_eq_true, Nat.add_zero, AS.put, dropKey, reduceCtorEq, pload, Heap.get_put, okOne, TK.isAgg, beq_self_eq_true, Bool.or_true, Nat.zero_add, List.length_cons, List.length_nil, Nat.reduceAdd, Nat.reduceLeDiff, and_self, Lift.valOf, List.drop_zero, List.take_succ_cons, List.take_zero, List.getD_cons_zero, thenQ, true_and]
  refine SW.block ?_
  iterate 12 refine SW.caseNe rfl rfl rfl rfl rfl rfl rfl rfl (by decide) rfl rfl rfl rfl ?_
  refine SW.caseEq rfl rfl rfl rfl rfl rfl rfl rfl (by decide) rfl rfl rfl rfl ?_
  refine SW.run [] _ ?_
  simp only [wpC, mayStop, stops, isFlt, Specs.has, Specs.hasO, Bool.or_false, Bool.not_false, List.any_cons, List.any_nil, Bool.false_eq_true, ↓reduceIte, wpS, wantedA, okDst, Nat.reduceLT, decide_true, step1, isOwnCall, hxOp, px, AS.eval, AS.get, Lift.look, Nat.reduceEqDiff, reduceCtorEq, Option.getD_some, AS.put, dropKey, pbinP, ofConst, ofVal, pbinI, and255, thenQ, inQ, RPost, sres, Tryd.results36, sresL, sres1, Option.some.injEq, Ret_fin, exists_eq_left', true_and]
  exact ⟨rfl, HTo.put (.refl _ _) hr _⟩
theorem compR_18 (a b c i : Int) (x y : Int) (h : Heap) : SCalls env 36 [.agg [.int .i64 18, .int .i64 a, .int .i64 b, .int .i64 c, .int .i64 i], .int .i64 x, .int .i64 y] h (Ret (.int .i64 (compS 18 x y)) h) := by
  refine SCalls.body Tryd.func36 rfl rfl (by simp [Tryd.ntmps36]) ?_
  refine SW.seq (SW.run [] _ ?_)
  simp only [wpC, Bool.false_eq_true, ↓reduceIte, wpS, stops, wantedA, okDst, Tryd.ntmps36, Nat.reduceLT, decide_true, step1, known1, AS.eval, AS.get, enumA, Nat.zero_add, Nat.reduceAdd, Lift.look, Option.getD_some, AS.put, dropKey, reduceCtorEq, Nat.reduceEqDiff, isOwnCall, hxOp, px, ofConst, ofVal, thenQ, PV.cells, List.length_cons, List.length_nil, true_and]
  intro r hr
  refine SW.seq (SW.seq (SW.run [] _ ?_))
  simp only [wpC, Bool.false_eq_true, ↓reduceIte, wpS, stops, wantedA, okDst, Nat.reduceLT, decide_true, step1, isOwnCall, hxOp, px, pfieldAddr, fieldOf, ty25, fieldIn, List.getElem?_cons_zero, ty3, Option.map_some, AS.eval, AS.get, Lift.look, Nat.reduceEqDiff, Option.getD_some, ne_eq, Nat.succ_ne_zero, not_false_eq_true, Nat.add_zero, AS.put, dropKey, reduceCtorEq, pload, Heap.get_put, okOne, TK.isAgg, beq_self_eq_true, Bool.or_true, Nat.zero_add, List.length_cons, List.length_nil, Nat.reduceAdd, Nat.reduceLeDiff, and_self, Lift.valOf, List.drop_zero, List.take_succ_cons, List.take_zero, List.getD_cons_zero, thenQ, true_and]
  refine SW.block ?_
  iterate 13 refine SW.caseNe rfl rfl rfl rfl rfl rfl rfl rfl (by decide) rfl rfl rfl rfl ?_
  refine SW.caseEq rfl rfl rfl rfl rfl rfl rfl rfl (by decide) rfl rfl rfl rfl ?_
  refine SW.run [] _ ?_
  simp only [wpC, mayStop, stops, isFlt, Specs.has, Specs.hasO, Bool.or_false, Bool.not_false, List.any_cons, List.any_nil, Bool.false_eq_true, ↓reduceIte, wpS, wantedA, okDst, Nat.reduceLT, decide_true, step1, isOwnCall, hxOp, px, AS.eval, AS.get, Lift.look, Nat.reduceEqDiff, reduceCtorEq, Option.getD_some, AS.put, dropKey, ty2, ty21, pconvH, pconv, thenQ, inQ, RPost, sres, Tryd.results36, sresL, sres1, Option.some.injEq, Ret_fin, exists_eq_left', true_and]
  exact ⟨rfl, HTo.put (.refl _ _) hr _⟩
theorem compR_19 (a b c i : Int) (x y : Int) (h : Heap) : SCalls env 36 [.agg [.int .i64 19, .int .i64 a, .int .i64 b, .int .i64 c, .int .i64 i], .int .i64 x, .int .i64 y] h (Ret (.int .i64 (compS 19 x y)) h) := by
  refine SCalls.body Tryd.func36 rfl rfl (by simp [Tryd.ntmps36]) ?_
  refine SW.seq (SW.run [] _ ?_)
  simp only [wpC, Bool.false_eq_true, ↓reduceIte, wpS, stops, wantedA, okDst, Tryd.ntmps36, Nat.reduceLT, decide_true, step1, known1, AS.eval, AS.get, enumA, Nat.zero_add, Nat.reduceAdd, Lift.look, Option.getD_some, AS.put, dropKey, reduceCtorEq, Nat.reduceEqDiff, isOwnCall, hxOp, px, ofConst, ofVal, thenQ, PV.cells, List.length_cons, List.length_nil, true_and]
  intro r hr
  refine SW.seq (SW.seq (SW.run [] _ ?_))
  simp only [wpC, Bool.false_eq_true, ↓reduceIte, wpS, stops, wantedA, okDst, Nat.reduceLT, decide_true, step1, isOwnCall, hxOp, px, pfieldAddr, fieldOf, ty25, fieldIn, List.getElem?_cons_zero, ty3, Option.map_some, AS.eval, AS.get, Lift.look, Nat.reduceEqDiff, Option.getD_some, ne_eq, Nat.succ_ne_zero, not_false_eq_true, Nat.add_zero, AS.put, dropKey, reduceCtorEq, pload, Heap.get_put, okOne, TK.isAgg, beq_self_eq_true, Bool.or_true, Nat.zero_add, List.length_cons, List.length_nil, Nat.reduceAdd, Nat.reduceLeDiff, and_self, Lift.valOf, List.drop_zero, List.take_succ_cons, List.take_zero, List.getD_cons_zero, thenQ, true_and]
  refine SW.block ?_
  iterate 14 refine SW.caseNe rfl rfl rfl rfl rfl rfl rfl rfl (by decide) rfl rfl rfl rfl ?_
  refine SW.caseEq rfl rfl rfl rfl rfl rfl rfl rfl (by decide) rfl rfl rfl rfl ?_
  refine SW.run [eRealR] _ ?_
  simp only [wpC, mayStop, stops, isFlt, Specs.has, eRealR, Specs.hasO, Nat.reduceLeDiff, Nat.reduceSub, false_and, ↓reduceIte, Bool.or_false, List.any_cons, Bool.not_true, ty89, Nat.reduceEqDiff, Bool.not_false, List.any_nil, Bool.or_true, Bool.false_eq_true, wpS, wantedA, okDst, Nat.reduceLT, decide_true, step1, isOwnCall, hxOp, px, AS.eval, AS.get, Lift.look, reduceCtorEq, Option.getD_some, and_self, AS.put, dropKey, pcall, okArg, ofConst, ofVal, List.all_cons, List.all_nil, Bool.and_true, Specs.at, List.map_cons, List.map_nil, sReal, true_and]
  refine SWO.fop .add 89 89 _ _ rfl rfl rfl rfl rfl rfl ?_
  intro r0 h0
  refine SWO.run [eBitsR] 1000 ?_
  simp only [wpS, stops, Specs.has, eBitsR, ↓reduceIte, Specs.hasO, Nat.reduceLeDiff, Nat.reduceSub, reduceCtorEq, and_self, Bool.or_false, Bool.not_true, Bool.false_eq_true, wantedA, okDst, AS.put, dropKey, Nat.reduceEqDiff, Nat.reduceLT, decide_true, step1, isOwnCall, hxOp, px, pcall, okArg, AS.eval, AS.get, Lift.look, ofConst, ofVal, List.all_cons, Option.getD_some, List.all_nil, Bool.and_true, Specs.at, List.map_cons, List.map_nil, sBits, fopS_law h0, thenQ, true_and]
  refine SW.run [] _ ?_
  simp only [wpC, inQ, thenQ, RPost, sres, Tryd.results36, sresL, sres1, AS.get, Lift.look, ↓reduceIte, Option.getD_some, Option.some.injEq, Ret_fin, exists_eq_left']
  exact ⟨rfl, HTo.put (.refl _ _) hr _⟩
theorem compR_20 (a b c i : Int) (x y : Int) (h : Heap) : SCalls env 36 [.agg [.int .i64 20, .int .i64 a, .int .i64 b, .int .i64 c, .int .i64 i], .int .i64 x, .int .i64 y] h (Ret (.int .i64 (compS 20 x y)) h) := by
  refine SCalls.body Tryd.func36 rfl rfl (by simp [Tryd.ntmps36]) ?_
  refine SW.seq (SW.run [] _ ?_)
  simp only [wpC, Bool.false_eq_true, ↓reduceIte, wpS, stops, wantedA, okDst, Tryd.ntmps36, Nat.reduceLT, decide_true, step1, known1, AS.eval, AS.get, enumA, Nat.zero_add, Nat.reduceAdd, Lift.look, Option.getD_some, AS.put, dropKey, reduceCtorEq, Nat.reduceEqDiff, isOwnCall, hxOp, px, ofConst, ofVal, thenQ, PV.cells, List.length_cons, List.length_nil, true_and]
  intro r hr
  refine SW.seq (SW.seq (SW.run [] _ ?_))
  simp only [wpC, Bool.false_eq_true, ↓reduceIte, wpS, stops, wantedA, okDst, Nat.reduceLT, decide_true, step1, isOwnCall, hxOp, px, pfieldAddr, fieldOf, ty25, fieldIn, List.getElem?_cons_zero, ty3, Option.map_some, AS.eval, AS.get, Lift.look, Nat.reduceEqDiff, Option.getD_some, ne_eq, Nat.succ_ne_zero, not_false_eq_true, Nat.add_zero, AS.put, dropKey, reduceCtorEq, pload, Heap.get_put, okOne, TK.isAgg, beq_self_eq_true, Bool.or_true, Nat.zero_add, List.length_cons, List.length_nil, Nat.reduceAdd, Nat.reduceLeDiff, and_self, Lift.valOf, List.drop_zero, List.take_succ_cons, List.take_zero, List.getD_cons_zero, thenQ, true_and]
  refine SW.block ?_
  iterate 15 refine SW.caseNe rfl rfl rfl rfl rfl rfl rfl rfl (by decide) rfl rfl rfl rfl ?_
  refine SW.caseEq rfl rfl rfl rfl rfl rfl rfl rfl (by decide) rfl rfl rfl rfl ?_
  refine SW.run [eRealR] _ ?_
  simp only [wpC, mayStop, stops, isFlt, Specs.has, eRealR, Specs.hasO, Nat.reduceLeDiff, Nat.reduceSub, false_and, ↓reduceIte, Bool.or_false, List.any_cons, Bool.not_true, ty89, Nat.reduceEqDiff, Bool.not_false, List.any_nil, Bool.or_true, Bool.false_eq_true, wpS, wantedA, okDst, Nat.reduceLT, decide_true, step1, isOwnCall, hxOp, px, AS.eval, AS.get, Lift.look, reduceCtorEq, Option.getD_some, and_self, AS.put, dropKey, pcall, okArg, ofConst, ofVal, List.all_cons, List.all_nil, Bool.and_true, Specs.at, List.map_cons, List.map_nil, sReal, true_and]
  refine SWO.fop .sub 89 89 _ _ rfl rfl rfl rfl rfl rfl ?_
  intro r0 h0
  refine SWO.run [eBitsR] 1000 ?_
  simp only [wpS, stops, Specs.has, eBitsR, ↓reduceIte, Specs.hasO, Nat.reduceLeDiff, Nat.reduceSub, reduceCtorEq, and_self, Bool.or_false, Bool.not_true, Bool.false_eq_true, wantedA, okDst, AS.put, dropKey, Nat.reduceEqDiff, Nat.reduceLT, decide_true, step1, isOwnCall, hxOp, px, pcall, okArg, AS.eval, AS.get, Lift.look, ofConst, ofVal, List.all_cons, Option.getD_some, List.all_nil, Bool.and_true, Specs.at, List.map_cons, List.map_nil, sBits, fopS_law h0, thenQ, true_and]
  refine SW.run [] _ ?_
  simp only [wpC, inQ, thenQ, RPost, sres, Tryd.results36, sresL, sres1, AS.get, Lift.look, ↓reduceIte, Option.getD_some, Option.some.injEq, Ret_fin, exists_eq_left']
  exact ⟨rfl, HTo.put (.refl _ _) hr _⟩
theorem compR_21 (a b c i : Int) (x y : Int) (h : Heap) : SCalls env 36 [.agg [.int .i64 21, .int .i64 a, .int .i64 b, .int .i64 c, .int .i64 i], .int .i64 x, .int .i64 y] h (Ret (.int .i64 (compS 21 x y)) h) := by
  refine SCalls.body Tryd.func36 rfl rfl (by simp [Tryd.ntmps36]) ?_
  refine SW.seq (SW.run [] _ ?_)
  simp only [wpC, Bool.false_eq_true, ↓reduceIte, wpS, stops, wantedA, okDst, Tryd.ntmps36, Nat.reduceLT, decide_true, step1, known1, AS.eval, AS.get, enumA, Nat.zero_add, Nat.reduceAdd, Lift.look, Option.getD_some, AS.put, dropKey, reduceCtorEq, Nat.reduceEqDiff, isOwnCall, hxOp, px, ofConst, ofVal, thenQ, PV.cells, List.length_cons, List.length_nil, true_and]
  intro r hr
  refine SW.seq (SW.seq (SW.run [] _ ?_))
  simp only [wpC, Bool.false_eq_true, ↓reduceIte, wpS, stops, wantedA, okDst, Nat.reduceLT, decide_true, step1, isOwnCall, hxOp, px, pfieldAddr, fieldOf, ty25, fieldIn, List.getElem?_cons_zero, ty3, Option.map_some, AS.eval, AS.get, Lift.look, Nat.reduceEqDiff, Option.getD_some, ne_eq, Nat.succ_ne_zero, not_false_eq_true, Nat.add_zero, AS.put, dropKey, reduceCtorEq, pload, Heap.get_put, okOne, TK.isAgg, beq_self_eq_true, Bool.or_true, Nat.zero_add, List.length_cons, List.length_nil, Nat.reduceAdd, Nat.reduceLeDiff, and_self, Lift.valOf, List.drop_zero, List.take_succ_cons, List.take_zero, List.getD_cons_zero, thenQ, true_and]
  refine SW.block ?_
  iterate 16 refine SW.caseNe rfl rfl rfl rfl rfl rfl rfl rfl (by decide) rfl rfl rfl rfl ?_
  refine SW.caseEq rfl rfl rfl rfl rfl rfl rfl rfl (by decide) rfl rfl rfl rfl ?_
  refine SW.run [eRealR] _ ?_
  simp only [wpC, mayStop, stops, isFlt, Specs.has, eRealR, Specs.hasO, Nat.reduceLeDiff, Nat.reduceSub, false_and, ↓reduceIte, Bool.or_false, List.any_cons, Bool.not_true, ty89, Nat.reduceEqDiff, Bool.not_false, List.any_nil, Bool.or_true, Bool.false_eq_true, wpS, wantedA, okDst, Nat.reduceLT, decide_true, step1, isOwnCall, hxOp, px, AS.eval, AS.get, Lift.look, reduceCtorEq, Option.getD_some, and_self, AS.put, dropKey, pcall, okArg, ofConst, ofVal, List.all_cons, List.all_nil, Bool.and_true, Specs.at, List.map_cons, List.map_nil, sReal, true_and]
  refine SWO.fop .mul 89 89 _ _ rfl rfl rfl rfl rfl rfl ?_
  intro r0 h0
  refine SWO.run [eBitsR] 1000 ?_
  simp only [wpS, stops, Specs.has, eBitsR, ↓reduceIte, Specs.hasO, Nat.reduceLeDiff, Nat.reduceSub, reduceCtorEq, and_self, Bool.or_false, Bool.not_true, Bool.false_eq_true, wantedA, okDst, AS.put, dropKey, Nat.reduceEqDiff, Nat.reduceLT, decide_true, step1, isOwnCall, hxOp, px, pcall, okArg, AS.eval, AS.get, Lift.look, ofConst, ofVal, List.all_cons, Option.getD_some, List.all_nil, Bool.and_true, Specs.at, List.map_cons, List.map_nil, sBits, fopS_law h0, thenQ, true_and]
  refine SW.run [] _ ?_
  simp only [wpC, inQ, thenQ, RPost, sres, Tryd.results36, sresL, sres1, AS.get, Lift.look, ↓reduceIte, Option.getD_some, Option.some.injEq, Ret_fin, exists_eq_left']
  exact ⟨rfl, HTo.put (.refl _ _) hr _⟩
theorem compR_22 (a b c i : Int) (x y : Int) (h : Heap) : SCalls env 36 [.agg [.int .i64 22, .int .i64 a, .int .i64 b, .int .i64 c, .int .i64 i], .int .i64 x, .int .i64 y] h (Ret (.int .i64 (compS 22 x y)) h) := by
  refine SCalls.body Tryd.func36 rfl rfl (by simp [Tryd.ntmps36]) ?_
  refine SW.seq (SW.run [] _ ?_)
  simp only [wpC, Bool.false_eq_true, ↓reduceIte, wpS, stops, wantedA, okDst, Tryd.ntmps36, Nat.reduceLT, decide_true, step1, known1, AS.eval, AS.get, enumA, Nat.zero_add, Nat.reduceAdd, Lift.look, Option.getD_some, AS.put, dropKey, reduceCtorEq, Nat.reduceEqDiff, isOwnCall, hxOp, px, ofConst, ofVal, thenQ, PV.cells, List.length_cons, List.length_nil, true_and]
  intro r hr
  refine SW.seq (SW.seq (SW.run [] _ ?_))
  simp only [wpC, Bool.false_eq_true, ↓reduceIte, wpS, stops, wantedA, okDst, Nat.reduceLT, decide_true, step1, isOwnCall, hxOp, px, pfieldAddr, fieldOf, ty25, fieldIn, List.getElem?_cons_zero, ty3, Option.map_some, AS.eval, AS.get, Lift.look, Nat.reduceEqDiff, Option.getD_some, ne_eq, Nat.succ_ne_zero, not_false_eq_true, Nat.add_zero, AS.put, dropKey, reduceCtorEq, pload, Heap.get_put, okOne, TK.isAgg, beq_self_eq_true, Bool.or_true, Nat.zero_add, List.length_cons, List.length_nil, Nat.reduceAdd, Nat.reduceLeDiff, and_self, Lift.valOf, List.drop_zero, List.take_succ_cons, List.take_zero, List.getD_cons_zero, thenQ, true_and]
  refine SW.block ?_
  iterate 17 refine SW.caseNe rfl rfl rfl rfl rfl rfl rfl rfl (by decide) rfl rfl rfl rfl ?_
  refine SW.caseEq rfl rfl rfl rfl rfl rfl rfl rfl (by decide) rfl rfl rfl rfl ?_
  refine SW.run [eRealR] _ ?_
  simp only [wpC, mayStop, stops, isFlt, Specs.has, eRealR, Specs.hasO, Nat.reduceLeDiff, Nat.reduceSub, false_and, ↓reduceIte, Bool.or_false, List.any_cons, Bool.not_true, ty89, Nat.reduceEqDiff, Bool.not_false, List.any_nil, Bool.or_true, Bool.false_eq_true, wpS, wantedA, okDst, Nat.reduceLT, decide_true, step1, isOwnCall, hxOp, px, AS.eval, AS.get, Lift.look, reduceCtorEq, Option.getD_some, and_self, AS.put, dropKey, pcall, okArg, ofConst, ofVal, List.all_cons, List.all_nil, Bool.and_true, Specs.at, List.map_cons, List.map_nil, sReal, true_and]
  refine SWO.fop .quo 89 89 _ _ rfl rfl rfl rfl rfl rfl ?_
  intro r0 h0
  refine SWO.run [eBitsR] 1000 ?_
  simp only [wpS, stops, Specs.has, eBitsR, ↓reduceIte, Specs.hasO, Nat.reduceLeDiff, Nat.reduceSub, reduceCtorEq, and_self, Bool.or_false, Bool.not_true, Bool.false_eq_true, wantedA, okDst, AS.put, dropKey, Nat.reduceEqDiff, Nat.reduceLT, decide_true, step1, isOwnCall, hxOp, px, pcall, okArg, AS.eval, AS.get, Lift.look, ofConst, ofVal, List.all_cons, Option.getD_some, List.all_nil, Bool.and_true, Specs.at, List.map_cons, List.map_nil, sBits, fopS_law h0, thenQ, true_and]
  refine SW.run [] _ ?_
  simp only [wpC, inQ, thenQ, RPost, sres, Tryd.results36, sresL, sres1, AS.get, Lift.look, ↓reduceIte, Option.getD_some, Option.some.injEq, Ret_fin, exists_eq_left']
  exact ⟨rfl, HTo.put (.refl _ _) hr _⟩
theorem compR_23 (a b c i : Int) (x y : Int) (h : Heap) : SCalls env 36 [.agg [.int .i64 23, .int .i64 a, .int .i64 b, .int .i64 c, .int .i64 i], .int .i64 x, .int .i64 y] h (Ret (.int .i64 (compS 23 x y)) h) := by
  refine SCalls.body Tryd.func36 rfl rfl (by simp [Tryd.ntmps36]) ?_
  refine SW.seq (SW.run [] _ ?_)
  simp only [wpC, Bool.false_eq_true, ↓reduceIte, wpS, stops, wantedA, okDst, Tryd.ntmps36, Nat.reduceLT, decide_true, step1, known1, AS.eval, AS.get, enumA, Nat.zero_add, Nat.reduceAdd, Lift.look, Option.getD_some, AS.put, dropKey, reduceCtorEq, Nat.reduceEqDiff, isOwnCall, hxOp, px, ofConst, ofVal, thenQ, PV.cells, List.length_cons, List.length_nil, true_and]
  intro r hr
  refine SW.seq (SW.seq (SW.run [] _ ?_))
  simp only [wpC, Bool.false_eq_true, ↓reduceIte, wpS, stops, wantedA, okDst, Nat.reduceLT, decide_true, step1, isOwnCall, hxOp, px, pfieldAddr, fieldOf, ty25, fieldIn, List.getElem?_cons_zero, ty3, Option.map_some, AS.eval, AS.get, Lift.look, Nat.reduceEqDiff, Option.getD_some, ne_eq, Nat.succ_ne_zero, not_false_eq_true, Nat.add_zero, AS.put, dropKey, reduceCtorEq, pload, Heap.get_put, okOne, TK.isAgg, beq_self_eq_true, Bool.or_true, Nat.zero_add, List.length_cons, List.length_nil, Nat.reduceAdd, Nat.reduceLeDiff, and_self, Lift.valOf, List.drop_zero, List.take_succ_cons, List.take_zero, List.getD_cons_zero, thenQ, true_and]
  refine SW.block ?_
  iterate 18 refine SW.caseNe rfl rfl rfl rfl rfl rfl rfl rfl (by decide) rfl rfl rfl rfl ?_
  refine SW.run [] _ ?_
  simp only [wpC, inQ, thenQ]
  have e : compS 23 x y = fnegS x := rfl
  rw [e]
  unfold fnegS nanI
  cases hb : (FloatKind.f64.format.order (realN x) (realN x) != some .eq) with
  | true =>
    refine SW.run [eRealR] _ ?_
    simp only [wpC, mayStop, stops, isFlt, Specs.has, eRealR, Specs.hasO, Nat.reduceLeDiff, Nat.reduceSub, false_and, ↓reduceIte, Bool.or_false, List.any_cons, Bool.not_true, List.any_nil, Bool.false_eq_true, wpS, wantedA, okDst, Nat.reduceLT, decide_true, step1, isOwnCall, hxOp, px, AS.eval, AS.get, Lift.look, Nat.reduceEqDiff, reduceCtorEq, Option.getD_some, and_self, AS.put, dropKey, pcall, okArg, ofConst, ofVal, List.all_cons, List.all_nil, Bool.and_true, Specs.at, List.map_cons, List.map_nil, sReal, thenQ, pbinP, pflt, pfcmp, hb, isB, tmpOf, asB, RPost, sres, Tryd.results36, sresL, sres1, Option.some.injEq, Ret_fin, exists_eq_left', true_and]
    exact HTo.put (.refl _ _) hr _
  | false =>
    refine SW.run [eRealR] _ ?_
    simp only [wpC, mayStop, stops, isFlt, Specs.has, eRealR, Specs.hasO, Nat.reduceLeDiff, Nat.reduceSub, false_and, ↓reduceIte, Bool.or_false, List.any_cons, Bool.not_true, List.any_nil, Bool.false_eq_true, wpS, wantedA, okDst, Nat.reduceLT, decide_true, step1, isOwnCall, hxOp, px, AS.eval, AS.get, Lift.look, Nat.reduceEqDiff, reduceCtorEq, Option.getD_some, and_self, AS.put, dropKey, pcall, okArg, ofConst, ofVal, List.all_cons, List.all_nil, Bool.and_true, Specs.at, List.map_cons, List.map_nil, sReal, thenQ, pbinP, pflt, pfcmp, hb, isB, tmpOf, asB, pbinI, RPost, sres, Tryd.results36, sresL, sres1, Option.some.injEq, Ret_fin, exists_eq_left', true_and]
    exact HTo.put (.refl _ _) hr _
def opC (op : Int) : Prop := op = 3 ∨ (8 ≤ op ∧ op ≤ 23)
theorem compute_ok (op x y : Int) (h : Heap) (ho : opC op) : SCalls env 35 [.int .i64 op, .int .i64 x, .int .i64 y] h (Ret (.int .i64 (compS op x y)) h) := by
  have : op = 3 ∨ op = 8 ∨ op = 9 ∨ op = 10 ∨ op = 11 ∨ op = 12 ∨ op = 13 ∨ op = 14 ∨ op = 15 ∨ op = 16 ∨ op = 17 ∨ op = 18 ∨ op = 19 ∨ op = 20 ∨ op = 21 ∨ op = 22 ∨ op = 23 := by unfold opC at ho; omega
  rcases this with rfl | rfl | rfl | rfl | rfl | rfl | rfl | rfl | rfl | rfl | rfl | rfl | rfl | rfl | rfl | rfl | rfl
  · exact compC_3 x y h
  · exact compC_8 x y h
  · exact compC_9 x y h
  · exact compC_10 x y h
  · exact compC_11 x y h
  · exact compC_12 x y h
  · exact compC_13 x y h
  · exact compC_14 x y h
  · exact compC_15 x y h
  · exact compC_16 x y h
  · exact compC_17 x y h
  · exact compC_18 x y h
  · exact compC_19 x y h
  · exact compC_20 x y h
  · exact compC_21 x y h
  · exact compC_22 x y h
  · exact compC_23 x y h
def sCompute : List PV → Prop × PV
  | [.int .i64 op, .int .i64 x, .int .i64 y] => (opC op, .int .i64 (compS op x y))
  | _ => PBad
noncomputable def eCompute : SpecE env := ⟨35, sCompute, fun args h hc => by
  unfold sCompute at hc ⊢
  split at hc
  · rename_i op x y; exact .inl (compute_ok op x y h hc)
  · exact hc.elim⟩
/-- What an instruction writes into its register. -/
def writeS (op i x y : Int) : Int := if op = 1 then i else if op = 2 then highS i x else compS op x y
theorem write1 (i x y : Int) : writeS 1 i x y = i := if_pos rfl
theorem write2 (i x y : Int) : writeS 2 i x y = highS i x := by
  unfold writeS
  rw [if_neg (by decide), if_pos rfl]
theorem write3 {op : Int} (i x y : Int) (h1 : op ≠ 1) (h2 : op ≠ 2) : writeS op i x y = compS op x y := by
  unfold writeS
  rw [if_neg h1, if_neg h2]
def opW (op : Int) : Prop := (1 ≤ op ∧ op ≤ 3) ∨ (8 ≤ op ∧ op ≤ 23)
theorem computeR_ok (op a b c i x y : Int) (h : Heap) (ho : opW op) : SCalls env 36 [.agg [.int .i64 op, .int .i64 a, .int .i64 b, .int .i64 c, .int .i64 i], .int .i64 x, .int .i64 y] h (Ret (.int .i64 (writeS op i x y)) h) := by
  have : op = 1 ∨ op = 2 ∨ op = 3 ∨ op = 8 ∨ op = 9 ∨ op = 10 ∨ op = 11 ∨ op = 12 ∨ op = 13 ∨ op = 14 ∨ op = 15 ∨ op = 16 ∨ op = 17 ∨ op = 18 ∨ op = 19 ∨ op = 20 ∨ op = 21 ∨ op = 22 ∨ op = 23 := by unfold opW at ho; omega
  rcases this with rfl | rfl | rfl | rfl | rfl | rfl | rfl | rfl | rfl | rfl | rfl | rfl | rfl | rfl | rfl | rfl | rfl | rfl | rfl
  · rw [write1]; exact compR_1 a b c i x y h
  · rw [write2]; exact compR_2 a b c i x y h
  · rw [write3 i x y (by decide) (by decide)]; exact compR_3 a b c i x y h
  · rw [write3 i x y (by decide) (by decide)]; exact compR_8 a b c i x y h
  · rw [write3 i x y (by decide) (by decide)]; exact compR_9 a b c i x y h
  · rw [write3 i x y (by decide) (by decide)]; exact compR_10 a b c i x y h
  · rw [write3 i x y (by decide) (by decide)]; exact compR_11 a b c i x y h
  · rw [write3 i x y (by decide) (by decide)]; exact compR_12 a b c i x y h
  · rw [write3 i x y (by decide) (by decide)]; exact compR_13 a b c i x y h
  · rw [write3 i x y (by decide) (by decide)]; exact compR_14 a b c i x y h
  · rw [write3 i x y (by decide) (by decide)]; exact compR_15 a b c i x y h
  · rw [write3 i x y (by decide) (by decide)]; exact compR_16 a b c i x y h
  · rw [write3 i x y (by decide) (by decide)]; exact compR_17 a b c i x y h
  · rw [write3 i x y (by decide) (by decide)]; exact compR_18 a b c i x y h
  · rw [write3 i x y (by decide) (by decide)]; exact compR_19 a b c i x y h
  · rw [write3 i x y (by decide) (by decide)]; exact compR_20 a b c i x y h
  · rw [write3 i x y (by decide) (by decide)]; exact compR_21 a b c i x y h
  · rw [write3 i x y (by decide) (by decide)]; exact compR_22 a b c i x y h
  · rw [write3 i x y (by decide) (by decide)]; exact compR_23 a b c i x y h
def sComputeR : List PV → Prop × PV
  | [.agg [.int .i64 op, .int .i64 a, .int .i64 b, .int .i64 c, .int .i64 i], .int .i64 x, .int .i64 y] => (opW op, .int .i64 (writeS op i x y))
  | _ => PBad
noncomputable def eComputeR : SpecE env := ⟨36, sComputeR, fun args h hc => by
  unfold sComputeR at hc ⊢
  split at hc
  · rename_i op a b c i x y; exact .inl (computeR_ok op a b c i x y h hc)
  · exact hc.elim⟩
/-! Does a jump go? -/
def holdS (op x y : Int) : Bool :=
  if op = 24 then x == y else if op = 25 then x != y else if op = 26 then decide (x < y)
  else if op = 27 then FloatKind.f64.format.order (realN x) (realN y) == some .eq else if op = 28 then FloatKind.f64.format.order (realN x) (realN y) != some .eq
  else if op = 29 then FloatKind.f64.format.order (realN x) (realN y) == some .lt
  else if op = 30 then FloatKind.f64.format.order (realN x) (realN y) == some .lt || FloatKind.f64.format.order (realN x) (realN y) == some .eq else true
theorem holdC_24 (x y : Int) (h : Heap) : SCalls env 34 [.int .i64 24, .int .i64 x, .int .i64 y] h (Ret (.bool (holdS 24 x y)) h) := by
  refine SCalls.body Tryd.func34 rfl rfl (by simp [Tryd.ntmps34]) ?_
  refine SW.seq (SW.run [] _ ?_)
  simp only [wpC, Bool.false_eq_true, ↓reduceIte, wpS, stops, wantedA, okDst, Tryd.ntmps34, Nat.reduceLT, decide_true, step1, isOwnCall, hxOp, px, AS.eval, ofConst, ofVal, thenQ, AS.put, enumA, Nat.zero_add, Nat.reduceAdd, dropKey, reduceCtorEq, Nat.reduceEqDiff, true_and]
  refine SW.seq (SW.seq (SW.run [] _ ?_))
  simp only [wpC, Bool.false_eq_true, ↓reduceIte, wpS, stops, wantedA, okDst, Nat.reduceLT, decide_true, step1, isOwnCall, hxOp, px, AS.eval, AS.get, Lift.look, Nat.succ_ne_zero, Option.getD_some, thenQ, AS.put, dropKey, Nat.reduceEqDiff, reduceCtorEq, true_and]
  refine SW.block ?_
  refine SW.caseEq rfl rfl rfl rfl rfl rfl rfl rfl (by decide) rfl rfl rfl rfl ?_
  refine SW.run [eReal] _ ?_
  simp only [wpC, mayStop, stops, isFlt, Specs.has, eReal, Specs.hasO, Nat.reduceLeDiff, Nat.reduceSub, false_and, ↓reduceIte, Bool.or_false, List.any_cons, List.any_nil, Bool.false_eq_true, wpS, wantedA, okDst, Nat.reduceLT, decide_true, step1, isOwnCall, hxOp, px, AS.eval, AS.get, Lift.look, Nat.reduceEqDiff, reduceCtorEq, Option.getD_some, AS.put, dropKey, pbinP, pbinI, thenQ, inQ, RPost, sres, Tryd.results34, sresL, sres1, Option.some.injEq, Ret_fin, HTo_self, and_true, exists_eq_left', true_and]
  rfl
theorem holdC_25 (x y : Int) (h : Heap) : SCalls env 34 [.int .i64 25, .int .i64 x, .int .i64 y] h (Ret (.bool (holdS 25 x y)) h) := by
  refine SCalls.body Tryd.func34 rfl rfl (by simp [Tryd.ntmps34]) ?_
  refine SW.seq (SW.run [] _ ?_)
  simp only [wpC, Bool.false_eq_true, ↓reduceIte, wpS, stops, wantedA, okDst, Tryd.ntmps34, Nat.reduceLT, decide_true, step1, isOwnCall, hxOp, px, AS.eval, ofConst, ofVal, thenQ, AS.put, enumA, Nat.zero_add, Nat.reduceAdd, dropKey, reduceCtorEq, Nat.reduceEqDiff, true_and]
  refine SW.seq (SW.seq (SW.run [] _ ?_))
  simp only [wpC, Bool.false_eq_true, ↓reduceIte, wpS, stops, wantedA, okDst, Nat.reduceLT, decide_true, step1, isOwnCall, hxOp, px, AS.eval, AS.get, Lift.look, Nat.succ_ne_zero, Option.getD_some, thenQ, AS.put, dropKey, Nat.reduceEqDiff, reduceCtorEq, true_and]
  refine SW.block ?_
  iterate 1 refine SW.caseNe rfl rfl rfl rfl rfl rfl rfl rfl (by decide) rfl rfl rfl rfl ?_
  refine SW.caseEq rfl rfl rfl rfl rfl rfl rfl rfl (by decide) rfl rfl rfl rfl ?_
  refine SW.run [eReal] _ ?_
  simp only [wpC, mayStop, stops, isFlt, Specs.has, eReal, Specs.hasO, Nat.reduceLeDiff, Nat.reduceSub, false_and, ↓reduceIte, Bool.or_false, List.any_cons, List.any_nil, Bool.false_eq_true, wpS, wantedA, okDst, Nat.reduceLT, decide_true, step1, isOwnCall, hxOp, px, AS.eval, AS.get, Lift.look, Nat.reduceEqDiff, reduceCtorEq, Option.getD_some, AS.put, dropKey, pbinP, pbinI, thenQ, inQ, RPost, sres, Tryd.results34, sresL, sres1, Option.some.injEq, Ret_fin, HTo_self, and_true, exists_eq_left', true_and]
  rfl
theorem holdC_26 (x y : Int) (h : Heap) : SCalls env 34 [.int .i64 26, .int .i64 x, .int .i64 y] h (Ret (.bool (holdS 26 x y)) h) := by
  refine SCalls.body Tryd.func34 rfl rfl (by simp [Tryd.ntmps34]) ?_
  refine SW.seq (SW.run [] _ ?_)
  simp only [wpC, Bool.false_eq_true, ↓reduceIte, wpS, stops, wantedA, okDst, Tryd.ntmps34, Nat.reduceLT, decide_true, step1, isOwnCall, hxOp, px, AS.eval, ofConst, ofVal, thenQ, AS.put, enumA, Nat.zero_add, Nat.reduceAdd, dropKey, reduceCtorEq, Nat.reduceEqDiff, true_and]
  refine SW.seq (SW.seq (SW.run [] _ ?_))
  simp only [wpC, Bool.false_eq_true, ↓reduceIte, wpS, stops, wantedA, okDst, Nat.reduceLT, decide_true, step1, isOwnCall, hxOp, px, AS.eval, AS.get, Lift.look, Nat.succ_ne_zero, Option.getD_some, thenQ, AS.put, dropKey, Nat.reduceEqDiff, reduceCtorEq, true_and]
  refine SW.block ?_
  iterate 2 refine SW.caseNe rfl rfl rfl rfl rfl rfl rfl rfl (by decide) rfl rfl rfl rfl ?_
  refine SW.caseEq rfl rfl rfl rfl rfl rfl rfl rfl (by decide) rfl rfl rfl rfl ?_
  refine SW.run [eReal] _ ?_
  simp only [wpC, mayStop, stops, isFlt, Specs.has, eReal, Specs.hasO, Nat.reduceLeDiff, Nat.reduceSub, false_and, ↓reduceIte, Bool.or_false, List.any_cons, List.any_nil, Bool.false_eq_true, wpS, wantedA, okDst, Nat.reduceLT, decide_true, step1, isOwnCall, hxOp, px, AS.eval, AS.get, Lift.look, Nat.reduceEqDiff, reduceCtorEq, Option.getD_some, AS.put, dropKey, pbinP, pbinI, thenQ, inQ, RPost, sres, Tryd.results34, sresL, sres1, Option.some.injEq, Ret_fin, HTo_self, and_true, exists_eq_left', true_and]
  rfl
theorem holdC_27 (x y : Int) (h : Heap) : SCalls env 34 [.int .i64 27, .int .i64 x, .int .i64 y] h (Ret (.bool (holdS 27 x y)) h) := by
  refine SCalls.body Tryd.func34 rfl rfl (by simp [Tryd.ntmps34]) ?_
  refine SW.seq (SW.run [] _ ?_)
  simp only [wpC, Bool.false_eq_true, ↓reduceIte, wpS, stops, wantedA, okDst, Tryd.ntmps34, Nat.reduceLT, decide_true, step1, isOwnCall, hxOp, px, AS.eval, ofConst, ofVal, thenQ, AS.put, enumA, Nat.zero_add, Nat.reduceAdd, dropKey, reduceCtorEq, Nat.reduceEqDiff, true_and]
  refine SW.seq (SW.seq (SW.run [] _ ?_))
  simp only [wpC, Bool.false_eq_true, ↓reduceIte, wpS, stops, wantedA, okDst, Nat.reduceLT, decide_true, step1, isOwnCall, hxOp, px, AS.eval, AS.get, Lift.look, Nat.succ_ne_zero, Option.getD_some, thenQ, AS.put, dropKey, Nat.reduceEqDiff, reduceCtorEq, true_and]
  refine SW.block ?_
  iterate 3 refine SW.caseNe rfl rfl rfl rfl rfl rfl rfl rfl (by decide) rfl rfl rfl rfl ?_
  refine SW.caseEq rfl rfl rfl rfl rfl rfl rfl rfl (by decide) rfl rfl rfl rfl ?_
  refine SW.run [eReal] _ ?_
  simp only [wpC, mayStop, stops, isFlt, Specs.has, eReal, Specs.hasO, Nat.reduceLeDiff, Nat.reduceSub, false_and, ↓reduceIte, Bool.or_false, List.any_cons, Bool.not_true, List.any_nil, Bool.false_eq_true, wpS, wantedA, okDst, Nat.reduceLT, decide_true, step1, isOwnCall, hxOp, px, AS.eval, AS.get, Lift.look, Nat.reduceEqDiff, reduceCtorEq, Option.getD_some, and_self, AS.put, dropKey, pcall, okArg, ofConst, ofVal, List.all_cons, List.all_nil, Bool.and_true, Specs.at, List.map_cons, List.map_nil, sReal, pbinP, pflt, pfcmp, thenQ, inQ, RPost, sres, Tryd.results34, sresL, sres1, Option.some.injEq, Ret_fin, HTo_self, and_true, exists_eq_left', true_and]
  rfl
theorem holdC_28 (x y : Int) (h : Heap) : SCalls env 34 [.int .i64 28, .int .i64 x, .int .i64 y] h (Ret (.bool (holdS 28 x y)) h) := by
  refine SCalls.body Tryd.func34 rfl rfl (by simp [Tryd.ntmps34]) ?_
  refine SW.seq (SW.run [] _ ?_)
  simp only [wpC, Bool.false_eq_true, ↓reduceIte, wpS, stops, wantedA, okDst, Tryd.ntmps34, Nat.reduceLT, decide_true, step1, isOwnCall, hxOp, px, AS.eval, ofConst, ofVal, thenQ, AS.put, enumA, Nat.zero_add, Nat.reduceAdd, dropKey, reduceCtorEq, Nat.reduceEqDiff, true_and]
  refine SW.seq (SW.seq (SW.run [] _ ?_))
  simp only [wpC, Bool.false_eq_true, ↓reduceIte, wpS, stops, wantedA, okDst, Nat.reduceLT, decide_true, step1, isOwnCall, hxOp, px, AS.eval, AS.get, Lift.look, Nat.succ_ne_zero, Option.getD_some, thenQ, AS.put, dropKey, Nat.reduceEqDiff, reduceCtorEq, true_and]
  refine SW.block ?_
  iterate 4 refine SW.caseNe rfl rfl rfl rfl rfl rfl rfl rfl (by decide) rfl rfl rfl rfl ?_
  refine SW.caseEq rfl rfl rfl rfl rfl rfl rfl rfl (by decide) rfl rfl rfl rfl ?_
  refine SW.run [eReal] _ ?_
  simp only [wpC, mayStop, stops, isFlt, Specs.has, eReal, Specs.hasO, Nat.reduceLeDiff, Nat.reduceSub, false_and, ↓reduceIte, Bool.or_false, List.any_cons, Bool.not_true, List.any_nil, Bool.false_eq_true, wpS, wantedA, okDst, Nat.reduceLT, decide_true, step1, isOwnCall, hxOp, px, AS.eval, AS.get, Lift.look, Nat.reduceEqDiff, reduceCtorEq, Option.getD_some, and_self, AS.put, dropKey, pcall, okArg, ofConst, ofVal, List.all_cons, List.all_nil, Bool.and_true, Specs.at, List.map_cons, List.map_nil, sReal, pbinP, pflt, pfcmp, thenQ, inQ, RPost, sres, Tryd.results34, sresL, sres1, Option.some.injEq, Ret_fin, HTo_self, and_true, exists_eq_left', true_and]
  rfl
theorem holdC_29 (x y : Int) (h : Heap) : SCalls env 34 [.int .i64 29, .int .i64 x, .int .i64 y] h (Ret (.bool (holdS 29 x y)) h) := by
  refine SCalls.body Tryd.func34 rfl rfl (by simp [Tryd.ntmps34]) ?_
  refine SW.seq (SW.run [] _ ?_)
  simp only [wpC, Bool.false_eq_true, ↓reduceIte, wpS, stops, wantedA, okDst, Tryd.ntmps34, Nat.reduceLT, decide_true, step1, isOwnCall, hxOp, px, AS.eval, ofConst, ofVal, thenQ, AS.put, enumA, Nat.zero_add, Nat.reduceAdd, dropKey, reduceCtorEq, Nat.reduceEqDiff, true_and]
  refine SW.seq (SW.seq (SW.run [] _ ?_))
  simp only [wpC, Bool.false_eq_true, ↓reduceIte, wpS, stops, wantedA, okDst, Nat.reduceLT, decide_true, step1, isOwnCall, hxOp, px, AS.eval, AS.get, Lift.look, Nat.succ_ne_zero, Option.getD_some, thenQ, AS.put, dropKey, Nat.reduceEqDiff, reduceCtorEq, true_and]
  refine SW.block ?_
  iterate 5 refine SW.caseNe rfl rfl rfl rfl rfl rfl rfl rfl (by decide) rfl rfl rfl rfl ?_
  refine SW.caseEq rfl rfl rfl rfl rfl rfl rfl rfl (by decide) rfl rfl rfl rfl ?_
  refine SW.run [eReal] _ ?_
  simp only [wpC, mayStop, stops, isFlt, Specs.has, eReal, Specs.hasO, Nat.reduceLeDiff, Nat.reduceSub, false_and, ↓reduceIte, Bool.or_false, List.any_cons, Bool.not_true, List.any_nil, Bool.false_eq_true, wpS, wantedA, okDst, Nat.reduceLT, decide_true, step1, isOwnCall, hxOp, px, AS.eval, AS.get, Lift.look, Nat.reduceEqDiff, reduceCtorEq, Option.getD_some, and_self, AS.put, dropKey, pcall, okArg, ofConst, ofVal, List.all_cons, List.all_nil, Bool.and_true, Specs.at, List.map_cons, List.map_nil, sReal, pbinP, pflt, pfcmp, thenQ, inQ, RPost, sres, Tryd.results34, sresL, sres1, Option.some.injEq, Ret_fin, HTo_self, and_true, exists_eq_left', true_and]
  rfl
theorem holdC_30 (x y : Int) (h : Heap) : SCalls env 34 [.int .i64 30, .int .i64 x, .int .i64 y] h (Ret (.bool (holdS 30 x y)) h) := by
  refine SCalls.body Tryd.func34 rfl rfl (by simp [Tryd.ntmps34]) ?_
  refine SW.seq (SW.run [] _ ?_)
  simp only [wpC, Bool.false_eq_true, ↓reduceIte, wpS, stops, wantedA, okDst, Tryd.ntmps34, Nat.reduceLT, decide_true, step1, isOwnCall, hxOp, px, AS.eval, ofConst, ofVal, thenQ, AS.put, enumA, Nat.zero_add, Nat.reduceAdd, dropKey, reduceCtorEq, Nat.reduceEqDiff, true_and]
  refine SW.seq (SW.seq (SW.run [] _ ?_))
  simp only [wpC, Bool.false_eq_true, ↓reduceIte, wpS, stops, wantedA, okDst, Nat.reduceLT, decide_true, step1, isOwnCall, hxOp, px, AS.eval, AS.get, Lift.look, Nat.succ_ne_zero, Option.getD_some, thenQ, AS.put, dropKey, Nat.reduceEqDiff, reduceCtorEq, true_and]
  refine SW.block ?_
  iterate 6 refine SW.caseNe rfl rfl rfl rfl rfl rfl rfl rfl (by decide) rfl rfl rfl rfl ?_
  refine SW.caseEq rfl rfl rfl rfl rfl rfl rfl rfl (by decide) rfl rfl rfl rfl ?_
  refine SW.run [eReal] _ ?_
  simp only [wpC, mayStop, stops, isFlt, Specs.has, eReal, Specs.hasO, Nat.reduceLeDiff, Nat.reduceSub, false_and, ↓reduceIte, Bool.or_false, List.any_cons, Bool.not_true, List.any_nil, Bool.false_eq_true, wpS, wantedA, okDst, Nat.reduceLT, decide_true, step1, isOwnCall, hxOp, px, AS.eval, AS.get, Lift.look, Nat.reduceEqDiff, reduceCtorEq, Option.getD_some, and_self, AS.put, dropKey, pcall, okArg, ofConst, ofVal, List.all_cons, List.all_nil, Bool.and_true, Specs.at, List.map_cons, List.map_nil, sReal, pbinP, pflt, pfcmp, thenQ, inQ, RPost, sres, Tryd.results34, sresL, sres1, Option.some.injEq, Ret_fin, HTo_self, and_true, exists_eq_left', true_and]
  rfl
theorem holdC_31 (x y : Int) (h : Heap) : SCalls env 34 [.int .i64 31, .int .i64 x, .int .i64 y] h (Ret (.bool (holdS 31 x y)) h) := by
  refine SCalls.body Tryd.func34 rfl rfl (by simp [Tryd.ntmps34]) ?_
  refine SW.seq (SW.run [] _ ?_)
  simp only [wpC, Bool.false_eq_true, ↓reduceIte, wpS, stops, wantedA, okDst, Tryd.ntmps34, Nat.reduceLT, decide_true, step1, isOwnCall, hxOp, px, AS.eval, ofConst, ofVal, thenQ, AS.put, enumA, Nat.zero_add, Nat.reduceAdd, dropKey, reduceCtorEq, Nat.reduceEqDiff, true_and]
  refine SW.seq (SW.seq (SW.run [] _ ?_))
  simp only [wpC, Bool.false_eq_true, ↓reduceIte, wpS, stops, wantedA, okDst, Nat.reduceLT, decide_true, step1, isOwnCall, hxOp, px, AS.eval, AS.get, Lift.look, Nat.succ_ne_zero, Option.getD_some, thenQ, AS.put, dropKey, Nat.reduceEqDiff, reduceCtorEq, true_and]
  refine SW.block ?_
  iterate 7 refine SW.caseNe rfl rfl rfl rfl rfl rfl rfl rfl (by decide) rfl rfl rfl rfl ?_
  refine SW.run [] _ ?_
  simp only [wpC, inQ, thenQ]
  refine SW.run [eReal] _ ?_
  simp only [wpC, mayStop, stops, isFlt, Specs.has, eReal, Specs.hasO, Nat.reduceLeDiff, Nat.reduceSub, false_and, ↓reduceIte, Bool.or_false, List.any_cons, List.any_nil, Bool.false_eq_true, wpS, wantedA, okDst, Nat.reduceLT, decide_true, step1, isOwnCall, hxOp, px, AS.eval, ofConst, ofVal, thenQ, RPost, sres, AS.put, dropKey, Nat.reduceEqDiff, reduceCtorEq, Tryd.results34, sresL, sres1, AS.get, Lift.look, Option.getD_some, Option.some.injEq, Ret_fin, HTo_self, and_true, exists_eq_left', true_and]
  rfl
theorem holds_ok (op x y : Int) (h : Heap) (ho : 24 ≤ op ∧ op ≤ 31) : SCalls env 34 [.int .i64 op, .int .i64 x, .int .i64 y] h (Ret (.bool (holdS op x y)) h) := by
  have : op = 24 ∨ op = 25 ∨ op = 26 ∨ op = 27 ∨ op = 28 ∨ op = 29 ∨ op = 30 ∨ op = 31 := by omega
  rcases this with rfl | rfl | rfl | rfl | rfl | rfl | rfl | rfl
  · exact holdC_24 x y h
  · exact holdC_25 x y h
  · exact holdC_26 x y h
  · exact holdC_27 x y h
  · exact holdC_28 x y h
  · exact holdC_29 x y h
  · exact holdC_30 x y h
  · exact holdC_31 x y h
def sHolds : List PV → Prop × PV
  | [.int .i64 op, .int .i64 x, .int .i64 y] => (24 ≤ op ∧ op ≤ 31, .bool (holdS op x y))
  | _ => PBad
noncomputable def eHolds : SpecE env := ⟨34, sHolds, fun args h hc => by
  unfold sHolds at hc ⊢
  split at hc
  · rename_i op x y; exact .inl (holds_ok op x y h hc)
  · exact hc.elim⟩
theorem holdR_24 (x y : Int) (h : Heap) : SCalls env 37 [.int .i64 24, .int .i64 x, .int .i64 y] h (Ret (.bool (holdS 24 x y)) h) := by
  refine SCalls.body Tryd.func37 rfl rfl (by simp [Tryd.ntmps37]) ?_
  refine SW.seq (SW.run [] _ ?_)
  simp only [wpC, Bool.false_eq_true, ↓reduceIte, wpS, stops, wantedA, okDst, Tryd.ntmps37, Nat.reduceLT, decide_true, step1, isOwnCall, hxOp, px, AS.eval, ofConst, ofVal, thenQ, AS.put, enumA, Nat.zero_add, Nat.reduceAdd, dropKey, reduceCtorEq, Nat.reduceEqDiff, true_and]
  refine SW.seq (SW.run [eRealR] _ ?_)
  simp only [wpC, Bool.false_eq_true, ↓reduceIte, wpS, stops, wantedA, okDst, Nat.reduceLT, decide_true, step1, isOwnCall, hxOp, px, AS.eval, AS.get, Lift.look, Nat.reduceEqDiff, reduceCtorEq, Option.getD_some, Specs.has, eRealR, Specs.hasO, Nat.reduceLeDiff, Nat.reduceSub, and_self, Bool.or_false, Bool.not_true, AS.put, dropKey, pcall, okArg, ofConst, ofVal, List.all_cons, List.all_nil, Bool.and_true, Specs.at, List.map_cons, List.map_nil, sReal, thenQ, true_and]
  refine SW.seq (SW.seq (SW.run [] _ ?_))
  simp only [wpC, Bool.false_eq_true, ↓reduceIte, wpS, stops, wantedA, okDst, Nat.reduceLT, decide_true, step1, isOwnCall, hxOp, px, AS.eval, AS.get, Lift.look, Nat.succ_ne_zero, Option.getD_some, thenQ, AS.put, dropKey, Nat.reduceEqDiff, reduceCtorEq, true_and]
  refine SW.block ?_
  refine SW.caseEq rfl rfl rfl rfl rfl rfl rfl rfl (by decide) rfl rfl rfl rfl ?_
  refine SW.run [eRealR] _ ?_
  simp only [wpC, mayStop, stops, isFlt, Specs.has, eRealR, Specs.hasO, Nat.reduceLeDiff, Nat.reduceSub, false_and, ↓reduceIte, Bool.or_false, List.any_cons, List.any_nil, Bool.false_eq_true, wpS, wantedA, okDst, Nat.reduceLT, decide_true, step1, isOwnCall, hxOp, px, AS.eval, AS.get, Lift.look, Nat.reduceEqDiff, reduceCtorEq, Option.getD_some, AS.put, dropKey, pbinP, pbinI, thenQ, inQ, RPost, sres, Tryd.results37, sresL, sres1, Option.some.injEq, Ret_fin, HTo_self, and_true, exists_eq_left', true_and]
  rfl
theorem holdR_25 (x y : Int) (h : Heap) : SCalls env 37 [.int .i64 25, .int .i64 x, .int .i64 y] h (Ret (.bool (holdS 25 x y)) h) := by
  refine SCalls.body Tryd.func37 rfl rfl (by simp [Tryd.ntmps37]) ?_
  refine SW.seq (SW.run [] _ ?_)
  simp only [wpC, Bool.false_eq_true, ↓reduceIte, wpS, stops, wantedA, okDst, Tryd.ntmps37, Nat.reduceLT, decide_true, step1, isOwnCall, hxOp, px, AS.eval, ofConst, ofVal, thenQ, AS.put, enumA, Nat.zero_add, Nat.reduceAdd, dropKey, reduceCtorEq, Nat.reduceEqDiff, true_and]
  refine SW.seq (SW.run [eRealR] _ ?_)
  simp only [wpC, Bool.false_eq_true, ↓reduceIte, wpS, stops, wantedA, okDst, Nat.reduceLT, decide_true, step1, isOwnCall, hxOp, px, AS.eval, AS.get, Lift.look, Nat.reduceEqDiff, reduceCtorEq, Option.getD_some, Specs.has, eRealR, Specs.hasO, Nat.reduceLeDiff, Nat.reduceSub, and_self, Bool.or_false, Bool.not_true, AS.put, dropKey, pcall, okArg, ofConst, ofVal, List.all_cons, List.all_nil, Bool.and_true, Specs.at, List.map_cons, List.map_nil, sReal, thenQ, true_and]
  refine SW.seq (SW.seq (SW.run [] _ ?_))
  simp only [wpC, Bool.false_eq_true, ↓reduceIte, wpS, stops, wantedA, okDst, Nat.reduceLT, decide_true, step1, isOwnCall, hxOp, px, AS.eval, AS.get, Lift.look, Nat.succ_ne_zero, Option.getD_some, thenQ, AS.put, dropKey, Nat.reduceEqDiff, reduceCtorEq, true_and]
  refine SW.block ?_
  iterate 1 refine SW.caseNe rfl rfl rfl rfl rfl rfl rfl rfl (by decide) rfl rfl rfl rfl ?_
  refine SW.caseEq rfl rfl rfl rfl rfl rfl rfl rfl (by decide) rfl rfl rfl rfl ?_
  refine SW.run [eRealR] _ ?_
  simp only [wpC, mayStop, stops, isFlt, Specs.has, eRealR, Specs.hasO, Nat.reduceLeDiff, Nat.reduceSub, false_and, ↓reduceIte, Bool.or_false, List.any_cons, List.any_nil, Bool.false_eq_true, wpS, wantedA, okDst, Nat.reduceLT, decide_true, step1, isOwnCall, hxOp, px, AS.eval, AS.get, Lift.look, Nat.reduceEqDiff, reduceCtorEq, Option.getD_some, AS.put, dropKey, pbinP, pbinI, thenQ, inQ, RPost, sres, Tryd.results37, sresL, sres1, Option.some.injEq, Ret_fin, HTo_self, and_true, exists_eq_left', true_and]
  rfl
theorem holdR_26 (x y : Int) (h : Heap) : SCalls env 37 [.int .i64 26, .int .i64 x, .int .i64 y] h (Ret (.bool (holdS 26 x y)) h) := by
  refine SCalls.body Tryd.func37 rfl rfl (by simp [Tryd.ntmps37]) ?_
  refine SW.seq (SW.run [] _ ?_)
  simp only [wpC, Bool.false_eq_true, ↓reduceIte, wpS, stops, wantedA, okDst, Tryd.ntmps37, Nat.reduceLT, decide_true, step1, isOwnCall, hxOp, px, AS.eval, ofConst, ofVal, thenQ, AS.put, enumA, Nat.zero_add, Nat.reduceAdd, dropKey, reduceCtorEq, Nat.reduceEqDiff, true_and]
  refine SW.seq (SW.run [eRealR] _ ?_)
  simp only [wpC, Bool.false_eq_true, ↓reduceIte, wpS, stops, wantedA, okDst, Nat.reduceLT, decide_true, step1, isOwnCall, hxOp, px, AS.eval, AS.get, Lift.look, Nat.reduceEqDiff, reduceCtorEq, Option.getD_some, Specs.has, eRealR, Specs.hasO, Nat.reduceLeDiff, Nat.reduceSub, and_self, Bool.or_false, Bool.not_true, AS.put, dropKey, pcall, okArg, ofConst, ofVal, List.all_cons, List.all_nil, Bool.and_true, Specs.at, List.map_cons, List.map_nil, sReal, thenQ, true_and]
  refine SW.seq (SW.seq (SW.run [] _ ?_))
  simp only [wpC, Bool.false_eq_true, ↓reduceIte, wpS, stops, wantedA, okDst, Nat.reduceLT, decide_true, step1, isOwnCall, hxOp, px, AS.eval, AS.get, Lift.look, Nat.succ_ne_zero, Option.getD_some, thenQ, AS.put, dropKey, Nat.reduceEqDiff, reduceCtorEq, true_and]
  refine SW.block ?_
  iterate 2 refine SW.caseNe rfl rfl rfl rfl rfl rfl rfl rfl (by decide) rfl rfl rfl rfl ?_
  refine SW.caseEq rfl rfl rfl rfl rfl rfl rfl rfl (by decide) rfl rfl rfl rfl ?_
  refine SW.run [eRealR] _ ?_
  simp only [wpC, mayStop, stops, isFlt, Specs.has, eRealR, Specs.hasO, Nat.reduceLeDiff, Nat.reduceSub, false_and, ↓reduceIte, Bool.or_false, List.any_cons, List.any_nil, Bool.false_eq_true, wpS, wantedA, okDst, Nat.reduceLT, decide_true, step1, isOwnCall, hxOp, px, AS.eval, AS.get, Lift.look, Nat.reduceEqDiff, reduceCtorEq, Option.getD_some, AS.put, dropKey, pbinP, pbinI, thenQ, inQ, RPost, sres, Tryd.results37, sresL, sres1, Option.some.injEq, Ret_fin, HTo_self, and_true, exists_eq_left', true_and]
  rfl
theorem holdR_27 (x y : Int) (h : Heap) : SCalls env 37 [.int .i64 27, .int .i64 x, .int .i64 y] h (Ret (.bool (holdS 27 x y)) h) := by
  refine SCalls.body Tryd.func37 rfl rfl (by simp [Tryd.ntmps37]) ?_
  refine SW.seq (SW.run [] _ ?_)
  simp only [wpC, Bool.false_eq_true, ↓reduceIte, wpS, stops, wantedA, okDst, Tryd.ntmps37, Nat.reduceLT, decide_true, step1, isOwnCall, hxOp, px, AS.eval, ofConst, ofVal, thenQ, AS.put, enumA, Nat.zero_add, Nat.reduceAdd, dropKey, reduceCtorEq, Nat.reduceEqDiff, true_and]
  refine SW.seq (SW.run [eRealR] _ ?_)
  simp only [wpC, Bool.false_eq_true, ↓reduceIte, wpS, stops, wantedA, okDst, Nat.reduceLT, decide_true, step1, isOwnCall, hxOp, px, AS.eval, AS.get, Lift.look, Nat.reduceEqDiff, reduceCtorEq, Option.getD_some, Specs.has, eRealR, Specs.hasO, Nat.reduceLeDiff, Nat.reduceSub, and_self, Bool.or_false, Bool.not_true, AS.put, dropKey, pcall, okArg, ofConst, ofVal, List.all_cons, List.all_nil, Bool.and_true, Specs.at, List.map_cons, List.map_nil, sReal, thenQ, true_and]
  refine SW.seq (SW.seq (SW.run [] _ ?_))
  simp only [wpC, Bool.false_eq_true, ↓reduceIte, wpS, stops, wantedA, okDst, Nat.reduceLT, decide_true, step1, isOwnCall, hxOp, px, AS.eval, AS.get, Lift.look, Nat.succ_ne_zero, Option.getD_some, thenQ, AS.put, dropKey, Nat.reduceEqDiff, reduceCtorEq, true_and]
  refine SW.block ?_
  iterate 3 refine SW.caseNe rfl rfl rfl rfl rfl rfl rfl rfl (by decide) rfl rfl rfl rfl ?_
  refine SW.caseEq rfl rfl rfl rfl rfl rfl rfl rfl (by decide) rfl rfl rfl rfl ?_
  refine SW.run [eRealR] _ ?_
  simp only [wpC, mayStop, stops, isFlt, Specs.has, eRealR, Specs.hasO, Nat.reduceLeDiff, Nat.reduceSub, false_and, ↓reduceIte, Bool.or_false, List.any_cons, List.any_nil, Bool.false_eq_true, wpS, wantedA, okDst, Nat.reduceLT, decide_true, step1, isOwnCall, hxOp, px, AS.eval, AS.get, Lift.look, Nat.reduceEqDiff, Option.getD_some, AS.put, dropKey, reduceCtorEq, pbinP, pflt, pfcmp, thenQ, inQ, RPost, sres, Tryd.results37, sresL, sres1, Option.some.injEq, Ret_fin, HTo_self, and_true, exists_eq_left', true_and]
  rfl
theorem holdR_28 (x y : Int) (h : Heap) : SCalls env 37 [.int .i64 28, .int .i64 x, .int .i64 y] h (Ret (.bool (holdS 28 x y)) h) := by
  refine SCalls.body Tryd.func37 rfl rfl (by simp [Tryd.ntmps37]) ?_
  refine SW.seq (SW.run [] _ ?_)
  simp only [wpC, Bool.false_eq_true, ↓reduceIte, wpS, stops, wantedA, okDst, Tryd.ntmps37, Nat.reduceLT, decide_true, step1, isOwnCall, hxOp, px, AS.eval, ofConst, ofVal, thenQ, AS.put, enumA, Nat.zero_add, Nat.reduceAdd, dropKey, reduceCtorEq, Nat.reduceEqDiff, true_and]
  refine SW.seq (SW.run [eRealR] _ ?_)
  simp only [wpC, Bool.false_eq_true, ↓reduceIte, wpS, stops, wantedA, okDst, Nat.reduceLT, decide_true, step1, isOwnCall, hxOp, px, AS.eval, AS.get, Lift.look, Nat.reduceEqDiff, reduceCtorEq, Option.getD_some, Specs.has, eRealR, Specs.hasO, Nat.reduceLeDiff, Nat.reduceSub, and_self, Bool.or_false, Bool.not_true, AS.put, dropKey, pcall, okArg, ofConst, ofVal, List.all_cons, List.all_nil, Bool.and_true, Specs.at, List.map_cons, List.map_nil, sReal, thenQ, true_and]
  refine SW.seq (SW.seq (SW.run [] _ ?_))
  simp only [wpC, Bool.false_eq_true, ↓reduceIte, wpS, stops, wantedA, okDst, Nat.reduceLT, decide_true, step1, isOwnCall, hxOp, px, AS.eval, AS.get, Lift.look, Nat.succ_ne_zero, Option.getD_some, thenQ, AS.put, dropKey, Nat.reduceEqDiff, reduceCtorEq, true_and]
  refine SW.block ?_
  iterate 4 refine SW.caseNe rfl rfl rfl rfl rfl rfl rfl rfl (by decide) rfl rfl rfl rfl ?_
  refine SW.caseEq rfl rfl rfl rfl rfl rfl rfl rfl (by decide) rfl rfl rfl rfl ?_
  refine SW.run [eRealR] _ ?_
  simp only [wpC, mayStop, stops, isFlt, Specs.has, eRealR, Specs.hasO, Nat.reduceLeDiff, Nat.reduceSub, false_and, ↓reduceIte, Bool.or_false, List.any_cons, List.any_nil, Bool.false_eq_true, wpS, wantedA, okDst, Nat.reduceLT, decide_true, step1, isOwnCall, hxOp, px, AS.eval, AS.get, Lift.look, Nat.reduceEqDiff, Option.getD_some, AS.put, dropKey, reduceCtorEq, pbinP, pflt, pfcmp, thenQ, inQ, RPost, sres, Tryd.results37, sresL, sres1, Option.some.injEq, Ret_fin, HTo_self, and_true, exists_eq_left', true_and]
  rfl
theorem holdR_29 (x y : Int) (h : Heap) : SCalls env 37 [.int .i64 29, .int .i64 x, .int .i64 y] h (Ret (.bool (holdS 29 x y)) h) := by
  refine SCalls.body Tryd.func37 rfl rfl (by simp [Tryd.ntmps37]) ?_
  refine SW.seq (SW.run [] _ ?_)
  simp only [wpC, Bool.false_eq_true, ↓reduceIte, wpS, stops, wantedA, okDst, Tryd.ntmps37, Nat.reduceLT, decide_true, step1, isOwnCall, hxOp, px, AS.eval, ofConst, ofVal, thenQ, AS.put, enumA, Nat.zero_add, Nat.reduceAdd, dropKey, reduceCtorEq, Nat.reduceEqDiff, true_and]
  refine SW.seq (SW.run [eRealR] _ ?_)
  simp only [wpC, Bool.false_eq_true, ↓reduceIte, wpS, stops, wantedA, okDst, Nat.reduceLT, decide_true, step1, isOwnCall, hxOp, px, AS.eval, AS.get, Lift.look, Nat.reduceEqDiff, reduceCtorEq, Option.getD_some, Specs.has, eRealR, Specs.hasO, Nat.reduceLeDiff, Nat.reduceSub, and_self, Bool.or_false, Bool.not_true, AS.put, dropKey, pcall, okArg, ofConst, ofVal, List.all_cons, List.all_nil, Bool.and_true, Specs.at, List.map_cons, List.map_nil, sReal, thenQ, true_and]
  refine SW.seq (SW.seq (SW.run [] _ ?_))
  simp only [wpC, Bool.false_eq_true, ↓reduceIte, wpS, stops, wantedA, okDst, Nat.reduceLT, decide_true, step1, isOwnCall, hxOp, px, AS.eval, AS.get, Lift.look, Nat.succ_ne_zero, Option.getD_some, thenQ, AS.put, dropKey, Nat.reduceEqDiff, reduceCtorEq, true_and]
  refine SW.block ?_
  iterate 5 refine SW.caseNe rfl rfl rfl rfl rfl rfl rfl rfl (by decide) rfl rfl rfl rfl ?_
  refine SW.caseEq rfl rfl rfl rfl rfl rfl rfl rfl (by decide) rfl rfl rfl rfl ?_
  refine SW.run [eRealR] _ ?_
  simp only [wpC, mayStop, stops, isFlt, Specs.has, eRealR, Specs.hasO, Nat.reduceLeDiff, Nat.reduceSub, false_and, ↓reduceIte, Bool.or_false, List.any_cons, List.any_nil, Bool.false_eq_true, wpS, wantedA, okDst, Nat.reduceLT, decide_true, step1, isOwnCall, hxOp, px, AS.eval, AS.get, Lift.look, Nat.reduceEqDiff, Option.getD_some, AS.put, dropKey, reduceCtorEq, pbinP, pflt, pfcmp, thenQ, inQ, RPost, sres, Tryd.results37, sresL, sres1, Option.some.injEq, Ret_fin, HTo_self, and_true, exists_eq_left', true_and]
  rfl
theorem holdR_30 (x y : Int) (h : Heap) : SCalls env 37 [.int .i64 30, .int .i64 x, .int .i64 y] h (Ret (.bool (holdS 30 x y)) h) := by
  refine SCalls.body Tryd.func37 rfl rfl (by simp [Tryd.ntmps37]) ?_
  refine SW.seq (SW.run [] _ ?_)
  simp only [wpC, Bool.false_eq_true, ↓reduceIte, wpS, stops, wantedA, okDst, Tryd.ntmps37, Nat.reduceLT, decide_true, step1, isOwnCall, hxOp, px, AS.eval, ofConst, ofVal, thenQ, AS.put, enumA, Nat.zero_add, Nat.reduceAdd, dropKey, reduceCtorEq, Nat.reduceEqDiff, true_and]
  refine SW.seq (SW.run [eRealR] _ ?_)
  simp only [wpC, Bool.false_eq_true, ↓reduceIte, wpS, stops, wantedA, okDst, Nat.reduceLT, decide_true, step1, isOwnCall, hxOp, px, AS.eval, AS.get, Lift.look, Nat.reduceEqDiff, reduceCtorEq, Option.getD_some, Specs.has, eRealR, Specs.hasO, Nat.reduceLeDiff, Nat.reduceSub, and_self, Bool.or_false, Bool.not_true, AS.put, dropKey, pcall, okArg, ofConst, ofVal, List.all_cons, List.all_nil, Bool.and_true, Specs.at, List.map_cons, List.map_nil, sReal, thenQ, true_and]
  refine SW.seq (SW.seq (SW.run [] _ ?_))
  simp only [wpC, Bool.false_eq_true, ↓reduceIte, wpS, stops, wantedA, okDst, Nat.reduceLT, decide_true, step1, isOwnCall, hxOp, px, AS.eval, AS.get, Lift.look, Nat.succ_ne_zero, Option.getD_some, thenQ, AS.put, dropKey, Nat.reduceEqDiff, reduceCtorEq, true_and]
  refine SW.block ?_
  iterate 6 refine SW.caseNe rfl rfl rfl rfl rfl rfl rfl rfl (by decide) rfl rfl rfl rfl ?_
  refine SW.caseEq rfl rfl rfl rfl rfl rfl rfl rfl (by decide) rfl rfl rfl rfl ?_
  refine SW.run [eRealR] _ ?_
  simp only [wpC, mayStop, stops, isFlt, Specs.has, eRealR, Specs.hasO, Nat.reduceLeDiff, Nat.reduceSub, false_and, ↓reduceIte, Bool.or_false, List.any_cons, List.any_nil, Bool.false_eq_true, wpS, wantedA, okDst, Nat.reduceLT, decide_true, step1, isOwnCall, hxOp, px, AS.eval, AS.get, Lift.look, Nat.reduceEqDiff, Option.getD_some, AS.put, dropKey, reduceCtorEq, pbinP, pflt, pfcmp, thenQ, inQ, RPost, sres, Tryd.results37, sresL, sres1, Option.some.injEq, Ret_fin, HTo_self, and_true, exists_eq_left', true_and]
  rfl
theorem holdR_31 (x y : Int) (h : Heap) : SCalls env 37 [.int .i64 31, .int .i64 x, .int .i64 y] h (Ret (.bool (holdS 31 x y)) h) := by
  refine SCalls.body Tryd.func37 rfl rfl (by simp [Tryd.ntmps37]) ?_
  refine SW.seq (SW.run [] _ ?_)
  simp only [wpC, Bool.false_eq_true, ↓reduceIte, wpS, stops, wantedA, okDst, Tryd.ntmps37, Nat.reduceLT, decide_true, step1, isOwnCall, hxOp, px, AS.eval, ofConst, ofVal, thenQ, AS.put, enumA, Nat.zero_add, Nat.reduceAdd, dropKey, reduceCtorEq, Nat.reduceEqDiff, true_and]
  refine SW.seq (SW.run [eRealR] _ ?_)
  simp only [wpC, Bool.false_eq_true, ↓reduceIte, wpS, stops, wantedA, okDst, Nat.reduceLT, decide_true, step1, isOwnCall, hxOp, px, AS.eval, AS.get, Lift.look, Nat.reduceEqDiff, reduceCtorEq, Option.getD_some, Specs.has, eRealR, Specs.hasO, Nat.reduceLeDiff, Nat.reduceSub, and_self, Bool.or_false, Bool.not_true, AS.put, dropKey, pcall, okArg, ofConst, ofVal, List.all_cons, List.all_nil, Bool.and_true, Specs.at, List.map_cons, List.map_nil, sReal, thenQ, true_and]
  refine SW.seq (SW.seq (SW.run [] _ ?_))
  simp only [wpC, Bool.false_eq_true, ↓reduceIte, wpS, stops, wantedA, okDst, Nat.reduceLT, decide_true, step1, isOwnCall, hxOp, px, AS.eval, AS.get, Lift.look, Nat.succ_ne_zero, Option.getD_some, thenQ, AS.put, dropKey, Nat.reduceEqDiff, reduceCtorEq, true_and]
  refine SW.block ?_
  iterate 7 refine SW.caseNe rfl rfl rfl rfl rfl rfl rfl rfl (by decide) rfl rfl rfl rfl ?_
  refine SW.run [] _ ?_
  simp only [wpC, inQ, thenQ]
  refine SW.run [eRealR] _ ?_
  simp only [wpC, mayStop, stops, isFlt, Specs.has, eRealR, Specs.hasO, Nat.reduceLeDiff, Nat.reduceSub, false_and, ↓reduceIte, Bool.or_false, List.any_cons, List.any_nil, Bool.false_eq_true, wpS, wantedA, okDst, Nat.reduceLT, decide_true, step1, isOwnCall, hxOp, px, AS.eval, ofConst, ofVal, thenQ, RPost, sres, AS.put, dropKey, Nat.reduceEqDiff, reduceCtorEq, Tryd.results37, sresL, sres1, AS.get, Lift.look, Option.getD_some, Option.some.injEq, Ret_fin, HTo_self, and_true, exists_eq_left', true_and]
  rfl
theorem goes_ok (op x y : Int) (h : Heap) (ho : 24 ≤ op ∧ op ≤ 31) : SCalls env 37 [.int .i64 op, .int .i64 x, .int .i64 y] h (Ret (.bool (holdS op x y)) h) := by
  have : op = 24 ∨ op = 25 ∨ op = 26 ∨ op = 27 ∨ op = 28 ∨ op = 29 ∨ op = 30 ∨ op = 31 := by omega
  rcases this with rfl | rfl | rfl | rfl | rfl | rfl | rfl | rfl
  · exact holdR_24 x y h
  · exact holdR_25 x y h
  · exact holdR_26 x y h
  · exact holdR_27 x y h
  · exact holdR_28 x y h
  · exact holdR_29 x y h
  · exact holdR_30 x y h
  · exact holdR_31 x y h
noncomputable def eGoes : SpecE env := ⟨37, sHolds, fun args h hc => by
  unfold sHolds at hc ⊢
  split at hc
  · rename_i op x y; exact .inl (goes_ok op x y h hc)
  · exact hc.elim⟩
end Go.Proofs.YthdmdeiaonkeoaaDoor
