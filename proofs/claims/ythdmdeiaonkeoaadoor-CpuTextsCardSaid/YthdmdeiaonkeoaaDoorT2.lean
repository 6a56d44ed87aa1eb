/- Contracts of functions that the law reaches. -/
import Derived.Test.YthdmdeiaonkeoaaDoorT1
set_option linter.unusedSimpArgs false
set_option linter.unusedVariables false
namespace Go.Proofs.YthdmdeiaonkeoaaDoor
open Go Go.RowKit Go.Proofs.YthdmdeiaonkeoaaDoor Go.Proofs.YthdmdeiaonkeoaaDoor.Lift

/-! cpu.Check -/
def mostS (o : Int) : Int := if memS o = true then 1 else 15
def outS (o a b c i : Int) : Prop := a < 0 ∨ 15 < a ∨ b < 0 ∨ mostS o < b ∨ c < 0 ∨ 15 < c ∨ i < -2147483648 ∨ 2147483647 < i
instance (o a b c i : Int) : Decidable (outS o a b c i) := by unfold outS; infer_instance
/-- The fields: may it be used, and what it is. -/
def fieldL (o a b c i : Int) : List (Bool × Int) := [(hasB (usesS o) 97, a), (hasB (usesS o) 98, b), (hasB (usesS o) 99, c), (hasB (usesS o) 105, i)]
def badF (x : Bool × Int) : Bool := !x.1 && (x.2 != 0)
def checkS (o a b c i : Int) : Int :=
  if knownS o = false then 13 else if outS o a b c i then 11 else if (fieldL o a b c i).any badF = true then 2 else 0
def sCheck : List PV → Prop × PV
  | [.agg [.int .i64 o, .int .i64 a, .int .i64 b, .int .i64 c, .int .i64 i]] => (True, .int .i64 (checkS o a b c i))
  | _ => PBad
theorem HTo_two {h : Heap} {r q : Nat} {o o' : AObj} (hqr : ¬ q = r) (hq : h q = none) : HTo env ((h.put r o).put q o') (h.put r o) :=
  (HTo.refl env (h.put r o)).put (by rw [Heap.put_ne _ _ hqr]; exact hq) _
set_option maxRecDepth 100000 in
theorem Check_ok (o a b c i : Int) (h : Heap) : SCalls env 12 [.agg [.int .i64 o, .int .i64 a, .int .i64 b, .int .i64 c, .int .i64 i]] h (Ret (.int .i64 (checkS o a b c i)) h) := by
  refine SCalls.body Tryd.func12 rfl rfl (by simp [Tryd.ntmps12]) ?_
  refine SW.seq (SW.run [] _ ?_)
  simp only [wpC, Bool.false_eq_true, ↓reduceIte, wpS, stops, wantedA, okDst, Tryd.ntmps12, Nat.reduceLT, decide_true, step1, known1, AS.eval, AS.get, enumA, Lift.look, Option.getD_some, AS.put, dropKey, reduceCtorEq, isOwnCall, hxOp, px, ofConst, ofVal, thenQ, Nat.reduceEqDiff, PV.cells, List.length_cons, List.length_nil, Nat.zero_add, Nat.reduceAdd, true_and]
  intro r hr
  cases hk : knownS o with
  | false =>
    refine SW.run [eKnown, eMem] _ ?_
    simp only [wpC, mayStop, stops, isFlt, Specs.has, eKnown, eMem, Specs.hasO, Nat.reduceLeDiff, Nat.reduceSub, false_and, ↓reduceIte, Bool.or_false, List.any_cons, Bool.not_true, List.any_nil, Bool.false_eq_true, wpS, wantedA, okDst, Nat.reduceLT, decide_true, step1, isOwnCall, hxOp, px, pfieldAddr, fieldOf, ty23, fieldIn, List.getElem?_cons_zero, ty3, Option.map_some, AS.eval, AS.get, Lift.look, Nat.reduceEqDiff, Option.getD_some, ne_eq, Nat.succ_ne_zero, not_false_eq_true, Nat.add_zero, AS.put, dropKey, reduceCtorEq, pload, Heap.get_put, okOne, TK.isAgg, beq_self_eq_true, Bool.or_true, Nat.zero_add, List.length_cons, List.length_nil, Nat.reduceAdd, and_self, Lift.valOf, List.drop_zero, List.take_succ_cons, List.take_zero, List.getD_cons_zero, pcall, okArg, ofConst, ofVal, List.all_cons, List.all_nil, Bool.and_true, Specs.at, List.map_cons, List.map_nil, sKnown, hk, pun, Bool.not_false, thenQ, isB, tmpOf, asB, RPost, sres, Tryd.results12, sresL, sres1, Option.some.injEq, checkS, Ret_fin, exists_eq_left', true_and]
    exact HTo.put (.refl _ _) hr _
  | true =>
  refine SW.seq (SW.run [eKnown] _ ?_)
  simp only [wpC, mayStop, stops, isFlt, Specs.has, eKnown, Specs.hasO, Nat.reduceLeDiff, Nat.reduceSub, false_and, ↓reduceIte, Bool.or_false, List.any_cons, Bool.not_true, List.any_nil, Bool.false_eq_true, wpS, wantedA, okDst, Nat.reduceLT, decide_true, step1, isOwnCall, hxOp, px, pfieldAddr, fieldOf, ty23, fieldIn, List.getElem?_cons_zero, ty3, Option.map_some, AS.eval, AS.get, Lift.look, Nat.reduceEqDiff, Option.getD_some, ne_eq, Nat.succ_ne_zero, not_false_eq_true, Nat.add_zero, AS.put, dropKey, reduceCtorEq, pload, Heap.get_put, okOne, TK.isAgg, beq_self_eq_true, Bool.or_true, Nat.zero_add, List.length_cons, List.length_nil, Nat.reduceAdd, and_self, Lift.valOf, List.drop_zero, List.take_succ_cons, List.take_zero, List.getD_cons_zero, pcall, okArg, ofConst, ofVal, List.all_cons, List.all_nil, Bool.and_true, Specs.at, List.map_cons, List.map_nil, sKnown, hk, pun, thenQ, isB, tmpOf, asB, true_and]
  refine SW.meet2 62 [(1, .val (.pointer (some ⟨r, 0, none⟩))), (3, .int .i64 (mostS o))] (h.put r (.cells 23 5 [.int .i64 o, .int .i64 a, .int .i64 b, .int .i64 c, .int .i64 i])) ?_ ?_
  · cases hm : memS o with
    | false =>
      refine SW.run [] _ ?_
      simp only [wpC, Bool.false_eq_true, ↓reduceIte, wpS, stops, wantedA, okDst, Nat.reduceLT, decide_true, step1, isOwnCall, hxOp, px, AS.eval, ofConst, ofVal, thenQ, AS.put, dropKey, Nat.reduceEqDiff, reduceCtorEq, true_and]
      refine SW.run [eMem] _ ?_
      simp only [wpC, mayStop, stops, isFlt, Specs.has, eMem, Specs.hasO, Nat.reduceLeDiff, Nat.reduceSub, false_and, ↓reduceIte, Bool.or_false, List.any_cons, Bool.not_true, List.any_nil, Bool.false_eq_true, wpS, wantedA, okDst, Nat.reduceLT, decide_true, step1, isOwnCall, hxOp, px, pfieldAddr, fieldOf, ty23, fieldIn, List.getElem?_cons_zero, ty3, Option.map_some, AS.eval, AS.get, Lift.look, Nat.reduceEqDiff, Option.getD_some, ne_eq, Nat.succ_ne_zero, not_false_eq_true, Nat.add_zero, AS.put, dropKey, reduceCtorEq, pload, Heap.get_put, okOne, TK.isAgg, beq_self_eq_true, Bool.or_true, Nat.zero_add, List.length_cons, List.length_nil, Nat.reduceAdd, and_self, Lift.valOf, List.drop_zero, List.take_succ_cons, List.take_zero, List.getD_cons_zero, pcall, okArg, ofConst, ofVal, List.all_cons, List.all_nil, Bool.and_true, Specs.at, List.map_cons, List.map_nil, sMem, hm, thenQ, isB, tmpOf, asB, Meet, HTo_self, hasAll, mostS]
    | true =>
      refine SW.run [] _ ?_
      simp only [wpC, Bool.false_eq_true, ↓reduceIte, wpS, stops, wantedA, okDst, Nat.reduceLT, decide_true, step1, isOwnCall, hxOp, px, AS.eval, ofConst, ofVal, thenQ, AS.put, dropKey, Nat.reduceEqDiff, reduceCtorEq, true_and]
      refine SW.run [eMem] _ ?_
      simp only [wpC, mayStop, stops, isFlt, Specs.has, eMem, Specs.hasO, Nat.reduceLeDiff, Nat.reduceSub, false_and, ↓reduceIte, Bool.or_false, List.any_cons, Bool.not_true, List.any_nil, Bool.false_eq_true, wpS, wantedA, okDst, Nat.reduceLT, decide_true, step1, isOwnCall, hxOp, px, pfieldAddr, fieldOf, ty23, fieldIn, List.getElem?_cons_zero, ty3, Option.map_some, AS.eval, AS.get, Lift.look, Nat.reduceEqDiff, Option.getD_some, ne_eq, Nat.succ_ne_zero, not_false_eq_true, Nat.add_zero, AS.put, dropKey, reduceCtorEq, pload, Heap.get_put, okOne, TK.isAgg, beq_self_eq_true, Bool.or_true, Nat.zero_add, List.length_cons, List.length_nil, Nat.reduceAdd, and_self, Lift.valOf, List.drop_zero, List.take_succ_cons, List.take_zero, List.getD_cons_zero, pcall, okArg, ofConst, ofVal, List.all_cons, List.all_nil, Bool.and_true, Specs.at, List.map_cons, List.map_nil, sMem, hm, thenQ, isB, tmpOf, asB, Meet, HTo_self, hasAll, mostS]
  generalize hmo : mostS o = most
  by_cases h1 : a < 0
  · refine SW.run [] _ ?_
    simp only [wpC, mayStop, stops, isFlt, Specs.has, Specs.hasO, Bool.or_false, Bool.not_false, List.any_cons, List.any_nil, Bool.false_eq_true, ↓reduceIte, wpS, wantedA, okDst, Nat.reduceLT, decide_true, step1, isOwnCall, hxOp, px, pfieldAddr, fieldOf, ty23, fieldIn, List.getElem?_cons_succ, List.getElem?_cons_zero, ty3, Option.map_some, AS.eval, AS.get, Lift.look, Option.getD_some, ne_eq, Nat.succ_ne_zero, not_false_eq_true, Nat.zero_add, AS.put, dropKey, Nat.reduceEqDiff, pload, Heap.get_put, okOne, TK.isAgg, beq_self_eq_true, Bool.or_true, Nat.reduceAdd, List.length_cons, List.length_nil, Nat.reduceLeDiff, and_self, Lift.valOf, List.drop_succ_cons, List.drop_zero, List.take_succ_cons, List.take_zero, List.getD_cons_zero, pbinP, ofConst, ofVal, pbinI, h1, List.getElem?_toArray, Option.bind_some, beq_tf, Option.some.injEq, ppick_true, thenQ, isB, tmpOf, asB, inQ, RPost, sres, Tryd.results12, sresL, sres1, checkS, hk, Bool.true_eq_false, outS, hmo, true_or, Ret_fin, exists_eq_left', true_and]
    exact HTo.put (.refl _ _) hr _
  by_cases h2 : 15 < a
  · refine SW.run [] _ ?_
    simp only [wpC, mayStop, stops, isFlt, Specs.has, Specs.hasO, Bool.or_false, Bool.not_false, List.any_cons, List.any_nil, Bool.false_eq_true, ↓reduceIte, wpS, wantedA, okDst, Nat.reduceLT, decide_true, step1, isOwnCall, hxOp, px, pfieldAddr, fieldOf, ty23, fieldIn, List.getElem?_cons_succ, List.getElem?_cons_zero, ty3, Option.map_some, AS.eval, AS.get, Lift.look, Option.getD_some, ne_eq, Nat.succ_ne_zero, not_false_eq_true, Nat.zero_add, AS.put, dropKey, Nat.reduceEqDiff, pload, Heap.get_put, okOne, TK.isAgg, beq_self_eq_true, Bool.or_true, Nat.reduceAdd, List.length_cons, List.length_nil, Nat.reduceLeDiff, and_self, Lift.valOf, List.drop_succ_cons, List.drop_zero, List.take_succ_cons, List.take_zero, List.getD_cons_zero, pbinP, ofConst, ofVal, pbinI, h1, decide_false, List.getElem?_toArray, Option.bind_some, h2, ppick_bool, thenQ, isB, tmpOf, asB, inQ, RPost, sres, Tryd.results12, sresL, sres1, Option.some.injEq, checkS, hk, Bool.true_eq_false, outS, hmo, true_or, or_true, Ret_fin, exists_eq_left', true_and]
    exact HTo.put (.refl _ _) hr _
  by_cases h3 : b < 0
  · refine SW.run [] _ ?_
    simp only [wpC, mayStop, stops, isFlt, Specs.has, Specs.hasO, Bool.or_false, Bool.not_false, List.any_cons, List.any_nil, Bool.false_eq_true, ↓reduceIte, wpS, wantedA, okDst, Nat.reduceLT, decide_true, step1, isOwnCall, hxOp, px, pfieldAddr, fieldOf, ty23, fieldIn, List.getElem?_cons_succ, List.getElem?_cons_zero, ty3, Option.map_some, AS.eval, AS.get, Lift.look, Option.getD_some, ne_eq, Nat.succ_ne_zero, not_false_eq_true, Nat.zero_add, AS.put, dropKey, Nat.reduceEqDiff, pload, Heap.get_put, okOne, TK.isAgg, beq_self_eq_true, Bool.or_true, Nat.reduceAdd, List.length_cons, List.length_nil, Nat.reduceLeDiff, and_self, Lift.valOf, List.drop_succ_cons, List.drop_zero, List.take_succ_cons, List.take_zero, List.getD_cons_zero, pbinP, ofConst, ofVal, pbinI, h1, decide_false, List.getElem?_toArray, Option.bind_some, h2, ppick_bool, thenQ, isB, tmpOf, asB, h3, beq_tf, Option.some.injEq, ppick_true, inQ, RPost, sres, Tryd.results12, sresL, sres1, checkS, hk, Bool.true_eq_false, outS, hmo, true_or, or_true, Ret_fin, exists_eq_left', true_and]
    exact HTo.put (.refl _ _) hr _
  by_cases h4 : most < b
  · refine SW.run [] _ ?_
    simp only [wpC, mayStop, stops, isFlt, Specs.has, Specs.hasO, Bool.or_false, Bool.not_false, List.any_cons, List.any_nil, Bool.false_eq_true, ↓reduceIte, wpS, wantedA, okDst, Nat.reduceLT, decide_true, step1, isOwnCall, hxOp, px, pfieldAddr, fieldOf, ty23, fieldIn, List.getElem?_cons_succ, List.getElem?_cons_zero, ty3, Option.map_some, AS.eval, AS.get, Lift.look, Option.getD_some, ne_eq, Nat.succ_ne_zero, not_false_eq_true, Nat.zero_add, AS.put, dropKey, Nat.reduceEqDiff, pload, Heap.get_put, okOne, TK.isAgg, beq_self_eq_true, Bool.or_true, Nat.reduceAdd, List.length_cons, List.length_nil, Nat.reduceLeDiff, and_self, Lift.valOf, List.drop_succ_cons, List.drop_zero, List.take_succ_cons, List.take_zero, List.getD_cons_zero, pbinP, ofConst, ofVal, pbinI, h1, decide_false, List.getElem?_toArray, Option.bind_some, h2, ppick_bool, thenQ, isB, tmpOf, asB, h3, h4, inQ, RPost, sres, Tryd.results12, sresL, sres1, Option.some.injEq, checkS, hk, Bool.true_eq_false, outS, hmo, true_or, or_true, Ret_fin, exists_eq_left', true_and]
    exact HTo.put (.refl _ _) hr _
  by_cases h5 : c < 0
  · refine SW.run [] _ ?_
    simp only [wpC, mayStop, stops, isFlt, Specs.has, Specs.hasO, Bool.or_false, Bool.not_false, List.any_cons, List.any_nil, Bool.false_eq_true, ↓reduceIte, wpS, wantedA, okDst, Nat.reduceLT, decide_true, step1, isOwnCall, hxOp, px, pfieldAddr, fieldOf, ty23, fieldIn, List.getElem?_cons_succ, List.getElem?_cons_zero, ty3, Option.map_some, AS.eval, AS.get, Lift.look, Option.getD_some, ne_eq, Nat.succ_ne_zero, not_false_eq_true, Nat.zero_add, AS.put, dropKey, Nat.reduceEqDiff, pload, Heap.get_put, okOne, TK.isAgg, beq_self_eq_true, Bool.or_true, Nat.reduceAdd, List.length_cons, List.length_nil, Nat.reduceLeDiff, and_self, Lift.valOf, List.drop_succ_cons, List.drop_zero, List.take_succ_cons, List.take_zero, List.getD_cons_zero, pbinP, ofConst, ofVal, pbinI, h1, decide_false, List.getElem?_toArray, Option.bind_some, h2, ppick_bool, thenQ, isB, tmpOf, asB, h3, h4, h5, beq_tf, Option.some.injEq, ppick_true, inQ, RPost, sres, Tryd.results12, sresL, sres1, checkS, hk, Bool.true_eq_false, outS, hmo, true_or, or_true, Ret_fin, exists_eq_left', true_and]
    exact HTo.put (.refl _ _) hr _
  by_cases h6 : 15 < c
  · refine SW.run [] _ ?_
    simp only [wpC, mayStop, stops, isFlt, Specs.has, Specs.hasO, Bool.or_false, Bool.not_false, List.any_cons, List.any_nil, Bool.false_eq_true, ↓reduceIte, wpS, wantedA, okDst, Nat.reduceLT, decide_true, step1, isOwnCall, hxOp, px, pfieldAddr, fieldOf, ty23, fieldIn, List.getElem?_cons_succ, List.getElem?_cons_zero, ty3, Option.map_some, AS.eval, AS.get, Lift.look, Option.getD_some, ne_eq, Nat.succ_ne_zero, not_false_eq_true, Nat.zero_add, AS.put, dropKey, Nat.reduceEqDiff, pload, Heap.get_put, okOne, TK.isAgg, beq_self_eq_true, Bool.or_true, Nat.reduceAdd, List.length_cons, List.length_nil, Nat.reduceLeDiff, and_self, Lift.valOf, List.drop_succ_cons, List.drop_zero, List.take_succ_cons, List.take_zero, List.getD_cons_zero, pbinP, ofConst, ofVal, pbinI, h1, decide_false, List.getElem?_toArray, Option.bind_some, h2, ppick_bool, thenQ, isB, tmpOf, asB, h3, h4, h5, h6, inQ, RPost, sres, Tryd.results12, sresL, sres1, Option.some.injEq, checkS, hk, Bool.true_eq_false, outS, hmo, true_or, or_true, Ret_fin, exists_eq_left', true_and]
    exact HTo.put (.refl _ _) hr _
  by_cases h7 : i < -2147483648
  · refine SW.run [] _ ?_
    simp only [wpC, mayStop, stops, isFlt, Specs.has, Specs.hasO, Bool.or_false, Bool.not_false, List.any_cons, List.any_nil, Bool.false_eq_true, ↓reduceIte, wpS, wantedA, okDst, Nat.reduceLT, decide_true, step1, isOwnCall, hxOp, px, pfieldAddr, fieldOf, ty23, fieldIn, List.getElem?_cons_succ, List.getElem?_cons_zero, ty3, Option.map_some, AS.eval, AS.get, Lift.look, Option.getD_some, ne_eq, Nat.succ_ne_zero, not_false_eq_true, Nat.zero_add, AS.put, dropKey, Nat.reduceEqDiff, pload, Heap.get_put, okOne, TK.isAgg, beq_self_eq_true, Bool.or_true, Nat.reduceAdd, List.length_cons, List.length_nil, Nat.reduceLeDiff, and_self, Lift.valOf, List.drop_succ_cons, List.drop_zero, List.take_succ_cons, List.take_zero, List.getD_cons_zero, pbinP, ofConst, ofVal, pbinI, h1, decide_false, List.getElem?_toArray, Option.bind_some, h2, ppick_bool, thenQ, isB, tmpOf, asB, h3, h4, h5, h6, Nat.le_refl, List.take_nil, h7, beq_tf, Option.some.injEq, ppick_true, inQ, RPost, sres, Tryd.results12, sresL, sres1, checkS, hk, Bool.true_eq_false, outS, hmo, true_or, or_true, Ret_fin, exists_eq_left', true_and]
    exact HTo.put (.refl _ _) hr _
  by_cases h8 : 2147483647 < i
  · refine SW.run [] _ ?_
    simp only [wpC, mayStop, stops, isFlt, Specs.has, Specs.hasO, Bool.or_false, Bool.not_false, List.any_cons, List.any_nil, Bool.false_eq_true, ↓reduceIte, wpS, wantedA, okDst, Nat.reduceLT, decide_true, step1, isOwnCall, hxOp, px, pfieldAddr, fieldOf, ty23, fieldIn, List.getElem?_cons_succ, List.getElem?_cons_zero, ty3, Option.map_some, AS.eval, AS.get, Lift.look, Option.getD_some, ne_eq, Nat.succ_ne_zero, not_false_eq_true, Nat.zero_add, AS.put, dropKey, Nat.reduceEqDiff, pload, Heap.get_put, okOne, TK.isAgg, beq_self_eq_true, Bool.or_true, Nat.reduceAdd, List.length_cons, List.length_nil, Nat.reduceLeDiff, and_self, Lift.valOf, List.drop_succ_cons, List.drop_zero, List.take_succ_cons, List.take_zero, List.getD_cons_zero, pbinP, ofConst, ofVal, pbinI, h1, decide_false, List.getElem?_toArray, Option.bind_some, h2, ppick_bool, thenQ, isB, tmpOf, asB, h3, h4, h5, h6, Nat.le_refl, List.take_nil, h7, h8, inQ, RPost, sres, Tryd.results12, sresL, sres1, Option.some.injEq, checkS, hk, Bool.true_eq_false, outS, hmo, or_true, Ret_fin, exists_eq_left', true_and]
    exact HTo.put (.refl _ _) hr _
  have hout : ¬ outS o a b c i := by unfold outS; rw [hmo]; omega
  refine SW.seq (SW.run [] _ ?_)
  simp only [wpC, mayStop, stops, isFlt, Specs.has, Specs.hasO, Bool.or_false, Bool.not_false, List.any_cons, List.any_nil, Bool.false_eq_true, ↓reduceIte, wpS, wantedA, okDst, Nat.reduceLT, decide_true, step1, isOwnCall, hxOp, px, pfieldAddr, fieldOf, ty23, fieldIn, List.getElem?_cons_succ, List.getElem?_cons_zero, ty3, Option.map_some, AS.eval, AS.get, Lift.look, Option.getD_some, ne_eq, Nat.succ_ne_zero, not_false_eq_true, Nat.zero_add, AS.put, dropKey, Nat.reduceEqDiff, pload, Heap.get_put, okOne, TK.isAgg, beq_self_eq_true, Bool.or_true, Nat.reduceAdd, List.length_cons, List.length_nil, Nat.reduceLeDiff, and_self, Lift.valOf, List.drop_succ_cons, List.drop_zero, List.take_succ_cons, List.take_zero, List.getD_cons_zero, pbinP, ofConst, ofVal, pbinI, h1, decide_false, List.getElem?_toArray, Option.bind_some, h2, ppick_bool, thenQ, isB, tmpOf, asB, h3, h4, h5, h6, Nat.le_refl, List.take_nil, h7, h8, inQ, true_and]
  refine SW.seq (SW.seq (SW.run [] _ ?_))
  simp only [wpC, Bool.false_eq_true, ↓reduceIte, wpS, stops, Specs.has, Specs.hasO, Bool.or_false, Bool.not_false]
  refine SWO.call (.func 32) _ _ 32 #[] #[] rfl rfl rfl rfl rfl rfl (Fields_ok (r := r) (o := o) (a := a) (b := b) (c := c) (i := i) (Heap.put_same _ _ _)) rfl rfl ?_ (by rintro c h' ⟨e1, _⟩; cases e1)
  rintro u h' ⟨e1, rfl⟩
  injection e1 with e1
  subst e1
  refine SWO.run [] 1000 ?_
  simp only [wpS, stops, Bool.false_eq_true, ↓reduceIte, wantedA, okDst, AS.put, dropKey, Nat.reduceEqDiff, Nat.reduceLT, decide_true, step1, isOwnCall, hxOp, px, AS.eval, ofConst, ofVal, thenQ, true_and]
  refine SW.block (SW.loopH 62 (fun k : Nat => [(1, .val (.pointer (some ⟨r, 0, none⟩))), (47, fieldsV r o), (48, .int .i64 (k : Nat))]) (fun _ => h.put r (instO o a b c i)) (fun k => k ≤ 4 ∧ ((fieldL o a b c i).take k).any badF = false) (fun k => 4 - k) 0 ⟨by omega, rfl⟩ ?_ ?_)
  · simp only [hasAll, AS.get, Lift.look, Nat.reduceEqDiff, ↓reduceIte, Option.getD_some, Int.cast_ofNat_Int, and_self, and_true, true_and]
    exact HTo.refl _ _
  rintro k ⟨hk4, hno⟩
  have hcase : k = 0 ∨ k = 1 ∨ k = 2 ∨ k = 3 ∨ k = 4 := by omega
  rcases hcase with rfl | rfl | rfl | rfl | rfl
  · have hnx : ((fieldL o a b c i).take 1).any badF = (((fieldL o a b c i).take 0).any badF || badF (hasB (usesS o) 97, a)) := by simp [fieldL, Bool.or_assoc]
    have hin : (hasB (usesS o) 97, a) ∈ fieldL o a b c i := by simp [fieldL]
    cases hu : hasB (usesS o) 97 with
    | true =>
      refine SW.run [] _ ?_
      simp only [wpC, mayStop, stops, isFlt, Specs.has, Specs.hasO, Bool.or_false, Bool.not_false, List.any_cons, List.any_nil, Bool.false_eq_true, ↓reduceIte, wpS, wantedA, okDst, Nat.reduceLT, decide_true, step1, isOwnCall, hxOp, px, pbinP, AS.eval, AS.get, Lift.look, Nat.reduceEqDiff, Int.cast_ofNat_Int, Option.getD_some, ofConst, ofVal, pbinI, Int.reduceLT, thenQ, isB, AS.put, dropKey, fieldsV, ptrV, hu, instO, tmpOf, asB, pindex, ty72, ty71, okOne, TK.isAgg, Nat.reduceBEq, Int.reduceLE, Int.reduceToNat, Nat.reduceMul, Nat.zero_add, List.length_cons, List.length_nil, Nat.reduceAdd, Nat.reduceLeDiff, and_self, Lift.valOf, List.drop_zero, List.take_succ_cons, List.take_zero, okAlloc, okZero, List.all_cons, Value.oneCell', List.all_nil, Bool.and_true, Heap.get_put, some_none, hx, zeroOf, List.map_cons, List.map_nil, known1, PV.cells, Nat.le_refl, splice, List.nil_append, List.drop_succ_cons, List.drop_nil, List.append_nil, pfieldAddr, fieldOf, fieldIn, List.getElem?_cons_succ, List.getElem?_cons_zero, ty4, Option.map_some, ne_eq, Nat.succ_ne_zero, not_false_eq_true, pload, beq_self_eq_true, Bool.or_true, List.take_nil, List.getD_cons_zero, pun, Bool.not_true, List.getElem?_toArray, Option.bind_some, beq_ft, Option.some.injEq, ppick_false, inQ, ty3, Int.reduceAdd, Nat.reduceSub, hasAll, and_true, true_and]
      rintro q ⟨hqr, hq⟩
      have hrq : ¬ r = q := fun e => hqr e.symm
      refine ⟨1, ⟨by omega, by rw [hnx, hno, hu]; rfl⟩, by omega, by rw [Heap.put_put]; exact HTo_two hqr hq, by rw [w64 (by omega) (by omega)]; rfl⟩
    | false =>
      by_cases hz : a = 0
      · have hz' : (a != 0) = false := by simpa using hz
        refine SW.run [] _ ?_
        simp only [wpC, mayStop, stops, isFlt, Specs.has, Specs.hasO, Bool.or_false, Bool.not_false, List.any_cons, List.any_nil, Bool.false_eq_true, ↓reduceIte, wpS, wantedA, okDst, Nat.reduceLT, decide_true, step1, isOwnCall, hxOp, px, pbinP, AS.eval, AS.get, Lift.look, Nat.reduceEqDiff, Int.cast_ofNat_Int, Option.getD_some, ofConst, ofVal, pbinI, Int.reduceLT, thenQ, isB, AS.put, dropKey, fieldsV, ptrV, hu, instO, tmpOf, asB, pindex, ty72, ty71, okOne, TK.isAgg, Nat.reduceBEq, Int.reduceLE, Int.reduceToNat, Nat.reduceMul, Nat.zero_add, List.length_cons, List.length_nil, Nat.reduceAdd, Nat.reduceLeDiff, and_self, Lift.valOf, List.drop_zero, List.take_succ_cons, List.take_zero, okAlloc, okZero, List.all_cons, Value.oneCell', List.all_nil, Bool.and_true, Heap.get_put, some_none, hx, zeroOf, List.map_cons, List.map_nil, known1, PV.cells, Nat.le_refl, splice, List.nil_append, List.drop_succ_cons, List.drop_nil, List.append_nil, pfieldAddr, fieldOf, fieldIn, List.getElem?_cons_succ, List.getElem?_cons_zero, ty4, Option.map_some, ne_eq, Nat.succ_ne_zero, not_false_eq_true, pload, beq_self_eq_true, Bool.or_true, List.take_nil, List.getD_cons_zero, pun, List.getElem?_toArray, Option.bind_some, ty69, Nat.add_zero, ty3, true_and, PBad, pflt, peq, peqK, psame, ppick_true, inQ, RPost, sres, Ret_fin, Int.reduceAdd, Nat.reduceSub, hasAll, and_true]
        rintro q ⟨hqr, hq⟩
        have hrq : ¬ r = q := fun e => hqr e.symm
        simp only [hrq, ↓reduceIte, List.length_cons, List.length_nil, Nat.zero_add, Nat.reduceAdd, Nat.reduceLeDiff, List.drop_succ_cons, List.drop_zero, List.take_succ_cons, List.take_zero, List.getD_cons_zero, hz', Bool.false_eq_true, true_and]
        refine ⟨1, ⟨by omega, by rw [hnx, hno, hu]; unfold badF; rw [hz']; rfl⟩, by omega, by rw [Heap.put_put]; exact HTo_two hqr hq, by rw [w64 (by omega) (by omega)]; rfl⟩
      · have hz' : (a != 0) = true := by simpa using hz
        have hbad : (fieldL o a b c i).any badF = true := by
          rw [List.any_eq_true]
          exact ⟨_, hin, by unfold badF; rw [hu, hz']; rfl⟩
        refine SW.run [] _ ?_
        simp only [wpC, mayStop, stops, isFlt, Specs.has, Specs.hasO, Bool.or_false, Bool.not_false, List.any_cons, List.any_nil, Bool.false_eq_true, ↓reduceIte, wpS, wantedA, okDst, Nat.reduceLT, decide_true, step1, isOwnCall, hxOp, px, pbinP, AS.eval, AS.get, Lift.look, Nat.reduceEqDiff, Int.cast_ofNat_Int, Option.getD_some, ofConst, ofVal, pbinI, Int.reduceLT, thenQ, isB, AS.put, dropKey, fieldsV, ptrV, hu, instO, tmpOf, asB, pindex, ty72, ty71, okOne, TK.isAgg, Nat.reduceBEq, Int.reduceLE, Int.reduceToNat, Nat.reduceMul, Nat.zero_add, List.length_cons, List.length_nil, Nat.reduceAdd, Nat.reduceLeDiff, and_self, Lift.valOf, List.drop_zero, List.take_succ_cons, List.take_zero, okAlloc, okZero, List.all_cons, Value.oneCell', List.all_nil, Bool.and_true, Heap.get_put, some_none, hx, zeroOf, List.map_cons, List.map_nil, known1, PV.cells, Nat.le_refl, splice, List.nil_append, List.drop_succ_cons, List.drop_nil, List.append_nil, pfieldAddr, fieldOf, fieldIn, List.getElem?_cons_succ, List.getElem?_cons_zero, ty4, Option.map_some, ne_eq, Nat.succ_ne_zero, not_false_eq_true, pload, beq_self_eq_true, Bool.or_true, List.take_nil, List.getD_cons_zero, pun, List.getElem?_toArray, Option.bind_some, ty69, Nat.add_zero, ty3, true_and, PBad, pflt, peq, peqK, psame, ppick_true, inQ, RPost, sres, Ret_fin, Int.reduceAdd, Nat.reduceSub, hasAll, and_true]
        rintro q ⟨hqr, hq⟩
        have hrq : ¬ r = q := fun e => hqr e.symm
        simp only [hrq, ↓reduceIte, List.length_cons, List.length_nil, Nat.zero_add, Nat.reduceAdd, Nat.reduceLeDiff, List.drop_succ_cons, List.drop_zero, List.take_succ_cons, List.take_zero, List.getD_cons_zero, hz', Tryd.results12, sresL, sres1, AS.get, Lift.look, Option.getD_some, Option.some.injEq, exists_eq_left', true_and]
        exact ⟨by unfold checkS; rw [if_neg (by rw [hk]; simp), if_neg hout, if_pos hbad], by rw [Heap.put_put]; exact HTo.put2 _ _ hr hq⟩
  · have hnx : ((fieldL o a b c i).take 2).any badF = (((fieldL o a b c i).take 1).any badF || badF (hasB (usesS o) 98, b)) := by simp [fieldL, Bool.or_assoc]
    have hin : (hasB (usesS o) 98, b) ∈ fieldL o a b c i := by simp [fieldL]
    cases hu : hasB (usesS o) 98 with
    | true =>
      refine SW.run [] _ ?_
      simp only [wpC, mayStop, stops, isFlt, Specs.has, Specs.hasO, Bool.or_false, Bool.not_false, List.any_cons, List.any_nil, Bool.false_eq_true, ↓reduceIte, wpS, wantedA, okDst, Nat.reduceLT, decide_true, step1, isOwnCall, hxOp, px, pbinP, AS.eval, AS.get, Lift.look, Nat.reduceEqDiff, Int.cast_ofNat_Int, Option.getD_some, ofConst, ofVal, pbinI, Int.reduceLT, thenQ, isB, AS.put, dropKey, fieldsV, ptrV, hu, instO, tmpOf, asB, pindex, ty72, ty71, okOne, TK.isAgg, Nat.reduceBEq, Int.reduceLE, Int.reduceToNat, Nat.reduceMul, Nat.reduceAdd, List.length_cons, List.length_nil, Nat.zero_add, Nat.reduceLeDiff, and_self, Lift.valOf, List.drop_succ_cons, List.drop_zero, List.take_succ_cons, List.take_zero, okAlloc, okZero, List.all_cons, Value.oneCell', List.all_nil, Bool.and_true, Heap.get_put, some_none, hx, zeroOf, List.map_cons, List.map_nil, known1, PV.cells, Nat.le_refl, splice, List.nil_append, List.drop_nil, List.append_nil, pfieldAddr, fieldOf, fieldIn, List.getElem?_cons_succ, List.getElem?_cons_zero, ty4, Option.map_some, ne_eq, Nat.succ_ne_zero, not_false_eq_true, pload, beq_self_eq_true, Bool.or_true, List.take_nil, List.getD_cons_zero, pun, Bool.not_true, List.getElem?_toArray, Option.bind_some, beq_ft, Option.some.injEq, ppick_false, inQ, ty3, Int.reduceAdd, Nat.reduceSub, hasAll, and_true, true_and]
      rintro q ⟨hqr, hq⟩
      have hrq : ¬ r = q := fun e => hqr e.symm
      refine ⟨2, ⟨by omega, by rw [hnx, hno, hu]; rfl⟩, by omega, by rw [Heap.put_put]; exact HTo_two hqr hq, by rw [w64 (by omega) (by omega)]; rfl⟩
    | false =>
      by_cases hz : b = 0
      · have hz' : (b != 0) = false := by simpa using hz
        refine SW.run [] _ ?_
        simp only [wpC, mayStop, stops, isFlt, Specs.has, Specs.hasO, Bool.or_false, Bool.not_false, List.any_cons, List.any_nil, Bool.false_eq_true, ↓reduceIte, wpS, wantedA, okDst, Nat.reduceLT, decide_true, step1, isOwnCall, hxOp, px, pbinP, AS.eval, AS.get, Lift.look, Nat.reduceEqDiff, Int.cast_ofNat_Int, Option.getD_some, ofConst, ofVal, pbinI, Int.reduceLT, thenQ, isB, AS.put, dropKey, fieldsV, ptrV, hu, instO, tmpOf, asB, pindex, ty72, ty71, okOne, TK.isAgg, Nat.reduceBEq, Int.reduceLE, Int.reduceToNat, Nat.reduceMul, Nat.reduceAdd, List.length_cons, List.length_nil, Nat.zero_add, Nat.reduceLeDiff, and_self, Lift.valOf, List.drop_succ_cons, List.drop_zero, List.take_succ_cons, List.take_zero, okAlloc, okZero, List.all_cons, Value.oneCell', List.all_nil, Bool.and_true, Heap.get_put, some_none, hx, zeroOf, List.map_cons, List.map_nil, known1, PV.cells, Nat.le_refl, splice, List.nil_append, List.drop_nil, List.append_nil, pfieldAddr, fieldOf, fieldIn, List.getElem?_cons_succ, List.getElem?_cons_zero, ty4, Option.map_some, ne_eq, Nat.succ_ne_zero, not_false_eq_true, pload, beq_self_eq_true, Bool.or_true, List.take_nil, List.getD_cons_zero, pun, List.getElem?_toArray, Option.bind_some, ty69, Nat.add_zero, ty3, true_and, PBad, pflt, peq, peqK, psame, ppick_true, inQ, RPost, sres, Ret_fin, Int.reduceAdd, Nat.reduceSub, hasAll, and_true]
        rintro q ⟨hqr, hq⟩
        have hrq : ¬ r = q := fun e => hqr e.symm
        simp only [hrq, ↓reduceIte, List.length_cons, List.length_nil, Nat.zero_add, Nat.reduceAdd, Nat.reduceLeDiff, List.drop_succ_cons, List.drop_zero, List.take_succ_cons, List.take_zero, List.getD_cons_zero, hz', Bool.false_eq_true, true_and]
        refine ⟨2, ⟨by omega, by rw [hnx, hno, hu]; unfold badF; rw [hz']; rfl⟩, by omega, by rw [Heap.put_put]; exact HTo_two hqr hq, by rw [w64 (by omega) (by omega)]; rfl⟩
      · have hz' : (b != 0) = true := by simpa using hz
        have hbad : (fieldL o a b c i).any badF = true := by
          rw [List.any_eq_true]
          exact ⟨_, hin, by unfold badF; rw [hu, hz']; rfl⟩
        refine SW.run [] _ ?_
        simp only [wpC, mayStop, stops, isFlt, Specs.has, Specs.hasO, Bool.or_false, Bool.not_false, List.any_cons, List.any_nil, Bool.false_eq_true, ↓reduceIte, wpS, wantedA, okDst, Nat.reduceLT, decide_true, step1, isOwnCall, hxOp, px, pbinP, AS.eval, AS.get, Lift.look, Nat.reduceEqDiff, Int.cast_ofNat_Int, Option.getD_some, ofConst, ofVal, pbinI, Int.reduceLT, thenQ, isB, AS.put, dropKey, fieldsV, ptrV, hu, instO, tmpOf, asB, pindex, ty72, ty71, okOne, TK.isAgg, Nat.reduceBEq, Int.reduceLE, Int.reduceToNat, Nat.reduceMul, Nat.reduceAdd, List.length_cons, List.length_nil, Nat.zero_add, Nat.reduceLeDiff, and_self, Lift.valOf, List.drop_succ_cons, List.drop_zero, List.take_succ_cons, List.take_zero, okAlloc, okZero, List.all_cons, Value.oneCell', List.all_nil, Bool.and_true, Heap.get_put, some_none, hx, zeroOf, List.map_cons, List.map_nil, known1, PV.cells, Nat.le_refl, splice, List.nil_append, List.drop_nil, List.append_nil, pfieldAddr, fieldOf, fieldIn, List.getElem?_cons_succ, List.getElem?_cons_zero, ty4, Option.map_some, ne_eq, Nat.succ_ne_zero, not_false_eq_true, pload, beq_self_eq_true, Bool.or_true, List.take_nil, List.getD_cons_zero, pun, List.getElem?_toArray, Option.bind_some, ty69, Nat.add_zero, ty3, true_and, PBad, pflt, peq, peqK, psame, ppick_true, inQ, RPost, sres, Ret_fin, Int.reduceAdd, Nat.reduceSub, hasAll, and_true]
        rintro q ⟨hqr, hq⟩
        have hrq : ¬ r = q := fun e => hqr e.symm
        simp only [hrq, ↓reduceIte, List.length_cons, List.length_nil, Nat.zero_add, Nat.reduceAdd, Nat.reduceLeDiff, List.drop_succ_cons, List.drop_zero, List.take_succ_cons, List.take_zero, List.getD_cons_zero, hz', Tryd.results12, sresL, sres1, AS.get, Lift.look, Option.getD_some, Option.some.injEq, exists_eq_left', true_and]
        exact ⟨by unfold checkS; rw [if_neg (by rw [hk]; simp), if_neg hout, if_pos hbad], by rw [Heap.put_put]; exact HTo.put2 _ _ hr hq⟩
  · have hnx : ((fieldL o a b c i).take 3).any badF = (((fieldL o a b c i).take 2).any badF || badF (hasB (usesS o) 99, c)) := by simp [fieldL, Bool.or_assoc]
    have hin : (hasB (usesS o) 99, c) ∈ fieldL o a b c i := by simp [fieldL]
    cases hu : hasB (usesS o) 99 with
    | true =>
      refine SW.run [] _ ?_
      simp only [wpC, mayStop, stops, isFlt, Specs.has, Specs.hasO, Bool.or_false, Bool.not_false, List.any_cons, List.any_nil, Bool.false_eq_true, ↓reduceIte, wpS, wantedA, okDst, Nat.reduceLT, decide_true, step1, isOwnCall, hxOp, px, pbinP, AS.eval, AS.get, Lift.look, Nat.reduceEqDiff, Int.cast_ofNat_Int, Option.getD_some, ofConst, ofVal, pbinI, Int.reduceLT, thenQ, isB, AS.put, dropKey, fieldsV, ptrV, hu, instO, tmpOf, asB, pindex, ty72, ty71, okOne, TK.isAgg, Nat.reduceBEq, Int.reduceLE, Int.reduceToNat, Nat.reduceMul, Nat.reduceAdd, List.length_cons, List.length_nil, Nat.zero_add, Nat.reduceLeDiff, and_self, Lift.valOf, List.drop_succ_cons, List.drop_zero, List.take_succ_cons, List.take_zero, okAlloc, okZero, List.all_cons, Value.oneCell', List.all_nil, Bool.and_true, Heap.get_put, some_none, hx, zeroOf, List.map_cons, List.map_nil, known1, PV.cells, Nat.le_refl, splice, List.nil_append, List.drop_nil, List.append_nil, pfieldAddr, fieldOf, fieldIn, List.getElem?_cons_succ, List.getElem?_cons_zero, ty4, Option.map_some, ne_eq, Nat.succ_ne_zero, not_false_eq_true, pload, beq_self_eq_true, Bool.or_true, List.take_nil, List.getD_cons_zero, pun, Bool.not_true, List.getElem?_toArray, Option.bind_some, beq_ft, Option.some.injEq, ppick_false, inQ, ty3, Int.reduceAdd, Nat.reduceSub, hasAll, and_true, true_and]
      rintro q ⟨hqr, hq⟩
      have hrq : ¬ r = q := fun e => hqr e.symm
      refine ⟨3, ⟨by omega, by rw [hnx, hno, hu]; rfl⟩, by omega, by rw [Heap.put_put]; exact HTo_two hqr hq, by rw [w64 (by omega) (by omega)]; rfl⟩
    | false =>
      by_cases hz : c = 0
      · have hz' : (c != 0) = false := by simpa using hz
        refine SW.run [] _ ?_
        simp only [wpC, mayStop, stops, isFlt, Specs.has, Specs.hasO, Bool.or_false, Bool.not_false, List.any_cons, List.any_nil, Bool.false_eq_true, ↓reduceIte, wpS, wantedA, okDst, Nat.reduceLT, decide_true, step1, isOwnCall, hxOp, px, pbinP, AS.eval, AS.get, Lift.look, Nat.reduceEqDiff, Int.cast_ofNat_Int, Option.getD_some, ofConst, ofVal, pbinI, Int.reduceLT, thenQ, isB, AS.put, dropKey, fieldsV, ptrV, hu, instO, tmpOf, asB, pindex, ty72, ty71, okOne, TK.isAgg, Nat.reduceBEq, Int.reduceLE, Int.reduceToNat, Nat.reduceMul, Nat.reduceAdd, List.length_cons, List.length_nil, Nat.zero_add, Nat.reduceLeDiff, and_self, Lift.valOf, List.drop_succ_cons, List.drop_zero, List.take_succ_cons, List.take_zero, okAlloc, okZero, List.all_cons, Value.oneCell', List.all_nil, Bool.and_true, Heap.get_put, some_none, hx, zeroOf, List.map_cons, List.map_nil, known1, PV.cells, Nat.le_refl, splice, List.nil_append, List.drop_nil, List.append_nil, pfieldAddr, fieldOf, fieldIn, List.getElem?_cons_succ, List.getElem?_cons_zero, ty4, Option.map_some, ne_eq, Nat.succ_ne_zero, not_false_eq_true, pload, beq_self_eq_true, Bool.or_true, List.take_nil, List.getD_cons_zero, pun, List.getElem?_toArray, Option.bind_some, ty69, Nat.add_zero, ty3, true_and, PBad, pflt, peq, peqK, psame, ppick_true, inQ, RPost, sres, Ret_fin, Int.reduceAdd, Nat.reduceSub, hasAll, and_true]
        rintro q ⟨hqr, hq⟩
        have hrq : ¬ r = q := fun e => hqr e.symm
        simp only [hrq, ↓reduceIte, List.length_cons, List.length_nil, Nat.zero_add, Nat.reduceAdd, Nat.reduceLeDiff, List.drop_succ_cons, List.drop_zero, List.take_succ_cons, List.take_zero, List.getD_cons_zero, hz', Bool.false_eq_true, true_and]
        refine ⟨3, ⟨by omega, by rw [hnx, hno, hu]; unfold badF; rw [hz']; rfl⟩, by omega, by rw [Heap.put_put]; exact HTo_two hqr hq, by rw [w64 (by omega) (by omega)]; rfl⟩
      · have hz' : (c != 0) = true := by simpa using hz
        have hbad : (fieldL o a b c i).any badF = true := by
          rw [List.any_eq_true]
          exact ⟨_, hin, by unfold badF; rw [hu, hz']; rfl⟩
        refine SW.run [] _ ?_
        simp only [wpC, mayStop, stops, isFlt, Specs.has, Specs.hasO, Bool.or_false, Bool.not_false, List.any_cons, List.any_nil, Bool.false_eq_true, ↓reduceIte, wpS, wantedA, okDst, Nat.reduceLT, decide_true, step1, isOwnCall, hxOp, px, pbinP, AS.eval, AS.get, Lift.look, Nat.reduceEqDiff, Int.cast_ofNat_Int, Option.getD_some, ofConst, ofVal, pbinI, Int.reduceLT, thenQ, isB, AS.put, dropKey, fieldsV, ptrV, hu, instO, tmpOf, asB, pindex, ty72, ty71, okOne, TK.isAgg, Nat.reduceBEq, Int.reduceLE, Int.reduceToNat, Nat.reduceMul, Nat.reduceAdd, List.length_cons, List.length_nil, Nat.zero_add, Nat.reduceLeDiff, and_self, Lift.valOf, List.drop_succ_cons, List.drop_zero, List.take_succ_cons, List.take_zero, okAlloc, okZero, List.all_cons, Value.oneCell', List.all_nil, Bool.and_true, Heap.get_put, some_none, hx, zeroOf, List.map_cons, List.map_nil, known1, PV.cells, Nat.le_refl, splice, List.nil_append, List.drop_nil, List.append_nil, pfieldAddr, fieldOf, fieldIn, List.getElem?_cons_succ, List.getElem?_cons_zero, ty4, Option.map_some, ne_eq, Nat.succ_ne_zero, not_false_eq_true, pload, beq_self_eq_true, Bool.or_true, List.take_nil, List.getD_cons_zero, pun, List.getElem?_toArray, Option.bind_some, ty69, Nat.add_zero, ty3, true_and, PBad, pflt, peq, peqK, psame, ppick_true, inQ, RPost, sres, Ret_fin, Int.reduceAdd, Nat.reduceSub, hasAll, and_true]
        rintro q ⟨hqr, hq⟩
        have hrq : ¬ r = q := fun e => hqr e.symm
        simp only [hrq, ↓reduceIte, List.length_cons, List.length_nil, Nat.zero_add, Nat.reduceAdd, Nat.reduceLeDiff, List.drop_succ_cons, List.drop_zero, List.take_succ_cons, List.take_zero, List.getD_cons_zero, hz', Tryd.results12, sresL, sres1, AS.get, Lift.look, Option.getD_some, Option.some.injEq, exists_eq_left', true_and]
        exact ⟨by unfold checkS; rw [if_neg (by rw [hk]; simp), if_neg hout, if_pos hbad], by rw [Heap.put_put]; exact HTo.put2 _ _ hr hq⟩
  · have hnx : ((fieldL o a b c i).take 4).any badF = (((fieldL o a b c i).take 3).any badF || badF (hasB (usesS o) 105, i)) := by simp [fieldL, Bool.or_assoc]
    have hin : (hasB (usesS o) 105, i) ∈ fieldL o a b c i := by simp [fieldL]
    cases hu : hasB (usesS o) 105 with
    | true =>
      refine SW.run [] _ ?_
      simp only [wpC, mayStop, stops, isFlt, Specs.has, Specs.hasO, Bool.or_false, Bool.not_false, List.any_cons, List.any_nil, Bool.false_eq_true, ↓reduceIte, wpS, wantedA, okDst, Nat.reduceLT, decide_true, step1, isOwnCall, hxOp, px, pbinP, AS.eval, AS.get, Lift.look, Nat.reduceEqDiff, Int.cast_ofNat_Int, Option.getD_some, ofConst, ofVal, pbinI, Int.reduceLT, thenQ, isB, AS.put, dropKey, fieldsV, ptrV, hu, instO, tmpOf, asB, pindex, ty72, ty71, okOne, TK.isAgg, Nat.reduceBEq, Int.reduceLE, Int.reduceToNat, Nat.reduceMul, Nat.reduceAdd, List.length_cons, List.length_nil, Nat.zero_add, Nat.le_refl, and_self, Lift.valOf, List.drop_succ_cons, List.drop_zero, List.take_succ_cons, List.take_nil, okAlloc, okZero, List.all_cons, Value.oneCell', List.all_nil, Bool.and_true, Heap.get_put, some_none, hx, zeroOf, List.map_cons, List.map_nil, known1, PV.cells, splice, List.take_zero, List.nil_append, List.drop_nil, List.append_nil, pfieldAddr, fieldOf, fieldIn, List.getElem?_cons_succ, List.getElem?_cons_zero, ty4, Option.map_some, ne_eq, Nat.succ_ne_zero, not_false_eq_true, pload, beq_self_eq_true, Bool.or_true, List.getD_cons_zero, pun, Bool.not_true, List.getElem?_toArray, Option.bind_some, beq_ft, Option.some.injEq, ppick_false, inQ, ty3, Int.reduceAdd, Nat.reduceSub, hasAll, and_true, true_and]
      rintro q ⟨hqr, hq⟩
      have hrq : ¬ r = q := fun e => hqr e.symm
      refine ⟨4, ⟨by omega, by rw [hnx, hno, hu]; rfl⟩, by omega, by rw [Heap.put_put]; exact HTo_two hqr hq, by rw [w64 (by omega) (by omega)]; rfl⟩
    | false =>
      by_cases hz : i = 0
      · have hz' : (i != 0) = false := by simpa using hz
        refine SW.run [] _ ?_
        simp only [wpC, mayStop, stops, isFlt, Specs.has, Specs.hasO, Bool.or_false, Bool.not_false, List.any_cons, List.any_nil, Bool.false_eq_true, ↓reduceIte, wpS, wantedA, okDst, Nat.reduceLT, decide_true, step1, isOwnCall, hxOp, px, pbinP, AS.eval, AS.get, Lift.look, Nat.reduceEqDiff, Int.cast_ofNat_Int, Option.getD_some, ofConst, ofVal, pbinI, Int.reduceLT, thenQ, isB, AS.put, dropKey, fieldsV, ptrV, hu, instO, tmpOf, asB, pindex, ty72, ty71, okOne, TK.isAgg, Nat.reduceBEq, Int.reduceLE, Int.reduceToNat, Nat.reduceMul, Nat.reduceAdd, List.length_cons, List.length_nil, Nat.zero_add, Nat.le_refl, and_self, Lift.valOf, List.drop_succ_cons, List.drop_zero, List.take_succ_cons, List.take_nil, okAlloc, okZero, List.all_cons, Value.oneCell', List.all_nil, Bool.and_true, Heap.get_put, some_none, hx, zeroOf, List.map_cons, List.map_nil, known1, PV.cells, splice, List.take_zero, List.nil_append, List.drop_nil, List.append_nil, pfieldAddr, fieldOf, fieldIn, List.getElem?_cons_succ, List.getElem?_cons_zero, ty4, Option.map_some, ne_eq, Nat.succ_ne_zero, not_false_eq_true, pload, beq_self_eq_true, Bool.or_true, List.getD_cons_zero, pun, List.getElem?_toArray, Option.bind_some, ty69, Nat.add_zero, Nat.reduceLeDiff, ty3, true_and, PBad, pflt, peq, peqK, psame, ppick_true, inQ, RPost, sres, Ret_fin, Int.reduceAdd, Nat.reduceSub, hasAll, and_true]
        rintro q ⟨hqr, hq⟩
        have hrq : ¬ r = q := fun e => hqr e.symm
        simp only [hrq, ↓reduceIte, List.length_cons, List.length_nil, Nat.zero_add, Nat.reduceAdd, Nat.le_refl, List.drop_succ_cons, List.drop_zero, List.take_succ_cons, List.take_nil, List.getD_cons_zero, hz', Bool.false_eq_true, true_and]
        refine ⟨4, ⟨by omega, by rw [hnx, hno, hu]; unfold badF; rw [hz']; rfl⟩, by omega, by rw [Heap.put_put]; exact HTo_two hqr hq, by rw [w64 (by omega) (by omega)]; rfl⟩
      · have hz' : (i != 0) = true := by simpa using hz
        have hbad : (fieldL o a b c i).any badF = true := by
          rw [List.any_eq_true]
          exact ⟨_, hin, by unfold badF; rw [hu, hz']; rfl⟩
        refine SW.run [] _ ?_
        simp only [wpC, mayStop, stops, isFlt, Specs.has, Specs.hasO, Bool.or_false, Bool.not_false, List.any_cons, List.any_nil, Bool.false_eq_true, ↓reduceIte, wpS, wantedA, okDst, Nat.reduceLT, decide_true, step1, isOwnCall, hxOp, px, pbinP, AS.eval, AS.get, Lift.look, Nat.reduceEqDiff, Int.cast_ofNat_Int, Option.getD_some, ofConst, ofVal, pbinI, Int.reduceLT, thenQ, isB, AS.put, dropKey, fieldsV, ptrV, hu, instO, tmpOf, asB, pindex, ty72, ty71, okOne, TK.isAgg, Nat.reduceBEq, Int.reduceLE, Int.reduceToNat, Nat.reduceMul, Nat.reduceAdd, List.length_cons, List.length_nil, Nat.zero_add, Nat.le_refl, and_self, Lift.valOf, List.drop_succ_cons, List.drop_zero, List.take_succ_cons, List.take_nil, okAlloc, okZero, List.all_cons, Value.oneCell', List.all_nil, Bool.and_true, Heap.get_put, some_none, hx, zeroOf, List.map_cons, List.map_nil, known1, PV.cells, splice, List.take_zero, List.nil_append, List.drop_nil, List.append_nil, pfieldAddr, fieldOf, fieldIn, List.getElem?_cons_succ, List.getElem?_cons_zero, ty4, Option.map_some, ne_eq, Nat.succ_ne_zero, not_false_eq_true, pload, beq_self_eq_true, Bool.or_true, List.getD_cons_zero, pun, List.getElem?_toArray, Option.bind_some, ty69, Nat.add_zero, Nat.reduceLeDiff, ty3, true_and, PBad, pflt, peq, peqK, psame, ppick_true, inQ, RPost, sres, Ret_fin, Int.reduceAdd, Nat.reduceSub, hasAll, and_true]
        rintro q ⟨hqr, hq⟩
        have hrq : ¬ r = q := fun e => hqr e.symm
        simp only [hrq, ↓reduceIte, List.length_cons, List.length_nil, Nat.zero_add, Nat.reduceAdd, Nat.le_refl, List.drop_succ_cons, List.drop_zero, List.take_succ_cons, List.take_nil, List.getD_cons_zero, hz', Tryd.results12, sresL, sres1, AS.get, Lift.look, Option.getD_some, Option.some.injEq, exists_eq_left', true_and]
        exact ⟨by unfold checkS; rw [if_neg (by rw [hk]; simp), if_neg hout, if_pos hbad], by rw [Heap.put_put]; exact HTo.put2 _ _ hr hq⟩
  · refine SW.run [] _ ?_
    simp only [wpC, mayStop, stops, isFlt, Specs.has, Specs.hasO, Bool.or_false, Bool.not_false, List.any_cons, List.any_nil, Bool.false_eq_true, ↓reduceIte, wpS, wantedA, okDst, Nat.reduceLT, decide_true, step1, isOwnCall, hxOp, px, pbinP, AS.eval, AS.get, Lift.look, Nat.reduceEqDiff, Int.cast_ofNat_Int, Option.getD_some, ofConst, ofVal, pbinI, Int.reduceLT, decide_false, thenQ, isB, AS.put, dropKey, instO, tmpOf, asB, inQ, true_and]
    refine SW.run [] _ ?_
    simp only [wpC, mayStop, stops, isFlt, Specs.has, Specs.hasO, Bool.or_false, Bool.not_false, List.any_cons, List.any_nil, Bool.false_eq_true, ↓reduceIte, wpS, wantedA, okDst, Nat.reduceLT, decide_true, step1, isOwnCall, hxOp, px, AS.eval, ofConst, ofVal, thenQ, RPost, sres, AS.put, dropKey, Nat.reduceEqDiff, Tryd.results12, sresL, sres1, AS.get, Lift.look, Option.getD_some, Option.some.injEq, Ret_fin, exists_eq_left', true_and]
    have hno' : (fieldL o a b c i).any badF = false := hno
    exact ⟨by unfold checkS; rw [if_neg (by rw [hk]; simp), if_neg hout, if_neg (by rw [hno']; simp)], HTo.put (.refl _ _) hr _⟩
noncomputable def eCheck : SpecE env := ⟨12, sCheck, fun args h hc => by
  unfold sCheck at hc ⊢
  split at hc
  · rename_i o a b c i; exact .inl (Check_ok o a b c i h)
  · exact hc.elim⟩
end Go.Proofs.YthdmdeiaonkeoaaDoor
