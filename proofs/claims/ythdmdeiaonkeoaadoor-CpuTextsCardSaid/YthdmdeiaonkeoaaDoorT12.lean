/- Contracts of functions that the law reaches. -/
import Derived.Test.YthdmdeiaonkeoaaDoorT11
set_option linter.unusedSimpArgs false
set_option linter.unusedVariables false
namespace Go.Proofs.YthdmdeiaonkeoaaDoor
open Go Go.RowKit Go.Proofs.YthdmdeiaonkeoaaDoor Go.Proofs.YthdmdeiaonkeoaaDoor.Lift

/-! awake: the examples of the chapter -/
theorem aw0 : encS 1 1 0 0 (-1) = .tuple [.int .i64 72339073309605887, .int .i64 0] := by kernel_rfl
theorem aw1 : encS 1 1 0 0 5 = .tuple [.int .i64 72339069014638597, .int .i64 0] := by kernel_rfl
theorem aw2 : encS 5 1 0 0 2 = .tuple [.int .i64 360569445166350338, .int .i64 0] := by kernel_rfl
theorem aw3 : encS 0 0 0 0 7 = .tuple [.int .i64 7, .int .i64 0] := by kernel_rfl
theorem awT : textS 1 1 0 0 (-1) = [115, 101, 116, 32, 49, 32, 45, 49] := by kernel_rfl
def awL : List (List PV) := [[.int .i64 1, .int .i64 1, .int .i64 0, .int .i64 0, .int .i64 5], [.int .i64 5, .int .i64 1, .int .i64 0, .int .i64 0, .int .i64 2], [.int .i64 0, .int .i64 0, .int .i64 0, .int .i64 0, .int .i64 7]]
set_option maxRecDepth 100000 in
theorem Awake_ok (h : Heap) : SCalls env 9 [] h (Ret (.bool true) h) := by
  refine SCalls.body Tryd.func9 rfl rfl (by simp [Tryd.ntmps9]) ?_
  refine SW.seq (SW.run [] _ ?_)
  simp only [wpC, Bool.false_eq_true, ↓reduceIte, wpS, stops, wantedA, okDst, Tryd.ntmps9, Nat.reduceLT, decide_true, step1, isOwnCall, hxOp, px, AS.eval, ofConst, ofVal, thenQ, AS.put, enumA, dropKey, true_and]
  refine SW.seq (SW.run [eEncode] _ ?_)
  simp only [wpC, Bool.false_eq_true, ↓reduceIte, wpS, stops, wantedA, okDst, Nat.reduceLT, decide_true, step1, isOwnCall, hxOp, px, pbuild, ty23, List.map_cons, ofVal, List.map_nil, AS.eval, AS.get, Lift.look, ofConst, pfill, placeOf, List.getElem?_cons_zero, ty3, Option.map_some, PV.cells, List.length_cons, List.length_nil, Nat.zero_add, Nat.reduceAdd, Nat.reduceLeDiff, and_self, List.getElem?_cons_succ, splice, List.take_zero, List.nil_append, List.drop_succ_cons, List.drop_zero, List.cons_append, List.take_succ_cons, Nat.le_refl, List.drop_nil, List.append_nil, List.all_cons, Option.isSome_some, List.all_nil, Bool.and_true, okZero, Value.oneCell', known, Specs.has, eEncode, Specs.hasO, Nat.reduceSub, reduceCtorEq, Bool.or_false, Bool.not_true, AS.put, dropKey, pcall, okArg, Option.getD_some, Specs.at, sEncode, aw0, Nat.reduceEqDiff, thenQ, true_and]
  refine SW.seq (SW.run [eText] _ ?_)
  simp only [wpC, mayStop, stops, isFlt, Specs.has, eText, Specs.hasO, Nat.reduceLeDiff, Nat.reduceSub, false_and, ↓reduceIte, Bool.or_false, List.any_cons, Bool.not_true, List.any_nil, Bool.false_eq_true, wpS, wantedA, okDst, Nat.reduceLT, decide_true, step1, isOwnCall, hxOp, px, AS.eval, AS.get, Lift.look, Nat.reduceEqDiff, Option.getD_some, AS.put, dropKey, reduceCtorEq, pbinP, ofConst, ofVal, pbinI, bne_self_eq_false, List.getElem?_toArray, List.getElem?_cons_succ, List.getElem?_cons_zero, Option.bind_some, beq_self_eq_true, ppick_bool, pbuild, ty23, List.map_cons, List.map_nil, pfill, placeOf, ty3, Option.map_some, PV.cells, List.length_cons, List.length_nil, Nat.zero_add, Nat.reduceAdd, and_self, splice, List.take_zero, List.nil_append, List.drop_succ_cons, List.drop_zero, List.cons_append, List.take_succ_cons, Nat.le_refl, List.drop_nil, List.append_nil, List.all_cons, Option.isSome_some, List.all_nil, Bool.and_true, okZero, Value.oneCell', known, pcall, okArg, Specs.at, sText, awT, pbinS, thenQ, isB, tmpOf, asB, true_and]
  refine SW.seq (SW.run [] _ ?_)
  simp only [wpC, Bool.false_eq_true, ↓reduceIte, wpS, stops, wantedA, okDst, Nat.reduceLT, decide_true, step1, isOwnCall, hxOp, px, AS.eval, ofConst, ofVal, thenQ, AS.put, dropKey, Nat.reduceEqDiff, reduceCtorEq, true_and]
  refine SW.seq (SW.run [] _ ?_)
  simp only [wpC, mayStop, stops, isFlt, Specs.has, Specs.hasO, Bool.or_false, Bool.not_false, List.any_cons, List.any_nil, Bool.false_eq_true, ↓reduceIte, wpS, wantedA, okDst, Nat.reduceLT, decide_true, step1, isOwnCall, hxOp, px, pbuild, ty23, List.map_cons, ofVal, List.map_nil, AS.eval, AS.get, Lift.look, ofConst, pfill, placeOf, List.getElem?_cons_zero, ty3, Option.map_some, PV.cells, List.length_cons, List.length_nil, Nat.zero_add, Nat.reduceAdd, Nat.reduceLeDiff, and_self, List.getElem?_cons_succ, splice, List.take_zero, List.nil_append, List.drop_succ_cons, List.drop_zero, List.cons_append, List.take_succ_cons, Nat.le_refl, List.drop_nil, List.append_nil, List.all_cons, Option.isSome_some, List.all_nil, Bool.and_true, okZero, Value.oneCell', known, AS.put, dropKey, Nat.reduceEqDiff, reduceCtorEq, pbuildSlice, ty66, Nat.succ_ne_zero, List.replicate, List.flatten_cons, List.flatten_nil, Option.getD_some, Nat.reduceMul, chunk, List.take_nil, pcall, plen, okLen, Int.cast_ofNat_Int, thenQ, true_and]
  refine SW.loopH 100 (fun b : Nat × PV × Heap => [(3, b.2.1), (32, .list 5 awL), (33, .int .i64 3), (34, .int .i64 (b.1 : Nat))]) (fun b => b.2.2) (fun b => b.1 ≤ 3 ∧ Own h 3 1 (el64 (codeA.take b.1)) b.2.1 b.2.2) (fun b => 3 - b.1) (0, nilV, h) ⟨Nat.zero_le _, .nil _ _ _⟩ ?_ ?_
  · simp only [HTo_self, hasAll, AS.get, Lift.look, Nat.reduceEqDiff, ↓reduceIte, Option.getD_some, nilV, awL, Int.cast_ofNat_Int, and_self]
  rintro ⟨k, v, H⟩ ⟨hk, own⟩
  dsimp only at hk own ⊢
  have hcase : k = 0 ∨ k = 1 ∨ k = 2 ∨ k = 3 := by omega
  rcases hcase with rfl | rfl | rfl | rfl
  · refine SW.run [eEncode] _ ?_
    simp only [wpC, mayStop, stops, isFlt, Specs.has, eEncode, Specs.hasO, Nat.reduceLeDiff, Nat.reduceSub, false_and, ↓reduceIte, Bool.or_false, List.any_cons, List.any_nil, Bool.false_eq_true, wpS, wantedA, okDst, Nat.reduceLT, decide_true, step1, isOwnCall, hxOp, px, pbinP, AS.eval, AS.get, Lift.look, Nat.reduceEqDiff, Int.cast_ofNat_Int, Option.getD_some, pbinI, Int.reduceLT, thenQ, isB, AS.put, dropKey, awL, tmpOf, asB, Bool.not_true, Bool.or_true, pindexAddr, ty66, ty23, ne_eq, Nat.succ_ne_zero, not_false_eq_true, Int.reduceLE, Int.reduceToNat, List.length_cons, List.length_nil, Nat.zero_add, Nat.reduceAdd, and_self, List.getD_cons_zero, pload, okOne, TK.isAgg, Nat.reduceBEq, Nat.le_refl, Lift.valOf, List.take_succ_cons, List.take_nil, okAlloc, okZero, List.all_cons, Value.oneCell', List.all_nil, Bool.and_true, hx, zeroOf, List.map_cons, ofVal, List.map_nil, Heap.get_put, known1, PV.cells, splice, List.take_zero, List.nil_append, List.drop_succ_cons, List.drop_nil, List.append_nil, List.drop_zero, reduceCtorEq, pcall, okArg, ofConst, Specs.at, sEncode, aw1, List.getElem?_cons_zero, List.getElem?_cons_succ, Int.reduceBNe, pbuildSlice, ty41, ty3, List.replicate, List.flatten_cons, List.flatten_nil, pfill, Nat.reduceMul, known, chunk, hasAll, and_true, true_and]
    intro q hq
    refine SWO.enter (n := 100) (l := [(45, v), (47, .list 1 (el64 [72339069014638597])), (32, .list 5 awL), (33, .int .i64 3), (34, .int .i64 (0 : Nat))]) (H := H) ⟨rfl, (by dsimp only; rw [Heap.put_put]; exact HTo.put (.refl _ _) hq _), rfl, rfl, rfl, rfl, rfl, trivial⟩ ?_
    refine SWO.append (.tmp 45) (.tmp 47) 41 41 rfl ty41 rfl ty3 (by decide) rfl ty41 rfl own (ys := el64 [72339069014638597]) rfl (by rw [el64_len, el64_len]; decide) (by rw [el64_len, el64_len]; decide) rfl rfl ?_
    intro v1 H1 own1 _ _
    refine SWO.run [] 1000 ?_
    simp only [wpS, stops, Bool.false_eq_true, ↓reduceIte, wantedA, okDst, AS.put, dropKey, Nat.reduceEqDiff, awL, Int.cast_ofNat_Int, Nat.reduceLT, decide_true, step1, isOwnCall, hxOp, px, AS.eval, AS.get, Lift.look, Option.getD_some, inQ, thenQ, true_and]
    refine SW.run [] _ ?_
    simp only [wpC, Bool.false_eq_true, ↓reduceIte, wpS, stops, isFlt, ty3, wantedA, okDst, Nat.reduceLT, decide_true, step1, isOwnCall, hxOp, px, pbinP, AS.eval, AS.get, Lift.look, Nat.reduceEqDiff, Option.getD_some, ofConst, ofVal, pbinI, Int.reduceAdd, AS.put, dropKey, thenQ, true_and]
    exact ⟨(1, v1, H1), ⟨(by dsimp only; omega), own1⟩, (by dsimp only; omega), .refl _ _, rfl, rfl⟩
  · refine SW.run [eEncode] _ ?_
    simp only [wpC, mayStop, stops, isFlt, Specs.has, eEncode, Specs.hasO, Nat.reduceLeDiff, Nat.reduceSub, false_and, ↓reduceIte, Bool.or_false, List.any_cons, List.any_nil, Bool.false_eq_true, wpS, wantedA, okDst, Nat.reduceLT, decide_true, step1, isOwnCall, hxOp, px, pbinP, AS.eval, AS.get, Lift.look, Nat.reduceEqDiff, Int.cast_ofNat_Int, Option.getD_some, pbinI, Int.reduceLT, thenQ, isB, AS.put, dropKey, awL, tmpOf, asB, Bool.not_true, Bool.or_true, pindexAddr, ty66, ty23, ne_eq, Nat.succ_ne_zero, not_false_eq_true, Int.reduceLE, Int.reduceToNat, List.length_cons, List.length_nil, Nat.zero_add, Nat.reduceAdd, and_self, List.getD_cons_succ, List.getD_cons_zero, pload, okOne, TK.isAgg, Nat.reduceBEq, Nat.le_refl, Lift.valOf, List.take_succ_cons, List.take_nil, okAlloc, okZero, List.all_cons, Value.oneCell', List.all_nil, Bool.and_true, hx, zeroOf, List.map_cons, ofVal, List.map_nil, Heap.get_put, known1, PV.cells, splice, List.take_zero, List.nil_append, List.drop_succ_cons, List.drop_nil, List.append_nil, List.drop_zero, reduceCtorEq, pcall, okArg, ofConst, Specs.at, sEncode, aw2, List.getElem?_cons_zero, List.getElem?_cons_succ, Int.reduceBNe, pbuildSlice, ty41, ty3, List.replicate, List.flatten_cons, List.flatten_nil, pfill, Nat.reduceMul, known, chunk, hasAll, and_true, true_and]
    intro q hq
    refine SWO.enter (n := 100) (l := [(45, v), (47, .list 1 (el64 [360569445166350338])), (32, .list 5 awL), (33, .int .i64 3), (34, .int .i64 (1 : Nat))]) (H := H) ⟨rfl, (by dsimp only; rw [Heap.put_put]; exact HTo.put (.refl _ _) hq _), rfl, rfl, rfl, rfl, rfl, trivial⟩ ?_
    refine SWO.append (.tmp 45) (.tmp 47) 41 41 rfl ty41 rfl ty3 (by decide) rfl ty41 rfl own (ys := el64 [360569445166350338]) rfl (by rw [el64_len, el64_len]; decide) (by rw [el64_len, el64_len]; decide) rfl rfl ?_
    intro v1 H1 own1 _ _
    refine SWO.run [] 1000 ?_
    simp only [wpS, stops, Bool.false_eq_true, ↓reduceIte, wantedA, okDst, AS.put, dropKey, Nat.reduceEqDiff, awL, Int.cast_ofNat_Int, Nat.reduceLT, decide_true, step1, isOwnCall, hxOp, px, AS.eval, AS.get, Lift.look, Option.getD_some, inQ, thenQ, true_and]
    refine SW.run [] _ ?_
    simp only [wpC, Bool.false_eq_true, ↓reduceIte, wpS, stops, isFlt, ty3, wantedA, okDst, Nat.reduceLT, decide_true, step1, isOwnCall, hxOp, px, pbinP, AS.eval, AS.get, Lift.look, Nat.reduceEqDiff, Option.getD_some, ofConst, ofVal, pbinI, Int.reduceAdd, AS.put, dropKey, thenQ, true_and]
    exact ⟨(2, v1, H1), ⟨(by dsimp only; omega), own1⟩, (by dsimp only; omega), .refl _ _, rfl, rfl⟩
  · refine SW.run [eEncode] _ ?_
    simp only [wpC, mayStop, stops, isFlt, Specs.has, eEncode, Specs.hasO, Nat.reduceLeDiff, Nat.reduceSub, false_and, ↓reduceIte, Bool.or_false, List.any_cons, List.any_nil, Bool.false_eq_true, wpS, wantedA, okDst, Nat.reduceLT, decide_true, step1, isOwnCall, hxOp, px, pbinP, AS.eval, AS.get, Lift.look, Nat.reduceEqDiff, Int.cast_ofNat_Int, Option.getD_some, pbinI, Int.reduceLT, thenQ, isB, AS.put, dropKey, awL, tmpOf, asB, Bool.not_true, Bool.or_true, pindexAddr, ty66, ty23, ne_eq, Nat.succ_ne_zero, not_false_eq_true, Int.reduceLE, Int.reduceToNat, List.length_cons, List.length_nil, Nat.zero_add, Nat.reduceAdd, and_self, List.getD_cons_succ, List.getD_cons_zero, pload, okOne, TK.isAgg, Nat.reduceBEq, Nat.le_refl, Lift.valOf, List.take_succ_cons, List.take_nil, okAlloc, okZero, List.all_cons, Value.oneCell', List.all_nil, Bool.and_true, hx, zeroOf, List.map_cons, ofVal, List.map_nil, Heap.get_put, known1, PV.cells, splice, List.take_zero, List.nil_append, List.drop_succ_cons, List.drop_nil, List.append_nil, List.drop_zero, reduceCtorEq, pcall, okArg, ofConst, Specs.at, sEncode, aw3, List.getElem?_cons_zero, List.getElem?_cons_succ, Int.reduceBNe, pbuildSlice, ty41, ty3, List.replicate, List.flatten_cons, List.flatten_nil, pfill, Nat.reduceMul, known, chunk, hasAll, and_true, true_and]
    intro q hq
    refine SWO.enter (n := 100) (l := [(45, v), (47, .list 1 (el64 [7])), (32, .list 5 awL), (33, .int .i64 3), (34, .int .i64 (2 : Nat))]) (H := H) ⟨rfl, (by dsimp only; rw [Heap.put_put]; exact HTo.put (.refl _ _) hq _), rfl, rfl, rfl, rfl, rfl, trivial⟩ ?_
    refine SWO.append (.tmp 45) (.tmp 47) 41 41 rfl ty41 rfl ty3 (by decide) rfl ty41 rfl own (ys := el64 [7]) rfl (by rw [el64_len, el64_len]; decide) (by rw [el64_len, el64_len]; decide) rfl rfl ?_
    intro v1 H1 own1 _ _
    refine SWO.run [] 1000 ?_
    simp only [wpS, stops, Bool.false_eq_true, ↓reduceIte, wantedA, okDst, AS.put, dropKey, Nat.reduceEqDiff, awL, Int.cast_ofNat_Int, Nat.reduceLT, decide_true, step1, isOwnCall, hxOp, px, AS.eval, AS.get, Lift.look, Option.getD_some, inQ, thenQ, true_and]
    refine SW.run [] _ ?_
    simp only [wpC, Bool.false_eq_true, ↓reduceIte, wpS, stops, isFlt, ty3, wantedA, okDst, Nat.reduceLT, decide_true, step1, isOwnCall, hxOp, px, pbinP, AS.eval, AS.get, Lift.look, Nat.reduceEqDiff, Option.getD_some, ofConst, ofVal, pbinI, Int.reduceAdd, AS.put, dropKey, thenQ, true_and]
    exact ⟨(3, v1, H1), ⟨(by dsimp only; omega), own1⟩, (by dsimp only; omega), .refl _ _, rfl, rfl⟩
  · refine SW.run [] _ ?_
    simp only [wpC, mayStop, stops, isFlt, Specs.has, Specs.hasO, Bool.or_false, Bool.not_false, List.any_cons, List.any_nil, Bool.false_eq_true, ↓reduceIte, wpS, wantedA, okDst, Nat.reduceLT, decide_true, step1, isOwnCall, hxOp, px, pbinP, AS.eval, AS.get, Lift.look, Nat.reduceEqDiff, Int.cast_ofNat_Int, Option.getD_some, pbinI, Int.reduceLT, decide_false, thenQ, isB, AS.put, dropKey, tmpOf, asB, inQ, true_and]
    refine SW.own_let 3 rfl own ?_
    refine SW.run [] _ ?_
    simp only [wpC, mayStop, stops, isFlt, Specs.has, Specs.hasO, Bool.or_false, Bool.not_false, List.any_cons, List.any_nil, Bool.or_true, ↓reduceIte, Bool.false_eq_true, wpS, wantedA, okDst, AS.put, dropKey, Nat.reduceEqDiff, Nat.reduceLT, decide_true, step1, isOwnCall, hxOp, px, AS.eval, AS.get, Lift.look, Option.getD_some, true_and]
    refine SWO.make 43 (.const (.int .i64 3)) (.const (.int .i64 3)) rfl ty43 rfl ty2 rfl rfl (by decide) (n := 3) rfl rfl (by decide) (by decide) rfl rfl fun m hm => ?_
    refine SWO.own_let 52 rfl (Own.made [.int .i64 0] rfl hm (by decide)) ?_
    refine SWO.run [] 1 ?_
    simp only [wpS, stops, Bool.false_eq_true, ↓reduceIte, wantedA, okDst, AS.put, dropKey, Nat.reduceEqDiff, List.replicate, Nat.reduceMul, List.map_cons, ofVal, List.map_nil, List.flatten_cons, List.flatten_nil, List.append_nil, List.cons_append, List.nil_append, Nat.reduceLT, decide_true, step1, isOwnCall, hxOp, px, pbuild, ty45, AS.eval, AS.get, Lift.look, ofConst, Option.getD_some, pfill, placeOf, List.getElem?_cons_succ, List.getElem?_cons_zero, ty43, Option.map_some, PV.cells, List.length_cons, List.length_nil, Nat.zero_add, Nat.reduceAdd, Nat.reduceLeDiff, and_self, ty3, splice, List.take_succ_cons, List.take_zero, List.drop_succ_cons, List.drop_zero, Nat.le_refl, List.drop_nil, List.all_cons, Option.isSome_some, ty42, List.all_nil, Bool.and_true, okZero, Value.oneCell', known, true_and]
    refine SWO.call (.func 20) _ _ 20 #[] #[] rfl rfl rfl rfl rfl rfl (RunA_ok 3 h (by decide) (by decide)) rfl rfl ?_ (by rintro c h' ⟨_, _, _, _, e1, _⟩; cases e1)
    rintro u h' ⟨k, cap, A2, cap2, e1, hcap, hk0, rfl, hcm⟩
    injection e1 with e1
    subst e1
    refine SWO.run [] 1000 ?_
    simp only [wpS, stops, Bool.false_eq_true, ↓reduceIte, wantedA, okDst, AS.put, stateL, dropKey, Nat.reduceEqDiff, Nat.reduceLT, decide_true, step1, isOwnCall, hxOp, px, AS.eval, AS.get, Lift.look, Option.getD_some, List.map_cons, List.map_nil, List.getElem?_cons_zero, List.getElem?_cons_succ, okAlloc, ty45, okZero, List.all_cons, Value.oneCell', List.all_nil, Bool.and_true, Heap.get_put, some_none, hx, zeroOf, ofVal, List.length_cons, List.length_nil, Nat.zero_add, Nat.reduceAdd, known1, PV.cells, Nat.le_refl, and_self, splice, List.take_zero, List.nil_append, List.drop_succ_cons, List.drop_nil, List.append_nil, thenQ, true_and]
    rintro q ⟨hqk, hq⟩
    have hkq : ¬ k = q := fun e => hqk e.symm
    refine SW.run [] _ ?_
    simp only [wpC, mayStop, stops, isFlt, Specs.has, Specs.hasO, Bool.or_false, Bool.not_false, List.any_cons, List.any_nil, Bool.or_true, ↓reduceIte, Bool.false_eq_true, wpS, wantedA, okDst, Nat.reduceLT, decide_true, step1, isOwnCall, hxOp, px, AS.eval, AS.get, Lift.look, Nat.reduceEqDiff, Option.getD_some, AS.put, dropKey, pbinP, ofConst, ofVal, pbinI, Int.reduceBNe, List.getElem?_toArray, List.getElem?_cons_succ, List.getElem?_cons_zero, Option.bind_some, beq_self_eq_true, ppick_bool, pfieldAddr, fieldOf, ty45, fieldIn, ty3, Option.map_some, ne_eq, Nat.succ_ne_zero, not_false_eq_true, Nat.zero_add, pload, Heap.get_put, okOne, TK.isAgg, Nat.reduceAdd, List.length_cons, List.length_nil, Nat.le_refl, and_self, Lift.valOf, List.drop_succ_cons, List.drop_zero, List.take_succ_cons, List.take_nil, List.getD_cons_zero, ty43, Nat.reduceLeDiff, List.take_zero, pbuildSlice, ty2, List.replicate, List.map_cons, List.map_nil, List.flatten_cons, List.flatten_nil, List.append_nil, List.cons_append, List.nil_append, pfill, PV.cells, Nat.reduceMul, splice, List.drop_nil, okZero, List.all_cons, Value.oneCell', List.all_nil, Bool.and_true, known, chunk, true_and]
    refine SWO.enter (n := 100) (l := [(3, .list 1 (el64 codeA)), (8, .val (.pointer (some ⟨q, 0, none⟩))), (69, .bool false), (71, .val (.slice (some ⟨k, 0, none⟩) 3 cap)), (72, .list 1 (el64 [0, 0, 5]))]) (H := (h.put q (.cells 45 20 (stateL 2 5 (.val (.slice (some ⟨k, 0, none⟩) 3 cap)) (.val (.slice A2 0 cap2)) 6))).put k (.cells 2 cap (([0, 0, 5] : List Int).map (PV.int .i64)))) ⟨rfl, HTo_eq (by dsimp only; rw [Heap.put_put, Heap.put_comm _ _ _ hkq]; rfl), rfl, rfl, rfl, rfl, rfl, trivial⟩ ?_
    refine SWO.own_let 71 rfl (h0 := h.put q (.cells 45 20 (stateL 2 5 (.val (.slice (some ⟨k, 0, none⟩) 3 cap)) (.val (.slice A2 0 cap2)) 6))) (e := 2) (sz := 1) (xs := el64 [0, 0, 5]) (.inr ⟨k, cap, rfl, hcap, hcm, by rw [Heap.put_ne _ _ hkq]; exact hk0, by rw [Nat.mul_one, el64_flat], by decide⟩) ?_
    refine SWO.run [eEqual] 1000 ?_
    simp only [wpS, stops, Specs.has, eEqual, ↓reduceIte, Specs.hasO, Nat.reduceLeDiff, Nat.reduceSub, reduceCtorEq, and_self, Bool.or_false, Bool.not_true, Bool.false_eq_true, wantedA, List.getElem?_toArray, List.getElem?_cons_succ, List.getElem?_cons_zero, Option.bind_some, AS.get, AS.put, dropKey, Nat.reduceEqDiff, List.map_cons, List.map_nil, Lift.look, Option.getD_some, beq_self_eq_true, okDst, Nat.reduceLT, decide_true, step1, isOwnCall, hxOp, px, pcall, okArg, AS.eval, ofConst, ofVal, List.all_cons, List.all_nil, Bool.and_true, Specs.at, sEqual, un64_el64, List.length_cons, List.length_nil, Nat.zero_add, Nat.reduceAdd, pun, ppick_bool, thenQ, true_and]
    refine SW.run [] _ ?_
    simp only [wpC, isB, AS.get, Lift.look, tmpOf, ↓reduceIte, Option.getD_some, asB, Bool.false_eq_true, thenQ, true_and]
    refine SW.run [] _ ?_
    simp only [wpC, mayStop, stops, isFlt, Specs.has, Specs.hasO, Bool.or_false, Bool.not_false, List.any_cons, List.any_nil, Bool.or_true, ↓reduceIte, Bool.false_eq_true, wpS, wantedA, okDst, Nat.reduceLT, decide_true, step1, isOwnCall, hxOp, px, AS.eval, AS.get, Lift.look, Nat.reduceEqDiff, Option.getD_some, AS.put, dropKey, true_and]
    refine SWO.make 43 (.const (.int .i64 2)) (.const (.int .i64 2)) rfl ty43 rfl ty2 rfl rfl (by decide) (n := 2) rfl rfl (by decide) (by decide) rfl rfl fun m2 hm2 => ?_
    refine SWO.own_let 78 rfl (Own.made [.int .i64 0] rfl hm2 (by decide)) ?_
    refine SWO.run [] 1 ?_
    simp only [wpS, stops, Bool.false_eq_true, ↓reduceIte, wantedA, okDst, AS.put, dropKey, Nat.reduceEqDiff, List.replicate, Nat.reduceMul, List.map_cons, ofVal, List.map_nil, List.flatten_cons, List.flatten_nil, List.append_nil, List.cons_append, List.nil_append, Nat.reduceLT, decide_true, step1, isOwnCall, hxOp, px, pbuild, ty45, AS.eval, AS.get, Lift.look, ofConst, Option.getD_some, pfill, placeOf, List.getElem?_cons_succ, List.getElem?_cons_zero, ty43, Option.map_some, PV.cells, List.length_cons, List.length_nil, Nat.zero_add, Nat.reduceAdd, Nat.reduceLeDiff, and_self, ty3, splice, List.take_succ_cons, List.take_zero, List.drop_succ_cons, List.drop_zero, Nat.le_refl, List.drop_nil, List.all_cons, Option.isSome_some, ty42, List.all_nil, Bool.and_true, okZero, Value.oneCell', known, true_and]
    refine SWO.call (.func 20) _ _ 20 #[] #[] rfl rfl rfl rfl rfl rfl (RunA_ok 2 _ (by decide) (by decide)) rfl rfl ?_ (by rintro c h' ⟨_, _, _, _, e1, _⟩; cases e1)
    rintro u h' ⟨k2, cap3, A3, cap4, e1, hcap2, hk2, rfl, hcm2⟩
    injection e1 with e1
    subst e1
    have hk2 := (Heap.put_none _ _ _ _).1 hk2
    have hkq2 : ¬ k2 = q := hk2.1
    have hqk2 : ¬ q = k2 := fun e => hkq2 e.symm
    refine SWO.run [] 1000 ?_
    simp only [wpS, stops, Bool.false_eq_true, ↓reduceIte, wantedA, okDst, AS.put, stateL, Nat.reduceEqDiff, dropKey, Nat.reduceLT, decide_true, step1, isOwnCall, hxOp, px, AS.eval, AS.get, Lift.look, Option.getD_some, List.getElem?_cons_zero, List.getElem?_cons_succ, hx, ty45, Heap.get_put, hqk2, known1, PV.cells, List.length_cons, List.length_nil, Nat.zero_add, Nat.reduceAdd, Nat.le_refl, and_self, splice, List.take_zero, List.nil_append, List.drop_succ_cons, List.drop_nil, List.append_nil, thenQ, true_and]
    refine SW.run [] _ ?_
    simp only [wpC, mayStop, stops, isFlt, Specs.has, Specs.hasO, Bool.or_false, Bool.not_false, List.any_cons, List.any_nil, Bool.false_eq_true, ↓reduceIte, wpS, wantedA, okDst, Nat.reduceLT, decide_true, step1, isOwnCall, hxOp, px, AS.eval, AS.get, Lift.look, Nat.reduceEqDiff, Option.getD_some, AS.put, dropKey, pbinP, ofConst, ofVal, pbinI, beq_self_eq_true, List.getElem?_toArray, List.getElem?_cons_succ, List.getElem?_cons_zero, Option.bind_some, ppick_bool, pfieldAddr, fieldOf, ty45, fieldIn, ty3, Option.map_some, ne_eq, Nat.succ_ne_zero, not_false_eq_true, Nat.add_zero, pload, Heap.get_put, okOne, TK.isAgg, Bool.or_true, Nat.zero_add, List.length_cons, List.length_nil, Nat.reduceAdd, Nat.reduceLeDiff, and_self, Lift.valOf, List.drop_zero, List.take_succ_cons, List.take_zero, List.getD_cons_zero, Nat.le_refl, List.drop_succ_cons, List.take_nil, thenQ, RPost, sres, Tryd.results9, sresL, sres1, Option.some.injEq, Ret_fin, exists_eq_left', true_and]
    rw [Heap.put_comm _ _ _ hqk2, Heap.put_put, Heap.put_comm _ _ _ hkq2]
    exact (HTo.put (.refl _ _) (by rw [Heap.put_ne _ _ hkq2]; exact hk2.2) _).trans (HTo.put (.refl _ _) hq _)
def sAwake : List PV → Prop × PV
  | [] => (True, .bool true)
  | _ => PBad
noncomputable def eAwake : SpecE env := ⟨9, sAwake, fun args h hc => by
  unfold sAwake at hc ⊢
  split at hc
  · exact .inl (Awake_ok h)
  · exact hc.elim⟩
end Go.Proofs.YthdmdeiaonkeoaaDoor
