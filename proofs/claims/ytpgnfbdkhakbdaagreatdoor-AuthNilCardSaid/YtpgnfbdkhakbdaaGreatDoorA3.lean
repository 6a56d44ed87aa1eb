/- Contracts of functions that the law reaches. -/
import Derived.Test.YtpgnfbdkhakbdaaGreatDoorA2
set_option linter.unusedSimpArgs false
set_option linter.unusedVariables false
namespace Go.Proofs.YtpgnfbdkhakbdaaGreatDoor
open Go Go.RowKit Go.Proofs.YtpgnfbdkhakbdaaGreatDoor Go.Proofs.YtpgnfbdkhakbdaaGreatDoor.Lift
set_option maxRecDepth 100000

def nilP : PV := .val (.pointer none)
theorem eqkS : eqKinds env 29 = some [.str, .str, .int .i64] := by kernel_rfl
def ses0 : List PV := [.str [], .str [], .int .i64 0]
theorem DoneN_ok (h : Heap) : SCalls env 10 [nilP] h (Ret (.bool false) h) := by
  refine SCalls.body Tryz.func10 rfl rfl (by simp [Tryz.ntmps10]) ?_
  refine SW.seq (SW.run [] _ ?_)
  simp only [wpC, Bool.false_eq_true, ↓reduceIte, wpS, stops, wantedA, okDst, Tryz.ntmps10, Nat.reduceLT, decide_true, step1, isOwnCall, hxOp, px, AS.eval, ofConst, ofVal, thenQ, AS.put, enumA, nilP, dropKey, reduceCtorEq, true_and]
  refine SW.seq (SW.run [] _ ?_)
  simp only [wpC, Bool.false_eq_true, ↓reduceIte, wpS, stops, wantedA, okDst, Nat.reduceLT, decide_true, step1, isOwnCall, hxOp, px, AS.eval, AS.get, Lift.look, Nat.succ_ne_zero, Option.getD_some, AS.put, dropKey, Nat.reduceEqDiff, reduceCtorEq, isNilC, pbinP, pflt, peq, ty23, peqK, ofConst, ofVal, Option.isNone_none, Bool.not_true, List.getElem?_toArray, List.getElem?_cons_succ, List.getElem?_cons_zero, Option.bind_some, beq_ft, Option.some.injEq, ppick_false, thenQ, true_and]
  refine SW.run [] _ ?_
  simp only [wpC, RPost, sres, Tryz.results10, sresL, sres1, AS.get, Lift.look, ↓reduceIte, Option.getD_some, Option.some.injEq, Ret_fin, HTo_self, and_true, exists_eq_left']
theorem StartN_ok (h : Heap) : SCalls env 7 [nilP] h (Ret (.tuple [.str [], .int .i64 6]) h) := by
  refine SCalls.body Tryz.func7 rfl rfl (by simp [Tryz.ntmps7]) ?_
  refine SW.seq (SW.run [] _ ?_)
  simp only [wpC, Bool.false_eq_true, ↓reduceIte, wpS, stops, wantedA, okDst, Tryz.ntmps7, Nat.reduceLT, decide_true, step1, isOwnCall, hxOp, px, AS.eval, ofConst, ofVal, AS.put, enumA, nilP, dropKey, reduceCtorEq, thenQ, Nat.reduceEqDiff, true_and]
  refine SW.seq (SW.run [] _ ?_)
  simp only [wpC, mayStop, stops, isFlt, Specs.has, Specs.hasO, Bool.or_false, Specs.hasH, Bool.not_false, List.any_cons, List.any_nil, Bool.false_eq_true, ↓reduceIte, wpS, wantedA, okDst, Nat.reduceLT, decide_true, step1, isOwnCall, hxOp, px, AS.eval, AS.get, Lift.look, Nat.succ_ne_zero, Option.getD_some, AS.put, dropKey, Nat.reduceEqDiff, reduceCtorEq, isNilC, pbinP, pflt, peq, ty23, peqK, ofConst, ofVal, Option.isNone_none, List.getElem?_toArray, List.getElem?_cons_succ, List.getElem?_cons_zero, Option.bind_some, beq_tf, Option.some.injEq, ppick_true, thenQ, isB, tmpOf, asB, RPost, sres, Tryz.results7, sresL, sres1, Ret_fin, HTo_self, and_true, exists_eq_left', and_self]
theorem StepN_ok (s : List UInt8) (h : Heap) : SCalls env 8 [nilP, .str s] h (Ret (.tuple [.str [], .int .i64 6]) h) := by
  refine SCalls.body Tryz.func8 rfl rfl (by simp [Tryz.ntmps8]) ?_
  refine SW.seq (SW.run [] _ ?_)
  simp only [wpC, Bool.false_eq_true, ↓reduceIte, wpS, stops, wantedA, okDst, Tryz.ntmps8, Nat.reduceLT, decide_true, step1, isOwnCall, hxOp, px, AS.eval, ofConst, ofVal, AS.put, enumA, nilP, Nat.zero_add, dropKey, reduceCtorEq, Nat.reduceEqDiff, thenQ, true_and]
  refine SW.seq (SW.run [] _ ?_)
  simp only [wpC, mayStop, stops, isFlt, Specs.has, Specs.hasO, Bool.or_false, Specs.hasH, Bool.not_false, List.any_cons, List.any_nil, Bool.false_eq_true, ↓reduceIte, wpS, wantedA, okDst, Nat.reduceLT, decide_true, step1, isOwnCall, hxOp, px, AS.eval, AS.get, Lift.look, Nat.succ_ne_zero, Option.getD_some, AS.put, dropKey, Nat.reduceEqDiff, reduceCtorEq, isNilC, pbinP, pflt, peq, ty23, peqK, ofConst, ofVal, Option.isNone_none, List.getElem?_toArray, List.getElem?_cons_succ, List.getElem?_cons_zero, Option.bind_some, beq_tf, Option.some.injEq, ppick_true, thenQ, isB, tmpOf, asB, RPost, sres, Tryz.results8, sresL, sres1, Ret_fin, HTo_self, and_true, exists_eq_left', and_self]
noncomputable def eDoneN : SpecE env := ⟨10, fun args => (args = [nilP], .bool false), fun args h hc => by
  obtain rfl : args = [nilP] := hc
  exact .inl (DoneN_ok h)⟩
noncomputable def eStartN : SpecE env := ⟨7, fun args => (args = [nilP], .tuple [.str [], .int .i64 6]), fun args h hc => by
  obtain rfl : args = [nilP] := hc
  exact .inl (StartN_ok h)⟩
def sStepN : List PV → Prop × PV
  | [p, .str _] => (p = nilP, .tuple [.str [], .int .i64 6])
  | _ => PBad
noncomputable def eStepN : SpecE env := ⟨8, sStepN, fun args h hc => by
  unfold sStepN at hc ⊢
  split at hc
  · rename_i p s
    obtain rfl : p = nilP := hc
    exact .inl (StepN_ok s h)
  · exact hc.elim⟩
theorem SessionN_ok (h : Heap) : SCalls env 9 [nilP] h (Ret (.tuple [.agg ses0, .int .i64 6]) h) := by
  refine SCalls.body Tryz.func9 rfl rfl (by simp [Tryz.ntmps9]) ?_
  refine SW.seq (SW.run [] _ ?_)
  simp only [wpC, Bool.false_eq_true, ↓reduceIte, wpS, stops, wantedA, okDst, Tryz.ntmps9, Nat.reduceLT, decide_true, step1, okAlloc, ty29, okZero, List.all_cons, Value.oneCell', List.all_nil, Bool.and_true, AS.put, enumA, nilP, dropKey, reduceCtorEq, isOwnCall, hxOp, px, AS.eval, ofConst, ofVal, thenQ, Nat.reduceEqDiff, zeroOf, List.map_cons, List.map_nil, List.length_cons, List.length_nil, Nat.zero_add, Nat.reduceAdd, true_and]
  intro r hr
  have gr : (h.put r (.cells 29 3 ses0)) r = some (.cells 29 3 ses0) := Heap.put_same _ _ _
  have inc : Lift.Inc h (h.put r (.cells 29 3 ses0)) := Inc.over (incSelf h) hr _
  refine SW.seq (SW.run [eDoneN] _ ?_)
  simp only [wpC, mayStop, stops, isFlt, Specs.has, eDoneN, nilP, Specs.hasO, Bool.or_false, Specs.hasH, List.any_cons, ↓reduceIte, Bool.not_true, List.any_nil, Bool.false_eq_true, wpS, wantedA, okDst, Nat.reduceLT, decide_true, step1, isOwnCall, hxOp, px, AS.eval, AS.get, Lift.look, Nat.succ_ne_zero, Option.getD_some, AS.put, dropKey, Nat.reduceEqDiff, reduceCtorEq, pcall, okArg, ofConst, ofVal, List.all_cons, List.all_nil, Bool.and_true, Specs.at, List.map_cons, List.map_nil, and_self, pun, Bool.not_false, thenQ, isB, tmpOf, asB, pbuild, ty29, pfill, ty9, Option.isSome_some, ty3, okZero, Value.oneCell', known, hx, Heap.get_put, known1, PV.cells, List.length_cons, List.length_nil, Nat.zero_add, Nat.reduceAdd, Nat.le_refl, splice, List.take_zero, List.nil_append, List.drop_succ_cons, List.drop_nil, List.append_nil, Heap.put_put, RPost, sres, Tryz.results9, sresL, sres1, okOne, TK.isAgg, Nat.reduceBEq, Lift.valOf, List.drop_zero, List.take_succ_cons, List.take_nil, Option.some.injEq, ses0, Ret_fin, exists_eq_left', true_and]
  exact Inc.to inc
noncomputable def eSessionN : SpecE env := ⟨9, fun args => (args = [nilP], .tuple [.agg ses0, .int .i64 6]), fun args h hc => by
  obtain rfl : args = [nilP] := hc
  exact .inl (SessionN_ok h)⟩
theorem AuthNil_ok (s : List UInt8) (h : Heap) : SCalls env 3 [.str s] h (Ret (.bool true) h) := by
  refine SCalls.body Tryz.func3 rfl rfl (by simp [Tryz.ntmps3]) ?_
  refine SW.seq (SW.run [] _ ?_)
  simp only [wpC, Bool.false_eq_true, ↓reduceIte, wpS, stops, wantedA, okDst, Tryz.ntmps3, Nat.reduceLT, decide_true, step1, isOwnCall, hxOp, px, AS.eval, ofConst, ofVal, thenQ, AS.put, enumA, dropKey, reduceCtorEq, true_and]
  refine SW.seq (SW.run [eAwakeU] _ ?_)
  simp only [wpC, mayStop, stops, isFlt, Specs.has, eAwakeU, Specs.hasO, Bool.or_false, Specs.hasH, List.any_cons, ↓reduceIte, Bool.not_true, List.any_nil, Bool.false_eq_true, wpS, wantedA, okDst, Nat.reduceLT, decide_true, step1, isOwnCall, hxOp, px, pcall, okArg, AS.eval, AS.get, Lift.look, ofConst, ofVal, List.all_nil, Specs.at, List.map_nil, sAwakeU, and_self, AS.put, dropKey, Nat.reduceEqDiff, reduceCtorEq, pun, Option.getD_some, thenQ, isB, tmpOf, asB, true_and]
  refine SW.seq (SW.run [] _ ?_)
  simp only [wpC, Bool.false_eq_true, ↓reduceIte, wpS, stops, wantedA, okDst, Nat.reduceLT, decide_true, step1, isOwnCall, hxOp, px, AS.eval, ofConst, ofVal, thenQ, AS.put, dropKey, Nat.reduceEqDiff, reduceCtorEq, true_and]
  refine SW.seq (SW.run [eStartN] _ ?_)
  simp only [wpC, Bool.false_eq_true, ↓reduceIte, wpS, stops, wantedA, okDst, Nat.reduceLT, decide_true, step1, isOwnCall, hxOp, px, AS.eval, AS.get, Lift.look, Option.getD_some, Specs.has, eStartN, nilP, Specs.hasO, Bool.or_false, Specs.hasH, Bool.not_true, AS.put, dropKey, Nat.reduceEqDiff, reduceCtorEq, pcall, okArg, ofConst, ofVal, List.all_cons, List.all_nil, Bool.and_true, Specs.at, List.map_cons, List.map_nil, and_self, List.getElem?_cons_zero, List.getElem?_cons_succ, thenQ, true_and]
  refine SW.seq (SW.run [eStepN] _ ?_)
  simp only [wpC, Bool.false_eq_true, ↓reduceIte, wpS, stops, wantedA, okDst, Nat.reduceLT, decide_true, step1, isOwnCall, hxOp, px, AS.eval, AS.get, Lift.look, Nat.reduceEqDiff, Option.getD_some, AS.put, dropKey, reduceCtorEq, Nat.succ_ne_zero, Specs.has, eStepN, Specs.hasO, Bool.or_false, Specs.hasH, Bool.not_true, pcall, okArg, ofConst, ofVal, List.all_cons, List.all_nil, Bool.and_true, Specs.at, List.map_cons, List.map_nil, sStepN, nilP, and_self, List.getElem?_cons_zero, List.getElem?_cons_succ, thenQ, true_and]
  refine SW.seq (SW.run [eSessionN] _ ?_)
  simp only [wpC, Bool.false_eq_true, ↓reduceIte, wpS, stops, wantedA, okDst, Nat.reduceLT, decide_true, step1, isOwnCall, hxOp, px, AS.eval, AS.get, Lift.look, Nat.reduceEqDiff, Option.getD_some, Specs.has, eSessionN, nilP, ses0, Specs.hasO, Bool.or_false, Specs.hasH, Bool.not_true, AS.put, dropKey, reduceCtorEq, pcall, okArg, ofConst, ofVal, List.all_cons, List.all_nil, Bool.and_true, Specs.at, List.map_cons, List.map_nil, and_self, List.getElem?_cons_zero, List.getElem?_cons_succ, okAlloc, ty29, okZero, Value.oneCell', hx, zeroOf, List.length_cons, List.length_nil, Nat.zero_add, Nat.reduceAdd, Heap.get_put, known1, PV.cells, Nat.le_refl, splice, List.take_zero, List.nil_append, List.drop_succ_cons, List.drop_nil, List.append_nil, thenQ, true_and]
  intro r hr
  rw [Heap.put_put]
  have gr : (h.put r (.cells 29 3 ses0)) r = some (.cells 29 3 ses0) := Heap.put_same _ _ _
  have inc : Lift.Inc h (h.put r (.cells 29 3 ses0)) := Inc.over (incSelf h) hr _
  refine SW.seq (SW.run [eDoneN] _ ?_)
  have hf : fits [.str, .str, .int .i64] [.str [], .str [], .int .i64 0] = true := rfl
  simp only [wpC, Bool.false_eq_true, ↓reduceIte, wpS, stops, wantedA, okDst, Nat.reduceLT, decide_true, step1, isOwnCall, hxOp, px, AS.eval, AS.get, Lift.look, Nat.reduceEqDiff, Option.getD_some, AS.put, dropKey, reduceCtorEq, isNilC, pbinP, ofConst, ofVal, pbinS, beq_self_eq_true, List.getElem?_toArray, List.getElem?_cons_succ, List.getElem?_cons_zero, Option.bind_some, ppick_bool, pbinI, pload, ty29, Heap.get_put, okOne, TK.isAgg, Nat.reduceBEq, Bool.or_false, Nat.zero_add, List.length_cons, List.length_nil, Nat.reduceAdd, Nat.le_refl, and_self, Lift.valOf, List.drop_zero, List.take_succ_cons, List.take_nil, pbuild, List.map_cons, List.map_nil, pfill, List.all_cons, ty9, Option.isSome_some, ty3, List.all_nil, Bool.and_true, okZero, Value.oneCell', known, pflt, peq, eqkS, fits, eqCells, Specs.has, eDoneN, nilP, Specs.hasO, Specs.hasH, Bool.not_true, pcall, okArg, Specs.at, pun, Bool.not_false, thenQ, true_and]
  refine SW.run [] _ ?_
  simp only [wpC, RPost, sres, Tryz.results3, sresL, sres1, AS.get, Lift.look, ↓reduceIte, Option.getD_some, Option.some.injEq, Ret_fin, exists_eq_left', true_and]
  exact Inc.to inc
end Go.Proofs.YtpgnfbdkhakbdaaGreatDoor
