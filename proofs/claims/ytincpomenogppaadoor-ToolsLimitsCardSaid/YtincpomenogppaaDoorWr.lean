/- Contracts of functions that the law reaches. -/
import Derived.Test.YtincpomenogppaaDoorWq
set_option linter.unusedSimpArgs false
set_option linter.unusedVariables false
namespace Go.Proofs.YtincpomenogppaaDoor
open Go Go.RowKit Go.Proofs.YtincpomenogppaaDoor Go.Proofs.YtincpomenogppaaDoor.Lift
set_option maxRecDepth 100000

/-! ToolsPatches -/
theorem few_facts {a : List UInt8} {es : List Ed} (ha : a.length ≤ 300) (hf : fewS es = true) : es.length ≤ 20 ∧ (∀ e ∈ es, e.small ∧ ∀ l ∈ e.ins, l.length ≤ 1000000000) ∧ (∀ e ∈ es.map revE, e.small ∧ ∀ l ∈ e.ins, l.length ≤ 1000000000) ∧ insN es ≤ 400 ∧ insN (es.map revE) ≤ 400 ∧ insB es ≤ 120000 := by
  unfold fewS at hf
  rw [Bool.and_eq_true, decide_eq_true_eq, List.all_eq_true] at hf
  obtain ⟨h1, h2⟩ := hf
  have hE : ∀ e ∈ es, FewE e := fun e he => FewE.of (h1 e he)
  refine ⟨h2, fun e he => ?_, fun e he => ?_, ?_, ?_, ?_⟩
  · have F := hE e he
    exact ⟨⟨by have := F.d; omega, by have := F.i; omega⟩, fun l hl => by have := small_at F.is l hl; omega⟩
  · obtain ⟨e', he', rfl⟩ := List.mem_map.1 he
    have F := hE e' he'
    exact ⟨⟨by have := F.i; show e'.ins.length ≤ _; omega, by have := F.d; show e'.del.length ≤ _; omega⟩, fun l hl => by have := small_at F.ds l hl; omega⟩
  · have := few_sum (f := fun e => e.ins.length) (k := 20) (es := es) fun e he => (hE e he).i
    unfold insN; omega
  · have := few_sum (f := fun e => e.del.length) (k := 20) (es := es) fun e he => (hE e he).d
    unfold insN
    rw [List.map_map]
    show (es.map fun e => e.del.length).sum ≤ 400
    omega
  · have := few_sum (f := fun e => e.ins.flatten.length) (k := 6000) (es := es) fun e he => small_flat (hE e he).is (hE e he).i
    unfold insB; omega
set_option maxHeartbeats 4000000 in
theorem ToolsPatches_ok (a : List UInt8) (es : List Ed) (hl : es.length ≤ maxLen) (h : Heap) : SCalls env 4 [.str a, .list 4 (edL es)] h (Ret (.bool true) h) := by
  refine SCalls.body Tryd.func4 rfl rfl (by simp [Tryd.ntmps4]) ?_
  refine SW.seq (SW.run [] _ ?_)
  simp only [wpC, Bool.false_eq_true, ↓reduceIte, wpS, stops, wantedA, okDst, Tryd.ntmps4, Nat.reduceLT, decide_true, step1, isOwnCall, hxOp, px, AS.eval, ofConst, ofVal, thenQ, AS.put, enumA, Nat.zero_add, dropKey, reduceCtorEq, Nat.reduceEqDiff, true_and]
  refine SW.seq (SW.run [eAwake] _ ?_)
  simp only [wpC, mayStop, stops, isFlt, Specs.has, eAwake, Specs.hasO, Bool.or_false, Specs.hasH, List.any_cons, ↓reduceIte, Bool.not_true, List.any_nil, Bool.false_eq_true, wpS, wantedA, okDst, Nat.reduceLT, decide_true, step1, isOwnCall, hxOp, px, pcall, okArg, AS.eval, AS.get, Lift.look, ofConst, ofVal, List.all_nil, Specs.at, List.map_nil, sAwake, and_self, AS.put, dropKey, Nat.reduceEqDiff, reduceCtorEq, pun, Option.getD_some, thenQ, isB, tmpOf, asB, true_and]
  have hu : unS [[.str a]] = some [a] := rfl
  have h2 : ([a] : List (List UInt8)).length ≤ 1000000000 := by show 1 ≤ _; omega
  refine SW.seq (SW.run [eSmall, eFew es] _ ?_)
  cases hsm : smallS [a]
  · simp only [wpC, mayStop, stops, isFlt, Specs.has, eSmall, eFew, Specs.hasO, Bool.or_false, Specs.hasH, List.any_cons, ↓reduceIte, Bool.not_true, Nat.reduceEqDiff, List.any_nil, Bool.false_eq_true, wpS, wantedA, okDst, Nat.reduceLT, decide_true, step1, isOwnCall, hxOp, px, AS.eval, AS.get, Lift.look, Nat.succ_ne_zero, Option.getD_some, AS.put, dropKey, reduceCtorEq, pbuildSlice, ty34, ty9, List.replicate, List.map_cons, ofVal, List.map_nil, List.flatten_cons, List.flatten_nil, List.append_nil, ofConst, pfill, PV.cells, List.length_cons, List.length_nil, Nat.zero_add, Nat.reduceMul, Nat.le_refl, and_self, splice, List.take_zero, List.nil_append, List.drop_succ_cons, List.drop_nil, Nat.reduceLeDiff, okZero, List.all_cons, Value.oneCell', List.all_nil, Bool.and_true, known, chunk, List.take_succ_cons, List.take_nil, pcall, okArg, Specs.at, sSmall, hu, hsm, pun, Bool.not_false, List.getElem?_toArray, List.getElem?_cons_succ, List.getElem?_cons_zero, Option.bind_some, beq_tf, Option.some.injEq, ppick_true, thenQ, isB, tmpOf, asB, RPost, sres, Tryd.results4, sresL, sres1, Ret_fin, HTo_self, and_true, exists_eq_left']
  cases hfw : fewS es
  · simp only [wpC, mayStop, stops, isFlt, Specs.has, eSmall, eFew, Specs.hasO, Bool.or_false, Specs.hasH, List.any_cons, ↓reduceIte, Bool.not_true, Nat.reduceEqDiff, List.any_nil, Bool.false_eq_true, wpS, wantedA, okDst, Nat.reduceLT, decide_true, step1, isOwnCall, hxOp, px, AS.eval, AS.get, Lift.look, Nat.succ_ne_zero, Option.getD_some, AS.put, dropKey, reduceCtorEq, pbuildSlice, ty34, ty9, List.replicate, List.map_cons, ofVal, List.map_nil, List.flatten_cons, List.flatten_nil, List.append_nil, ofConst, pfill, PV.cells, List.length_cons, List.length_nil, Nat.zero_add, Nat.reduceMul, Nat.le_refl, and_self, splice, List.take_zero, List.nil_append, List.drop_succ_cons, List.drop_nil, Nat.reduceLeDiff, okZero, List.all_cons, Value.oneCell', List.all_nil, Bool.and_true, known, chunk, List.take_succ_cons, List.take_nil, pcall, okArg, Specs.at, sSmall, hu, hsm, pun, List.getElem?_toArray, List.getElem?_cons_succ, List.getElem?_cons_zero, Option.bind_some, beq_self_eq_true, sFew, hl, hfw, Bool.not_false, ppick_bool, thenQ, isB, tmpOf, asB, RPost, sres, Tryd.results4, sresL, sres1, Option.some.injEq, Ret_fin, HTo_self, and_true, exists_eq_left']
  simp only [wpC, mayStop, stops, isFlt, Specs.has, eSmall, eFew, Specs.hasO, Bool.or_false, Specs.hasH, List.any_cons, ↓reduceIte, Bool.not_true, Nat.reduceEqDiff, List.any_nil, Bool.false_eq_true, wpS, wantedA, okDst, Nat.reduceLT, decide_true, step1, isOwnCall, hxOp, px, AS.eval, AS.get, Lift.look, Nat.succ_ne_zero, Option.getD_some, AS.put, dropKey, reduceCtorEq, pbuildSlice, ty34, ty9, List.replicate, List.map_cons, ofVal, List.map_nil, List.flatten_cons, List.flatten_nil, List.append_nil, ofConst, pfill, PV.cells, List.length_cons, List.length_nil, Nat.zero_add, Nat.reduceMul, Nat.le_refl, and_self, splice, List.take_zero, List.nil_append, List.drop_succ_cons, List.drop_nil, Nat.reduceLeDiff, okZero, List.all_cons, Value.oneCell', List.all_nil, Bool.and_true, known, chunk, List.take_succ_cons, List.take_nil, pcall, okArg, Specs.at, sSmall, hu, hsm, pun, List.getElem?_toArray, List.getElem?_cons_succ, List.getElem?_cons_zero, Option.bind_some, beq_self_eq_true, sFew, hl, hfw, ppick_bool, thenQ, isB, tmpOf, asB, true_and]
  have ha3 : a.length ≤ 300 := by
    unfold smallS at hsm
    simpa using hsm
  obtain ⟨n20, hsm1, hsm2, hin, hdn, hby⟩ := few_facts ha3 hfw
  have hsm0 : ∀ e ∈ es, e.small := fun e he => (hsm1 e he).1
  have n6 : es.length ≤ 1000000 := by omega
  have a6 : a.length ≤ 1000000 := by omega
  have in6 : insN es ≤ 1000000 := by omega
  have hpb := patchE_bytes (x := linesOf a) es 0 []
  rw [List.drop_zero, linesOf_flat] at hpb
  have hpb : (patchE (linesOf a) 0 [] es).2.flatten.length ≤ 121000 := by simp at hpb ⊢; omega
  have hpb1 : (patchE (linesOf a) 0 [] es).2.flatten.length ≤ 140737488355328 := by omega
  have hpb2 : (patchE (linesOf a) 0 [] es).2.flatten.length ≤ 1000000000 := by omega
  have hpr : patchR a es = .tuple [.str (if (patchE (linesOf a) 0 [] es).1 = 0 then (patchE (linesOf a) 0 [] es).2.flatten else []), .int .i64 (patchE (linesOf a) 0 [] es).1] := rfl
  obtain ⟨R, hR⟩ : ∃ R, patchE (linesOf a) 0 [] es = R := ⟨_, rfl⟩
  rw [hR] at hpb hpb1 hpb2 hpr
  refine SW.seq (SW.run [eEdits es, ePatch a es] _ ?_)
  simp only [wpC, Bool.false_eq_true, ↓reduceIte, wpS, stops, wantedA, okDst, Nat.reduceLT, decide_true, step1, isOwnCall, hxOp, px, AS.eval, AS.get, Lift.look, Nat.succ_ne_zero, Option.getD_some, AS.put, dropKey, Nat.reduceEqDiff, reduceCtorEq, Specs.has, eEdits, Specs.hasO, Bool.or_false, Specs.hasH, Bool.not_true, pcall, okArg, ofConst, ofVal, List.all_cons, List.all_nil, Bool.and_true, Specs.at, List.map_cons, List.map_nil, sEdits, n6, and_true, true_and, ePatch, sPatch, a6, in6, hR, hpb1, and_self, hpr, List.getElem?_cons_zero, List.getElem?_cons_succ, thenQ]
  refine ⟨hsm0, hsm1, ?_⟩
  refine SW.seq (SW.run [eRPatch a es] _ ?_)
  simp only [wpC, Bool.false_eq_true, ↓reduceIte, wpS, stops, wantedA, okDst, Nat.reduceLT, decide_true, step1, isOwnCall, hxOp, px, AS.eval, AS.get, Lift.look, Nat.succ_ne_zero, Option.getD_some, AS.put, dropKey, Nat.reduceEqDiff, reduceCtorEq, Specs.has, eRPatch, Specs.hasO, Bool.or_false, Specs.hasH, Bool.not_true, pcall, okArg, ofConst, ofVal, List.all_cons, List.all_nil, Bool.and_true, Specs.at, List.map_cons, List.map_nil, sRPatch, a6, n6, in6, hR, hpb2, and_self, and_true, true_and, hpr, List.getElem?_cons_zero, List.getElem?_cons_succ, thenQ]
  refine ⟨hsm1, ?_⟩
  obtain ⟨k, o⟩ := R
  obtain ⟨S, hS⟩ : ∃ S, S = (if k = 0 then o.flatten else []) := ⟨_, rfl⟩
  rw [← hS]
  refine SW.seq (SW.run [] _ ?_)
  simp only [wpC, mayStop, stops, isFlt, Specs.has, Specs.hasO, Bool.or_false, Specs.hasH, Bool.not_false, List.any_cons, List.any_nil, Bool.false_eq_true, ↓reduceIte, wpS, wantedA, okDst, Nat.reduceLT, decide_true, step1, isOwnCall, hxOp, px, AS.eval, AS.get, Lift.look, Nat.reduceEqDiff, Option.getD_some, AS.put, dropKey, reduceCtorEq, isNilC, pbinP, pbinS, beq_self_eq_true, Bool.not_true, List.getElem?_toArray, List.getElem?_cons_succ, List.getElem?_cons_zero, Option.bind_some, pbinI, bne_self_eq_false, ofConst, ofVal, ppick_bool, thenQ, isB, tmpOf, asB, true_and]
  refine SW.seq (SW.run [] _ ?_)
  by_cases hk : k = 0
  · subst hk
    rw [if_pos rfl] at hS
    subst hS
    simp only [wpC, mayStop, stops, isFlt, Specs.has, Specs.hasO, Bool.or_false, Specs.hasH, Bool.not_false, List.any_cons, List.any_nil, Bool.false_eq_true, ↓reduceIte, wpS, wantedA, okDst, Nat.reduceLT, decide_true, step1, isOwnCall, hxOp, px, AS.eval, AS.get, Lift.look, Nat.reduceEqDiff, Option.getD_some, AS.put, dropKey, reduceCtorEq, isNilC, pbinP, ofConst, ofVal, pbinI, bne_self_eq_false, thenQ, isB, tmpOf, asB, true_and]
    obtain ⟨_, hlo, hpb3⟩ := patch_back (Lined.of a) es 0 [] (Nat.zero_le _) rfl hR
    have hll := hlo.lines
    have o6 : o.flatten.length ≤ 1000000 := by have : o.flatten.length ≤ 121000 := hpb; omega
    have rn6 : (es.map revE).length ≤ 1000000 := by rw [List.length_map]; exact n6
    have rin6 : insN (es.map revE) ≤ 1000000 := by omega
    have hR2 : patchE (linesOf o.flatten) 0 [] (es.map revE) = (0, linesOf a) := by rw [hll]; exact hpb3
    have hpr2 : patchR o.flatten (es.map revE) = .tuple [.str a, .int .i64 0] := by
      unfold patchR; rw [hR2, if_pos rfl, linesOf_flat]
    have hfl : (linesOf a).flatten.length ≤ 140737488355328 := by rw [linesOf_flat]; omega
    refine SW.seq (SW.run [eEdits es, eReverse es, ePatch o.flatten (es.map revE)] _ ?_)
    simp only [wpC, Bool.false_eq_true, ↓reduceIte, wpS, stops, wantedA, okDst, Nat.reduceLT, decide_true, step1, isOwnCall, hxOp, px, AS.eval, AS.get, Lift.look, Nat.reduceEqDiff, Option.getD_some, AS.put, dropKey, reduceCtorEq, Specs.has, eEdits, Specs.hasO, Bool.or_false, Specs.hasH, Bool.not_true, pcall, okArg, ofConst, ofVal, List.all_cons, List.all_nil, Bool.and_true, Specs.at, List.map_cons, List.map_nil, sEdits, n6, and_true, true_and, eReverse, sReverse, ePatch, sPatch, o6, rn6, rin6, hR2, hfl, and_self, hpr2, List.getElem?_cons_zero, List.getElem?_cons_succ, thenQ]
    refine ⟨hsm0, hsm0, hsm2, ?_⟩
    refine SW.run [] _ ?_
    simp only [wpC, mayStop, stops, isFlt, Specs.has, Specs.hasO, Bool.or_false, Specs.hasH, Bool.not_false, List.any_cons, List.any_nil, Bool.false_eq_true, ↓reduceIte, wpS, wantedA, okDst, Nat.reduceLT, decide_true, step1, isOwnCall, hxOp, px, AS.eval, AS.get, Lift.look, Nat.reduceEqDiff, Option.getD_some, AS.put, dropKey, reduceCtorEq, Nat.succ_ne_zero, isNilC, pbinP, pbinS, beq_self_eq_true, List.getElem?_toArray, List.getElem?_cons_succ, List.getElem?_cons_zero, Option.bind_some, ofConst, ofVal, pbinI, ppick_bool, thenQ, RPost, sres, Tryd.results4, sresL, sres1, Option.some.injEq, Ret_fin, HTo_self, and_true, exists_eq_left', and_self]
  · have hkb : (k != 0) = true := by simpa using hk
    simp only [wpC, mayStop, stops, isFlt, Specs.has, Specs.hasO, Bool.or_false, Specs.hasH, Bool.not_false, List.any_cons, List.any_nil, Bool.false_eq_true, ↓reduceIte, wpS, wantedA, okDst, Nat.reduceLT, decide_true, step1, isOwnCall, hxOp, px, AS.eval, AS.get, Lift.look, Nat.reduceEqDiff, Option.getD_some, AS.put, dropKey, reduceCtorEq, isNilC, pbinP, ofConst, ofVal, pbinI, hkb, thenQ, isB, tmpOf, asB, RPost, sres, Tryd.results4, sresL, sres1, Option.some.injEq, Ret_fin, HTo_self, and_true, exists_eq_left', and_self]
end Go.Proofs.YtincpomenogppaaDoor
