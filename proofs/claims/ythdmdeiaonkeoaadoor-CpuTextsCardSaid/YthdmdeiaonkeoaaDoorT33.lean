/- Contracts of functions that the law reaches. -/
import Derived.Test.YthdmdeiaonkeoaaDoorT32
import Derived.Test.YthdmdeiaonkeoaaDoorT12
set_option linter.unusedSimpArgs false
set_option linter.unusedVariables false
namespace Go.Proofs.YthdmdeiaonkeoaaDoor
open Go Go.RowKit Go.Proofs.YthdmdeiaonkeoaaDoor Go.Proofs.YthdmdeiaonkeoaaDoor.Lift

/-! CpuTexts -/
theorem textS_len (o a b c i : Int) : (textS o a b c i).length ≤ 100000 := by
  by_cases hc : checkS o a b c i = 0
  · have h1 := nameS_len o
    have h2 := fieldsT_len o (Check_range hc) 4
    unfold textS
    rw [if_pos hc, List.length_append]
    have e : (fieldL o a b c i).take 4 = fieldL o a b c i := rfl
    rw [e] at h2
    omega
  · unfold textS
    rw [if_neg hc]
    exact Nat.zero_le _
/-- What a text that is no instruction's is read as. -/
def noI : PV := .tuple [.agg [.int .i64 0, .int .i64 0, .int .i64 0, .int .i64 0, .int .i64 0], .int .i64 9]
theorem parse_none {o a b c i : Int} (h : ¬ checkS o a b c i = 0) : textS o a b c i = [] ∧ parseS (textS o a b c i) = noI := by
  have e : textS o a b c i = [] := by unfold textS; rw [if_neg h]
  refine ⟨e, ?_⟩
  rw [e]
  unfold parseS
  rw [if_neg (fun h => h.1 rfl)]
  rfl
theorem parse_yes {s : List UInt8} (h : s ≠ [] ∧ pT s = s) : ∃ o a b c i, parseS s = .tuple [.agg [.int .i64 o, .int .i64 a, .int .i64 b, .int .i64 c, .int .i64 i], .int .i64 0] ∧ checkS o a b c i = 0 ∧ textS o a b c i = s := by
  refine ⟨_, _, _, _, _, by unfold parseS; rw [if_pos h]; rfl, ?_, h.2⟩
  by_cases hc : checkS (opW (Lib.split s [32])) (aW' (Lib.split s [32])) (bW' (Lib.split s [32])) (cW' (Lib.split s [32])) (iW' (Lib.split s [32])) = 0
  · exact hc
  · have e : pT s = [] := by
      unfold pT textS
      dsimp only
      rw [if_neg hc]
    exact absurd (h.2.symm.trans e) h.1
theorem parse_no {s : List UInt8} (h : ¬ (s ≠ [] ∧ pT s = s)) : parseS s = noI := by
  unfold parseS
  rw [if_neg h]
  rfl
set_option maxRecDepth 100000 in
theorem CpuTexts_ok (o a b c i : Int) (s : List UInt8) (h : Heap) : SCalls env 8 [.agg [.int .i64 o, .int .i64 a, .int .i64 b, .int .i64 c, .int .i64 i], .str s] h (Ret (.bool true) h) := by
  refine SCalls.body Tryd.func8 rfl rfl (by simp [Tryd.ntmps8]) ?_
  refine SW.seq (SW.run [] _ ?_)
  simp only [wpC, Bool.false_eq_true, ↓reduceIte, wpS, stops, wantedA, okDst, Tryd.ntmps8, Nat.reduceLT, decide_true, step1, known1, AS.eval, AS.get, enumA, Nat.zero_add, Lift.look, Option.getD_some, AS.put, dropKey, reduceCtorEq, Nat.reduceEqDiff, isOwnCall, hxOp, px, ofConst, ofVal, thenQ, PV.cells, List.length_cons, List.length_nil, Nat.reduceAdd, true_and]
  intro r hr
  refine SW.seq (SW.run [eAwake] _ ?_)
  simp only [wpC, mayStop, stops, isFlt, Specs.has, eAwake, Specs.hasO, Nat.reduceLeDiff, Nat.reduceSub, false_and, ↓reduceIte, Bool.or_false, List.any_cons, Bool.not_true, List.any_nil, Bool.false_eq_true, wpS, reduceCtorEq, and_self, wantedA, okDst, Nat.reduceLT, decide_true, step1, isOwnCall, hxOp, px, pcall, okArg, AS.eval, AS.get, Lift.look, ofConst, ofVal, List.all_nil, Specs.at, List.map_nil, sAwake, AS.put, dropKey, Nat.reduceEqDiff, pun, Option.getD_some, thenQ, isB, tmpOf, asB, true_and]
  by_cases hl : 100 < s.length
  · have hl' : ((s.length : Nat) : Int) > 100 := by omega
    refine SW.run [] _ ?_
    simp only [wpC, mayStop, stops, isFlt, Specs.has, Specs.hasO, Bool.or_false, Bool.not_false, List.any_cons, List.any_nil, Bool.false_eq_true, ↓reduceIte, wpS, wantedA, okDst, Nat.reduceLT, decide_true, step1, isOwnCall, hxOp, px, AS.eval, AS.get, Lift.look, Nat.reduceEqDiff, reduceCtorEq, Option.getD_some, AS.put, dropKey, pcall, ty9, plen, okLen, and_self, pbinP, ofConst, ofVal, pbinI, hl', thenQ, isB, tmpOf, asB, RPost, sres, Tryd.results8, sresL, sres1, Option.some.injEq, Ret_fin, exists_eq_left', true_and]
    exact HTo.put (.refl _ _) hr _
  have hl' : ¬ ((s.length : Nat) : Int) > 100 := by omega
  have hs : s.length ≤ 100000 := by omega
  have ht := textS_len o a b c i
  refine SW.seq (SW.run [] _ ?_)
  simp only [wpC, mayStop, stops, isFlt, Specs.has, Specs.hasO, Bool.or_false, Bool.not_false, List.any_cons, List.any_nil, Bool.false_eq_true, ↓reduceIte, wpS, wantedA, okDst, Nat.reduceLT, decide_true, step1, isOwnCall, hxOp, px, AS.eval, AS.get, Lift.look, Nat.reduceEqDiff, reduceCtorEq, Option.getD_some, AS.put, dropKey, pcall, ty9, plen, okLen, and_self, pbinP, ofConst, ofVal, pbinI, hl', decide_false, thenQ, isB, tmpOf, asB, true_and]
  refine SW.seq (SW.run [eText] _ ?_)
  simp only [wpC, Bool.false_eq_true, ↓reduceIte, wpS, stops, wantedA, okDst, Nat.reduceLT, decide_true, step1, isOwnCall, hxOp, px, pload, ty23, AS.eval, AS.get, Lift.look, Nat.reduceEqDiff, Option.getD_some, Heap.get_put, okOne, TK.isAgg, Nat.reduceBEq, Bool.or_false, Nat.zero_add, List.length_cons, List.length_nil, Nat.reduceAdd, Nat.le_refl, and_self, Lift.valOf, List.drop_zero, List.take_succ_cons, List.take_nil, Specs.has, eText, Specs.hasO, Nat.reduceLeDiff, Nat.reduceSub, reduceCtorEq, Bool.not_true, AS.put, dropKey, pcall, okArg, ofConst, ofVal, List.all_cons, List.all_nil, Bool.and_true, Specs.at, List.map_cons, List.map_nil, sText, thenQ, true_and]
  refine SW.seq (SW.run [eEntry] _ ?_)
  simp only [wpC, Bool.false_eq_true, ↓reduceIte, wpS, stops, wantedA, okDst, Nat.reduceLT, decide_true, step1, isOwnCall, hxOp, px, pfieldAddr, fieldOf, ty23, fieldIn, List.getElem?_cons_zero, ty3, Option.map_some, AS.eval, AS.get, Lift.look, Nat.reduceEqDiff, Option.getD_some, ne_eq, Nat.succ_ne_zero, not_false_eq_true, Nat.add_zero, AS.put, dropKey, reduceCtorEq, pload, Heap.get_put, okOne, TK.isAgg, beq_self_eq_true, Bool.or_true, Nat.zero_add, List.length_cons, List.length_nil, Nat.reduceAdd, Nat.reduceLeDiff, and_self, Lift.valOf, List.drop_zero, List.take_succ_cons, List.take_zero, List.getD_cons_zero, Specs.has, eEntry, Specs.hasO, Nat.reduceSub, Bool.or_false, Bool.not_true, pcall, okArg, ofConst, ofVal, List.all_cons, List.all_nil, Bool.and_true, Specs.at, List.map_cons, List.map_nil, sEntry, List.getElem?_cons_succ, thenQ, true_and]
  refine SW.seq (SW.run [eTextR, eName] _ ?_)
  simp only [wpC, mayStop, stops, isFlt, Specs.has, eTextR, eName, Specs.hasO, Nat.reduceLeDiff, Nat.reduceSub, false_and, ↓reduceIte, Bool.or_false, List.any_cons, Bool.not_true, Nat.reduceEqDiff, List.any_nil, Bool.false_eq_true, wpS, wantedA, okDst, Nat.reduceLT, decide_true, step1, isOwnCall, hxOp, px, AS.eval, AS.get, Lift.look, Option.getD_some, AS.put, dropKey, reduceCtorEq, pload, ty23, Heap.get_put, okOne, TK.isAgg, Nat.reduceBEq, Nat.zero_add, List.length_cons, List.length_nil, Nat.reduceAdd, Nat.le_refl, and_self, Lift.valOf, List.drop_zero, List.take_succ_cons, List.take_nil, pcall, okArg, ofConst, ofVal, List.all_cons, List.all_nil, Bool.and_true, Specs.at, List.map_cons, List.map_nil, sText, pbinP, pbinS, beq_self_eq_true, List.getElem?_toArray, List.getElem?_cons_succ, List.getElem?_cons_zero, Option.bind_some, pfieldAddr, fieldOf, fieldIn, ty3, Option.map_some, ne_eq, Nat.succ_ne_zero, not_false_eq_true, Nat.add_zero, Bool.or_true, List.take_zero, List.getD_cons_zero, sName, ppick_bool, thenQ, isB, tmpOf, asB, true_and]
  by_cases hc : checkS o a b c i = 0
  · obtain ⟨hp1, hne, hpT⟩ := parse_text hc
    refine SW.seq (SW.run [eParse] _ ?_)
    simp only [wpC, Bool.false_eq_true, ↓reduceIte, wpS, stops, wantedA, okDst, Nat.reduceLT, decide_true, step1, isOwnCall, hxOp, px, AS.eval, AS.get, Lift.look, Nat.reduceEqDiff, Option.getD_some, Specs.has, eParse, Specs.hasO, Nat.reduceLeDiff, Nat.reduceSub, reduceCtorEq, and_self, Bool.or_false, Bool.not_true, AS.put, dropKey, pcall, okArg, ofConst, ofVal, List.all_cons, List.all_nil, Bool.and_true, Specs.at, List.map_cons, List.map_nil, sParse, ht, hp1, List.getElem?_cons_zero, List.getElem?_cons_succ, okAlloc, ty23, okZero, Value.oneCell', Heap.get_put, some_none, hx, zeroOf, List.length_cons, List.length_nil, Nat.zero_add, Nat.reduceAdd, known1, PV.cells, Nat.le_refl, splice, List.take_zero, List.nil_append, List.drop_succ_cons, List.drop_nil, List.append_nil, thenQ, true_and]
    rintro q ⟨hqr, hq⟩
    have hrq : ¬ r = q := fun e => hqr e.symm
    refine SW.seq (SW.run [eCheck] _ ?_)
    simp only [wpC, mayStop, stops, isFlt, Specs.has, eCheck, Specs.hasO, Nat.reduceLeDiff, Nat.reduceSub, false_and, ↓reduceIte, Bool.or_false, List.any_cons, Bool.not_true, List.any_nil, Bool.false_eq_true, wpS, wantedA, okDst, Nat.reduceLT, decide_true, step1, isOwnCall, hxOp, px, pload, ty23, AS.eval, AS.get, Lift.look, Nat.reduceEqDiff, Option.getD_some, Heap.get_put, hrq, okOne, TK.isAgg, Nat.reduceBEq, Nat.zero_add, List.length_cons, List.length_nil, Nat.reduceAdd, Nat.le_refl, and_self, Lift.valOf, List.drop_zero, List.take_succ_cons, List.take_nil, reduceCtorEq, AS.put, dropKey, pcall, okArg, ofConst, ofVal, List.all_cons, List.all_nil, Bool.and_true, Specs.at, List.map_cons, List.map_nil, sCheck, hc, pbinP, pbinI, beq_self_eq_true, thenQ, isB, tmpOf, asB, pflt, peq, eqk23, fits, eqCells, List.getElem?_toArray, List.getElem?_cons_succ, List.getElem?_cons_zero, Option.bind_some, bne_self_eq_false, ppick_bool, true_and]
    by_cases hS : s ≠ [] ∧ pT s = s
    · obtain ⟨o', a', b', c', i', hq1, hq2, hq3⟩ := parse_yes hS
      refine SW.seq (SW.run [eParse] _ ?_)
      simp only [wpC, Bool.false_eq_true, ↓reduceIte, wpS, stops, wantedA, okDst, Nat.reduceLT, decide_true, step1, isOwnCall, hxOp, px, AS.eval, AS.get, Lift.look, Nat.reduceEqDiff, reduceCtorEq, Option.getD_some, Specs.has, eParse, Specs.hasO, Nat.reduceLeDiff, Nat.reduceSub, and_self, Bool.or_false, Bool.not_true, AS.put, dropKey, pcall, okArg, ofConst, ofVal, List.all_cons, List.all_nil, Bool.and_true, Specs.at, List.map_cons, List.map_nil, sParse, hs, hq1, List.getElem?_cons_zero, List.getElem?_cons_succ, okAlloc, ty23, okZero, Value.oneCell', Heap.get_put, some_none, hx, zeroOf, List.length_cons, List.length_nil, Nat.zero_add, Nat.reduceAdd, known1, PV.cells, Nat.le_refl, splice, List.take_zero, List.nil_append, List.drop_succ_cons, List.drop_nil, List.append_nil, thenQ, true_and]
      rintro p ⟨hpq, -, hpr, hp⟩
      have hqp : ¬ q = p := fun e => hpq e.symm
      have hrp : ¬ r = p := fun e => hpr e.symm
      refine SW.run [eCheck, eText] _ ?_
      simp only [wpC, mayStop, stops, isFlt, Specs.has, eCheck, eText, Specs.hasO, Nat.reduceLeDiff, Nat.reduceSub, false_and, ↓reduceIte, Bool.or_false, List.any_cons, List.any_nil, Bool.not_true, Nat.reduceEqDiff, Bool.false_eq_true, wpS, wantedA, okDst, Nat.reduceLT, decide_true, step1, isOwnCall, hxOp, px, AS.eval, AS.get, Lift.look, Option.getD_some, AS.put, dropKey, reduceCtorEq, pbinP, ofConst, ofVal, pbinI, beq_self_eq_true, thenQ, isB, tmpOf, asB, pload, ty23, Heap.get_put, okOne, TK.isAgg, Nat.reduceBEq, Nat.zero_add, List.length_cons, List.length_nil, Nat.reduceAdd, Nat.le_refl, and_self, Lift.valOf, List.drop_zero, List.take_succ_cons, List.take_nil, pcall, okArg, List.all_cons, List.all_nil, Bool.and_true, Specs.at, List.map_cons, List.map_nil, sCheck, hq2, List.getElem?_toArray, List.getElem?_cons_succ, List.getElem?_cons_zero, Option.bind_some, sText, hq3, pbinS, ppick_bool, RPost, sres, Tryd.results8, sresL, sres1, Option.some.injEq, Ret_fin, exists_eq_left', true_and]
      rw [Heap.put_put, Heap.put_put]
      exact HTo.put3 _ _ _ hr hq hp
    · have hq1 := parse_no hS
      refine SW.seq (SW.run [eParse] _ ?_)
      simp only [wpC, Bool.false_eq_true, ↓reduceIte, wpS, stops, wantedA, okDst, Nat.reduceLT, decide_true, step1, isOwnCall, hxOp, px, AS.eval, AS.get, Lift.look, Nat.reduceEqDiff, reduceCtorEq, Option.getD_some, Specs.has, eParse, Specs.hasO, Nat.reduceLeDiff, Nat.reduceSub, and_self, Bool.or_false, Bool.not_true, AS.put, dropKey, pcall, okArg, ofConst, ofVal, List.all_cons, List.all_nil, Bool.and_true, Specs.at, List.map_cons, List.map_nil, sParse, hs, hq1, noI, List.getElem?_cons_zero, List.getElem?_cons_succ, okAlloc, ty23, okZero, Value.oneCell', Heap.get_put, some_none, hx, zeroOf, List.length_cons, List.length_nil, Nat.zero_add, Nat.reduceAdd, known1, PV.cells, Nat.le_refl, splice, List.take_zero, List.nil_append, List.drop_succ_cons, List.drop_nil, List.append_nil, thenQ, true_and]
      rintro p ⟨hpq, -, hpr, hp⟩
      have hqp : ¬ q = p := fun e => hpq e.symm
      have hrp : ¬ r = p := fun e => hpr e.symm
      by_cases hn : s = []
      · have hnb : (s == []) = true := beq_iff_eq.2 hn
        refine SW.run [eCheck, eText] _ ?_
        simp only [wpC, mayStop, stops, isFlt, Specs.has, eCheck, eText, Specs.hasO, Nat.reduceLeDiff, Nat.reduceSub, false_and, ↓reduceIte, Bool.or_false, List.any_cons, List.any_nil, Bool.not_true, Nat.reduceEqDiff, Bool.false_eq_true, wpS, wantedA, okDst, Nat.reduceLT, decide_true, step1, isOwnCall, hxOp, px, AS.eval, AS.get, Lift.look, Option.getD_some, AS.put, dropKey, reduceCtorEq, pbinP, ofConst, ofVal, pbinI, Int.reduceBEq, thenQ, isB, tmpOf, asB, beq_self_eq_true, List.getElem?_toArray, List.getElem?_cons_succ, List.getElem?_cons_zero, Option.bind_some, pload, ty23, Heap.get_put, okOne, TK.isAgg, Nat.reduceBEq, Nat.zero_add, List.length_cons, List.length_nil, Nat.reduceAdd, Nat.le_refl, and_self, Lift.valOf, List.drop_zero, List.take_succ_cons, List.take_nil, pbuild, List.map_cons, List.map_nil, pfill, List.all_cons, ty3, Option.isSome_some, List.all_nil, Bool.and_true, okZero, Value.oneCell', known, pflt, peq, eqk23, fits, eqCells, ppick_bool, pbinS, hnb, beq_tf, Option.some.injEq, ppick_true, RPost, sres, Tryd.results8, sresL, sres1, Ret_fin, exists_eq_left', true_and]
        rw [Heap.put_put, Heap.put_put]
        exact HTo.put3 _ _ _ hr hq hp
      · have hnb : (s == []) = false := beq_eq_false_iff_ne.2 hn
        have hst : (s == textS o a b c i) = false := beq_eq_false_iff_ne.2 (fun e => hS ⟨hn, by rw [e]; exact hpT⟩)
        refine SW.run [eCheck, eText] _ ?_
        simp only [wpC, mayStop, stops, isFlt, Specs.has, eCheck, eText, Specs.hasO, Nat.reduceLeDiff, Nat.reduceSub, false_and, ↓reduceIte, Bool.or_false, List.any_cons, List.any_nil, Bool.not_true, Nat.reduceEqDiff, Bool.false_eq_true, wpS, wantedA, okDst, Nat.reduceLT, decide_true, step1, isOwnCall, hxOp, px, AS.eval, AS.get, Lift.look, Option.getD_some, AS.put, dropKey, reduceCtorEq, pbinP, ofConst, ofVal, pbinI, Int.reduceBEq, thenQ, isB, tmpOf, asB, beq_self_eq_true, List.getElem?_toArray, List.getElem?_cons_succ, List.getElem?_cons_zero, Option.bind_some, pload, ty23, Heap.get_put, okOne, TK.isAgg, Nat.reduceBEq, Nat.zero_add, List.length_cons, List.length_nil, Nat.reduceAdd, Nat.le_refl, and_self, Lift.valOf, List.drop_zero, List.take_succ_cons, List.take_nil, pbuild, List.map_cons, List.map_nil, pfill, List.all_cons, ty3, Option.isSome_some, List.all_nil, Bool.and_true, okZero, Value.oneCell', known, pflt, peq, eqk23, fits, eqCells, ppick_bool, pbinS, hnb, hst, Bool.not_false, RPost, sres, Tryd.results8, sresL, sres1, Option.some.injEq, Ret_fin, exists_eq_left', true_and]
        rw [Heap.put_put, Heap.put_put]
        exact HTo.put3 _ _ _ hr hq hp
  · obtain ⟨hte, hp1⟩ := parse_none hc
    refine SW.seq (SW.run [eParse] _ ?_)
    simp only [wpC, Bool.false_eq_true, ↓reduceIte, wpS, stops, wantedA, okDst, Nat.reduceLT, decide_true, step1, isOwnCall, hxOp, px, AS.eval, AS.get, Lift.look, Nat.reduceEqDiff, Option.getD_some, Specs.has, eParse, Specs.hasO, Nat.reduceLeDiff, Nat.reduceSub, reduceCtorEq, and_self, Bool.or_false, Bool.not_true, AS.put, dropKey, pcall, okArg, ofConst, ofVal, List.all_cons, List.all_nil, Bool.and_true, Specs.at, List.map_cons, List.map_nil, sParse, ht, hp1, noI, List.getElem?_cons_zero, List.getElem?_cons_succ, okAlloc, ty23, okZero, Value.oneCell', Heap.get_put, some_none, hx, zeroOf, List.length_cons, List.length_nil, Nat.zero_add, Nat.reduceAdd, known1, PV.cells, Nat.le_refl, splice, List.take_zero, List.nil_append, List.drop_succ_cons, List.drop_nil, List.append_nil, thenQ, true_and]
    rintro q ⟨hqr, hq⟩
    have hrq : ¬ r = q := fun e => hqr e.symm
    have hcb : (checkS o a b c i == 0) = false := beq_eq_false_iff_ne.2 hc
    refine SW.seq (SW.run [eCheck] _ ?_)
    simp only [wpC, mayStop, stops, isFlt, Specs.has, eCheck, Specs.hasO, Nat.reduceLeDiff, Nat.reduceSub, false_and, ↓reduceIte, Bool.or_false, List.any_cons, Bool.not_true, List.any_nil, Bool.false_eq_true, wpS, wantedA, okDst, Nat.reduceLT, decide_true, step1, isOwnCall, hxOp, px, pload, ty23, AS.eval, AS.get, Lift.look, Nat.reduceEqDiff, Option.getD_some, Heap.get_put, hrq, okOne, TK.isAgg, Nat.reduceBEq, Nat.zero_add, List.length_cons, List.length_nil, Nat.reduceAdd, Nat.le_refl, and_self, Lift.valOf, List.drop_zero, List.take_succ_cons, List.take_nil, reduceCtorEq, AS.put, dropKey, pcall, okArg, ofConst, ofVal, List.all_cons, List.all_nil, Bool.and_true, Specs.at, List.map_cons, List.map_nil, sCheck, pbinP, pbinI, hcb, thenQ, isB, tmpOf, asB, bne_self_eq_false, true_and]
    by_cases hS : s ≠ [] ∧ pT s = s
    · obtain ⟨o', a', b', c', i', hq1, hq2, hq3⟩ := parse_yes hS
      refine SW.seq (SW.run [eParse] _ ?_)
      simp only [wpC, Bool.false_eq_true, ↓reduceIte, wpS, stops, wantedA, okDst, Nat.reduceLT, decide_true, step1, isOwnCall, hxOp, px, AS.eval, AS.get, Lift.look, Nat.reduceEqDiff, reduceCtorEq, Option.getD_some, Specs.has, eParse, Specs.hasO, Nat.reduceLeDiff, Nat.reduceSub, and_self, Bool.or_false, Bool.not_true, AS.put, dropKey, pcall, okArg, ofConst, ofVal, List.all_cons, List.all_nil, Bool.and_true, Specs.at, List.map_cons, List.map_nil, sParse, hs, hq1, List.getElem?_cons_zero, List.getElem?_cons_succ, okAlloc, ty23, okZero, Value.oneCell', Heap.get_put, some_none, hx, zeroOf, List.length_cons, List.length_nil, Nat.zero_add, Nat.reduceAdd, known1, PV.cells, Nat.le_refl, splice, List.take_zero, List.nil_append, List.drop_succ_cons, List.drop_nil, List.append_nil, thenQ, true_and]
      rintro p ⟨hpq, -, hpr, hp⟩
      have hqp : ¬ q = p := fun e => hpq e.symm
      have hrp : ¬ r = p := fun e => hpr e.symm
      refine SW.run [eCheck, eText] _ ?_
      simp only [wpC, mayStop, stops, isFlt, Specs.has, eCheck, eText, Specs.hasO, Nat.reduceLeDiff, Nat.reduceSub, false_and, ↓reduceIte, Bool.or_false, List.any_cons, List.any_nil, Bool.not_true, Nat.reduceEqDiff, Bool.false_eq_true, wpS, wantedA, okDst, Nat.reduceLT, decide_true, step1, isOwnCall, hxOp, px, AS.eval, AS.get, Lift.look, Option.getD_some, AS.put, dropKey, reduceCtorEq, pbinP, ofConst, ofVal, pbinI, beq_self_eq_true, thenQ, isB, tmpOf, asB, pload, ty23, Heap.get_put, okOne, TK.isAgg, Nat.reduceBEq, Nat.zero_add, List.length_cons, List.length_nil, Nat.reduceAdd, Nat.le_refl, and_self, Lift.valOf, List.drop_zero, List.take_succ_cons, List.take_nil, pcall, okArg, List.all_cons, List.all_nil, Bool.and_true, Specs.at, List.map_cons, List.map_nil, sCheck, hq2, List.getElem?_toArray, List.getElem?_cons_succ, List.getElem?_cons_zero, Option.bind_some, sText, hq3, pbinS, ppick_bool, RPost, sres, Tryd.results8, sresL, sres1, Option.some.injEq, Ret_fin, exists_eq_left', true_and]
      rw [Heap.put_put, Heap.put_put]
      exact HTo.put3 _ _ _ hr hq hp
    · have hq1 := parse_no hS
      refine SW.seq (SW.run [eParse] _ ?_)
      simp only [wpC, Bool.false_eq_true, ↓reduceIte, wpS, stops, wantedA, okDst, Nat.reduceLT, decide_true, step1, isOwnCall, hxOp, px, AS.eval, AS.get, Lift.look, Nat.reduceEqDiff, reduceCtorEq, Option.getD_some, Specs.has, eParse, Specs.hasO, Nat.reduceLeDiff, Nat.reduceSub, and_self, Bool.or_false, Bool.not_true, AS.put, dropKey, pcall, okArg, ofConst, ofVal, List.all_cons, List.all_nil, Bool.and_true, Specs.at, List.map_cons, List.map_nil, sParse, hs, hq1, noI, List.getElem?_cons_zero, List.getElem?_cons_succ, okAlloc, ty23, okZero, Value.oneCell', Heap.get_put, some_none, hx, zeroOf, List.length_cons, List.length_nil, Nat.zero_add, Nat.reduceAdd, known1, PV.cells, Nat.le_refl, splice, List.take_zero, List.nil_append, List.drop_succ_cons, List.drop_nil, List.append_nil, thenQ, true_and]
      rintro p ⟨hpq, -, hpr, hp⟩
      have hqp : ¬ q = p := fun e => hpq e.symm
      have hrp : ¬ r = p := fun e => hpr e.symm
      by_cases hn : s = []
      · have hnb : (s == []) = true := beq_iff_eq.2 hn
        refine SW.run [eCheck, eText] _ ?_
        simp only [wpC, mayStop, stops, isFlt, Specs.has, eCheck, eText, Specs.hasO, Nat.reduceLeDiff, Nat.reduceSub, false_and, ↓reduceIte, Bool.or_false, List.any_cons, List.any_nil, Bool.not_true, Nat.reduceEqDiff, Bool.false_eq_true, wpS, wantedA, okDst, Nat.reduceLT, decide_true, step1, isOwnCall, hxOp, px, AS.eval, AS.get, Lift.look, Option.getD_some, AS.put, dropKey, reduceCtorEq, pbinP, ofConst, ofVal, pbinI, Int.reduceBEq, thenQ, isB, tmpOf, asB, beq_self_eq_true, List.getElem?_toArray, List.getElem?_cons_succ, List.getElem?_cons_zero, Option.bind_some, pload, ty23, Heap.get_put, okOne, TK.isAgg, Nat.reduceBEq, Nat.zero_add, List.length_cons, List.length_nil, Nat.reduceAdd, Nat.le_refl, and_self, Lift.valOf, List.drop_zero, List.take_succ_cons, List.take_nil, pbuild, List.map_cons, List.map_nil, pfill, List.all_cons, ty3, Option.isSome_some, List.all_nil, Bool.and_true, okZero, Value.oneCell', known, pflt, peq, eqk23, fits, eqCells, ppick_bool, pbinS, hnb, beq_tf, Option.some.injEq, ppick_true, RPost, sres, Tryd.results8, sresL, sres1, Ret_fin, exists_eq_left', true_and]
        rw [Heap.put_put, Heap.put_put]
        exact HTo.put3 _ _ _ hr hq hp
      · have hnb : (s == []) = false := beq_eq_false_iff_ne.2 hn
        have hst : (s == textS o a b c i) = false := beq_eq_false_iff_ne.2 (fun e => hn (e.trans hte))
        refine SW.run [eCheck, eText] _ ?_
        simp only [wpC, mayStop, stops, isFlt, Specs.has, eCheck, eText, Specs.hasO, Nat.reduceLeDiff, Nat.reduceSub, false_and, ↓reduceIte, Bool.or_false, List.any_cons, List.any_nil, Bool.not_true, Nat.reduceEqDiff, Bool.false_eq_true, wpS, wantedA, okDst, Nat.reduceLT, decide_true, step1, isOwnCall, hxOp, px, AS.eval, AS.get, Lift.look, Option.getD_some, AS.put, dropKey, reduceCtorEq, pbinP, ofConst, ofVal, pbinI, Int.reduceBEq, thenQ, isB, tmpOf, asB, beq_self_eq_true, List.getElem?_toArray, List.getElem?_cons_succ, List.getElem?_cons_zero, Option.bind_some, pload, ty23, Heap.get_put, okOne, TK.isAgg, Nat.reduceBEq, Nat.zero_add, List.length_cons, List.length_nil, Nat.reduceAdd, Nat.le_refl, and_self, Lift.valOf, List.drop_zero, List.take_succ_cons, List.take_nil, pbuild, List.map_cons, List.map_nil, pfill, List.all_cons, ty3, Option.isSome_some, List.all_nil, Bool.and_true, okZero, Value.oneCell', known, pflt, peq, eqk23, fits, eqCells, ppick_bool, pbinS, hnb, hst, Bool.not_false, RPost, sres, Tryd.results8, sresL, sres1, Option.some.injEq, Ret_fin, exists_eq_left', true_and]
        rw [Heap.put_put, Heap.put_put]
        exact HTo.put3 _ _ _ hr hq hp
end Go.Proofs.YthdmdeiaonkeoaaDoor
