/- Contracts of functions that the law reaches. -/
import Derived.Test.YthlibdhjcjangaaTm
set_option linter.unusedSimpArgs false
set_option linter.unusedVariables false
namespace Go.Proofs.Ythlibdhjcjangaa
open Go Go.RowKit Go.Proofs.Ythlibdhjcjangaa Go.Proofs.Ythlibdhjcjangaa.Lift

/-! text.Str.Slice -/
def sliceS (l : List UInt8) (w : Bool) (i j : Int) : PV :=
  if i < 0 ∨ j < i ∨ (lenS l w : Int) < j then .tuple [.agg [.str [], .bool false], .int .i64 11]
  else if w = true then .tuple [strV (((charsS l w).take j.toNat).drop i.toNat), .int .i64 0]
  else .tuple [.agg [.str ((l.take j.toNat).drop i.toNat), .bool false], .int .i64 0]
def sSliceT : List PV → Prop × PV
  | [.agg [.str l, .bool w], .int .i64 i, .int .i64 j] => (l.length ≤ 1000000000, sliceS l w i j)
  | _ => PBad
theorem elR_part (ns : List Int) (a b : Nat) : ((elR ns).take b).drop a = elR ((ns.take b).drop a) := by simp [elR]
theorem Slice_ok (l : List UInt8) (w : Bool) (i j : Int) (h : Heap) (hl : l.length ≤ 1000000000) : SCalls env 21 [.agg [.str l, .bool w], .int .i64 i, .int .i64 j] h (Ret (sliceS l w i j) h) := by
  refine SCalls.body Try.func21 rfl rfl (by simp [Try.ntmps21]) ?_
  refine SW.seq (SW.run [] _ ?_)
  simp only [wpC, Bool.false_eq_true, ↓reduceIte, wpS, stops, wantedA, okDst, Try.ntmps21, Nat.reduceLT, decide_true, step1, known1, AS.eval, AS.get, enumA, Nat.zero_add, Nat.reduceAdd, Lift.look, Option.getD_some, AS.put, dropKey, reduceCtorEq, Nat.reduceEqDiff, okAlloc, ty24, okZero, List.all_cons, Value.oneCell', List.all_nil, Bool.and_true, PV.cells, List.length_cons, List.length_nil, Heap.get_put, some_none, hxOp, px, ofConst, ofVal, thenQ, zeroOf, List.map_cons, List.map_nil, true_and]
  rintro r hr q ⟨hqr, hq⟩
  have hrq : ¬ r = q := fun e => hqr e.symm
  have e1 := lenS_le l w
  by_cases h1 : i < 0
  · refine SW.run [eLen, eRunes, ePack] _ ?_
    simp only [wpC, mayStop, stops, Specs.has, eLen, eRunes, ePack, List.any_cons, ↓reduceIte, Bool.not_true, List.any_nil, Bool.or_false, Bool.false_eq_true, wpS, wantedA, okDst, Nat.reduceLT, decide_true, step1, hxOp, px, AS.eval, AS.get, Lift.look, Nat.reduceEqDiff, reduceCtorEq, Option.getD_some, AS.put, dropKey, pbinP, ofConst, ofVal, pbinI, h1, List.getElem?_toArray, List.getElem?_cons_succ, List.getElem?_cons_zero, Option.bind_some, beq_tf, Option.some.injEq, ppick_true, thenQ, isB, tmpOf, asB, pbuild, ty24, List.map_cons, List.map_nil, pfill, List.all_cons, ty9, Option.isSome_some, ty4, List.all_nil, Bool.and_true, okZero, Value.oneCell', known, and_self, hx, Heap.get_put, known1, PV.cells, List.length_cons, List.length_nil, Nat.zero_add, Nat.reduceAdd, Nat.le_refl, splice, List.take_zero, List.nil_append, List.drop_succ_cons, List.drop_nil, List.append_nil, RPost, sres, Try.results21, sresL, sres1, okOne, TK.isAgg, Nat.reduceBEq, Lift.valOf, List.drop_zero, List.take_succ_cons, List.take_nil, sliceS, true_or, Ret_fin, exists_eq_left', true_and]
    exact HTo.put3 _ _ _ hr hq hq
  by_cases h2 : j < i
  · refine SW.run [eLen, eRunes, ePack] _ ?_
    simp only [wpC, mayStop, stops, Specs.has, eLen, eRunes, ePack, List.any_cons, ↓reduceIte, Bool.not_true, List.any_nil, Bool.or_false, Bool.false_eq_true, wpS, wantedA, okDst, Nat.reduceLT, decide_true, step1, hxOp, px, AS.eval, AS.get, Lift.look, Nat.reduceEqDiff, reduceCtorEq, Option.getD_some, AS.put, dropKey, pbinP, ofConst, ofVal, pbinI, h1, decide_false, List.getElem?_toArray, List.getElem?_cons_succ, List.getElem?_cons_zero, Option.bind_some, beq_self_eq_true, h2, ppick_bool, beq_tf, Option.some.injEq, ppick_true, thenQ, isB, tmpOf, asB, pbuild, ty24, List.map_cons, List.map_nil, pfill, List.all_cons, ty9, Option.isSome_some, ty4, List.all_nil, Bool.and_true, okZero, Value.oneCell', known, and_self, hx, Heap.get_put, known1, PV.cells, List.length_cons, List.length_nil, Nat.zero_add, Nat.reduceAdd, Nat.le_refl, splice, List.take_zero, List.nil_append, List.drop_succ_cons, List.drop_nil, List.append_nil, RPost, sres, Try.results21, sresL, sres1, okOne, TK.isAgg, Nat.reduceBEq, Lift.valOf, List.drop_zero, List.take_succ_cons, List.take_nil, sliceS, true_or, or_true, Ret_fin, exists_eq_left', true_and]
    exact HTo.put3 _ _ _ hr hq hq
  by_cases h3 : (lenS l w : Int) < j
  · refine SW.run [eLen, eRunes, ePack] _ ?_
    simp only [wpC, mayStop, stops, Specs.has, eLen, eRunes, ePack, List.any_cons, ↓reduceIte, Bool.not_true, List.any_nil, Bool.or_false, Bool.false_eq_true, wpS, wantedA, okDst, Nat.reduceLT, decide_true, step1, hxOp, px, AS.eval, AS.get, Lift.look, Nat.reduceEqDiff, reduceCtorEq, Option.getD_some, AS.put, dropKey, pbinP, ofConst, ofVal, pbinI, h1, decide_false, List.getElem?_toArray, List.getElem?_cons_succ, List.getElem?_cons_zero, Option.bind_some, beq_self_eq_true, h2, ppick_bool, pload, ty24, Heap.get_put, hrq, okOne, TK.isAgg, Nat.reduceBEq, Nat.zero_add, List.length_cons, List.length_nil, Nat.reduceAdd, Nat.le_refl, and_self, Lift.valOf, List.drop_zero, List.take_succ_cons, List.take_nil, pcall, okArg, List.all_cons, List.all_nil, Bool.and_true, Specs.at, List.map_cons, List.map_nil, sLen, true_and, h3, thenQ, isB, tmpOf, asB, pbuild, pfill, ty9, Option.isSome_some, ty4, okZero, Value.oneCell', known, hx, known1, PV.cells, splice, List.take_zero, List.nil_append, List.drop_succ_cons, List.drop_nil, List.append_nil, RPost, sres, Try.results21, sresL, sres1, Option.some.injEq, sliceS, or_true, Ret_fin, exists_eq_left']
    exact ⟨hl, HTo.put3 _ _ _ hr hq hq⟩
  have k1 : 0 ≤ i := by omega
  have k2 : i ≤ j := by omega
  have k3 : j ≤ (lenS l w : Int) := by omega
  cases w with
  | false =>
    have k4 : j ≤ (l.length : Int) := k3
    refine SW.run [eLen, eRunes, ePack] _ ?_
    simp only [wpC, mayStop, stops, Specs.has, eLen, eRunes, ePack, List.any_cons, ↓reduceIte, Bool.not_true, List.any_nil, Bool.or_false, Bool.false_eq_true, wpS, wantedA, okDst, Nat.reduceLT, decide_true, step1, hxOp, px, AS.eval, AS.get, Lift.look, Nat.reduceEqDiff, reduceCtorEq, Option.getD_some, AS.put, dropKey, pbinP, ofConst, ofVal, pbinI, h1, decide_false, List.getElem?_toArray, List.getElem?_cons_succ, List.getElem?_cons_zero, Option.bind_some, beq_self_eq_true, h2, ppick_bool, pload, ty24, Heap.get_put, hrq, okOne, TK.isAgg, Nat.reduceBEq, Nat.zero_add, List.length_cons, List.length_nil, Nat.reduceAdd, Nat.le_refl, and_self, Lift.valOf, List.drop_zero, List.take_succ_cons, List.take_nil, pcall, okArg, List.all_cons, List.all_nil, Bool.and_true, Specs.at, List.map_cons, List.map_nil, sLen, true_and, h3, thenQ, isB, tmpOf, asB, pfieldAddr, fieldOf, fieldIn, ty4, Option.map_some, ne_eq, Nat.succ_ne_zero, not_false_eq_true, Bool.or_true, List.drop_succ_cons, List.getD_cons_zero, pun, Bool.not_false, ty9, Nat.add_zero, Nat.reduceLeDiff, List.take_zero, pslice, pB, k1, k2, k4, pbuild, pfill, placeOf, PV.cells, splice, List.nil_append, List.cons_append, Option.isSome_some, okZero, Value.oneCell', known, hx, known1, List.drop_nil, List.append_nil, RPost, sres, Try.results21, sresL, sres1, Option.some.injEq, sliceS, or_self, Ret_fin, exists_eq_left']
    exact ⟨hl, HTo.put3 _ _ _ hr hq hq⟩
  | true =>
    have k5 : ((List.take j.toNat (charsS l true)).drop i.toNat).length ≤ 1000000000 := by
      rw [List.length_drop, List.length_take, charsS_len]; omega
    refine SW.run [eLen, eRunes, ePack] _ ?_
    simp only [wpC, mayStop, stops, Specs.has, eLen, eRunes, ePack, List.any_cons, ↓reduceIte, Bool.not_true, List.any_nil, Bool.or_false, Bool.false_eq_true, wpS, wantedA, okDst, Nat.reduceLT, decide_true, step1, hxOp, px, AS.eval, AS.get, Lift.look, Nat.reduceEqDiff, reduceCtorEq, Option.getD_some, AS.put, dropKey, pbinP, ofConst, ofVal, pbinI, h1, decide_false, List.getElem?_toArray, List.getElem?_cons_succ, List.getElem?_cons_zero, Option.bind_some, beq_self_eq_true, h2, ppick_bool, pload, ty24, Heap.get_put, hrq, okOne, TK.isAgg, Nat.reduceBEq, Nat.zero_add, List.length_cons, List.length_nil, Nat.reduceAdd, Nat.le_refl, and_self, Lift.valOf, List.drop_zero, List.take_succ_cons, List.take_nil, pcall, okArg, List.all_cons, List.all_nil, Bool.and_true, Specs.at, List.map_cons, List.map_nil, sLen, true_and, h3, thenQ, isB, tmpOf, asB, pfieldAddr, fieldOf, fieldIn, ty4, Option.map_some, ne_eq, Nat.succ_ne_zero, not_false_eq_true, Bool.or_true, List.drop_succ_cons, List.getD_cons_zero, pun, sRunes, pslice, ty53, ty21, pB, k1, k2, elR_len, charsS_len, k3, elR_part, sPack, unR_elR, List.length_drop, List.length_take, hx, known1, PV.cells, splice, List.take_zero, List.nil_append, List.drop_nil, List.append_nil, RPost, sres, Try.results21, sresL, sres1, Option.some.injEq, sliceS, or_self, Ret_fin, exists_eq_left']
    exact ⟨hl, hl, by omega, rfl, HTo.put3 _ _ _ hr hq hq⟩
noncomputable def eSlice : SpecE env := ⟨21, sSliceT, fun args h hc => by
  unfold sSliceT at hc ⊢
  split at hc
  · rename_i l w i j; exact .inl (Slice_ok l w i j h hc)
  · exact hc.elim⟩
end Go.Proofs.Ythlibdhjcjangaa
