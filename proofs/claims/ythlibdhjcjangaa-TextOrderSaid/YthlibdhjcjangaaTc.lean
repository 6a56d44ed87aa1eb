/- Contracts of functions that the law reaches. -/
import Derived.Test.YthlibdhjcjangaaTp
set_option linter.unusedSimpArgs false
set_option linter.unusedVariables false
namespace Go.Proofs.Ythlibdhjcjangaa
open Go Go.RowKit Go.Proofs.Ythlibdhjcjangaa Go.Proofs.Ythlibdhjcjangaa.Lift

theorem lastN_take (s : List UInt8) (c : UInt8) (n : Nat) : ∀ k, k ≤ n → lastN (s.take n) c k = lastN s c k
  | 0, _ => rfl
  | k + 1, h => by
    unfold lastN
    rw [lastN_take s c n k (by omega)]
    have : (s.take n).getD k 0 = s.getD k 0 := by
      simp only [List.getD_eq_getElem?_getD, List.getElem?_take]
      rw [if_pos (by omega)]
    rw [this]
set_option maxRecDepth 100000 in
theorem TextPlaces_ok (s : List UInt8) (n : Int) (h : Heap) : SCalls env 4 [.str s, .int .i64 n] h (Ret (.bool true) h) := by
  refine SCalls.body Try.func4 rfl rfl (by simp [Try.ntmps4]) ?_
  refine SW.seq (SW.run [] _ ?_)
  simp only [wpC, Bool.false_eq_true, ↓reduceIte, wpS, stops, wantedA, okDst, Try.ntmps4, Nat.reduceLT, decide_true, step1, hxOp, px, AS.eval, ofConst, ofVal, thenQ, AS.put, enumA, Nat.zero_add, dropKey, reduceCtorEq, Nat.reduceEqDiff, true_and]
  by_cases hlen : 2000 < (s.length : Int)
  · refine SW.run [eAwake, ePlace, ePlaceR] _ ?_
    simp only [wpC, mayStop, stops, Specs.has, eAwake, ePlace, ePlaceR, List.any_cons, ↓reduceIte, Bool.not_true, List.any_nil, Bool.or_false, Bool.false_eq_true, wpS, wantedA, okDst, Nat.reduceLT, decide_true, step1, hxOp, px, pcall, okArg, AS.eval, AS.get, Lift.look, ofConst, ofVal, List.all_nil, Specs.at, List.map_nil, sAwake, and_self, AS.put, dropKey, Nat.reduceEqDiff, reduceCtorEq, pun, Option.getD_some, thenQ, isB, tmpOf, asB, Nat.succ_ne_zero, ty9, plen, okLen, pbinP, pbinI, hlen, RPost, sres, Try.results4, sresL, sres1, Option.some.injEq, Ret_fin, HTo_self, and_true, exists_eq_left']
  have hs : s.length ≤ 1000000000 := by omega
  by_cases hn : n < 0
  · refine SW.run [eAwake, ePlace, ePlaceR] _ ?_
    simp only [wpC, mayStop, stops, Specs.has, eAwake, ePlace, ePlaceR, List.any_cons, ↓reduceIte, Bool.not_true, List.any_nil, Bool.or_false, Bool.false_eq_true, wpS, wantedA, okDst, Nat.reduceLT, decide_true, step1, hxOp, px, pcall, okArg, AS.eval, AS.get, Lift.look, ofConst, ofVal, List.all_nil, Specs.at, List.map_nil, sAwake, and_self, AS.put, dropKey, Nat.reduceEqDiff, reduceCtorEq, pun, Option.getD_some, thenQ, isB, tmpOf, asB, Nat.succ_ne_zero, ty9, plen, okLen, pbinP, pbinI, hlen, decide_false, List.all_cons, Bool.and_true, List.map_cons, sPlace, hs, placeS, hn, true_or, List.getElem?_cons_zero, List.getElem?_cons_succ, List.getElem?_toArray, Option.bind_some, beq_tf, Option.some.injEq, ppick_true, beq_self_eq_true, ppick_bool, RPost, sres, Try.results4, sresL, sres1, Ret_fin, HTo_self, and_true, exists_eq_left']
  by_cases hn2 : (s.length : Int) < n
  · refine SW.run [eAwake, ePlace, ePlaceR] _ ?_
    simp only [wpC, mayStop, stops, Specs.has, eAwake, ePlace, ePlaceR, List.any_cons, ↓reduceIte, Bool.not_true, List.any_nil, Bool.or_false, Bool.false_eq_true, wpS, wantedA, okDst, Nat.reduceLT, decide_true, step1, hxOp, px, pcall, okArg, AS.eval, AS.get, Lift.look, ofConst, ofVal, List.all_nil, Specs.at, List.map_nil, sAwake, and_self, AS.put, dropKey, Nat.reduceEqDiff, reduceCtorEq, pun, Option.getD_some, thenQ, isB, tmpOf, asB, Nat.succ_ne_zero, ty9, plen, okLen, pbinP, pbinI, hlen, decide_false, List.all_cons, Bool.and_true, List.map_cons, sPlace, hs, placeS, hn, hn2, or_true, List.getElem?_cons_zero, List.getElem?_cons_succ, List.getElem?_toArray, Option.bind_some, beq_self_eq_true, ppick_bool, RPost, sres, Try.results4, sresL, sres1, Option.some.injEq, Ret_fin, HTo_self, and_true, exists_eq_left']
  · have h1 : 0 ≤ n := by omega
    have h2 : n ≤ s.length := by omega
    have hcol : (decodeS (partR s n.toNat).length (partR s n.toNat)).length = colOf (s.take n.toNat) := by
      rw [decode_law]
      unfold colOf partR
      have hl : (s.take n.toNat).length = n.toNat := by rw [List.length_take]; omega
      rw [hl, lastN_take s 10 n.toNat n.toNat (Nat.le_refl _)]
    refine SW.run [eAwake, ePlace, ePlaceR] _ ?_
    simp only [wpC, mayStop, stops, Specs.has, eAwake, ePlace, ePlaceR, List.any_cons, ↓reduceIte, Bool.not_true, List.any_nil, Bool.or_false, Bool.false_eq_true, wpS, wantedA, okDst, Nat.reduceLT, decide_true, step1, hxOp, px, pcall, okArg, AS.eval, AS.get, Lift.look, ofConst, ofVal, List.all_nil, Specs.at, List.map_nil, sAwake, and_self, AS.put, dropKey, Nat.reduceEqDiff, reduceCtorEq, pun, Option.getD_some, thenQ, isB, tmpOf, asB, Nat.succ_ne_zero, ty9, plen, okLen, pbinP, pbinI, hlen, decide_false, List.all_cons, Bool.and_true, List.map_cons, sPlace, hs, placeS, hn, hn2, or_self, List.getElem?_cons_zero, List.getElem?_cons_succ, List.getElem?_toArray, Option.bind_some, beq_self_eq_true, ppick_bool, sPlaceR, h1, h2, placeR, hcol, RPost, sres, Try.results4, sresL, sres1, Option.some.injEq, Ret_fin, HTo_self, and_true, exists_eq_left']
end Go.Proofs.Ythlibdhjcjangaa
