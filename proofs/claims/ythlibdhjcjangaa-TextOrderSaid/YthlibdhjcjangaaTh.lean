/- Contracts of functions that the law reaches. -/
import Derived.Test.YthlibdhjcjangaaTg
set_option linter.unusedSimpArgs false
set_option linter.unusedVariables false
namespace Go.Proofs.Ythlibdhjcjangaa
open Go Go.RowKit Go.Proofs.Ythlibdhjcjangaa Go.Proofs.Ythlibdhjcjangaa.Lift

theorem atS_in (ns : List Int) (i : Nat) (hi : i < ns.length) (hv : okChars ns) : atS (packL ns) (anyWide ns) (i : Int) = .tuple [.int .i64 (ns.getD i 0), .int .i64 0] := by
  unfold atS
  rw [packL_len, if_neg (by omega), Int.toNat_natCast, packed_char ns i hi hv]
theorem atS_end (ns : List Int) : atS (packL ns) (anyWide ns) (ns.length : Int) = .tuple [.int .i64 0, .int .i64 11] := by
  unfold atS
  rw [packL_len, if_pos (by omega)]
theorem atS_neg (ns : List Int) : atS (packL ns) (anyWide ns) (-1) = .tuple [.int .i64 0, .int .i64 11] := by
  unfold atS
  rw [if_pos (by omega)]
set_option maxRecDepth 100000 in
theorem TextDecodes_ok (s : List UInt8) (h : Heap) : SCalls env 3 [.str s] h (Ret (.bool true) h) := by
  refine SCalls.body Try.func3 rfl rfl (by simp [Try.ntmps3]) ?_
  refine SW.seq (SW.run [] _ ?_)
  simp only [wpC, Bool.false_eq_true, ↓reduceIte, wpS, stops, wantedA, okDst, Try.ntmps3, Nat.reduceLT, decide_true, step1, hxOp, px, AS.eval, ofConst, ofVal, thenQ, AS.put, enumA, dropKey, reduceCtorEq, true_and]
  by_cases hlen : 2000 < (s.length : Int)
  · refine SW.run [eAwake, eOf, eDecode, eIsS, eAt] _ ?_
    simp only [wpC, mayStop, stops, Specs.has, eAwake, eOf, eDecode, eIsS, eAt, List.any_cons, ↓reduceIte, Bool.not_true, List.any_nil, Bool.or_false, Bool.false_eq_true, wpS, wantedA, okDst, Nat.reduceLT, decide_true, step1, hxOp, px, pcall, okArg, AS.eval, AS.get, Lift.look, ofConst, ofVal, List.all_nil, Specs.at, List.map_nil, sAwake, and_self, AS.put, dropKey, Nat.reduceEqDiff, reduceCtorEq, pun, Option.getD_some, thenQ, isB, tmpOf, asB, Nat.succ_ne_zero, ty9, plen, okLen, pbinP, pbinI, hlen, RPost, sres, Try.results3, sresL, sres1, Option.some.injEq, Ret_fin, HTo_self, and_true, exists_eq_left']
  have hs : s.length ≤ 1000000000 := by omega
  have hs2 : s.length ≤ 70368744177664 := by omega
  have hr := runesOf_len s
  have hr2 : (runesOf s).length ≤ 65536 := by omega
  have hr3 : (runesOf s).length ≤ 100000000 := by omega
  have hv := runes_ok s
  have hpl : (packL (runesOf s)).length ≤ 1000000000 := by have := packL_le (runesOf s); omega
  refine SW.run [eAwake, eOf, eDecode, eIsS, eAt] _ ?_
  simp only [wpC, mayStop, stops, Specs.has, eAwake, eOf, eDecode, eIsS, eAt, List.any_cons, ↓reduceIte, Bool.not_true, List.any_nil, Bool.or_false, Bool.false_eq_true, wpS, wantedA, okDst, Nat.reduceLT, decide_true, step1, hxOp, px, pcall, okArg, AS.eval, AS.get, Lift.look, ofConst, ofVal, List.all_nil, Specs.at, List.map_nil, sAwake, and_self, AS.put, dropKey, Nat.reduceEqDiff, reduceCtorEq, pun, Option.getD_some, thenQ, isB, tmpOf, asB, Nat.succ_ne_zero, ty9, plen, okLen, pbinP, pbinI, hlen, decide_false, List.all_cons, Bool.and_true, List.map_cons, sOf, hs2, hr2, strV, List.getElem?_cons_zero, List.getElem?_cons_succ, okAlloc, ty24, okZero, Value.oneCell', hx, zeroOf, List.length_cons, List.length_nil, Nat.zero_add, Nat.reduceAdd, Heap.get_put, known1, PV.cells, Nat.le_refl, splice, List.take_zero, List.nil_append, List.drop_succ_cons, List.drop_nil, List.append_nil, Heap.put_put, sDecode, hs, decode_law, Int.reduceBNe, List.getElem?_toArray, Option.bind_some, beq_self_eq_true, pload, okOne, TK.isAgg, Nat.reduceBEq, Lift.valOf, List.drop_zero, List.take_succ_cons, List.take_nil, sIsS, unI_elI, hv, hr3, ppick_bool, Bool.or_true, ty28, elI_len, Try.results3, true_and]
  intro r hr0
  generalize hns : runesOf s = ns at *
  refine SW.loopK 71 (fun i : Nat => [(3, .val (.pointer (some ⟨r, 0, none⟩))), (5, .list 1 (elI ns)), (32, .int .i64 ns.length), (33, .int .i64 (i : Nat))]) (fun _ => h.put r (.cells 24 2 [.str (packL ns), .bool (anyWide ns)])) (fun i => i ≤ ns.length) (fun i => ns.length - i) 0 (Nat.zero_le _) ?_ ?_
  · simp only [Has, hasAll, AS.get, Lift.look, Nat.reduceEqDiff, ↓reduceIte, Option.getD_some, Int.cast_ofNat_Int, and_self]
  intro i hi
  refine SW.run [eAwake, eOf, eDecode, eIsS, eAt] _ ?_
  by_cases hlt : i < ns.length
  · simp only [wpC, mayStop, stops, Specs.has, eAwake, eOf, eDecode, eIsS, eAt, List.any_cons, List.any_nil, Bool.or_false, Bool.false_eq_true, ↓reduceIte, wpS, wantedA, okDst, Nat.reduceLT, decide_true, step1, hxOp, px, pbinP, AS.eval, AS.get, Lift.look, Nat.reduceEqDiff, Option.getD_some, pbinI, Int.ofNat_lt, hlt, thenQ, isB, AS.put, dropKey, tmpOf, asB, Bool.not_true, pload, ty24, Heap.get_put, okOne, TK.isAgg, Nat.reduceBEq, Nat.zero_add, List.length_cons, List.length_nil, Nat.reduceAdd, Nat.le_refl, and_self, Lift.valOf, List.drop_zero, List.take_succ_cons, List.take_nil, pcall, okArg, ofConst, ofVal, List.all_cons, List.all_nil, Bool.and_true, Specs.at, List.map_cons, List.map_nil, sAt, hpl, atS_in ns i hlt hv, List.getElem?_cons_zero, List.getElem?_cons_succ, bne_self_eq_false, List.getElem?_toArray, Option.bind_some, beq_self_eq_true, pindexAddr, ty28, ty3, ne_eq, Nat.succ_ne_zero, not_false_eq_true, Int.natCast_nonneg, Int.toNat_natCast, elI_len, elI_getD hlt, Bool.or_true, List.getD_cons_zero, ppick_bool, inQ, Has, hasAll, and_true, true_and]
    exact ⟨i + 1, hlt, by omega, by rw [w64 (by omega) (by omega)]; rfl⟩
  · simp only [wpC, mayStop, stops, Specs.has, List.any_cons, List.any_nil, Bool.or_false, Bool.false_eq_true, ↓reduceIte, wpS, wantedA, okDst, Nat.reduceLT, decide_true, step1, hxOp, px, pbinP, AS.eval, AS.get, Lift.look, Nat.reduceEqDiff, Option.getD_some, pbinI, Int.ofNat_lt, hlt, decide_false, thenQ, isB, AS.put, dropKey, tmpOf, asB, inQ, true_and]
    have hi' : i = ns.length := by omega
    subst hi'
    refine SW.run [eAwake, eOf, eDecode, eIsS, eAt] _ ?_
    simp only [wpC, mayStop, stops, Specs.has, eAwake, eOf, eDecode, eIsS, eAt, List.any_cons, Nat.reduceEqDiff, ↓reduceIte, Bool.not_true, List.any_nil, Bool.or_false, Bool.false_eq_true, wpS, wantedA, okDst, Nat.reduceLT, decide_true, step1, hxOp, px, pload, ty24, AS.eval, AS.get, Lift.look, Option.getD_some, Heap.get_put, okOne, TK.isAgg, Nat.reduceBEq, Nat.zero_add, List.length_cons, List.length_nil, Nat.reduceAdd, Nat.le_refl, and_self, Lift.valOf, List.drop_zero, List.take_succ_cons, List.take_nil, AS.put, dropKey, pcall, ty28, plen, elI_len, okLen, okArg, ofConst, ofVal, List.all_cons, List.all_nil, Bool.and_true, Specs.at, List.map_cons, List.map_nil, sAt, hpl, atS_end, List.getElem?_cons_zero, List.getElem?_cons_succ, thenQ, atS_neg, pbinP, pbinI, beq_self_eq_true, List.getElem?_toArray, Option.bind_some, ppick_bool, RPost, sres, sresL, sres1, Option.some.injEq, Ret_fin, exists_eq_left', true_and]
    exact HTo.put (.refl _ _) hr0 _
end Go.Proofs.Ythlibdhjcjangaa
