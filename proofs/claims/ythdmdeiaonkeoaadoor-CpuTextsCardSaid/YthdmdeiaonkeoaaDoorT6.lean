/- Contracts of functions that the law reaches. -/
import Derived.Test.YthdmdeiaonkeoaaDoorT5
set_option linter.unusedSimpArgs false
set_option linter.unusedVariables false
namespace Go.Proofs.YthdmdeiaonkeoaaDoor
open Go Go.RowKit Go.Proofs.YthdmdeiaonkeoaaDoor Go.Proofs.YthdmdeiaonkeoaaDoor.Lift

/-! acheronref25.Decode -/
def aR (w : Int) : Int := w / 281474976710656 % 256
def bR (w : Int) : Int := w / 1099511627776 % 256
def iR (w : Int) : Int := if 2147483648 ≤ w % 4294967296 then w % 4294967296 - 4294967296 else w % 4294967296
def isR (w : Int) : Bool := decide (checkS (oW w) (aR w) (bR w) (cW w) (iR w) = 0 ∧ encRf (oW w) (aR w) (bR w) (cW w) (iR w) = w)
def decR (w : Int) : PV := if isR w = true then .tuple [instV (oW w) (aR w) (bR w) (cW w) (iR w), .int .i64 0] else .tuple [instV 0 0 0 0 0, .int .i64 2]
theorem iR_imm (w : Int) : iR w = immS w := by
  unfold iR immS
  rw [IntKind.wrap_i32]
  split <;> omega
/-- The two readings of a word are one. -/
theorem dec_law (w : Int) (h0 : -9223372036854775808 ≤ w) (h1 : w < 9223372036854775808) : decR w = decS w := by
  unfold decR decS
  by_cases hi : isW w = true
  · have h := hi
    unfold isW at h
    rw [decide_eq_true_eq] at h
    obtain ⟨hz, he⟩ := h
    obtain ⟨⟨k1, k2, k3, k4, k5, k6, k7, k8⟩, k9, k10⟩ := checkS_zero hz
    unfold encW at he
    have ha : aR w = aW w := by unfold aR; unfold aW oW bW cW at *; omega
    have hb : bR w = bW w := by unfold bR; unfold aW oW bW cW at *; omega
    have hr : isR w = true := by
      unfold isR
      rw [decide_eq_true_eq, ha, hb, iR_imm, encRf_law _ ⟨k1, k2, k3, k4, k5, k6, k7, k8⟩]
      exact ⟨hz, he⟩
    rw [if_pos hi, if_pos hr, ha, hb, iR_imm]
  · rw [if_neg hi, if_neg]
    intro hr
    apply hi
    unfold isR at hr
    rw [decide_eq_true_eq] at hr
    obtain ⟨hz, he⟩ := hr
    obtain ⟨⟨k1, k2, k3, k4, k5, k6, k7, k8⟩, k9, k10⟩ := checkS_zero hz
    rw [encRf_law _ ⟨k1, k2, k3, k4, k5, k6, k7, k8⟩] at he
    have ha : aR w = aW w := by unfold aR aW at *; omega
    have hb : bR w = bW w := by unfold bR bW at *; omega
    unfold isW
    rw [decide_eq_true_eq, ← ha, ← hb, ← iR_imm]
    exact ⟨hz, he⟩
def sDecodeR : List PV → Prop × PV
  | [.int .i64 w] => (-9223372036854775808 ≤ w ∧ w < 9223372036854775808, decS w)
  | _ => PBad
set_option maxRecDepth 100000 in
theorem DecodeR_ok (w : Int) (h : Heap) (h0 : -9223372036854775808 ≤ w) (h1 : w < 9223372036854775808) : SCalls env 17 [.int .i64 w] h (Ret (decS w) h) := by
  rw [← dec_law w h0 h1]
  refine SCalls.body Tryd.func17 rfl rfl (by simp [Tryd.ntmps17]) ?_
  refine SW.seq (SW.run [] _ ?_)
  simp only [wpC, Bool.false_eq_true, ↓reduceIte, wpS, stops, wantedA, okDst, Tryd.ntmps17, Nat.reduceLT, decide_true, step1, okAlloc, ty25, okZero, List.all_cons, Value.oneCell', List.all_nil, Bool.and_true, AS.put, enumA, dropKey, reduceCtorEq, isOwnCall, hxOp, px, AS.eval, ofConst, ofVal, thenQ, Nat.reduceEqDiff, zeroOf, List.map_cons, List.map_nil, List.length_cons, List.length_nil, Nat.zero_add, Nat.reduceAdd, true_and]
  intro r hr
  refine SW.seq (SW.run [] _ ?_)
  simp only [wpC, Bool.false_eq_true, ↓reduceIte, wpS, stops, wantedA, okDst, Nat.reduceLT, decide_true, step1, isOwnCall, hxOp, px, AS.eval, AS.get, Lift.look, Nat.succ_ne_zero, Option.getD_some, AS.put, dropKey, Nat.reduceEqDiff, reduceCtorEq, pbinP, ofConst, ofVal, pbinI, Int.reduceLE, Int.reduceToNat, sh56, sh48, and255, sh40, sh36, and15, and32, pbuild, ty25, List.map_cons, List.map_nil, pfill, placeOf, List.getElem?_cons_zero, ty3, Option.map_some, PV.cells, List.length_cons, List.length_nil, Nat.zero_add, Nat.reduceAdd, Nat.reduceLeDiff, and_self, List.getElem?_cons_succ, splice, List.take_zero, List.nil_append, List.drop_succ_cons, List.drop_zero, List.cons_append, List.take_succ_cons, Nat.le_refl, List.drop_nil, List.append_nil, List.all_cons, Option.isSome_some, List.all_nil, Bool.and_true, okZero, Value.oneCell', known, okAlloc, Heap.get_put, some_none, hx, zeroOf, known1, thenQ, true_and]
  rintro q ⟨hqr, hq⟩
  have hrq : ¬ r = q := fun e => hqr e.symm
  simp only [Heap.put_put]
  have eo : w / 72057594037927936 = oW w := rfl
  have ea : w / 281474976710656 % 256 = aR w := rfl
  have eb : w / 1099511627776 % 256 = bR w := rfl
  have ec : w / 68719476736 % 16 = cW w := rfl
  rw [eo, ea, eb, ec]
  refine SW.meet1 37 [(0, .int .i64 w), (2, .val (.pointer (some ⟨r, 0, none⟩))), (4, .val (.pointer (some ⟨q, 0, none⟩)))] ((h.put r (.cells 25 5 [.int .i64 0, .int .i64 0, .int .i64 0, .int .i64 0, .int .i64 0])).put q (.cells 25 5 [.int .i64 (oW w), .int .i64 (aR w), .int .i64 (bR w), .int .i64 (cW w), .int .i64 (iR w)])) ?_ ?_
  · by_cases hb : 2147483648 ≤ w % 4294967296
    · have hw : IntKind.i64.wrap (w % 4294967296 - 4294967296) = iR w := by unfold iR; rw [if_pos hb, w64 (by omega) (by omega)]
      refine SW.run [] _ ?_
      simp only [wpC, mayStop, stops, isFlt, Specs.has, Specs.hasO, Bool.or_false, Bool.not_false, List.any_cons, List.any_nil, Bool.false_eq_true, ↓reduceIte, wpS, wantedA, okDst, Nat.reduceLT, decide_true, step1, isOwnCall, hxOp, px, pfieldAddr, fieldOf, ty25, fieldIn, List.getElem?_cons_succ, List.getElem?_cons_zero, ty3, Option.map_some, AS.eval, AS.get, Lift.look, Option.getD_some, ne_eq, Nat.succ_ne_zero, not_false_eq_true, Nat.zero_add, AS.put, dropKey, Nat.reduceEqDiff, reduceCtorEq, pload, Heap.get_put, okOne, TK.isAgg, beq_self_eq_true, Bool.or_true, Nat.reduceAdd, List.length_cons, List.length_nil, Nat.le_refl, and_self, Lift.valOf, List.drop_succ_cons, List.drop_zero, List.take_succ_cons, List.take_nil, List.getD_cons_zero, pbinP, ofConst, ofVal, pbinI, hb, thenQ, isB, tmpOf, asB, hw, hx, known1, PV.cells, splice, List.take_zero, List.cons_append, List.nil_append, List.drop_nil, List.append_nil, Heap.put_put, Meet, HTo_self, hasAll]
    · have hw : w % 4294967296 = iR w := by unfold iR; rw [if_neg hb]
      refine SW.run [] _ ?_
      simp only [wpC, mayStop, stops, isFlt, Specs.has, Specs.hasO, Bool.or_false, Bool.not_false, List.any_cons, List.any_nil, Bool.false_eq_true, ↓reduceIte, wpS, wantedA, okDst, Nat.reduceLT, decide_true, step1, isOwnCall, hxOp, px, pfieldAddr, fieldOf, ty25, fieldIn, List.getElem?_cons_succ, List.getElem?_cons_zero, ty3, Option.map_some, AS.eval, AS.get, Lift.look, Option.getD_some, ne_eq, Nat.succ_ne_zero, not_false_eq_true, Nat.zero_add, AS.put, dropKey, Nat.reduceEqDiff, reduceCtorEq, pload, Heap.get_put, okOne, TK.isAgg, beq_self_eq_true, Bool.or_true, Nat.reduceAdd, List.length_cons, List.length_nil, Nat.le_refl, and_self, Lift.valOf, List.drop_succ_cons, List.drop_zero, List.take_succ_cons, List.take_nil, List.getD_cons_zero, pbinP, ofConst, ofVal, pbinI, hb, decide_false, thenQ, isB, tmpOf, asB, Meet, hasAll, and_true, true_and]
      rw [hw]
      exact HTo.refl _ _
  by_cases hz : checkS (oW w) (aR w) (bR w) (cW w) (iR w) = 0
  · by_cases he : encRf (oW w) (aR w) (bR w) (cW w) (iR w) = w
    · have hi : isR w = true := by unfold isR; rw [decide_eq_true_eq]; exact ⟨hz, he⟩
      refine SW.run [eCheckR, eEncodeR] _ ?_
      simp only [wpC, mayStop, stops, isFlt, Specs.has, eCheckR, eEncodeR, Specs.hasO, Nat.reduceLeDiff, Nat.reduceSub, false_and, ↓reduceIte, Bool.or_false, List.any_cons, Bool.not_true, Nat.reduceEqDiff, List.any_nil, Bool.false_eq_true, wpS, wantedA, okDst, Nat.reduceLT, decide_true, step1, isOwnCall, hxOp, px, pload, ty25, AS.eval, AS.get, Lift.look, reduceCtorEq, Option.getD_some, Heap.get_put, okOne, TK.isAgg, Nat.reduceBEq, Nat.zero_add, List.length_cons, List.length_nil, Nat.reduceAdd, Nat.le_refl, and_self, Lift.valOf, List.drop_zero, List.take_succ_cons, List.take_nil, AS.put, dropKey, pcall, okArg, ofConst, ofVal, List.all_cons, List.all_nil, Bool.and_true, Specs.at, List.map_cons, List.map_nil, sCheckR, hz, pbinP, pbinI, bne_self_eq_false, List.getElem?_toArray, List.getElem?_cons_succ, List.getElem?_cons_zero, Option.bind_some, beq_self_eq_true, sEncodeR, he, Nat.succ_ne_zero, ppick_bool, thenQ, isB, tmpOf, asB, hx, hrq, known1, PV.cells, splice, List.take_zero, List.nil_append, List.drop_succ_cons, List.drop_nil, List.append_nil, RPost, sres, Tryd.results17, sresL, sres1, Option.some.injEq, Ret_fin, exists_eq_left', true_and]
      exact ⟨by unfold decR; rw [if_pos hi]; rfl, HTo.put3 _ _ _ hr hq hr⟩
    · have hi : ¬ isR w = true := by unfold isR; rw [decide_eq_true_eq]; exact fun h => he h.2
      have he' : (encRf (oW w) (aR w) (bR w) (cW w) (iR w) != w) = true := by simpa using he
      refine SW.run [eCheckR, eEncodeR] _ ?_
      simp only [wpC, mayStop, stops, isFlt, Specs.has, eCheckR, eEncodeR, Specs.hasO, Nat.reduceLeDiff, Nat.reduceSub, false_and, ↓reduceIte, Bool.or_false, List.any_cons, Bool.not_true, Nat.reduceEqDiff, List.any_nil, Bool.false_eq_true, wpS, wantedA, okDst, Nat.reduceLT, decide_true, step1, isOwnCall, hxOp, px, pload, ty25, AS.eval, AS.get, Lift.look, reduceCtorEq, Option.getD_some, Heap.get_put, okOne, TK.isAgg, Nat.reduceBEq, Nat.zero_add, List.length_cons, List.length_nil, Nat.reduceAdd, Nat.le_refl, and_self, Lift.valOf, List.drop_zero, List.take_succ_cons, List.take_nil, AS.put, dropKey, pcall, okArg, ofConst, ofVal, List.all_cons, List.all_nil, Bool.and_true, Specs.at, List.map_cons, List.map_nil, sCheckR, hz, pbinP, pbinI, bne_self_eq_false, List.getElem?_toArray, List.getElem?_cons_succ, List.getElem?_cons_zero, Option.bind_some, beq_self_eq_true, sEncodeR, Nat.succ_ne_zero, he', ppick_bool, thenQ, isB, tmpOf, asB, pbuild, pfill, ty3, Option.isSome_some, okZero, Value.oneCell', known, hx, hrq, known1, PV.cells, splice, List.take_zero, List.nil_append, List.drop_succ_cons, List.drop_nil, List.append_nil, RPost, sres, Tryd.results17, sresL, sres1, Option.some.injEq, Ret_fin, exists_eq_left', true_and]
      exact ⟨by unfold decR; rw [if_neg hi]; rfl, HTo.put3 _ _ _ hr hq hr⟩
  · have hi : ¬ isR w = true := by unfold isR; rw [decide_eq_true_eq]; exact fun h => hz h.1
    have hz' : (checkS (oW w) (aR w) (bR w) (cW w) (iR w) != 0) = true := by simpa using hz
    refine SW.run [eCheckR, eEncodeR] _ ?_
    simp only [wpC, mayStop, stops, isFlt, Specs.has, eCheckR, eEncodeR, Specs.hasO, Nat.reduceLeDiff, Nat.reduceSub, false_and, ↓reduceIte, Bool.or_false, List.any_cons, Bool.not_true, Nat.reduceEqDiff, List.any_nil, Bool.false_eq_true, wpS, wantedA, okDst, Nat.reduceLT, decide_true, step1, isOwnCall, hxOp, px, pload, ty25, AS.eval, AS.get, Lift.look, reduceCtorEq, Option.getD_some, Heap.get_put, okOne, TK.isAgg, Nat.reduceBEq, Nat.zero_add, List.length_cons, List.length_nil, Nat.reduceAdd, Nat.le_refl, and_self, Lift.valOf, List.drop_zero, List.take_succ_cons, List.take_nil, AS.put, dropKey, pcall, okArg, ofConst, ofVal, List.all_cons, List.all_nil, Bool.and_true, Specs.at, List.map_cons, List.map_nil, sCheckR, pbinP, pbinI, hz', List.getElem?_toArray, List.getElem?_cons_succ, List.getElem?_cons_zero, Option.bind_some, beq_tf, Option.some.injEq, ppick_true, thenQ, isB, tmpOf, asB, pbuild, pfill, ty3, Option.isSome_some, okZero, Value.oneCell', known, hx, hrq, known1, PV.cells, splice, List.take_zero, List.nil_append, List.drop_succ_cons, List.drop_nil, List.append_nil, RPost, sres, Tryd.results17, sresL, sres1, Ret_fin, exists_eq_left', true_and]
    exact ⟨by unfold decR; rw [if_neg hi]; rfl, HTo.put3 _ _ _ hr hq hr⟩
noncomputable def eDecodeR : SpecE env := ⟨17, sDecodeR, fun args h hc => by
  unfold sDecodeR at hc ⊢
  split at hc
  · rename_i w; exact .inl (DecodeR_ok w h hc.1 hc.2)
  · exact hc.elim⟩
end Go.Proofs.YthdmdeiaonkeoaaDoor
