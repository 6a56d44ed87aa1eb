/- Contracts of functions that the law reaches. -/
import Derived.Test.YthdmdeiaonkeoaaDoorT10
set_option linter.unusedSimpArgs false
set_option linter.unusedVariables false
namespace Go.Proofs.YthdmdeiaonkeoaaDoor
open Go Go.RowKit Go.Proofs.YthdmdeiaonkeoaaDoor Go.Proofs.YthdmdeiaonkeoaaDoor.Lift

/-! slices.Equal of numbers -/
theorem el64_at (ns : List Int) {k : Nat} (h : k < ns.length) : (el64 ns).getD k [] = [.int .i64 (ns.getD k 0)] := by
  simp [el64, List.getD_eq_getElem?_getD, List.getElem?_eq_getElem h]
theorem take_more {α : Type} [Inhabited α] (d : α) {xs : List α} {k : Nat} (h : k < xs.length) : xs.take (k + 1) = xs.take k ++ [xs.getD k d] := by
  rw [List.take_add_one, List.getElem?_eq_getElem h, List.getD_eq_getElem?_getD, List.getElem?_eq_getElem h]; rfl
theorem Equal_ok (xs ys : List Int) (h : Heap) (hx : xs.length ≤ 1000000000) (hy : ys.length ≤ 1000000000) : SCalls env 24 [.list 1 (el64 xs), .list 1 (el64 ys)] h (Ret (.bool (decide (xs = ys))) h) := by
  refine SCalls.body Tryd.func24 rfl rfl (by simp [Tryd.ntmps24]) ?_
  refine SW.seq (SW.run [] _ ?_)
  simp only [wpC, Bool.false_eq_true, ↓reduceIte, wpS, stops, wantedA, okDst, Tryd.ntmps24, Nat.reduceLT, decide_true, step1, isOwnCall, hxOp, px, AS.eval, ofConst, ofVal, thenQ, AS.put, enumA, Nat.zero_add, dropKey, reduceCtorEq, Nat.reduceEqDiff, true_and]
  by_cases hl : xs.length = ys.length
  rotate_left
  · have hb : (((el64 xs).length : Int) != ((el64 ys).length : Int)) = true := by
      rw [bne_iff_ne, el64_len, el64_len]; omega
    have hne : decide (xs = ys) = false := by
      rw [decide_eq_false_iff_not]; intro e; exact hl (by rw [e])
    refine SW.run [] _ ?_
    simp only [wpC, mayStop, stops, isFlt, Specs.has, Specs.hasO, Bool.or_false, Bool.not_false, List.any_cons, List.any_nil, Bool.false_eq_true, ↓reduceIte, wpS, wantedA, okDst, Nat.reduceLT, decide_true, step1, isOwnCall, hxOp, px, AS.eval, AS.get, Lift.look, Nat.succ_ne_zero, Option.getD_some, AS.put, dropKey, Nat.reduceEqDiff, reduceCtorEq, pcall, ty43, plen, okLen, and_self, pbinP, pbinI, hb, thenQ, isB, tmpOf, asB, ofConst, ofVal, RPost, sres, Tryd.results24, sresL, sres1, Option.some.injEq, hne, Ret_fin, HTo_self, and_true, exists_eq_left']
  have hb : (((el64 xs).length : Int) != ((el64 ys).length : Int)) = false := by
    rw [el64_len, el64_len, hl]; simp
  refine SW.seq (SW.run [] _ ?_)
  simp only [wpC, mayStop, stops, isFlt, Specs.has, Specs.hasO, Bool.or_false, Bool.not_false, List.any_cons, List.any_nil, Bool.false_eq_true, ↓reduceIte, wpS, wantedA, okDst, Nat.reduceLT, decide_true, step1, isOwnCall, hxOp, px, AS.eval, AS.get, Lift.look, Nat.succ_ne_zero, Option.getD_some, AS.put, dropKey, Nat.reduceEqDiff, reduceCtorEq, pcall, ty43, plen, okLen, and_self, pbinP, pbinI, hb, thenQ, isB, tmpOf, asB, true_and]
  refine SW.seq (SW.run [] _ ?_)
  simp only [wpC, mayStop, stops, isFlt, Specs.has, Specs.hasO, Bool.or_false, Bool.not_false, List.any_cons, List.any_nil, Bool.false_eq_true, ↓reduceIte, wpS, wantedA, okDst, Nat.reduceLT, decide_true, step1, isOwnCall, hxOp, px, AS.eval, AS.get, Lift.look, Nat.succ_ne_zero, Option.getD_some, AS.put, dropKey, Nat.reduceEqDiff, reduceCtorEq, pcall, ty43, plen, okLen, and_self, ofConst, ofVal, thenQ, true_and]
  refine (SW.loopK 26 (fun k : Nat => [(0, .list 1 (el64 xs)), (1, .list 1 (el64 ys)), (12, .int .i64 (xs.length : Nat)), (13, .int .i64 (k : Nat))]) (fun _ => h) (fun k => k ≤ xs.length ∧ xs.take k = ys.take k) (fun k => xs.length - k) 0 ⟨Nat.zero_le _, rfl⟩ ?_ ?_)
  · simp only [Has, hasAll, AS.get, Lift.look, Nat.succ_ne_zero, ↓reduceIte, Option.getD_some, Nat.reduceEqDiff, reduceCtorEq, el64_len, Int.cast_ofNat_Int, and_self]
  rintro k ⟨hk, ht⟩
  by_cases he : k < xs.length
  rotate_left
  · have hlt : decide ((k : Int) < (xs.length : Int)) = false := by rw [decide_eq_false_iff_not]; omega
    have hkk : k = xs.length := by omega
    subst hkk
    have hxy : decide (xs = ys) = true := by
      rw [decide_eq_true_iff]
      rw [List.take_length, hl, List.take_length] at ht
      exact ht
    refine SW.run [] _ ?_
    simp only [wpC, mayStop, stops, isFlt, Specs.has, Specs.hasO, Bool.or_false, Bool.not_false, List.any_cons, List.any_nil, Bool.false_eq_true, ↓reduceIte, wpS, wantedA, okDst, Nat.reduceLT, decide_true, step1, isOwnCall, hxOp, px, pbinP, AS.eval, AS.get, Lift.look, reduceCtorEq, Nat.reduceEqDiff, Option.getD_some, pbinI, hlt, thenQ, isB, AS.put, dropKey, tmpOf, asB, inQ, Tryd.results24, hxy, true_and]
    refine SW.run [] _ ?_
    simp only [wpC, mayStop, stops, isFlt, Specs.has, Specs.hasO, Bool.or_false, Bool.not_false, List.any_cons, List.any_nil, Bool.false_eq_true, ↓reduceIte, wpS, wantedA, okDst, Nat.reduceLT, decide_true, step1, isOwnCall, hxOp, px, AS.eval, ofConst, ofVal, thenQ, RPost, sres, sresL, sres1, AS.get, AS.put, dropKey, Nat.reduceEqDiff, reduceCtorEq, Lift.look, Option.getD_some, Option.some.injEq, Ret_fin, HTo_self, and_true, exists_eq_left', and_self]
  · have hlt : decide ((k : Int) < (xs.length : Int)) = true := by rw [decide_eq_true_iff]; omega
    have hky : k < ys.length := by omega
    have hk0 : (0 : Int) ≤ (k : Int) := by omega
    have hkc : ((k : Int)).toNat = k := rfl
    have hxs := take_more 0 he
    have hys := take_more 0 hky
    refine SW.seq (SW.run [] _ ?_)
    simp only [wpC, Bool.false_eq_true, ↓reduceIte, wpS, stops, wantedA, okDst, Nat.reduceLT, decide_true, step1, isOwnCall, hxOp, px, pbinP, AS.eval, AS.get, Lift.look, reduceCtorEq, Nat.reduceEqDiff, Option.getD_some, pbinI, hlt, thenQ, Has, hasAll, and_true, AS.put, dropKey, true_and]
    refine SW.seq (SW.run [] _ ?_)
    simp only [wpC, isB, AS.get, Lift.look, tmpOf, ↓reduceIte, Option.getD_some, asB, thenQ, true_and]
    refine SW.seq (SW.block ?_)
    refine SW.seq (SW.run [] _ ?_)
    simp only [wpC, Bool.false_eq_true, ↓reduceIte, wpS, stops, wantedA, okDst, Nat.reduceLT, decide_true, step1, isOwnCall, hxOp, px, AS.eval, AS.get, Lift.look, Nat.reduceEqDiff, reduceCtorEq, Option.getD_some, AS.put, dropKey, thenQ, true_and]
    refine SW.seq (SW.regionAny [] [[0, 1, 2, 3, 4, 5, 6, 7, 8]] rfl (by rfl) (by kernel_rfl) ?_)
    by_cases hq : xs.getD k 0 = ys.getD k 0
    · have hqb : (xs.getD k 0 != ys.getD k 0) = false := by simpa using hq
      simp only [wpOL, wpO, LOp, List.getElem?_toArray, List.getElem?_cons_zero, okDst, Nat.reduceLT, decide_true, wantedA, ↓reduceIte, step1, isOwnCall, Bool.false_eq_true, hxOp, px, AS.eval, AS.get, Lift.look, Nat.succ_ne_zero, Option.getD_some, List.getElem?_cons_succ, AS.put, dropKey, Nat.reduceEqDiff, reduceCtorEq, pindexAddr, ty43, ty2, ne_eq, not_false_eq_true, hk0, hkc, el64_len, he, and_self, el64_at _ he, pload, okOne, TK.isAgg, beq_self_eq_true, Bool.or_true, List.length_cons, List.length_nil, Nat.zero_add, Nat.le_refl, Lift.valOf, List.take_succ_cons, List.take_nil, List.getD_cons_zero, hky, el64_at _ hky, pbinP, pbinI, hqb, thenQ, true_and]
      refine SW.run [] _ ?_
      simp only [wpC, isB, AS.get, Lift.look, tmpOf, ↓reduceIte, Option.getD_some, asB, Bool.false_eq_true, inQ, thenQ, true_and]
      refine SW.run [] _ ?_
      simp only [wpC, Bool.false_eq_true, ↓reduceIte, wpS, stops, isFlt, ty3, wantedA, okDst, Nat.reduceLT, decide_true, step1, isOwnCall, hxOp, px, pbinP, AS.eval, AS.get, Lift.look, Nat.reduceEqDiff, reduceCtorEq, Option.getD_some, ofConst, ofVal, pbinI, AS.put, dropKey, thenQ, Nat.succ_ne_zero, true_and]
      exact ⟨k + 1, ⟨by omega, by rw [hxs, hys, ht, hq]⟩, by omega, by rw [w64 (by omega) (by omega)]; rfl⟩
    · have hqb : (xs.getD k 0 != ys.getD k 0) = true := by simpa using hq
      have hne : decide (xs = ys) = false := by
        rw [decide_eq_false_iff_not]; intro e; exact hq (by rw [e])
      simp only [wpOL, wpO, LOp, List.getElem?_toArray, List.getElem?_cons_zero, okDst, Nat.reduceLT, decide_true, wantedA, ↓reduceIte, step1, isOwnCall, Bool.false_eq_true, hxOp, px, AS.eval, AS.get, Lift.look, Nat.succ_ne_zero, Option.getD_some, List.getElem?_cons_succ, AS.put, dropKey, Nat.reduceEqDiff, reduceCtorEq, pindexAddr, ty43, ty2, ne_eq, not_false_eq_true, hk0, hkc, el64_len, he, and_self, el64_at _ he, pload, okOne, TK.isAgg, beq_self_eq_true, Bool.or_true, List.length_cons, List.length_nil, Nat.zero_add, Nat.le_refl, Lift.valOf, List.take_succ_cons, List.take_nil, List.getD_cons_zero, hky, el64_at _ hky, pbinP, pbinI, hqb, thenQ, true_and]
      refine SW.run [] _ ?_
      simp only [wpC, isB, AS.get, Lift.look, tmpOf, ↓reduceIte, Option.getD_some, asB, mayStop, stops, isFlt, Specs.has, Specs.hasO, Bool.or_false, Bool.not_false, List.any_cons, List.any_nil, Bool.false_eq_true, wpS, wantedA, okDst, Nat.reduceLT, decide_true, step1, isOwnCall, hxOp, px, AS.eval, ofConst, ofVal, thenQ, inQ, RPost, sres, AS.put, dropKey, Nat.reduceEqDiff, reduceCtorEq, Tryd.results24, sresL, sres1, Option.some.injEq, hne, Ret_fin, HTo_self, and_true, exists_eq_left', and_self]
def sEqual : List PV → Prop × PV
  | [.list 1 xs, .list 1 ys] => match un64 xs, un64 ys with
    | some ns, some ms => (ns.length ≤ 1000000000 ∧ ms.length ≤ 1000000000, .bool (decide (ns = ms)))
    | _, _ => PBad
  | _ => PBad
noncomputable def eEqual : SpecE env := ⟨24, sEqual, fun args h hc => by
  unfold sEqual at hc ⊢
  split at hc
  · split at hc
    · rename_i ns ms hns hms
      rw [un64_spec hns, un64_spec hms]
      exact .inl (Equal_ok ns ms h hc.1 hc.2)
    · exact hc.elim
  · exact hc.elim⟩
end Go.Proofs.YthdmdeiaonkeoaaDoor
