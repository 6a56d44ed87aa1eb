/- Contracts of functions that the law reaches. -/
import Derived.Test.YthdmdeiaonkeoaaDoorT20
set_option linter.unusedSimpArgs false
set_option linter.unusedVariables false
namespace Go.Proofs.YthdmdeiaonkeoaaDoor
open Go Go.RowKit Go.Proofs.YthdmdeiaonkeoaaDoor Go.Proofs.YthdmdeiaonkeoaaDoor.Lift

/-! CpuDivides -/
theorem small_spec {code : List Int} {s : Mach} (h : smallS code s = true) : code.length ≤ 100 ∧ s.fr.length ≤ 50 ∧ s.da.length ≤ 50 ∧ s.st ≤ 500 := by
  unfold smallS at h
  simp only [Bool.and_eq_true, decide_eq_true_eq] at h
  exact ⟨h.1.1.1, h.1.1.2, h.1.2, h.2⟩
theorem with_eq (y : Mach) (v : Int) : (⟨y.pc, y.rg, y.fr, y.da, v⟩ : Mach) = y.with v := rfl
theorem ans_eta (x : Mach × Int × Int) : ansV x = .tuple [.agg (stV x.1), .int .i64 x.2.1, .int .i64 x.2.2] := rfl
set_option maxRecDepth 100000 in
set_option maxHeartbeats 4000000 in
theorem CpuDivides_ok (code : List Int) (s : Mach) (k : Int) (h : Heap) (hr : s.rg.length = 16) (k0 : 0 ≤ k) (k1 : k < 256) :
    SCalls env 6 [.list 1 (el64 code), .agg (stV s), .int .u8 k] h (Ret (.bool true) h) := by
  refine SCalls.body Tryd.func6 rfl rfl (by simp [Tryd.ntmps6]) ?_
  refine SW.seq (SW.run [] _ ?_)
  simp only [wpC, Bool.false_eq_true, ↓reduceIte, wpS, stops, wantedA, okDst, Tryd.ntmps6, Nat.reduceLT, decide_true, step1, known1, AS.eval, AS.get, enumA, Nat.zero_add, Nat.reduceAdd, Lift.look, reduceCtorEq, Option.getD_some, AS.put, dropKey, Nat.reduceEqDiff, isOwnCall, hxOp, px, ofConst, ofVal, thenQ, PV.cells, stV_len hr, true_and]
  intro r h0
  have hk : IntKind.i64.wrap k = k := w64 (by omega) (by omega)
  refine SW.seq (SW.run [eAwake] _ ?_)
  simp only [wpC, mayStop, stops, isFlt, Specs.has, eAwake, Specs.hasO, Nat.reduceLeDiff, Nat.reduceSub, false_and, ↓reduceIte, Bool.or_false, List.any_cons, Bool.not_true, List.any_nil, Bool.false_eq_true, wpS, reduceCtorEq, and_self, wantedA, okDst, Nat.reduceLT, decide_true, step1, isOwnCall, hxOp, px, pcall, okArg, AS.eval, AS.get, Lift.look, ofConst, ofVal, List.all_nil, Specs.at, List.map_nil, sAwake, AS.put, dropKey, Nat.reduceEqDiff, pun, Option.getD_some, thenQ, isB, tmpOf, asB, true_and]
  cases hs : smallS code s with
  | false =>
    refine SW.run [eSmall] _ ?_
    simp only [wpC, mayStop, stops, isFlt, Specs.has, eSmall, Specs.hasO, Nat.reduceLeDiff, Nat.reduceSub, false_and, ↓reduceIte, Bool.or_false, List.any_cons, Bool.not_true, List.any_nil, Bool.false_eq_true, wpS, wantedA, okDst, Nat.reduceLT, decide_true, step1, isOwnCall, hxOp, px, AS.eval, AS.get, Lift.look, Nat.succ_ne_zero, Option.getD_some, AS.put, dropKey, Nat.reduceEqDiff, reduceCtorEq, pload, ty45, Heap.get_put, okOne, TK.isAgg, Nat.reduceBEq, Nat.zero_add, stV_len hr, Nat.le_refl, and_self, Lift.valOf, List.drop_zero, stV_all hr, pcall, okArg, ofConst, ofVal, List.all_cons, List.all_nil, Bool.and_true, Specs.at, List.map_cons, List.map_nil, sSmall_st hr, hr, hs, pun, Bool.not_false, List.getElem?_toArray, List.getElem?_cons_succ, List.getElem?_cons_zero, Option.bind_some, beq_tf, Option.some.injEq, ppick_true, thenQ, isB, tmpOf, asB, RPost, sres, Tryd.results6, sresL, sres1, Ret_fin, exists_eq_left', true_and]
    exact HTo.put (.refl _ _) h0 _
  | true =>
  obtain ⟨c1, c2, c3, c4⟩ := small_spec hs
  by_cases hlt : s.st < k
  · refine SW.run [eSmall] _ ?_
    simp only [wpC, mayStop, stops, isFlt, Specs.has, eSmall, Specs.hasO, Nat.reduceLeDiff, Nat.reduceSub, false_and, ↓reduceIte, Bool.or_false, List.any_cons, Bool.not_true, List.any_nil, Bool.false_eq_true, wpS, wantedA, okDst, Nat.reduceLT, decide_true, step1, isOwnCall, hxOp, px, AS.eval, AS.get, Lift.look, Nat.succ_ne_zero, Option.getD_some, AS.put, dropKey, Nat.reduceEqDiff, reduceCtorEq, pload, ty45, Heap.get_put, okOne, TK.isAgg, Nat.reduceBEq, Nat.zero_add, stV_len hr, Nat.le_refl, and_self, Lift.valOf, List.drop_zero, stV_all hr, pcall, okArg, ofConst, ofVal, List.all_cons, List.all_nil, Bool.and_true, Specs.at, List.map_cons, List.map_nil, sSmall_st hr, hr, hs, pun, List.getElem?_toArray, List.getElem?_cons_succ, List.getElem?_cons_zero, Option.bind_some, beq_self_eq_true, pfieldAddr, fieldOf, fieldIn, ty3, Option.map_some, ne_eq, not_false_eq_true, Bool.or_true, Nat.reduceAdd, stV_st hr, List.getD_cons_zero, ty5, pconvH, pconv, hk, pbinP, pbinI, hlt, ppick_bool, thenQ, isB, tmpOf, asB, RPost, sres, Tryd.results6, sresL, sres1, Option.some.injEq, Ret_fin, exists_eq_left', true_and]
    exact HTo.put (.refl _ _) h0 _
  refine SW.seq (SW.run [eSmall] _ ?_)
  simp only [wpC, mayStop, stops, isFlt, Specs.has, eSmall, Specs.hasO, Nat.reduceLeDiff, Nat.reduceSub, false_and, ↓reduceIte, Bool.or_false, List.any_cons, Bool.not_true, List.any_nil, Bool.false_eq_true, wpS, wantedA, okDst, Nat.reduceLT, decide_true, step1, isOwnCall, hxOp, px, AS.eval, AS.get, Lift.look, Nat.succ_ne_zero, Option.getD_some, AS.put, dropKey, Nat.reduceEqDiff, reduceCtorEq, pload, ty45, Heap.get_put, okOne, TK.isAgg, Nat.reduceBEq, Nat.zero_add, stV_len hr, Nat.le_refl, and_self, Lift.valOf, List.drop_zero, stV_all hr, pcall, okArg, ofConst, ofVal, List.all_cons, List.all_nil, Bool.and_true, Specs.at, List.map_cons, List.map_nil, sSmall_st hr, hr, hs, pun, List.getElem?_toArray, List.getElem?_cons_succ, List.getElem?_cons_zero, Option.bind_some, beq_self_eq_true, pfieldAddr, fieldOf, fieldIn, ty3, Option.map_some, ne_eq, not_false_eq_true, Bool.or_true, Nat.reduceAdd, stV_st hr, List.getD_cons_zero, ty5, pconvH, pconv, hk, pbinP, pbinI, hlt, decide_false, ppick_bool, thenQ, isB, tmpOf, asB, true_and]
  have hst : s.st < 9223372036854775808 := by omega
  have hcl : code.length ≤ 1000000000 := by omega
  have hfit : s.fit := ⟨hr, hst, by omega, by omega⟩
  have hpfit : (s.with k).fit := ⟨hr, by show k < _; omega, by show s.fr.length ≤ _; omega, by show s.da.length ≤ _; omega⟩
  have kp1 := all_keep (code := code) (s := s) hr hst
  have kp2 := all_keep (code := code) (s := s.with k) hr hpfit.st
  have law := parts_law (code := code) (s := s) (k := k) hr hst k0 (by omega)
  have hpr : (s.with k).rg.length = 16 := hr
  rcases hX : runAll code s with ⟨x, hx, nx⟩
  rcases hY : runAll code (s.with k) with ⟨y, hy, ny⟩
  rw [hX] at kp1
  rw [hY] at kp2
  rw [hX, hY] at law
  dsimp only at kp1 kp2 law
  have xr : x.rg.length = 16 := kp1.rg
  have yr : y.rg.length = 16 := kp2.rg
  have y0 : 0 ≤ y.st := kp2.st0
  have y1 : y.st ≤ k := by have := kp2.st1; have e : (s.with k).begin.st = max 0 k := rfl; rw [e] at this; show y.st ≤ k; omega
  have hyw : ∀ v, (y.with v).rg.length = 16 := fun _ => yr
  have yfit : ∀ v, v < 9223372036854775808 → (y.with v).fit := fun v hv => ⟨yr, hv, by have := kp2.fr; show y.fr.length ≤ _; rw [this]; show s.fr.length ≤ _; omega, by have := kp2.da; show y.da.length ≤ _; rw [this]; show s.da.length ≤ _; omega⟩
  have hw1 : IntKind.i64.wrap (s.st - k) = s.st - k := w64 (by omega) (by omega)
  have hw2 : IntKind.i64.wrap (y.st + (s.st - k)) = y.st + (s.st - k) := w64 (by omega) (by omega)
  refine SW.seq (SW.run [eRun] _ ?_)
  simp only [wpC, Bool.false_eq_true, ↓reduceIte, wpS, stops, wantedA, okDst, Nat.reduceLT, decide_true, step1, isOwnCall, hxOp, px, AS.eval, AS.get, Lift.look, Nat.succ_ne_zero, Option.getD_some, AS.put, dropKey, Nat.reduceEqDiff, reduceCtorEq, pload, ty45, Heap.get_put, okOne, TK.isAgg, Nat.reduceBEq, Bool.or_false, Nat.zero_add, stV_len hr, Nat.le_refl, and_self, Lift.valOf, List.drop_zero, stV_all hr, Specs.has, eRun, Specs.hasO, Nat.reduceLeDiff, Nat.reduceSub, Bool.not_true, pcall, okArg, ofConst, ofVal, List.all_cons, List.all_nil, Bool.and_true, Specs.at, List.map_cons, List.map_nil, sRun_st hr, hfit, hcl, hX, ans_eta, List.getElem?_cons_zero, List.getElem?_cons_succ, okAlloc, okZero, Value.oneCell', some_none, Lift.hx, zeroOf, List.length_cons, List.length_nil, Nat.reduceAdd, known1, PV.cells, stV_len xr, splice, List.take_zero, List.nil_append, List.drop_succ_cons, List.drop_nil, List.append_nil, thenQ, true_and]
  rintro q ⟨hqr, h1⟩
  have hrq : ¬ r = q := fun e => hqr e.symm
  simp only [Heap.put_put]
  refine SW.seq (SW.run [] _ ?_)
  simp only [wpC, Bool.false_eq_true, ↓reduceIte, wpS, stops, wantedA, okDst, Nat.reduceLT, decide_true, step1, isOwnCall, hxOp, px, pload, ty45, AS.eval, AS.get, Lift.look, Nat.reduceEqDiff, Option.getD_some, Heap.get_put, hrq, okOne, TK.isAgg, Nat.reduceBEq, Bool.or_false, Nat.zero_add, stV_len hr, Nat.le_refl, and_self, Lift.valOf, List.drop_zero, stV_all hr, AS.put, dropKey, reduceCtorEq, okAlloc, okZero, List.all_cons, Value.oneCell', List.all_nil, Bool.and_true, some_none, Lift.hx, zeroOf, List.map_cons, ofVal, List.map_nil, List.length_cons, List.length_nil, Nat.reduceAdd, known1, PV.cells, splice, List.take_zero, List.nil_append, List.drop_succ_cons, List.drop_nil, List.append_nil, thenQ, true_and]
  rintro p ⟨hpq, hpr1, h2⟩
  have hrp : ¬ r = p := fun e => hpr1 e.symm
  have hqp : ¬ q = p := fun e => hpq e.symm
  simp only [Heap.put_put]
  refine SW.seq (SW.run [] _ ?_)
  simp only [wpC, Bool.false_eq_true, ↓reduceIte, wpS, stops, wantedA, okDst, Nat.reduceLT, decide_true, step1, isOwnCall, hxOp, px, AS.eval, AS.get, Lift.look, Nat.reduceEqDiff, reduceCtorEq, Option.getD_some, AS.put, dropKey, ty5, ty3, pconvH, pconv, hk, pfieldAddr, fieldOf, ty45, fieldIn, List.getElem?_cons_succ, List.getElem?_cons_zero, Option.map_some, ne_eq, Nat.succ_ne_zero, not_false_eq_true, Nat.zero_add, Lift.hx, Heap.get_put, known1, PV.cells, List.length_cons, List.length_nil, Nat.reduceAdd, stV_len hr, Nat.le_refl, and_self, splice, stV_setst hr, with_eq, stV_none hr, List.append_nil, thenQ, true_and]
  refine SW.seq (SW.run [eRun] _ ?_)
  simp only [wpC, Bool.false_eq_true, ↓reduceIte, wpS, stops, wantedA, okDst, Nat.reduceLT, decide_true, step1, isOwnCall, hxOp, px, AS.eval, AS.get, Lift.look, Nat.succ_ne_zero, Option.getD_some, AS.put, dropKey, Nat.reduceEqDiff, reduceCtorEq, Heap.put_put, pload, ty45, Heap.get_put, okOne, TK.isAgg, Nat.reduceBEq, Bool.or_false, Nat.zero_add, stV_len hpr, Nat.le_refl, and_self, Lift.valOf, List.drop_zero, stV_all hpr, Specs.has, eRun, Specs.hasO, Nat.reduceLeDiff, Nat.reduceSub, Bool.not_true, pcall, okArg, ofConst, ofVal, List.all_cons, List.all_nil, Bool.and_true, Specs.at, List.map_cons, List.map_nil, sRun_st hpr, hpfit, hcl, hY, ans_eta, List.getElem?_cons_zero, List.getElem?_cons_succ, okAlloc, okZero, Value.oneCell', some_none, Lift.hx, zeroOf, List.length_cons, List.length_nil, Nat.reduceAdd, known1, PV.cells, stV_len yr, splice, List.take_zero, List.nil_append, List.drop_succ_cons, List.drop_nil, List.append_nil, thenQ, true_and]
  rintro u ⟨hup, huq, hur, h3⟩
  have hru : ¬ r = u := fun e => hur e.symm
  have hqu : ¬ q = u := fun e => huq e.symm
  have hpu : ¬ p = u := fun e => hup e.symm
  rcases law with ⟨l1, l2⟩ | ⟨l1, l2, l3⟩
  · have hne : (hy != 5) = true := by simpa using l1
    injection l2 with l2 l4
    injection l4 with l4 l5
    subst l2; subst l4; subst l5
    refine SW.run [eEqualM] _ ?_
    have hyf := yfit (y.st + (s.st - k)) (by omega)
    have hz := hyw (y.st + (s.st - k))
    simp only [wpC, mayStop, stops, isFlt, Specs.has, eEqualM, Specs.hasO, Nat.reduceLeDiff, Nat.reduceSub, false_and, ↓reduceIte, Bool.or_false, List.any_cons, List.any_nil, ty3, Bool.not_true, Bool.false_eq_true, wpS, wantedA, okDst, Nat.reduceLT, decide_true, step1, isOwnCall, hxOp, px, AS.eval, AS.get, Lift.look, Nat.reduceEqDiff, Option.getD_some, AS.put, dropKey, reduceCtorEq, pbinP, ofConst, ofVal, pbinI, hne, thenQ, isB, tmpOf, asB, pfieldAddr, fieldOf, ty45, fieldIn, List.getElem?_cons_succ, List.getElem?_cons_zero, Option.map_some, ne_eq, Nat.succ_ne_zero, not_false_eq_true, Nat.zero_add, pload, Heap.get_put, okOne, TK.isAgg, beq_self_eq_true, Bool.or_true, Nat.reduceAdd, stV_len yr, Nat.le_refl, and_self, Lift.valOf, stV_st yr, List.getD_cons_zero, hru, hrp, hrq, stV_len hr, stV_st hr, ty5, pconvH, pconv, hk, hw1, hw2, Lift.hx, known1, PV.cells, List.length_cons, List.length_nil, splice, stV_setst yr, with_eq, stV_none yr, List.append_nil, hqu, hqp, Nat.reduceBEq, stV_len hz, List.drop_zero, stV_all hz, pcall, okArg, List.all_cons, List.all_nil, Bool.and_true, Specs.at, List.map_cons, List.map_nil, sEqualM_st hz hz, hyf, List.getElem?_toArray, Option.bind_some, ppick_bool, RPost, sres, Tryd.results6, sresL, sres1, Option.some.injEq, Ret_fin, exists_eq_left', true_and]
    exact HSub.to (hdrop (hdrop (hdrop (hdrop (hdrop (hself _) h0) h1) h2) h3) h3)
  · subst l1
    have hyf := yfit (s.st - k) (by omega)
    have hz := hyw (s.st - k)
    have hZ := l3.symm
    have xfit : x.fit := ⟨xr, by have := kp1.st1; have e : s.begin.st = max 0 s.st := rfl; omega, by have := kp1.fr; have e : s.begin.fr = s.fr := rfl; rw [this, e]; omega, by have := kp1.da; have e : s.begin.da = s.da := rfl; rw [this, e]; omega⟩
    refine SW.run [eRun, eEqualM] _ ?_
    simp only [wpC, mayStop, stops, isFlt, Specs.has, eRun, eEqualM, Specs.hasO, Nat.reduceLeDiff, Nat.reduceSub, false_and, ↓reduceIte, Bool.or_false, List.any_cons, List.any_nil, ty3, Nat.reduceEqDiff, Bool.not_true, Bool.false_eq_true, wpS, wantedA, okDst, Nat.reduceLT, decide_true, step1, isOwnCall, hxOp, px, AS.eval, AS.get, Lift.look, Option.getD_some, AS.put, dropKey, reduceCtorEq, pbinP, ofConst, ofVal, pbinI, Int.reduceBNe, thenQ, isB, tmpOf, asB, pfieldAddr, fieldOf, ty45, fieldIn, List.getElem?_cons_succ, List.getElem?_cons_zero, Option.map_some, ne_eq, Nat.succ_ne_zero, not_false_eq_true, Nat.zero_add, pload, Heap.get_put, okOne, TK.isAgg, beq_self_eq_true, Bool.or_true, Nat.reduceAdd, stV_len yr, Nat.le_refl, and_self, Lift.valOf, stV_st yr, l2, List.getD_cons_zero, hru, hrp, hrq, stV_len hr, stV_st hr, ty5, pconvH, pconv, hk, hw1, Lift.hx, known1, PV.cells, List.length_cons, List.length_nil, splice, stV_setst yr, with_eq, stV_none yr, List.append_nil, Nat.reduceBEq, stV_len hz, List.drop_zero, stV_all hz, pcall, okArg, List.all_cons, List.all_nil, Bool.and_true, Specs.at, List.map_cons, List.map_nil, sRun_st hz, hyf, hcl, hZ, ans_eta, stV_len xr, List.take_zero, List.nil_append, stV_none hz, hqu, hqp, stV_all xr, sEqualM_st xr xr, xfit, List.getElem?_toArray, Option.bind_some, ppick_bool, RPost, sres, Tryd.results6, sresL, sres1, Option.some.injEq, Ret_fin, exists_eq_left', true_and]
    exact HSub.to (hdrop (hdrop (hdrop (hdrop (hdrop (hdrop (hself _) h0) h1) h2) h3) h3) h3)
end Go.Proofs.YthdmdeiaonkeoaaDoor
