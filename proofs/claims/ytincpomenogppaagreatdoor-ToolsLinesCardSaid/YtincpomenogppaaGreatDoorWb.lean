/- Contracts of functions that the law reaches. -/
import Derived.Test.YtincpomenogppaaGreatDoorWa
set_option linter.unusedSimpArgs false
set_option linter.unusedVariables false
namespace Go.Proofs.YtincpomenogppaaGreatDoor
open Go Go.RowKit Go.Proofs.YtincpomenogppaaGreatDoor Go.Proofs.YtincpomenogppaaGreatDoor.Lift
set_option maxRecDepth 100000

def edEq (x y : Ed) : Bool := x.a == y.a && (x.b == y.b && (x.del == y.del && x.ins == y.ins))
theorem edEq_iff (x y : Ed) : edEq x y = decide (x = y) := by
  unfold edEq
  cases x; cases y
  rw [Bool.eq_iff_iff]
  simp
def Ed.small (e : Ed) : Prop := e.del.length ≤ 1000000 ∧ e.ins.length ≤ 1000000
set_option maxHeartbeats 2000000 in
theorem EqEd_ok (x y : Ed) (hx : x.small) (h : Heap) : SCalls env 67 [.agg (edV x), .agg (edV y)] h (Ret (.bool (edEq x y)) h) := by
  refine SCalls.body Tryz.func67 rfl rfl (by simp [Tryz.ntmps67]) ?_
  obtain ⟨hd, hi⟩ := hx
  have hd : x.del.length ≤ 1000000000 := by omega
  have hi : x.ins.length ≤ 1000000000 := by omega
  refine SW.seq (SW.run [] _ ?_)
  simp only [wpC, Bool.false_eq_true, ↓reduceIte, wpS, stops, wantedA, okDst, Tryz.ntmps67, Nat.reduceLT, decide_true, step1, known1, AS.eval, AS.get, enumA, edV, Nat.zero_add, Lift.look, Option.getD_some, AS.put, dropKey, reduceCtorEq, Nat.reduceEqDiff, PV.cells, List.length_cons, List.length_nil, Nat.reduceAdd, Heap.get_put, some_none, isOwnCall, hxOp, px, ofConst, ofVal, thenQ, true_and]
  intro a hna b hnb
  have n1 : ¬ a = b := fun e => hnb.1 e.symm
  have n2 := hnb.1
  have i2 : Lift.Inc h ((h.put a (.cells 79 4 [.int .i64 x.a, .int .i64 x.b, .list 1 (strL x.del), .list 1 (strL x.ins)])).put b (.cells 79 4 [.int .i64 y.a, .int .i64 y.b, .list 1 (strL y.del), .list 1 (strL y.ins)])) := Inc.over (Inc.over (incSelf h) hna _) hnb.2 _
  refine SW.run [eEqualL] _ ?_
  cases e1 : (x.a == y.a)
  · simp only [wpC, mayStop, stops, isFlt, Specs.has, eEqualL, Specs.hasO, Bool.or_false, Specs.hasH, List.any_cons, ↓reduceIte, Bool.not_true, List.any_nil, Bool.false_eq_true, wpS, wantedA, okDst, Nat.reduceLT, decide_true, step1, isOwnCall, hxOp, px, pfieldAddr, fieldOf, ty79, fieldIn, List.getElem?_cons_zero, ty3, Option.map_some, AS.eval, AS.get, Lift.look, Nat.reduceEqDiff, Option.getD_some, ne_eq, Nat.succ_ne_zero, not_false_eq_true, Nat.add_zero, AS.put, dropKey, reduceCtorEq, pload, Heap.get_put, n1, okOne, TK.isAgg, beq_self_eq_true, Bool.or_true, Nat.zero_add, List.length_cons, List.length_nil, Nat.reduceAdd, Nat.reduceLeDiff, and_self, Lift.valOf, List.drop_zero, List.take_succ_cons, List.take_zero, List.getD_cons_zero, isNilC, pbinP, pbinI, e1, List.getElem?_toArray, List.getElem?_cons_succ, Option.bind_some, beq_ft, Option.some.injEq, ofConst, ofVal, ppick_false, thenQ, RPost, sres, Tryz.results67, sresL, sres1, edEq, Bool.false_and, Ret_fin, exists_eq_left', true_and]
    exact Inc.to i2
  cases e2 : (x.b == y.b)
  · simp only [wpC, mayStop, stops, isFlt, Specs.has, eEqualL, Specs.hasO, Bool.or_false, Specs.hasH, List.any_cons, ↓reduceIte, Bool.not_true, List.any_nil, Bool.false_eq_true, wpS, wantedA, okDst, Nat.reduceLT, decide_true, step1, isOwnCall, hxOp, px, pfieldAddr, fieldOf, ty79, fieldIn, List.getElem?_cons_zero, ty3, Option.map_some, AS.eval, AS.get, Lift.look, Nat.reduceEqDiff, Option.getD_some, ne_eq, Nat.succ_ne_zero, not_false_eq_true, Nat.add_zero, AS.put, dropKey, reduceCtorEq, pload, Heap.get_put, n1, okOne, TK.isAgg, beq_self_eq_true, Bool.or_true, Nat.zero_add, List.length_cons, List.length_nil, Nat.reduceAdd, Nat.reduceLeDiff, and_self, Lift.valOf, List.drop_zero, List.take_succ_cons, List.take_zero, List.getD_cons_zero, isNilC, pbinP, pbinI, e1, List.getElem?_toArray, List.getElem?_cons_succ, Option.bind_some, List.drop_succ_cons, e2, ofConst, ofVal, ppick_bool, beq_ft, Option.some.injEq, ppick_false, thenQ, RPost, sres, Tryz.results67, sresL, sres1, edEq, Bool.false_and, Bool.and_false, Ret_fin, exists_eq_left', true_and]
    exact Inc.to i2
  cases e3 : (x.del == y.del)
  · simp only [wpC, mayStop, stops, isFlt, Specs.has, eEqualL, Specs.hasO, Bool.or_false, Specs.hasH, List.any_cons, ↓reduceIte, Bool.not_true, List.any_nil, Bool.false_eq_true, wpS, wantedA, okDst, Nat.reduceLT, decide_true, step1, isOwnCall, hxOp, px, pfieldAddr, fieldOf, ty79, fieldIn, List.getElem?_cons_zero, ty3, Option.map_some, AS.eval, AS.get, Lift.look, Nat.reduceEqDiff, Option.getD_some, ne_eq, Nat.succ_ne_zero, not_false_eq_true, Nat.add_zero, AS.put, dropKey, reduceCtorEq, pload, Heap.get_put, n1, okOne, TK.isAgg, beq_self_eq_true, Bool.or_true, Nat.zero_add, List.length_cons, List.length_nil, Nat.reduceAdd, Nat.reduceLeDiff, and_self, Lift.valOf, List.drop_zero, List.take_succ_cons, List.take_zero, List.getD_cons_zero, isNilC, pbinP, pbinI, e1, List.getElem?_toArray, List.getElem?_cons_succ, Option.bind_some, List.drop_succ_cons, e2, ofConst, ofVal, ppick_bool, ty43, pcall, okArg, List.all_cons, List.all_nil, Bool.and_true, Specs.at, List.map_cons, List.map_nil, sEqualL, unS_el, hd, e3, beq_ft, Option.some.injEq, ppick_false, thenQ, RPost, sres, Tryz.results67, sresL, sres1, edEq, Bool.false_and, Bool.and_false, Ret_fin, exists_eq_left', true_and]
    exact Inc.to i2
  cases e4 : (x.ins == y.ins)
  · simp only [wpC, mayStop, stops, isFlt, Specs.has, eEqualL, Specs.hasO, Bool.or_false, Specs.hasH, List.any_cons, ↓reduceIte, Bool.not_true, List.any_nil, Bool.false_eq_true, wpS, wantedA, okDst, Nat.reduceLT, decide_true, step1, isOwnCall, hxOp, px, pfieldAddr, fieldOf, ty79, fieldIn, List.getElem?_cons_zero, ty3, Option.map_some, AS.eval, AS.get, Lift.look, Nat.reduceEqDiff, Option.getD_some, ne_eq, Nat.succ_ne_zero, not_false_eq_true, Nat.add_zero, AS.put, dropKey, reduceCtorEq, pload, Heap.get_put, n1, okOne, TK.isAgg, beq_self_eq_true, Bool.or_true, Nat.zero_add, List.length_cons, List.length_nil, Nat.reduceAdd, Nat.reduceLeDiff, and_self, Lift.valOf, List.drop_zero, List.take_succ_cons, List.take_zero, List.getD_cons_zero, isNilC, pbinP, pbinI, e1, List.getElem?_toArray, List.getElem?_cons_succ, Option.bind_some, List.drop_succ_cons, e2, ofConst, ofVal, ppick_bool, ty43, pcall, okArg, List.all_cons, List.all_nil, Bool.and_true, Specs.at, List.map_cons, List.map_nil, sEqualL, unS_el, hd, e3, Nat.le_refl, List.take_nil, hi, e4, thenQ, RPost, sres, Tryz.results67, sresL, sres1, Option.some.injEq, edEq, Bool.and_false, Ret_fin, exists_eq_left', true_and]
    exact Inc.to i2
  · simp only [wpC, mayStop, stops, isFlt, Specs.has, eEqualL, Specs.hasO, Bool.or_false, Specs.hasH, List.any_cons, ↓reduceIte, Bool.not_true, List.any_nil, Bool.false_eq_true, wpS, wantedA, okDst, Nat.reduceLT, decide_true, step1, isOwnCall, hxOp, px, pfieldAddr, fieldOf, ty79, fieldIn, List.getElem?_cons_zero, ty3, Option.map_some, AS.eval, AS.get, Lift.look, Nat.reduceEqDiff, Option.getD_some, ne_eq, Nat.succ_ne_zero, not_false_eq_true, Nat.add_zero, AS.put, dropKey, reduceCtorEq, pload, Heap.get_put, n1, okOne, TK.isAgg, beq_self_eq_true, Bool.or_true, Nat.zero_add, List.length_cons, List.length_nil, Nat.reduceAdd, Nat.reduceLeDiff, and_self, Lift.valOf, List.drop_zero, List.take_succ_cons, List.take_zero, List.getD_cons_zero, isNilC, pbinP, pbinI, e1, List.getElem?_toArray, List.getElem?_cons_succ, Option.bind_some, List.drop_succ_cons, e2, ofConst, ofVal, ppick_bool, ty43, pcall, okArg, List.all_cons, List.all_nil, Bool.and_true, Specs.at, List.map_cons, List.map_nil, sEqualL, unS_el, hd, e3, Nat.le_refl, List.take_nil, hi, e4, thenQ, RPost, sres, Tryz.results67, sresL, sres1, Option.some.injEq, edEq, Ret_fin, exists_eq_left', true_and]
    exact Inc.to i2
def eqEds (es fs : List Ed) : Bool := decide (es = fs)
set_option maxHeartbeats 4000000 in
theorem EqFunc_ok (es fs : List Ed) (hs : ∀ e ∈ es, e.small) (hl : es.length ≤ 1000000) (h : Heap) : SCalls env 66 [.list 4 (edL es), .list 4 (edL fs), .val (.func (.func 67) #[] #[])] h (Ret (.bool (eqEds es fs)) h) := by
  refine SCalls.body Tryz.func66 rfl rfl (by simp [Tryz.ntmps66]) ?_
  refine SW.seq (SW.run [] _ ?_)
  simp only [wpC, Bool.false_eq_true, ↓reduceIte, wpS, stops, wantedA, okDst, Tryz.ntmps66, Nat.reduceLT, decide_true, step1, isOwnCall, hxOp, px, AS.eval, ofConst, ofVal, thenQ, AS.put, enumA, Nat.zero_add, Nat.reduceAdd, dropKey, reduceCtorEq, Nat.reduceEqDiff, true_and]
  refine SW.seq (SW.run [] _ ?_)
  by_cases hlen : es.length = fs.length
  case neg =>
    have hne : eqEds es fs = false := by unfold eqEds; rw [decide_eq_false_iff_not]; rintro rfl; exact hlen rfl
    have h2 : (((es.length : Nat) : Int) != ((fs.length : Nat) : Int)) = true := by simp; omega
    simp only [wpC, mayStop, stops, isFlt, Specs.has, Specs.hasO, Bool.or_false, Specs.hasH, Bool.not_false, List.any_cons, List.any_nil, Bool.false_eq_true, ↓reduceIte, wpS, wantedA, okDst, Nat.reduceLT, decide_true, step1, isOwnCall, hxOp, px, AS.eval, AS.get, Lift.look, Nat.succ_ne_zero, Option.getD_some, AS.put, dropKey, Nat.reduceEqDiff, reduceCtorEq, pcall, ty28, plen, edL_len, okLen, and_self, isNilC, pbinP, pbinI, h2, thenQ, isB, tmpOf, asB, ofConst, ofVal, RPost, sres, Tryz.results66, sresL, sres1, Option.some.injEq, hne, Ret_fin, HTo_self, and_true, exists_eq_left']
  have h2 : (((es.length : Nat) : Int) != ((fs.length : Nat) : Int)) = false := by simp; omega
  simp only [wpC, mayStop, stops, isFlt, Specs.has, Specs.hasO, Bool.or_false, Specs.hasH, Bool.not_false, List.any_cons, List.any_nil, Bool.false_eq_true, ↓reduceIte, wpS, wantedA, okDst, Nat.reduceLT, decide_true, step1, isOwnCall, hxOp, px, AS.eval, AS.get, Lift.look, Nat.succ_ne_zero, Option.getD_some, AS.put, dropKey, Nat.reduceEqDiff, reduceCtorEq, pcall, ty28, plen, edL_len, okLen, and_self, isNilC, pbinP, pbinI, h2, thenQ, isB, tmpOf, asB, true_and]
  refine SW.seq (SW.seq (SW.run [] _ ?_))
  simp only [wpC, Bool.false_eq_true, ↓reduceIte, wpS, stops, wantedA, okDst, Nat.reduceLT, decide_true, step1, isOwnCall, hxOp, px, AS.eval, AS.get, Lift.look, Nat.succ_ne_zero, Option.getD_some, AS.put, dropKey, Nat.reduceEqDiff, reduceCtorEq, pcall, ty28, plen, edL_len, okLen, and_self, ofConst, ofVal, thenQ, true_and]
  refine SW.block (SW.loop (fun bb st => ∃ i : Nat, i ≤ es.length ∧ es.length - i = bb ∧ es.take i = fs.take i ∧ Lift.Inc h st.h ∧ st.n = 32 ∧ hasAll st [(1, .list 4 (edL fs)), (2, .val (.func (.func 67) #[] #[])), (15, .list 4 (edL es)), (16, .int .i64 (es.length : Nat)), (17, .int .i64 (i : Nat))]) es.length ⟨0, Nat.zero_le _, rfl, rfl, incSelf h, rfl, ?_⟩ ?_)
  · simp only [hasAll, AS.get, Lift.look, Nat.reduceEqDiff, ↓reduceIte, reduceCtorEq, Option.getD_some, Int.cast_ofNat_Int, and_self]
  rintro bb st ⟨i, hi, hbb, htk, inc, hn, hs'⟩
  refine SW.norm ⟨hn, rfl, hs'⟩ ?_
  generalize st.h = H at inc
  clear hn hs'
  refine SW.seq (SW.run [] _ ?_)
  by_cases hlt : i < es.length
  · have hw : IntKind.i64.wrap ((i : Int) + 1) = ((i + 1 : Nat) : Int) := by rw [w64 (by omega) (by omega)]; rfl
    have hlb : i < fs.length := by omega
    have hg := edL_at hlt
    have hgb := edL_at hlb
    simp only [wpC, Bool.false_eq_true, ↓reduceIte, wpS, stops, wantedA, okDst, Nat.reduceLT, decide_true, step1, isOwnCall, hxOp, px, isNilC, pbinP, AS.eval, AS.get, Lift.look, Nat.reduceEqDiff, Option.getD_some, pbinI, Int.ofNat_lt, hlt, thenQ, hasAll, and_true, AS.put, dropKey, true_and]
    refine SW.seq (SW.run [] _ ?_)
    simp only [wpC, isB, AS.get, Lift.look, tmpOf, ↓reduceIte, Option.getD_some, asB, thenQ, true_and]
    refine SW.seq (SW.block (SW.seq (SW.run [] _ ?_)))
    simp only [wpC, Bool.false_eq_true, ↓reduceIte, wpS, stops, wantedA, okDst, Nat.reduceLT, decide_true, step1, isOwnCall, hxOp, px, AS.eval, AS.get, Lift.look, Nat.reduceEqDiff, Option.getD_some, AS.put, dropKey, pindexAddr, ty28, ty79, ne_eq, Nat.succ_ne_zero, not_false_eq_true, Int.natCast_nonneg, Int.toNat_natCast, edL_len, hlt, and_self, hg, edV, pload, okOne, TK.isAgg, Nat.reduceBEq, Bool.or_false, List.length_cons, List.length_nil, Nat.zero_add, Nat.reduceAdd, Nat.le_refl, Lift.valOf, List.take_succ_cons, List.take_nil, okAlloc, okZero, List.all_cons, Value.oneCell', List.all_nil, Bool.and_true, hx, zeroOf, List.map_cons, ofVal, List.map_nil, Heap.get_put, known1, PV.cells, splice, List.take_zero, List.nil_append, List.drop_succ_cons, List.drop_nil, List.append_nil, thenQ, true_and]
    intro a hna
    have hna0 := incFresh inc hna
    refine SW.seq (SW.run [] _ ?_)
    simp only [wpC, Bool.false_eq_true, ↓reduceIte, wpS, stops, wantedA, okDst, Nat.reduceLT, decide_true, step1, isOwnCall, hxOp, px, AS.eval, AS.get, Lift.look, Nat.reduceEqDiff, Option.getD_some, AS.put, dropKey, pindexAddr, ty28, ty79, ne_eq, Nat.succ_ne_zero, not_false_eq_true, Int.natCast_nonneg, Int.toNat_natCast, edL_len, hlb, and_self, hgb, edV, pload, okOne, TK.isAgg, Nat.reduceBEq, Bool.or_false, List.length_cons, List.length_nil, Nat.zero_add, Nat.reduceAdd, Nat.le_refl, Lift.valOf, List.take_succ_cons, List.take_nil, okAlloc, okZero, List.all_cons, Value.oneCell', List.all_nil, Bool.and_true, Heap.get_put, some_none, hx, zeroOf, List.map_cons, ofVal, List.map_nil, known1, PV.cells, splice, List.take_zero, List.nil_append, List.drop_succ_cons, List.drop_nil, List.append_nil, thenQ, true_and]
    intro b hnb
    rw [Heap.put_put, Heap.put_put]
    have nab : ¬ a = b := fun e => hnb.1 e.symm
    have hnb1 : H b = none := by first | exact hnb.2 | exact hnb.2.2
    have ga : ((H.put a (.cells 79 4 [.int .i64 es[i].a, .int .i64 es[i].b, .list 1 (strL es[i].del), .list 1 (strL es[i].ins)])).put b (.cells 79 4 [.int .i64 fs[i].a, .int .i64 fs[i].b, .list 1 (strL fs[i].del), .list 1 (strL fs[i].ins)])) a = some (.cells 79 4 [.int .i64 es[i].a, .int .i64 es[i].b, .list 1 (strL es[i].del), .list 1 (strL es[i].ins)]) := by rw [Heap.put_ne _ _ nab, Heap.put_same]
    have gb : ((H.put a (.cells 79 4 [.int .i64 es[i].a, .int .i64 es[i].b, .list 1 (strL es[i].del), .list 1 (strL es[i].ins)])).put b (.cells 79 4 [.int .i64 fs[i].a, .int .i64 fs[i].b, .list 1 (strL fs[i].del), .list 1 (strL fs[i].ins)])) b = some (.cells 79 4 [.int .i64 fs[i].a, .int .i64 fs[i].b, .list 1 (strL fs[i].del), .list 1 (strL fs[i].ins)]) := Heap.put_same _ _ _
    have inc2 : Lift.Inc h ((H.put a (.cells 79 4 [.int .i64 es[i].a, .int .i64 es[i].b, .list 1 (strL es[i].del), .list 1 (strL es[i].ins)])).put b (.cells 79 4 [.int .i64 fs[i].a, .int .i64 fs[i].b, .list 1 (strL fs[i].del), .list 1 (strL fs[i].ins)])) := Inc.over (Inc.over inc hna0 _) (incFresh inc hnb1) _
    generalize (H.put a (.cells 79 4 [.int .i64 es[i].a, .int .i64 es[i].b, .list 1 (strL es[i].del), .list 1 (strL es[i].ins)])).put b (.cells 79 4 [.int .i64 fs[i].a, .int .i64 fs[i].b, .list 1 (strL fs[i].del), .list 1 (strL fs[i].ins)]) = H2 at ga gb inc2 ⊢
    refine SW.seq (SW.run [] _ ?_)
    simp only [wpC, Bool.false_eq_true, ↓reduceIte, wpS, stops, wantedA, okDst, Nat.reduceLT, decide_true, step1, isOwnCall, hxOp, px, AS.eval, AS.get, Lift.look, Nat.reduceEqDiff, Option.getD_some, AS.put, dropKey, pload, ty79, ga, okOne, TK.isAgg, Nat.reduceBEq, Bool.or_false, Nat.zero_add, List.length_cons, List.length_nil, Nat.reduceAdd, Nat.le_refl, and_self, Lift.valOf, List.drop_zero, List.take_succ_cons, List.take_nil, gb, true_and]
    refine SWO.call (.tmp 26) #[.tmp 27, .tmp 28] _ 67 #[] #[] rfl rfl rfl rfl rfl rfl (EqEd_ok es[i] fs[i] (hs _ (List.getElem_mem hlt)) H2) rfl rfl ?_ (fun c h' hc => by cases hc.1)
    rintro p' h' ⟨hp', rfl⟩
    injection hp' with hp'
    subst hp'
    rw [edEq_iff]
    refine SWO.run [] 1000 ?_
    by_cases heq : es[i] = fs[i]
    · simp only [wpS, stops, Bool.false_eq_true, ↓reduceIte, wantedA, okDst, AS.put, heq, decide_true, dropKey, Nat.reduceEqDiff, Nat.reduceLT, step1, isOwnCall, hxOp, px, pun, AS.eval, AS.get, Lift.look, Option.getD_some, Bool.not_true, thenQ, true_and]
      refine SW.run [] _ ?_
      simp only [wpC, isB, AS.get, Lift.look, tmpOf, ↓reduceIte, Option.getD_some, asB, Bool.false_eq_true, inQ, thenQ, true_and]
      refine SW.run [] _ ?_
      simp only [wpC, Bool.false_eq_true, ↓reduceIte, wpS, stops, isFlt, ty3, wantedA, okDst, Nat.reduceLT, decide_true, step1, isOwnCall, hxOp, px, isNilC, pbinP, AS.eval, AS.get, Lift.look, Nat.reduceEqDiff, Option.getD_some, ofConst, ofVal, pbinI, hw, AS.put, dropKey, thenQ, true_and]
      exact ⟨es.length - (i + 1), by omega, i + 1, by omega, rfl, by rw [List.take_succ_eq_append_getElem hlt, List.take_succ_eq_append_getElem hlb, htk, heq], inc2, rfl⟩
    · have hne : eqEds es fs = false := by unfold eqEds; rw [decide_eq_false_iff_not]; rintro rfl; exact heq rfl
      simp only [wpS, stops, Bool.false_eq_true, ↓reduceIte, wantedA, okDst, AS.put, heq, decide_false, dropKey, Nat.reduceEqDiff, Nat.reduceLT, decide_true, step1, isOwnCall, hxOp, px, pun, AS.eval, AS.get, Lift.look, Option.getD_some, Bool.not_false, thenQ, true_and]
      refine SW.run [] _ ?_
      simp only [wpC, isB, AS.get, Lift.look, tmpOf, ↓reduceIte, Option.getD_some, asB, mayStop, stops, isFlt, Specs.has, Specs.hasO, Bool.or_false, Specs.hasH, Bool.not_false, List.any_cons, List.any_nil, Bool.false_eq_true, wpS, wantedA, okDst, Nat.reduceLT, decide_true, step1, isOwnCall, hxOp, px, AS.eval, ofConst, ofVal, thenQ, inQ, RPost, sres, AS.put, dropKey, Nat.reduceEqDiff, Tryz.results66, sresL, sres1, Option.some.injEq, hne, Ret_fin, exists_eq_left', true_and]
      exact Inc.to inc2
  · have he : es = fs := by
      rw [List.take_of_length_le (by omega), List.take_of_length_le (by omega)] at htk
      exact htk
    simp only [wpC, Bool.false_eq_true, ↓reduceIte, wpS, stops, wantedA, okDst, Nat.reduceLT, decide_true, step1, isOwnCall, hxOp, px, isNilC, pbinP, AS.eval, AS.get, Lift.look, Nat.reduceEqDiff, Option.getD_some, pbinI, Int.ofNat_lt, hlt, decide_false, thenQ, hasAll, and_true, AS.put, dropKey, true_and]
    refine SW.seq (SW.run [] _ ?_)
    simp only [wpC, isB, AS.get, Lift.look, tmpOf, ↓reduceIte, Option.getD_some, asB, Bool.false_eq_true, thenQ, inQ, true_and]
    refine SW.run [] _ ?_
    simp only [wpC, mayStop, stops, isFlt, Specs.has, Specs.hasO, Bool.or_false, Specs.hasH, Bool.not_false, List.any_cons, List.any_nil, Bool.false_eq_true, ↓reduceIte, wpS, wantedA, okDst, Nat.reduceLT, decide_true, step1, isOwnCall, hxOp, px, AS.eval, ofConst, ofVal, thenQ, RPost, sres, AS.put, dropKey, Nat.reduceEqDiff, he, Tryz.results66, sresL, sres1, AS.get, Lift.look, Option.getD_some, Option.some.injEq, eqEds, Ret_fin, exists_eq_left', true_and]
    exact Inc.to inc
theorem EqualEd_ok (es fs : List Ed) (hs : ∀ e ∈ es, e.small) (hl : es.length ≤ 1000000) (h : Heap) : SCalls env 13 [.list 4 (edL es), .list 4 (edL fs)] h (Ret (.bool (eqEds es fs)) h) := by
  refine SCalls.body Tryz.func13 rfl rfl (by simp [Tryz.ntmps13]) ?_
  refine SW.seq (SW.run [] _ ?_)
  simp only [wpC, Bool.false_eq_true, ↓reduceIte, wpS, stops, wantedA, okDst, Tryz.ntmps13, Nat.reduceLT, decide_true, step1, isOwnCall, hxOp, px, AS.eval, ofConst, ofVal, thenQ, AS.put, enumA, Nat.zero_add, dropKey, reduceCtorEq, Nat.reduceEqDiff, true_and]
  refine SW.seq (SW.run [] _ ?_)
  simp only [wpC, Bool.false_eq_true, ↓reduceIte, wpS, stops, wantedA, okDst, Nat.reduceLT, decide_true, step1, isOwnCall, hxOp, px, AS.eval, AS.get, Lift.look, Nat.succ_ne_zero, Option.getD_some, AS.put, dropKey, Nat.reduceEqDiff, reduceCtorEq, Specs.has, Specs.hasO, Bool.or_false, Specs.hasH, Bool.not_false, true_and]
  refine SWO.call (.func 66) #[.tmp 5, .tmp 6, .func 67] _ 66 #[] #[] rfl rfl rfl rfl rfl rfl (EqFunc_ok es fs hs hl h) rfl rfl ?_ (fun c h' hc => by cases hc.1)
  rintro p' h' ⟨hp', rfl⟩
  injection hp' with hp'
  subst hp'
  refine SWO.run [] 1000 ?_
  simp only [wpS, stops, Bool.false_eq_true, ↓reduceIte, wantedA, okDst, AS.put, dropKey, Nat.reduceEqDiff, reduceCtorEq, Nat.reduceLT, decide_true, step1, isOwnCall, hxOp, px, AS.eval, AS.get, Lift.look, Option.getD_some, thenQ, Tryz.results13, true_and]
  refine SW.run [] _ ?_
  simp only [wpC, RPost, sres, sresL, sres1, AS.get, Lift.look, ↓reduceIte, Option.getD_some, Option.some.injEq, Ret_fin, HTo_self, and_true, exists_eq_left']
def unE : List (List PV) → Option (List Ed)
  | [] => some []
  | [.int .i64 a, .int .i64 b, .list 1 d, .list 1 n] :: l => match unS d with
    | some d => match unS n with
      | some n => match unE l with
        | some r => some (⟨a, b, d, n⟩ :: r)
        | none => none
      | none => none
    | none => none
  | _ => none
theorem unE_el : ∀ l : List Ed, unE (edL l) = some l
  | [] => rfl
  | x :: l => by
    show (match unS (strL x.del) with | some d => (match unS (strL x.ins) with | some n => (match unE (edL l) with | some r => some ((⟨x.a, x.b, d, n⟩ : Ed) :: r) | none => none) | none => none) | none => none) = _
    rw [unS_el, unS_el, unE_el l]
theorem unE_spec : ∀ {xs : List (List PV)} {l : List Ed}, unE xs = some l → xs = edL l
  | [], l, h => by
    have : [] = l := Option.some.inj h
    subst this; rfl
  | x :: xs, l, h => by
    unfold unE at h
    split at h
    · rename_i e; cases e
    · rename_i a b d n l' e
      injection e with e1 e2
      subst e1 e2
      split at h
      · rename_i d' hd
        split at h
        · rename_i n' hn
          split at h
          · rename_i r hr
            have := Option.some.inj h
            subst this
            rw [unE_spec hr, unS_spec hd, unS_spec hn]
            rfl
          · cases h
        · cases h
      · cases h
    · cases h
def sEqualEd (es fs : List Ed) : List PV → Prop × PV
  | [.list 4 xs, .list 4 ys] => (xs = edL es ∧ ys = edL fs ∧ (∀ e ∈ es, e.small) ∧ es.length ≤ 1000000, .bool (eqEds es fs))
  | _ => PBad
noncomputable def eEqualEd (es fs : List Ed) : SpecE env := ⟨13, sEqualEd es fs, fun args h hc => by
  unfold sEqualEd at hc ⊢
  split at hc
  · obtain ⟨rfl, rfl, h1, h2⟩ := hc
    exact .inl (EqualEd_ok es fs h1 h2 h)
  · exact hc.elim⟩
set_option maxHeartbeats 4000000 in
theorem Edits_ok (es : List Ed) (hs : ∀ e ∈ es, e.small) (hl : es.length ≤ 1000000) (h : Heap) : SCalls env 10 [.list 4 (edL es)] h (Ret (.list 4 (edL es)) h) := by
  refine SCalls.body Tryz.func10 rfl rfl (by simp [Tryz.ntmps10]) ?_
  refine SW.seq (SW.run [] _ ?_)
  simp only [wpC, Bool.false_eq_true, ↓reduceIte, wpS, stops, wantedA, okDst, Tryz.ntmps10, Nat.reduceLT, decide_true, step1, isOwnCall, hxOp, px, AS.eval, ofConst, ofVal, thenQ, AS.put, enumA, dropKey, reduceCtorEq, true_and]
  refine SW.seq (SW.run [] _ ?_)
  simp only [wpC, Bool.false_eq_true, ↓reduceIte, wpS, stops, wantedA, okDst, Nat.reduceLT, decide_true, step1, isOwnCall, hxOp, px, AS.eval, ofConst, ofVal, thenQ, AS.put, dropKey, Nat.reduceEqDiff, reduceCtorEq, true_and]
  refine SW.seq (SW.seq (SW.run [] _ ?_))
  simp only [wpC, Bool.false_eq_true, ↓reduceIte, wpS, stops, wantedA, okDst, Nat.reduceLT, decide_true, step1, isOwnCall, hxOp, px, AS.eval, AS.get, Lift.look, Nat.succ_ne_zero, Option.getD_some, AS.put, dropKey, Nat.reduceEqDiff, reduceCtorEq, pcall, ty22, plen, edL_len, okLen, and_self, ofConst, ofVal, thenQ, true_and]
  refine SW.block (SW.loop (fun bb st => ∃ (i : Nat) (v : PV) (h1 : Heap), i ≤ es.length ∧ es.length - i = bb ∧ Lift.Inc h h1 ∧ Own h1 79 4 (edL (es.take i)) v st.h ∧ st.n = 28 ∧ hasAll st [(3, v), (6, .list 4 (edL es)), (7, .int .i64 (es.length : Nat)), (8, .int .i64 (i : Nat))]) es.length ⟨0, .val (.slice none 0 0), h, Nat.zero_le _, rfl, incSelf h, Own.nil _ _ _, rfl, ?_⟩ ?_)
  · simp only [hasAll, AS.get, Lift.look, Nat.reduceEqDiff, ↓reduceIte, Option.getD_some, Int.cast_ofNat_Int, and_self]
  rintro bb st ⟨i, v, h1, hi, hbb, inc, ow, hn, hs'⟩
  refine SW.norm ⟨hn, rfl, hs'⟩ ?_
  generalize st.h = H at ow
  clear hn hs'
  refine SW.seq (SW.run [] _ ?_)
  by_cases hlt : i < es.length
  · have hw : IntKind.i64.wrap ((i : Int) + 1) = ((i + 1 : Nat) : Int) := by rw [w64 (by omega) (by omega)]; rfl
    have hg := edL_at hlt
    obtain ⟨sd, si⟩ := hs _ (List.getElem_mem hlt)
    have hd1 : es[i].del.length ≤ 1000000000 := by omega
    have hi1 : es[i].ins.length ≤ 1000000000 := by omega
    have hel : (edL (es.take i)).length = i := by rw [edL_len, List.length_take]; omega
    have hnx : edL (es.take (i + 1)) = edL (es.take i) ++ [edV es[i]] := by rw [List.take_succ_eq_append_getElem hlt, edL_append]; rfl
    simp only [wpC, Bool.false_eq_true, ↓reduceIte, wpS, stops, wantedA, okDst, Nat.reduceLT, decide_true, step1, isOwnCall, hxOp, px, isNilC, pbinP, AS.eval, AS.get, Lift.look, Nat.reduceEqDiff, Option.getD_some, pbinI, Int.ofNat_lt, hlt, thenQ, hasAll, and_true, AS.put, dropKey, true_and]
    refine SW.seq (SW.run [] _ ?_)
    simp only [wpC, isB, AS.get, Lift.look, tmpOf, ↓reduceIte, Option.getD_some, asB, thenQ, true_and]
    refine SW.seq (SW.block (SW.seq (SW.run [] _ ?_)))
    simp only [wpC, Bool.false_eq_true, ↓reduceIte, wpS, stops, wantedA, okDst, Nat.reduceLT, decide_true, step1, isOwnCall, hxOp, px, pindexAddr, ty22, ty77, AS.eval, AS.get, Lift.look, Nat.reduceEqDiff, Option.getD_some, ne_eq, Nat.succ_ne_zero, not_false_eq_true, Int.natCast_nonneg, Int.toNat_natCast, edL_len, hlt, and_self, hg, edV, AS.put, dropKey, pload, okOne, TK.isAgg, Nat.reduceBEq, Bool.or_false, List.length_cons, List.length_nil, Nat.zero_add, Nat.reduceAdd, Nat.le_refl, Lift.valOf, List.take_succ_cons, List.take_nil, okAlloc, okZero, List.all_cons, Value.oneCell', List.all_nil, Bool.and_true, hx, zeroOf, List.map_cons, ofVal, List.map_nil, Heap.get_put, known1, PV.cells, splice, List.take_zero, List.nil_append, List.drop_succ_cons, List.drop_nil, List.append_nil, thenQ, true_and]
    intro r hr
    rw [Heap.put_put]
    have ow2 := ow.putx hr (.cells 77 4 [.int .i64 es[i].a, .int .i64 es[i].b, .list 1 (strL es[i].del), .list 1 (strL es[i].ins)])
    have hr1 : h1 r = none := incFresh ow.inc hr
    have inc2 : Lift.Inc h (h1.put r (.cells 77 4 [.int .i64 es[i].a, .int .i64 es[i].b, .list 1 (strL es[i].del), .list 1 (strL es[i].ins)])) := Inc.over inc (incFresh inc hr1) _
    have gr : (H.put r (.cells 77 4 [.int .i64 es[i].a, .int .i64 es[i].b, .list 1 (strL es[i].del), .list 1 (strL es[i].ins)])) r = some (.cells 77 4 [.int .i64 es[i].a, .int .i64 es[i].b, .list 1 (strL es[i].del), .list 1 (strL es[i].ins)]) := Heap.put_same _ _ _
    generalize H.put r (.cells 77 4 [.int .i64 es[i].a, .int .i64 es[i].b, .list 1 (strL es[i].del), .list 1 (strL es[i].ins)]) = H2 at gr ow2 ⊢
    refine SW.regionChain [eClone] [([0, 1, 2, 3, 4, 5, 6, 7, 8, 9, 10, 11, 12], 13)] [14] rfl (by rfl) (by kernel_rfl) ?_
    simp only [wpChain, wpO, LOp, List.getElem?_toArray, List.getElem?_cons_zero, okDst, Nat.reduceLT, decide_true, wantedA, ↓reduceIte, step1, isOwnCall, Bool.false_eq_true, hxOp, px, AS.eval, AS.get, Lift.look, Nat.reduceEqDiff, Option.getD_some, List.getElem?_cons_succ, AS.put, dropKey, pfieldAddr, fieldOf, ty77, fieldIn, ty3, Option.map_some, ne_eq, Nat.succ_ne_zero, not_false_eq_true, Nat.add_zero, pload, gr, okOne, TK.isAgg, beq_self_eq_true, Bool.or_true, Nat.zero_add, List.length_cons, List.length_nil, Nat.reduceAdd, Nat.reduceLeDiff, and_self, Lift.valOf, List.drop_zero, List.take_succ_cons, List.take_zero, List.getD_cons_zero, List.drop_succ_cons, ty43, Specs.hasO, Specs.hasH, pcall, okArg, ofConst, ofVal, List.all_cons, List.all_nil, Bool.and_true, Specs.at, eClone, List.map_cons, List.map_nil, sClone, unS_el, hd1, Nat.le_refl, List.take_nil, hi1, pbuild, ty79, pfill, placeOf, PV.cells, splice, List.nil_append, List.cons_append, List.drop_nil, List.append_nil, Option.isSome_some, okZero, Value.oneCell', known, pbuildSlice, ty28, List.replicate, List.flatten_cons, List.flatten_nil, Nat.reduceMul, chunk, Option.toList_some, decide_eq_true_eq, inQ, thenQ, true_and]
    refine SWO.append (.tmp 12) (.tmp 24) 28 28 rfl ty28 rfl ty79 (by decide) rfl ty28 rfl ow2 (ys := [edV es[i]]) rfl (by rw [hel]; show (_ + 1) * 64 ≤ _; omega) (by rw [hel]; simp [maxLen]; omega) rfl rfl ?_
    intro v' h' ow' _ _
    refine SWO.run [] 1000 ?_
    simp only [wpS, thenQ, AS.put, dropKey, Nat.reduceEqDiff, ↓reduceIte, Nat.reduceLT, Lift.look, Option.getD_some, true_and]
    refine SW.run [] _ ?_
    simp only [wpC, Bool.false_eq_true, ↓reduceIte, wpS, stops, isFlt, ty3, wantedA, okDst, Nat.reduceLT, decide_true, step1, isOwnCall, hxOp, px, isNilC, pbinP, AS.eval, AS.get, Lift.look, Nat.reduceEqDiff, Option.getD_some, ofConst, ofVal, pbinI, hw, AS.put, dropKey, thenQ, true_and]
    exact ⟨es.length - (i + 1), by omega, i + 1, v', _, by omega, rfl, inc2, by rw [hnx]; exact ow', rfl, rfl⟩
  · have hie : i = es.length := by omega
    subst hie
    rw [List.take_length] at ow
    simp only [wpC, Bool.false_eq_true, ↓reduceIte, wpS, stops, wantedA, okDst, Nat.reduceLT, decide_true, step1, isOwnCall, hxOp, px, isNilC, pbinP, AS.eval, AS.get, Lift.look, Nat.reduceEqDiff, Option.getD_some, pbinI, Int.ofNat_lt, hlt, decide_false, thenQ, hasAll, and_true, AS.put, dropKey, true_and]
    refine SW.seq (SW.run [] _ ?_)
    simp only [wpC, isB, AS.get, Lift.look, tmpOf, ↓reduceIte, Option.getD_some, asB, Bool.false_eq_true, thenQ, inQ, true_and]
    refine SW.own_let 3 rfl ow ?_
    refine SW.run [] _ ?_
    simp only [wpC, mayStop, stops, isFlt, Specs.has, Specs.hasO, Bool.or_false, Specs.hasH, Bool.not_false, List.any_cons, List.any_nil, Bool.false_eq_true, ↓reduceIte, wpS, wantedA, okDst, AS.put, dropKey, Nat.reduceEqDiff, Nat.reduceLT, decide_true, step1, isOwnCall, hxOp, px, AS.eval, AS.get, Lift.look, Option.getD_some, thenQ, RPost, sres, Tryz.results10, sresL, sres1, Option.some.injEq, Ret_fin, exists_eq_left', true_and]
    exact Inc.to inc
def sEdits (es : List Ed) : List PV → Prop × PV
  | [.list 4 xs] => (xs = edL es ∧ (∀ e ∈ es, e.small) ∧ es.length ≤ 1000000, .list 4 (edL es))
  | _ => PBad
noncomputable def eEdits (es : List Ed) : SpecE env := ⟨10, sEdits es, fun args h hc => by
  unfold sEdits at hc ⊢
  split at hc
  · obtain ⟨rfl, h1, h2⟩ := hc
    exact .inl (Edits_ok es h1 h2 h)
  · exact hc.elim⟩
end Go.Proofs.YtincpomenogppaaGreatDoor
