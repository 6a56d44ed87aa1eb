/- Contracts of functions that the law reaches. -/
import Derived.Test.YtincpomenogppaaDoorWm
set_option linter.unusedSimpArgs false
set_option linter.unusedVariables false
namespace Go.Proofs.YtincpomenogppaaDoor
open Go Go.RowKit Go.Proofs.YtincpomenogppaaDoor Go.Proofs.YtincpomenogppaaDoor.Lift
set_option maxRecDepth 100000

/-! tools.Patch$1, and whether some line is not whole -/
theorem PatchW_ok (l : List UInt8) (h : Heap) (hl : l.length ≤ 1000000000) : SCalls env 40 [.str l] h (Ret (.bool (!lineB l)) h) := by
  refine SCalls.body Tryd.func40 rfl rfl (by simp [Tryd.ntmps40]) (SW.run [eWholeB] _ ?_)
  simp only [wpC, mayStop, stops, isFlt, Specs.has, eWholeB, Specs.hasO, Bool.or_false, Specs.hasH, List.any_cons, List.any_nil, Bool.false_eq_true, ↓reduceIte, wpS, wantedA, okDst, Tryd.ntmps40, Nat.reduceLT, decide_true, step1, isOwnCall, hxOp, px, AS.eval, ofConst, ofVal, thenQ, Bool.not_true, AS.put, enumA, dropKey, reduceCtorEq, AS.get, Lift.look, Nat.succ_ne_zero, Option.getD_some, Nat.reduceEqDiff, pcall, okArg, List.all_cons, List.all_nil, Bool.and_true, Specs.at, List.map_cons, List.map_nil, sLB, hl, and_self, pun, RPost, sres, Tryd.results40, sresL, sres1, Option.some.injEq, Ret_fin, HTo_self, and_true, exists_eq_left']
set_option maxHeartbeats 2000000 in
theorem AnyW_ok (es : List (List UInt8)) (hl : es.length ≤ 1000000) (hs : ∀ l ∈ es, l.length ≤ 1000000000) (h : Heap) : ∃ z : Int, (decide (0 ≤ z) = !es.all lineB) ∧ SCalls env 61 [.list 1 (strL es), .val (.func (.func 40) #[] #[])] h (Ret (.int .i64 z) h) := by
  have key : ∀ z : Int, z = (if es.all lineB then -1 else ((es.findIdx (fun l => !lineB l) : Nat) : Int)) → SCalls env 61 [.list 1 (strL es), .val (.func (.func 40) #[] #[])] h (Ret (.int .i64 z) h) := by
    intro z hz
    refine SCalls.body Tryd.func61 rfl rfl (by simp [Tryd.ntmps61]) ?_
    refine SW.seq (SW.run [] _ ?_)
    simp only [wpC, Bool.false_eq_true, ↓reduceIte, wpS, stops, wantedA, okDst, Tryd.ntmps61, Nat.reduceLT, decide_true, step1, isOwnCall, hxOp, px, AS.eval, ofConst, ofVal, thenQ, AS.put, enumA, Nat.zero_add, dropKey, reduceCtorEq, Nat.reduceEqDiff, true_and]
    refine SW.seq (SW.seq (SW.run [] _ ?_))
    simp only [wpC, Bool.false_eq_true, ↓reduceIte, wpS, stops, wantedA, okDst, Nat.reduceLT, decide_true, step1, isOwnCall, hxOp, px, AS.eval, AS.get, Lift.look, Nat.succ_ne_zero, Option.getD_some, AS.put, dropKey, Nat.reduceEqDiff, reduceCtorEq, pcall, ty34, plen, strL_len, okLen, and_self, ofConst, ofVal, thenQ, true_and]
    refine SW.block (SW.loopK 19 (fun i : Nat => [(0, .list 1 (strL es)), (1, .val (.func (.func 40) #[] #[])), (6, .list 1 (strL es)), (7, .int .i64 (es.length : Nat)), (8, .int .i64 (i : Nat))]) (fun _ => h) (fun i => i ≤ es.length ∧ (es.take i).all lineB = true) (fun i => es.length - i) 0 ⟨Nat.zero_le _, rfl⟩ ?_ ?_)
    · simp only [Has, hasAll, AS.get, Lift.look, Nat.succ_ne_zero, ↓reduceIte, Option.getD_some, Nat.reduceEqDiff, reduceCtorEq, Int.cast_ofNat_Int, and_self]
    rintro i ⟨hi, htk⟩
    refine SW.seq (SW.run [] _ ?_)
    by_cases hlt : i < es.length
    · have hw : IntKind.i64.wrap ((i : Int) + 1) = ((i + 1 : Nat) : Int) := by rw [w64 (by omega) (by omega)]; rfl
      have hg := strL_at hlt
      simp only [wpC, Bool.false_eq_true, ↓reduceIte, wpS, stops, wantedA, okDst, Nat.reduceLT, decide_true, step1, isOwnCall, hxOp, px, isNilC, pbinP, AS.eval, AS.get, Lift.look, reduceCtorEq, Nat.reduceEqDiff, Option.getD_some, pbinI, Int.ofNat_lt, hlt, thenQ, Has, hasAll, and_true, AS.put, dropKey, true_and]
      refine SW.seq (SW.run [] _ ?_)
      simp only [wpC, isB, AS.get, Lift.look, tmpOf, ↓reduceIte, Option.getD_some, asB, thenQ, true_and]
      refine SW.seq (SW.block (SW.seq (SW.run [] _ ?_)))
      simp only [wpC, Bool.false_eq_true, ↓reduceIte, wpS, stops, wantedA, okDst, Nat.reduceLT, decide_true, step1, isOwnCall, hxOp, px, AS.eval, AS.get, Lift.look, Nat.reduceEqDiff, reduceCtorEq, Option.getD_some, AS.put, dropKey, thenQ, true_and]
      refine SW.seq (SW.run [] _ ?_)
      simp only [wpC, Bool.false_eq_true, ↓reduceIte, wpS, stops, wantedA, okDst, Nat.reduceLT, decide_true, step1, isOwnCall, hxOp, px, AS.eval, AS.get, Lift.look, Nat.reduceEqDiff, reduceCtorEq, Option.getD_some, AS.put, dropKey, Nat.succ_ne_zero, pindexAddr, ty34, ty9, ne_eq, not_false_eq_true, Int.natCast_nonneg, Int.toNat_natCast, strL_len, hlt, and_self, hg, pload, okOne, TK.isAgg, beq_self_eq_true, Bool.or_true, List.length_cons, List.length_nil, Nat.zero_add, Nat.le_refl, Lift.valOf, List.take_succ_cons, List.take_nil, List.getD_cons_zero, true_and]
      refine SWO.call (.tmp 11) #[.tmp 15] _ 40 #[] #[] rfl rfl rfl rfl rfl rfl (PatchW_ok es[i] h (hs _ (List.getElem_mem hlt))) rfl rfl ?_ (fun c h' hc => by cases hc.1)
      rintro p' h' ⟨hp', rfl⟩
      injection hp' with hp'
      subst hp'
      refine SWO.run [] 1000 ?_
      cases heq : lineB es[i]
      · have h1 : es.all lineB = false := by rw [List.all_eq_false]; exact ⟨_, List.getElem_mem hlt, by simp [heq]⟩
        have h2 : es.findIdx (fun l => !lineB l) = i := by
          rw [List.findIdx_eq hlt]
          refine ⟨by simp [heq], fun j hj => ?_⟩
          rw [List.all_eq_true] at htk
          have hj2 : j < (es.take i).length := by rw [List.length_take]; omega
          have := htk _ (List.getElem_mem hj2)
          rw [List.getElem_take] at this
          simpa using this
        rw [h1, h2] at hz
        have hz : z = (i : Int) := hz
        simp only [wpS, thenQ, AS.put, Bool.not_false, dropKey, Nat.reduceEqDiff, ↓reduceIte, reduceCtorEq]
        refine SW.run [] _ ?_
        simp only [wpC, isB, AS.get, Lift.look, tmpOf, ↓reduceIte, Option.getD_some, asB, mayStop, stops, isFlt, Specs.has, Specs.hasO, Bool.or_false, Specs.hasH, Bool.not_false, List.any_cons, List.any_nil, Bool.false_eq_true, wpS, wantedA, okDst, Nat.reduceLT, decide_true, step1, isOwnCall, hxOp, px, AS.eval, Nat.reduceEqDiff, AS.put, dropKey, reduceCtorEq, thenQ, inQ, RPost, sres, Tryd.results61, sresL, sres1, Option.some.injEq, hz, Ret_fin, HTo_self, and_true, exists_eq_left', and_self]
      · simp only [wpS, thenQ, AS.put, Bool.not_true, dropKey, Nat.reduceEqDiff, ↓reduceIte, reduceCtorEq]
        refine SW.run [] _ ?_
        simp only [wpC, isB, AS.get, Lift.look, tmpOf, ↓reduceIte, Option.getD_some, asB, Bool.false_eq_true, inQ, thenQ, true_and]
        refine SW.run [] _ ?_
        simp only [wpC, Bool.false_eq_true, ↓reduceIte, wpS, stops, isFlt, ty3, wantedA, okDst, Nat.reduceLT, decide_true, step1, isOwnCall, hxOp, px, isNilC, pbinP, AS.eval, AS.get, Lift.look, Nat.reduceEqDiff, reduceCtorEq, Option.getD_some, ofConst, ofVal, pbinI, hw, AS.put, dropKey, thenQ, Nat.succ_ne_zero, true_and]
        exact ⟨i + 1, ⟨by omega, by rw [List.take_succ_eq_append_getElem hlt, List.all_append, htk]; simp [heq]⟩, by omega, rfl⟩
    · have h1 : es.all lineB = true := by
        rw [List.take_of_length_le (by omega)] at htk
        exact htk
      rw [h1] at hz
      have hz : z = -1 := hz
      simp only [wpC, Bool.false_eq_true, ↓reduceIte, wpS, stops, wantedA, okDst, Nat.reduceLT, decide_true, step1, isOwnCall, hxOp, px, isNilC, pbinP, AS.eval, AS.get, Lift.look, reduceCtorEq, Nat.reduceEqDiff, Option.getD_some, pbinI, Int.ofNat_lt, hlt, decide_false, thenQ, Has, hasAll, and_true, AS.put, dropKey, true_and]
      refine SW.seq (SW.run [] _ ?_)
      simp only [wpC, isB, AS.get, Lift.look, tmpOf, ↓reduceIte, Option.getD_some, asB, Bool.false_eq_true, thenQ, inQ, true_and]
      refine SW.run [] _ ?_
      simp only [wpC, mayStop, stops, isFlt, Specs.has, Specs.hasO, Bool.or_false, Specs.hasH, Bool.not_false, List.any_cons, List.any_nil, Bool.false_eq_true, ↓reduceIte, wpS, wantedA, okDst, Nat.reduceLT, decide_true, step1, isOwnCall, hxOp, px, AS.eval, ofConst, ofVal, thenQ, RPost, sres, AS.put, dropKey, Nat.reduceEqDiff, reduceCtorEq, Tryd.results61, sresL, sres1, AS.get, Lift.look, Option.getD_some, Option.some.injEq, hz, Ret_fin, HTo_self, and_true, exists_eq_left', and_self]
  refine ⟨_, ?_, key _ rfl⟩
  cases es.all lineB
  · rw [decide_eq_true_iff.2 (by show (0 : Int) ≤ ((_ : Nat) : Int); exact Int.natCast_nonneg _)]; rfl
  · rfl
set_option maxHeartbeats 2000000 in
theorem ContW_ok (es : List (List UInt8)) (hl : es.length ≤ 1000000) (hs : ∀ l ∈ es, l.length ≤ 1000000000) (h : Heap) : SCalls env 39 [.list 1 (strL es), .val (.func (.func 40) #[] #[])] h (Ret (.bool (!es.all lineB)) h) := by
  refine SCalls.body Tryd.func39 rfl rfl (by simp [Tryd.ntmps39]) ?_
  obtain ⟨z, hz, hc⟩ := AnyW_ok es hl hs h
  refine SW.seq (SW.run [] _ ?_)
  simp only [wpC, Bool.false_eq_true, ↓reduceIte, wpS, stops, wantedA, okDst, Tryd.ntmps39, Nat.reduceLT, decide_true, step1, isOwnCall, hxOp, px, AS.eval, ofConst, ofVal, thenQ, AS.put, enumA, Nat.zero_add, dropKey, reduceCtorEq, Nat.reduceEqDiff, true_and]
  refine SW.run [] _ ?_
  simp only [wpC, mayStop, stops, isFlt, Specs.has, Specs.hasO, Bool.or_false, Specs.hasH, Bool.not_false, List.any_cons, List.any_nil, Bool.or_true, ↓reduceIte, Bool.false_eq_true, wpS, wantedA, okDst, Nat.reduceLT, decide_true, step1, isOwnCall, hxOp, px, AS.eval, AS.get, Lift.look, Nat.succ_ne_zero, Option.getD_some, AS.put, dropKey, Nat.reduceEqDiff, reduceCtorEq, true_and]
  refine SWO.call (.func 61) #[.tmp 5, .tmp 6] _ 61 #[] #[] rfl rfl rfl rfl rfl rfl hc rfl rfl ?_ (fun c h' hc => by cases hc.1)
  rintro p' h' ⟨hp', rfl⟩
  injection hp' with hp'
  subst hp'
  refine SWO.run [] 1000 ?_
  simp only [wpS, stops, Bool.false_eq_true, ↓reduceIte, wantedA, okDst, AS.put, dropKey, Nat.reduceEqDiff, reduceCtorEq, Nat.reduceLT, decide_true, step1, isOwnCall, hxOp, px, isNilC, pbinP, AS.eval, AS.get, Lift.look, Option.getD_some, ofConst, ofVal, pbinI, thenQ, true_and]
  refine SW.run [] _ ?_
  simp only [wpC, RPost, sres, hz, Tryd.results39, sresL, sres1, AS.get, Lift.look, ↓reduceIte, Option.getD_some, Option.some.injEq, Ret_fin, HTo_self, and_true, exists_eq_left']
def sContW (es : List (List UInt8)) : List PV → Prop × PV
  | [.list 1 xs, .val (.func (.func g) a b)] => (xs = strL es ∧ g = 40 ∧ a = #[] ∧ b = #[] ∧ es.length ≤ 1000000 ∧ ∀ l ∈ es, l.length ≤ 1000000000, .bool (!es.all lineB))
  | _ => PBad
noncomputable def eContW (es : List (List UInt8)) : SpecE env := ⟨39, sContW es, fun args h hc => by
  unfold sContW at hc ⊢
  split at hc
  · obtain ⟨rfl, rfl, rfl, rfl, h1, h2⟩ := hc
    exact .inl (ContW_ok es h1 h2 h)
  · exact hc.elim⟩
/-! tools.Reverse -/
set_option maxHeartbeats 4000000 in
theorem Reverse_ok (es : List Ed) (hs : ∀ e ∈ es, e.small) (hl : es.length ≤ 1000000) (h : Heap) : SCalls env 20 [.list 4 (edL es)] h (Ret (.list 4 (edL (es.map revE))) h) := by
  refine SCalls.body Tryd.func20 rfl rfl (by simp [Tryd.ntmps20]) ?_
  refine SW.seq (SW.run [] _ ?_)
  simp only [wpC, Bool.false_eq_true, ↓reduceIte, wpS, stops, wantedA, okDst, Tryd.ntmps20, Nat.reduceLT, decide_true, step1, isOwnCall, hxOp, px, AS.eval, ofConst, ofVal, thenQ, AS.put, enumA, dropKey, reduceCtorEq, true_and]
  refine SW.seq (SW.run [] _ ?_)
  simp only [wpC, Bool.false_eq_true, ↓reduceIte, wpS, stops, wantedA, okDst, Nat.reduceLT, decide_true, step1, isOwnCall, hxOp, px, AS.eval, ofConst, ofVal, thenQ, AS.put, dropKey, Nat.reduceEqDiff, reduceCtorEq, true_and]
  refine SW.seq (SW.seq (SW.run [] _ ?_))
  simp only [wpC, Bool.false_eq_true, ↓reduceIte, wpS, stops, wantedA, okDst, Nat.reduceLT, decide_true, step1, isOwnCall, hxOp, px, AS.eval, AS.get, Lift.look, Nat.succ_ne_zero, Option.getD_some, AS.put, dropKey, Nat.reduceEqDiff, reduceCtorEq, pcall, ty24, plen, edL_len, okLen, and_self, ofConst, ofVal, thenQ, true_and]
  refine SW.block (SW.loop (fun bb st => ∃ (i : Nat) (v : PV) (h1 : Heap), i ≤ es.length ∧ es.length - i = bb ∧ Lift.Inc h h1 ∧ Own h1 45 4 (edL ((es.take i).map revE)) v st.h ∧ st.n = 28 ∧ hasAll st [(3, v), (6, .list 4 (edL es)), (7, .int .i64 (es.length : Nat)), (8, .int .i64 (i : Nat))]) es.length ⟨0, .val (.slice none 0 0), h, Nat.zero_le _, rfl, incSelf h, Own.nil _ _ _, rfl, ?_⟩ ?_)
  · simp only [hasAll, AS.get, Lift.look, Nat.reduceEqDiff, ↓reduceIte, Option.getD_some, Int.cast_ofNat_Int, and_self]
  rintro bb st ⟨i, v, h1, hi, hbb, inc, ow, hn, hs'⟩
  refine SW.norm ⟨hn, rfl, hs'⟩ ?_
  generalize st.h = H at ow
  clear hn hs'
  refine SW.seq (SW.run [] _ ?_)
  by_cases hlt : i < es.length
  · have hw : IntKind.i64.wrap ((i : Int) + 1) = ((i + 1 : Nat) : Int) := by rw [w64 (by omega) (by omega)]; rfl
    have hg := edL_at hlt
    obtain ⟨sd, si⟩ := hs _ (List.getElem_mem hlt)
    have hd1 : es[i].del.length ≤ 1000000000 := by omega
    have hi1 : es[i].ins.length ≤ 1000000000 := by omega
    have hel : (edL ((es.take i).map revE)).length = i := by rw [edL_len, List.length_map, List.length_take]; omega
    have hnx : edL ((es.take (i + 1)).map revE) = edL ((es.take i).map revE) ++ [edV (revE es[i])] := by rw [List.take_succ_eq_append_getElem hlt, List.map_append, edL_append]; rfl
    simp only [wpC, Bool.false_eq_true, ↓reduceIte, wpS, stops, wantedA, okDst, Nat.reduceLT, decide_true, step1, isOwnCall, hxOp, px, isNilC, pbinP, AS.eval, AS.get, Lift.look, Nat.reduceEqDiff, Option.getD_some, pbinI, Int.ofNat_lt, hlt, thenQ, hasAll, and_true, AS.put, dropKey, true_and]
    refine SW.seq (SW.run [] _ ?_)
    simp only [wpC, isB, AS.get, Lift.look, tmpOf, ↓reduceIte, Option.getD_some, asB, thenQ, true_and]
    refine SW.seq (SW.block (SW.seq (SW.run [] _ ?_)))
    simp only [wpC, Bool.false_eq_true, ↓reduceIte, wpS, stops, wantedA, okDst, Nat.reduceLT, decide_true, step1, isOwnCall, hxOp, px, pindexAddr, ty24, ty45, AS.eval, AS.get, Lift.look, Nat.reduceEqDiff, Option.getD_some, ne_eq, Nat.succ_ne_zero, not_false_eq_true, Int.natCast_nonneg, Int.toNat_natCast, edL_len, hlt, and_self, hg, edV, AS.put, dropKey, pload, okOne, TK.isAgg, Nat.reduceBEq, Bool.or_false, List.length_cons, List.length_nil, Nat.zero_add, Nat.reduceAdd, Nat.le_refl, Lift.valOf, List.take_succ_cons, List.take_nil, okAlloc, okZero, List.all_cons, Value.oneCell', List.all_nil, Bool.and_true, hx, zeroOf, List.map_cons, ofVal, List.map_nil, Heap.get_put, known1, PV.cells, splice, List.take_zero, List.nil_append, List.drop_succ_cons, List.drop_nil, List.append_nil, thenQ, true_and]
    intro r hr
    rw [Heap.put_put]
    have ow2 := ow.putx hr (.cells 45 4 [.int .i64 es[i].a, .int .i64 es[i].b, .list 1 (strL es[i].del), .list 1 (strL es[i].ins)])
    have hr1 : h1 r = none := incFresh ow.inc hr
    have inc2 : Lift.Inc h (h1.put r (.cells 45 4 [.int .i64 es[i].a, .int .i64 es[i].b, .list 1 (strL es[i].del), .list 1 (strL es[i].ins)])) := Inc.over inc (incFresh inc hr1) _
    have gr : (H.put r (.cells 45 4 [.int .i64 es[i].a, .int .i64 es[i].b, .list 1 (strL es[i].del), .list 1 (strL es[i].ins)])) r = some (.cells 45 4 [.int .i64 es[i].a, .int .i64 es[i].b, .list 1 (strL es[i].del), .list 1 (strL es[i].ins)]) := Heap.put_same _ _ _
    generalize H.put r (.cells 45 4 [.int .i64 es[i].a, .int .i64 es[i].b, .list 1 (strL es[i].del), .list 1 (strL es[i].ins)]) = H2 at gr ow2 ⊢
    refine SW.regionChain [eClone] [([0, 1, 2, 3, 4, 5, 6, 7, 8, 9, 10, 11, 12], 13)] [14] rfl (by rfl) (by kernel_rfl) ?_
    simp only [wpChain, wpO, LOp, List.getElem?_toArray, List.getElem?_cons_zero, okDst, Nat.reduceLT, decide_true, wantedA, ↓reduceIte, step1, isOwnCall, Bool.false_eq_true, hxOp, px, AS.eval, AS.get, Lift.look, Nat.reduceEqDiff, Option.getD_some, List.getElem?_cons_succ, AS.put, dropKey, pfieldAddr, fieldOf, ty45, fieldIn, ty3, Option.map_some, ne_eq, Nat.succ_ne_zero, not_false_eq_true, Nat.zero_add, pload, gr, okOne, TK.isAgg, beq_self_eq_true, Bool.or_true, Nat.reduceAdd, List.length_cons, List.length_nil, Nat.reduceLeDiff, and_self, Lift.valOf, List.drop_succ_cons, List.drop_zero, List.take_succ_cons, List.take_zero, List.getD_cons_zero, Nat.add_zero, ty34, Nat.le_refl, List.take_nil, Specs.hasO, Specs.hasH, pcall, okArg, ofConst, ofVal, List.all_cons, List.all_nil, Bool.and_true, Specs.at, eClone, List.map_cons, List.map_nil, sClone, unS_el, hi1, hd1, pbuild, pfill, placeOf, PV.cells, splice, List.nil_append, List.cons_append, List.drop_nil, List.append_nil, Option.isSome_some, okZero, Value.oneCell', known, pbuildSlice, ty24, List.replicate, List.flatten_cons, List.flatten_nil, Nat.reduceMul, chunk, Option.toList_some, decide_eq_true_eq, inQ, thenQ, true_and]
    refine SWO.append (.tmp 12) (.tmp 24) 24 24 rfl ty24 rfl ty45 (by decide) rfl ty24 rfl ow2 (ys := [edV (revE es[i])]) rfl (by rw [hel]; show (_ + 1) * 64 ≤ _; omega) (by rw [hel]; simp [maxLen]; omega) rfl rfl ?_
    intro v' h' ow' _ _
    refine SWO.run [] 1000 ?_
    simp only [wpS, thenQ, AS.put, dropKey, Nat.reduceEqDiff, ↓reduceIte, Nat.reduceLT, Lift.look, Option.getD_some, true_and]
    refine SW.run [] _ ?_
    simp only [wpC, Bool.false_eq_true, ↓reduceIte, wpS, stops, isFlt, ty3, wantedA, okDst, Nat.reduceLT, decide_true, step1, isOwnCall, hxOp, px, isNilC, pbinP, AS.eval, AS.get, Lift.look, Nat.reduceEqDiff, Option.getD_some, ofConst, ofVal, pbinI, hw, AS.put, dropKey, thenQ, true_and]
    exact ⟨es.length - (i + 1), by omega, i + 1, v', _, by omega, rfl, inc2, by rw [hnx]; exact ow', rfl, rfl⟩
  · have hie : i = es.length := by omega
    subst hie
    rw [List.take_length] at ow
    simp only [wpC, Bool.false_eq_true, ↓reduceIte, wpS, stops, wantedA, okDst, Nat.reduceLT, decide_true, step1, isOwnCall, hxOp, px, isNilC, pbinP, AS.eval, AS.get, Lift.look, Nat.reduceEqDiff, Option.getD_some, pbinI, Int.ofNat_lt, hlt, decide_false, thenQ, hasAll, and_true, AS.put, dropKey, true_and]
    refine SW.seq (SW.run [] _ ?_)
    simp only [wpC, isB, AS.get, Lift.look, tmpOf, ↓reduceIte, Option.getD_some, asB, Bool.false_eq_true, thenQ, inQ, true_and]
    refine SW.own_let 3 rfl ow ?_
    refine SW.run [] _ ?_
    simp only [wpC, mayStop, stops, isFlt, Specs.has, Specs.hasO, Bool.or_false, Specs.hasH, Bool.not_false, List.any_cons, List.any_nil, Bool.false_eq_true, ↓reduceIte, wpS, wantedA, okDst, AS.put, dropKey, Nat.reduceEqDiff, Nat.reduceLT, decide_true, step1, isOwnCall, hxOp, px, AS.eval, AS.get, Lift.look, Option.getD_some, thenQ, RPost, sres, Tryd.results20, sresL, sres1, Option.some.injEq, Ret_fin, exists_eq_left', true_and]
    exact Inc.to inc
def sReverse (es : List Ed) : List PV → Prop × PV
  | [.list 4 xs] => (xs = edL es ∧ (∀ e ∈ es, e.small) ∧ es.length ≤ 1000000, .list 4 (edL (es.map revE)))
  | _ => PBad
noncomputable def eReverse (es : List Ed) : SpecE env := ⟨20, sReverse es, fun args h hc => by
  unfold sReverse at hc ⊢
  split at hc
  · obtain ⟨rfl, h1, h2⟩ := hc
    exact .inl (Reverse_ok es h1 h2 h)
  · exact hc.elim⟩
end Go.Proofs.YtincpomenogppaaDoor
