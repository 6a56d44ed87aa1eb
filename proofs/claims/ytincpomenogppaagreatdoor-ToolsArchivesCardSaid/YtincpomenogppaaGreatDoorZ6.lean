/- Contracts of functions that the law reaches. -/
import Derived.Test.YtincpomenogppaaGreatDoorZ5
set_option linter.unusedSimpArgs false
set_option linter.unusedVariables false
namespace Go.Proofs.YtincpomenogppaaGreatDoor
open Go Go.RowKit Go.Proofs.YtincpomenogppaaGreatDoor Go.Proofs.YtincpomenogppaaGreatDoor.Lift
set_option maxRecDepth 100000

theorem Own.shrink {h h1 H : Heap} {e : TypeId} {sz : Nat} {xs : List (List PV)} {v : PV} (ow : Own h1 e sz xs v H) (inc : Lift.Inc h h1) : ∃ H', HTo env H H' ∧ Own h e sz xs v H' := by
  rcases ow with ⟨rfl, rfl, rfl⟩ | ⟨r, cap, rfl, a, b, c, rfl, d⟩
  · exact ⟨h, Inc.to inc, .inl ⟨rfl, rfl, rfl⟩⟩
  · refine ⟨h.put r (.cells e (cap * sz) xs.flatten), Inc.to ?_, .inr ⟨r, cap, rfl, a, b, incFresh inc c, rfl, d⟩⟩
    intro k X hk
    by_cases e1 : k = r
    · subst e1; rw [Heap.put_same] at hk ⊢; exact hk
    · rw [Heap.put_ne _ _ e1] at hk ⊢; exact inc _ _ hk
set_option maxHeartbeats 2000000 in
theorem SameR_ok (y x : Mb) (q : Nat) (h : Heap) (hq : h q = some (.cells 58 4 (mbV x))) : SCalls env 87 [.agg (mbV y), .val (.pointer (some ⟨q, 0, none⟩))] h (Ret (.bool (y.n == x.n)) h) := by
  refine SCalls.body Tryz.func87 rfl rfl (by simp [Tryz.ntmps87]) ?_
  unfold mbV at hq
  refine SW.seq (SW.run [] _ ?_)
  simp only [wpC, Bool.false_eq_true, ↓reduceIte, wpS, stops, wantedA, okDst, Tryz.ntmps87, Nat.reduceLT, decide_true, step1, known1, AS.eval, AS.get, enumA, mbV, Nat.zero_add, Lift.look, Option.getD_some, AS.put, dropKey, reduceCtorEq, Nat.reduceEqDiff, isOwnCall, hxOp, px, ofConst, ofVal, thenQ, PV.cells, List.length_cons, List.length_nil, Nat.reduceAdd, true_and]
  intro a hna
  have haq : ¬ a = q := fun e => by subst e; rw [hq] at hna; cases hna
  have hqa : ¬ q = a := fun e => haq e.symm
  have i2 : Lift.Inc h (h.put a (.cells 58 4 [.str y.n, .int .i64 y.m, .int .i64 y.t, .str y.x])) := Inc.over (incSelf h) hna _
  refine SW.run [] _ ?_
  simp only [wpC, mayStop, stops, isFlt, Specs.has, Specs.hasO, Bool.or_false, Specs.hasH, Bool.not_false, List.any_cons, List.any_nil, Bool.false_eq_true, ↓reduceIte, wpS, wantedA, okDst, Nat.reduceLT, decide_true, step1, isOwnCall, hxOp, px, pfieldAddr, fieldOf, ty58, fieldIn, List.getElem?_cons_zero, ty9, Option.map_some, AS.eval, AS.get, Lift.look, Nat.reduceEqDiff, Option.getD_some, ne_eq, Nat.succ_ne_zero, not_false_eq_true, Nat.add_zero, AS.put, dropKey, reduceCtorEq, pload, Heap.get_put, okOne, TK.isAgg, beq_self_eq_true, Bool.or_true, Nat.zero_add, List.length_cons, List.length_nil, Nat.reduceAdd, Nat.reduceLeDiff, and_self, Lift.valOf, List.drop_zero, List.take_succ_cons, List.take_zero, List.getD_cons_zero, hqa, hq, isNilC, pbinP, pbinS, thenQ, RPost, sres, Tryz.results87, sresL, sres1, Option.some.injEq, Ret_fin, exists_eq_left', true_and]
  exact Inc.to i2
set_option maxHeartbeats 2000000 in
theorem SameA_ok (y x : Mb) (q : Nat) (h : Heap) (hq : h q = some (.cells 58 4 (mbV x))) : SCalls env 35 [.agg (mbV y), .val (.pointer (some ⟨q, 0, none⟩))] h (Ret (.bool (y.n == x.n)) h) := by
  refine SCalls.body Tryz.func35 rfl rfl (by simp [Tryz.ntmps35]) ?_
  unfold mbV at hq
  refine SW.seq (SW.run [] _ ?_)
  simp only [wpC, Bool.false_eq_true, ↓reduceIte, wpS, stops, wantedA, okDst, Tryz.ntmps35, Nat.reduceLT, decide_true, step1, known1, AS.eval, AS.get, enumA, mbV, Nat.zero_add, Lift.look, Option.getD_some, AS.put, dropKey, reduceCtorEq, Nat.reduceEqDiff, isOwnCall, hxOp, px, ofConst, ofVal, thenQ, PV.cells, List.length_cons, List.length_nil, Nat.reduceAdd, true_and]
  intro a hna
  have haq : ¬ a = q := fun e => by subst e; rw [hq] at hna; cases hna
  have hqa : ¬ q = a := fun e => haq e.symm
  have i2 : Lift.Inc h (h.put a (.cells 58 4 [.str y.n, .int .i64 y.m, .int .i64 y.t, .str y.x])) := Inc.over (incSelf h) hna _
  refine SW.run [] _ ?_
  simp only [wpC, mayStop, stops, isFlt, Specs.has, Specs.hasO, Bool.or_false, Specs.hasH, Bool.not_false, List.any_cons, List.any_nil, Bool.false_eq_true, ↓reduceIte, wpS, wantedA, okDst, Nat.reduceLT, decide_true, step1, isOwnCall, hxOp, px, pfieldAddr, fieldOf, ty58, fieldIn, List.getElem?_cons_zero, ty9, Option.map_some, AS.eval, AS.get, Lift.look, Nat.reduceEqDiff, Option.getD_some, ne_eq, Nat.succ_ne_zero, not_false_eq_true, Nat.add_zero, AS.put, dropKey, reduceCtorEq, pload, Heap.get_put, okOne, TK.isAgg, beq_self_eq_true, Bool.or_true, Nat.zero_add, List.length_cons, List.length_nil, Nat.reduceAdd, Nat.reduceLeDiff, and_self, Lift.valOf, List.drop_zero, List.take_succ_cons, List.take_zero, List.getD_cons_zero, hqa, hq, isNilC, pbinP, pbinS, thenQ, RPost, sres, Tryz.results35, sresL, sres1, Option.some.injEq, Ret_fin, exists_eq_left', true_and]
  exact Inc.to i2
def idxN (es : List Mb) (x : Mb) : Int := if hasN es x then ((es.findIdx (fun y => y.n == x.n) : Nat) : Int) else -1
set_option maxHeartbeats 4000000 in
theorem IdxG_ok (es : List Mb) (x : Mb) (q g : Nat) (hl : es.length ≤ 1000000) (h : Heap) (hg0 : ∀ y H, Lift.Inc h H → SCalls env g [.agg (mbV y), .val (.pointer (some ⟨q, 0, none⟩))] H (Ret (.bool (y.n == x.n)) H)) {z : Int} (hz : z = idxN es x) : SCalls env 34 [.list 4 (mbL es), .val (.func (.func g) #[] #[.pointer (some ⟨q, 0, none⟩)])] h (Ret (.int .i64 z) h) := by
  unfold idxN at hz
  refine SCalls.body Tryz.func34 rfl rfl (by simp [Tryz.ntmps34]) ?_
  refine SW.seq (SW.run [] _ ?_)
  simp only [wpC, Bool.false_eq_true, ↓reduceIte, wpS, stops, wantedA, okDst, Tryz.ntmps34, Nat.reduceLT, decide_true, step1, isOwnCall, hxOp, px, AS.eval, ofConst, ofVal, thenQ, AS.put, enumA, Nat.zero_add, dropKey, reduceCtorEq, Nat.reduceEqDiff, true_and]
  refine SW.seq (SW.seq (SW.run [] _ ?_))
  simp only [wpC, Bool.false_eq_true, ↓reduceIte, wpS, stops, wantedA, okDst, Nat.reduceLT, decide_true, step1, isOwnCall, hxOp, px, AS.eval, AS.get, Lift.look, Nat.succ_ne_zero, Option.getD_some, AS.put, dropKey, Nat.reduceEqDiff, reduceCtorEq, pcall, ty52, plen, mbL_len, okLen, and_self, ofConst, ofVal, thenQ, true_and]
  refine SW.block (SW.loop (fun bb st => ∃ i : Nat, i ≤ es.length ∧ es.length - i = bb ∧ hasN (es.take i) x = false ∧ Lift.Inc h st.h ∧ st.n = 19 ∧ hasAll st [(0, .list 4 (mbL es)), (1, .val (.func (.func g) #[] #[.pointer (some ⟨q, 0, none⟩)])), (6, .list 4 (mbL es)), (7, .int .i64 (es.length : Nat)), (8, .int .i64 (i : Nat))]) es.length ⟨0, Nat.zero_le _, rfl, rfl, incSelf h, rfl, ?_⟩ ?_)
  · simp only [hasAll, AS.get, Lift.look, Nat.succ_ne_zero, ↓reduceIte, Option.getD_some, Nat.reduceEqDiff, reduceCtorEq, Int.cast_ofNat_Int, and_self]
  rintro bb st ⟨i, hi, hbb, htk, inc, hn, hs'⟩
  refine SW.norm ⟨hn, rfl, hs'⟩ ?_
  generalize st.h = H at inc
  clear hn hs'
  refine SW.seq (SW.run [] _ ?_)
  by_cases hlt : i < es.length
  · have hw : IntKind.i64.wrap ((i : Int) + 1) = ((i + 1 : Nat) : Int) := by rw [w64 (by omega) (by omega)]; rfl
    have hg := mbL_at hlt
    simp only [wpC, Bool.false_eq_true, ↓reduceIte, wpS, stops, wantedA, okDst, Nat.reduceLT, decide_true, step1, isOwnCall, hxOp, px, isNilC, pbinP, AS.eval, AS.get, Lift.look, reduceCtorEq, Nat.reduceEqDiff, Option.getD_some, pbinI, Int.ofNat_lt, hlt, thenQ, hasAll, and_true, AS.put, dropKey, true_and]
    refine SW.seq (SW.run [] _ ?_)
    simp only [wpC, isB, AS.get, Lift.look, tmpOf, ↓reduceIte, Option.getD_some, asB, thenQ, true_and]
    refine SW.seq (SW.block (SW.seq (SW.run [] _ ?_)))
    simp only [wpC, Bool.false_eq_true, ↓reduceIte, wpS, stops, wantedA, okDst, Nat.reduceLT, decide_true, step1, isOwnCall, hxOp, px, AS.eval, AS.get, Lift.look, Nat.reduceEqDiff, reduceCtorEq, Option.getD_some, AS.put, dropKey, thenQ, true_and]
    refine SW.seq (SW.run [] _ ?_)
    simp only [wpC, Bool.false_eq_true, ↓reduceIte, wpS, stops, wantedA, okDst, Nat.reduceLT, decide_true, step1, isOwnCall, hxOp, px, AS.eval, AS.get, Lift.look, Nat.reduceEqDiff, reduceCtorEq, Option.getD_some, AS.put, dropKey, Nat.succ_ne_zero, pindexAddr, ty52, ty58, ne_eq, not_false_eq_true, Int.natCast_nonneg, Int.toNat_natCast, mbL_len, hlt, and_self, hg, mbV, pload, okOne, TK.isAgg, Nat.reduceBEq, Bool.or_false, List.length_cons, List.length_nil, Nat.zero_add, Nat.reduceAdd, Nat.le_refl, Lift.valOf, List.take_succ_cons, List.take_nil, true_and]
    refine SWO.call (.tmp 11) #[.tmp 15] _ g #[] #[.pointer (some ⟨q, 0, none⟩)] rfl rfl rfl rfl rfl rfl (hg0 es[i] H inc) rfl rfl ?_ (fun c h' hc => by cases hc.1)
    rintro p' h' ⟨hp', rfl⟩
    injection hp' with hp'
    subst hp'
    refine SWO.run [] 1000 ?_
    cases heq : (es[i].n == x.n)
    · simp only [wpS, thenQ, AS.put, dropKey, Nat.reduceEqDiff, ↓reduceIte, reduceCtorEq]
      refine SW.run [] _ ?_
      simp only [wpC, isB, AS.get, Lift.look, tmpOf, ↓reduceIte, Option.getD_some, asB, Bool.false_eq_true, inQ, thenQ, true_and]
      refine SW.run [] _ ?_
      simp only [wpC, Bool.false_eq_true, ↓reduceIte, wpS, stops, isFlt, ty3, wantedA, okDst, Nat.reduceLT, decide_true, step1, isOwnCall, hxOp, px, isNilC, pbinP, AS.eval, AS.get, Lift.look, Nat.reduceEqDiff, reduceCtorEq, Option.getD_some, ofConst, ofVal, pbinI, hw, AS.put, dropKey, thenQ, Nat.succ_ne_zero, true_and]
      refine ⟨es.length - (i + 1), by omega, i + 1, by omega, rfl, ?_, inc, rfl⟩
      unfold hasN at htk ⊢
      rw [List.take_succ_eq_append_getElem hlt, List.any_append, htk]
      simpa using heq
    · have h1 : hasN es x = true := by unfold hasN; rw [List.any_eq_true]; exact ⟨_, List.getElem_mem hlt, heq⟩
      have h2 : es.findIdx (fun y => y.n == x.n) = i := by
        rw [List.findIdx_eq hlt]
        refine ⟨heq, fun j hj => ?_⟩
        unfold hasN at htk
        rw [List.any_eq_false] at htk
        have hj2 : j < (es.take i).length := by rw [List.length_take]; omega
        have := htk _ (List.getElem_mem hj2)
        rw [List.getElem_take] at this
        simpa using this
      rw [h1, if_pos rfl, h2] at hz
      simp only [wpS, thenQ, AS.put, dropKey, Nat.reduceEqDiff, ↓reduceIte, reduceCtorEq]
      refine SW.run [] _ ?_
      simp only [wpC, isB, AS.get, Lift.look, tmpOf, ↓reduceIte, Option.getD_some, asB, mayStop, stops, isFlt, Specs.has, Specs.hasO, Bool.or_false, Specs.hasH, Bool.not_false, List.any_cons, List.any_nil, Bool.false_eq_true, wpS, wantedA, okDst, Nat.reduceLT, decide_true, step1, isOwnCall, hxOp, px, AS.eval, Nat.reduceEqDiff, AS.put, dropKey, reduceCtorEq, thenQ, inQ, RPost, sres, Tryz.results34, sresL, sres1, Option.some.injEq, hz, Ret_fin, exists_eq_left', true_and]
      exact Inc.to inc
  · have h1 : hasN es x = false := by
      rw [List.take_of_length_le (by omega)] at htk
      exact htk
    rw [h1] at hz
    have hz : z = -1 := hz
    simp only [wpC, Bool.false_eq_true, ↓reduceIte, wpS, stops, wantedA, okDst, Nat.reduceLT, decide_true, step1, isOwnCall, hxOp, px, isNilC, pbinP, AS.eval, AS.get, Lift.look, reduceCtorEq, Nat.reduceEqDiff, Option.getD_some, pbinI, Int.ofNat_lt, hlt, decide_false, thenQ, hasAll, and_true, AS.put, dropKey, true_and]
    refine SW.seq (SW.run [] _ ?_)
    simp only [wpC, isB, AS.get, Lift.look, tmpOf, ↓reduceIte, Option.getD_some, asB, Bool.false_eq_true, thenQ, inQ, true_and]
    refine SW.run [] _ ?_
    simp only [wpC, mayStop, stops, isFlt, Specs.has, Specs.hasO, Bool.or_false, Specs.hasH, Bool.not_false, List.any_cons, List.any_nil, Bool.false_eq_true, ↓reduceIte, wpS, wantedA, okDst, Nat.reduceLT, decide_true, step1, isOwnCall, hxOp, px, AS.eval, ofConst, ofVal, thenQ, RPost, sres, AS.put, dropKey, Nat.reduceEqDiff, reduceCtorEq, Tryz.results34, sresL, sres1, AS.get, Lift.look, Option.getD_some, Option.some.injEq, hz, Ret_fin, exists_eq_left', true_and]
    exact Inc.to inc
set_option maxHeartbeats 4000000 in
theorem IdxRaw_ok (es : List Mb) (x : Mb) (q g : Nat) {r0 N0 cap : Nat} (hl : es.length ≤ 1000000) (h : Heap) (h0 : h r0 = some (.cells 58 (cap * 4) (mbL es).flatten)) (hg0 : ∀ y H, Lift.Inc h H → SCalls env g [.agg (mbV y), .val (.pointer (some ⟨q, 0, none⟩))] H (Ret (.bool (y.n == x.n)) H)) {z : Int} (hz : z = idxN es x) : SCalls env 34 [.val (.slice (some ⟨r0, 0, none⟩) es.length N0), .val (.func (.func g) #[] #[.pointer (some ⟨q, 0, none⟩)])] h (Ret (.int .i64 z) h) := by
  unfold idxN at hz
  refine SCalls.body Tryz.func34 rfl rfl (by simp [Tryz.ntmps34]) ?_
  refine SW.seq (SW.run [] _ ?_)
  simp only [wpC, Bool.false_eq_true, ↓reduceIte, wpS, stops, wantedA, okDst, Tryz.ntmps34, Nat.reduceLT, decide_true, step1, isOwnCall, hxOp, px, AS.eval, ofConst, ofVal, thenQ, AS.put, enumA, Nat.zero_add, dropKey, reduceCtorEq, Nat.reduceEqDiff, true_and]
  refine SW.seq (SW.seq (SW.run [] _ ?_))
  simp only [wpC, Bool.false_eq_true, ↓reduceIte, wpS, stops, wantedA, okDst, Nat.reduceLT, decide_true, step1, isOwnCall, hxOp, px, AS.eval, AS.get, Lift.look, Nat.succ_ne_zero, Option.getD_some, AS.put, dropKey, Nat.reduceEqDiff, reduceCtorEq, pcall, ty52, plen, okLen, and_self, ofConst, ofVal, thenQ, true_and]
  refine SW.block (SW.loop (fun bb st => ∃ i : Nat, i ≤ es.length ∧ es.length - i = bb ∧ hasN (es.take i) x = false ∧ Lift.Inc h st.h ∧ st.n = 19 ∧ hasAll st [(0, .val (.slice (some ⟨r0, 0, none⟩) es.length N0)), (1, .val (.func (.func g) #[] #[.pointer (some ⟨q, 0, none⟩)])), (6, .val (.slice (some ⟨r0, 0, none⟩) es.length N0)), (7, .int .i64 (es.length : Nat)), (8, .int .i64 (i : Nat))]) es.length ⟨0, Nat.zero_le _, rfl, rfl, incSelf h, rfl, ?_⟩ ?_)
  · simp only [hasAll, AS.get, Lift.look, Nat.succ_ne_zero, ↓reduceIte, Option.getD_some, Nat.reduceEqDiff, reduceCtorEq, Int.cast_ofNat_Int, and_self]
  rintro bb st ⟨i, hi, hbb, htk, inc, hn, hs'⟩
  refine SW.norm ⟨hn, rfl, hs'⟩ ?_
  generalize st.h = H at inc
  clear hn hs'
  refine SW.seq (SW.run [] _ ?_)
  by_cases hlt : i < es.length
  · have hw : IntKind.i64.wrap ((i : Int) + 1) = ((i + 1 : Nat) : Int) := by rw [w64 (by omega) (by omega)]; rfl
    have g0 := inc _ _ h0
    have hfl := mbL_flat_at hlt
    have hfn := mbL_flat_len es
    have hroom : i * 4 + 4 ≤ (mbL es).flatten.length := by omega
    have hel : List.take 4 (List.drop (i * 4) (mbL es).flatten) = mbV es[i] := by rw [hfl]; rfl
    simp only [wpC, Bool.false_eq_true, ↓reduceIte, wpS, stops, wantedA, okDst, Nat.reduceLT, decide_true, step1, isOwnCall, hxOp, px, isNilC, pbinP, AS.eval, AS.get, Lift.look, reduceCtorEq, Nat.reduceEqDiff, Option.getD_some, pbinI, Int.ofNat_lt, hlt, thenQ, hasAll, and_true, AS.put, dropKey, true_and]
    refine SW.seq (SW.run [] _ ?_)
    simp only [wpC, isB, AS.get, Lift.look, tmpOf, ↓reduceIte, Option.getD_some, asB, thenQ, true_and]
    refine SW.seq (SW.block (SW.seq (SW.run [] _ ?_)))
    simp only [wpC, Bool.false_eq_true, ↓reduceIte, wpS, stops, wantedA, okDst, Nat.reduceLT, decide_true, step1, isOwnCall, hxOp, px, AS.eval, AS.get, Lift.look, Nat.reduceEqDiff, reduceCtorEq, Option.getD_some, AS.put, dropKey, thenQ, true_and]
    refine SW.seq (SW.run [] _ ?_)
    simp only [wpC, Bool.false_eq_true, ↓reduceIte, wpS, stops, wantedA, okDst, Nat.reduceLT, decide_true, step1, isOwnCall, hxOp, px, AS.eval, AS.get, Lift.look, Nat.reduceEqDiff, reduceCtorEq, Option.getD_some, AS.put, dropKey, Nat.succ_ne_zero, pindexAddr, ty52, ty58, Int.natCast_nonneg, Int.ofNat_lt, hlt, and_self, Int.toNat_natCast, Nat.zero_add, pload, g0, okOne, TK.isAgg, Nat.reduceBEq, Bool.or_false, hroom, Lift.valOf, hel, true_and]
    refine SWO.call (.tmp 11) #[.tmp 15] _ g #[] #[.pointer (some ⟨q, 0, none⟩)] rfl rfl rfl rfl rfl rfl (hg0 es[i] H inc) rfl rfl ?_ (fun c h' hc => by cases hc.1)
    rintro p' h' ⟨hp', rfl⟩
    injection hp' with hp'
    subst hp'
    refine SWO.run [] 1000 ?_
    cases heq : (es[i].n == x.n)
    · simp only [wpS, thenQ, AS.put, dropKey, Nat.reduceEqDiff, ↓reduceIte, reduceCtorEq]
      refine SW.run [] _ ?_
      simp only [wpC, isB, AS.get, Lift.look, tmpOf, ↓reduceIte, Option.getD_some, asB, Bool.false_eq_true, inQ, thenQ, true_and]
      refine SW.run [] _ ?_
      simp only [wpC, Bool.false_eq_true, ↓reduceIte, wpS, stops, isFlt, ty3, wantedA, okDst, Nat.reduceLT, decide_true, step1, isOwnCall, hxOp, px, isNilC, pbinP, AS.eval, AS.get, Lift.look, Nat.reduceEqDiff, reduceCtorEq, Option.getD_some, ofConst, ofVal, pbinI, hw, AS.put, dropKey, thenQ, Nat.succ_ne_zero, true_and]
      refine ⟨es.length - (i + 1), by omega, i + 1, by omega, rfl, ?_, inc, rfl⟩
      unfold hasN at htk ⊢
      rw [List.take_succ_eq_append_getElem hlt, List.any_append, htk]
      simpa using heq
    · have h1 : hasN es x = true := by unfold hasN; rw [List.any_eq_true]; exact ⟨_, List.getElem_mem hlt, heq⟩
      have h2 : es.findIdx (fun y => y.n == x.n) = i := by
        rw [List.findIdx_eq hlt]
        refine ⟨heq, fun j hj => ?_⟩
        unfold hasN at htk
        rw [List.any_eq_false] at htk
        have hj2 : j < (es.take i).length := by rw [List.length_take]; omega
        have := htk _ (List.getElem_mem hj2)
        rw [List.getElem_take] at this
        simpa using this
      rw [h1, if_pos rfl, h2] at hz
      simp only [wpS, thenQ, AS.put, dropKey, Nat.reduceEqDiff, ↓reduceIte, reduceCtorEq]
      refine SW.run [] _ ?_
      simp only [wpC, isB, AS.get, Lift.look, tmpOf, ↓reduceIte, Option.getD_some, asB, mayStop, stops, isFlt, Specs.has, Specs.hasO, Bool.or_false, Specs.hasH, Bool.not_false, List.any_cons, List.any_nil, Bool.false_eq_true, wpS, wantedA, okDst, Nat.reduceLT, decide_true, step1, isOwnCall, hxOp, px, AS.eval, Nat.reduceEqDiff, AS.put, dropKey, reduceCtorEq, thenQ, inQ, RPost, sres, Tryz.results34, sresL, sres1, Option.some.injEq, hz, Ret_fin, exists_eq_left', true_and]
      exact Inc.to inc
  · have h1 : hasN es x = false := by
      rw [List.take_of_length_le (by omega)] at htk
      exact htk
    rw [h1] at hz
    have hz : z = -1 := hz
    simp only [wpC, Bool.false_eq_true, ↓reduceIte, wpS, stops, wantedA, okDst, Nat.reduceLT, decide_true, step1, isOwnCall, hxOp, px, isNilC, pbinP, AS.eval, AS.get, Lift.look, reduceCtorEq, Nat.reduceEqDiff, Option.getD_some, pbinI, Int.ofNat_lt, hlt, decide_false, thenQ, hasAll, and_true, AS.put, dropKey, true_and]
    refine SW.seq (SW.run [] _ ?_)
    simp only [wpC, isB, AS.get, Lift.look, tmpOf, ↓reduceIte, Option.getD_some, asB, Bool.false_eq_true, thenQ, inQ, true_and]
    refine SW.run [] _ ?_
    simp only [wpC, mayStop, stops, isFlt, Specs.has, Specs.hasO, Bool.or_false, Specs.hasH, Bool.not_false, List.any_cons, List.any_nil, Bool.false_eq_true, ↓reduceIte, wpS, wantedA, okDst, Nat.reduceLT, decide_true, step1, isOwnCall, hxOp, px, AS.eval, ofConst, ofVal, thenQ, RPost, sres, AS.put, dropKey, Nat.reduceEqDiff, reduceCtorEq, Tryz.results34, sresL, sres1, AS.get, Lift.look, Option.getD_some, Option.some.injEq, hz, Ret_fin, exists_eq_left', true_and]
    exact Inc.to inc
theorem CloneM_ok (l : List Mb) (h : Heap) (hx : l.length ≤ 1000000000) : SCalls env 86 [.list 4 (mbL l)] h (fun e h' => ∃ u, e = .ret u ∧ Own h 58 4 (mbL l) u h') := by
  refine SCalls.body Tryz.func86 rfl rfl (by simp [Tryz.ntmps86]) ?_
  refine SW.seq (SW.run [] _ ?_)
  simp only [wpC, Bool.false_eq_true, ↓reduceIte, wpS, stops, wantedA, okDst, Tryz.ntmps86, Nat.reduceLT, decide_true, step1, isOwnCall, hxOp, px, AS.eval, ofConst, ofVal, thenQ, AS.put, enumA, dropKey, reduceCtorEq, true_and]
  refine SW.seq (SW.seq (SW.region ?_))
  refine SWO.run [] 1 ?_
  simp only [wpS, stops, Bool.false_eq_true, ↓reduceIte, wantedA, okDst, Nat.reduceLT, decide_true, step1, isOwnCall, hxOp, px, AS.eval, AS.get, Lift.look, Nat.succ_ne_zero, Option.getD_some, AS.put, dropKey, Nat.reduceEqDiff, reduceCtorEq, true_and]
  refine SWO.nilSplit 3 rfl (by decide) (fun hn c => ?_) (fun ad c => ?_)
  · refine SWO.run [] 1000 ?_
    simp only [wpS, stops, Bool.false_eq_true, ↓reduceIte, wantedA, okDst, AS.put, dropKey, Nat.reduceEqDiff, reduceCtorEq, Nat.reduceLT, decide_true, step1, isOwnCall, hxOp, px, isNilC, pbinP, AS.eval, AS.get, Lift.look, Option.getD_some, pflt, peq, ty52, peqK, ofConst, ofVal, Option.isNone_none, thenQ, true_and]
    refine SW.run [] _ ?_
    simp only [wpC, isB, AS.get, Lift.look, tmpOf, ↓reduceIte, Option.getD_some, asB, mayStop, stops, isFlt, Specs.has, Specs.hasO, Bool.or_false, Specs.hasH, Bool.not_false, List.any_cons, List.any_nil, Bool.false_eq_true, wpS, wantedA, okDst, Nat.reduceLT, decide_true, step1, isOwnCall, hxOp, px, AS.eval, ofConst, ofVal, thenQ, RPost, sres, AS.put, dropKey, Nat.reduceEqDiff, reduceCtorEq, Tryz.results86, sresL, sres1, Option.some.injEq, exists_eq_left', true_and]
    exact ⟨h, .refl _ _, _, rfl, .inl ⟨rfl, hn, rfl⟩⟩
  · refine SWO.run [] 1000 ?_
    simp only [wpS, stops, Bool.false_eq_true, ↓reduceIte, wantedA, okDst, AS.put, dropKey, Nat.reduceEqDiff, reduceCtorEq, Nat.reduceLT, decide_true, step1, isOwnCall, hxOp, px, isNilC, pbinP, AS.eval, AS.get, Lift.look, Option.getD_some, pflt, peq, ty52, peqK, ofConst, ofVal, thenQ, true_and]
    refine SW.run [] _ ?_
    simp only [wpC, isB, AS.get, Lift.look, tmpOf, ↓reduceIte, Option.getD_some, asB, Bool.false_eq_true, thenQ, true_and]
    refine SW.seq (SW.region ?_)
    refine SWO.buildOwn 52 0 #[] rfl (xs := mbL []) ty52 rfl ty58 (by decide) (by decide) rfl rfl rfl rfl (by simp [mbL]) rfl rfl rfl ?_
    intro v0 H0 own0
    have own0 : Own h 58 4 (mbL []) v0 H0 := own0
    refine SWO.run [] 1000 ?_
    simp only [wpS, stops, Bool.false_eq_true, ↓reduceIte, wantedA, okDst, AS.put, dropKey, Nat.reduceEqDiff, reduceCtorEq, Nat.reduceLT, decide_true, step1, isOwnCall, hxOp, px, AS.eval, AS.get, Lift.look, Nat.succ_ne_zero, Option.getD_some, true_and]
    refine SWO.append (.tmp 5) (.tmp 6) 52 52 rfl ty52 rfl ty58 (by decide) rfl ty52 rfl (h0 := h) (xs := mbL []) own0 (ys := mbL l) rfl (by rw [mbL_len, mbL_len]; show (0 + _) * 48 ≤ _; omega) (by rw [mbL_len, mbL_len]; show 0 + _ ≤ _; unfold maxLen; omega) rfl rfl ?_
    intro v1 H1 own1 _ _
    have own1 : Own h 58 4 (mbL l) v1 H1 := own1
    refine SWO.run [] 1000 ?_
    simp only [wpS, stops, Bool.false_eq_true, ↓reduceIte, wantedA, okDst, AS.put, dropKey, Nat.reduceEqDiff, reduceCtorEq, Nat.reduceLT, decide_true, step1, isOwnCall, hxOp, px, AS.eval, AS.get, Lift.look, Option.getD_some, thenQ, true_and]
    refine SW.run [] _ ?_
    simp only [wpC, RPost, sres, Tryz.results86, sresL, sres1, AS.get, Lift.look, ↓reduceIte, Option.getD_some]
    obtain ⟨A, cap, rfl⟩ := own1.slice
    exact ⟨_, rfl, H1, .refl _ _, _, rfl, own1⟩
end Go.Proofs.YtincpomenogppaaGreatDoor

namespace Go.Proofs.YtincpomenogppaaGreatDoor
open Go Go.RowKit Go.Proofs.YtincpomenogppaaGreatDoor Go.Proofs.YtincpomenogppaaGreatDoor.Lift
set_option maxRecDepth 100000

theorem eqkM : eqKinds env 58 = some [.str, .int .i64, .int .i64, .str] := by kernel_rfl
theorem eqCellsM (x y : Mb) : eqCells (mbV x) (mbV y) = (x == y) := by
  cases x; cases y
  unfold mbV
  simp only [eqCells]
  rw [Bool.eq_iff_iff]
  simp
theorem mbV_len (x : Mb) : (mbV x).length = 4 := rfl
theorem mbV_take (x : Mb) : List.take 4 (mbV x) = mbV x := rfl
theorem fitsM (x : Mb) : fits [.str, .int .i64, .int .i64, .str] (mbV x) = true := rfl
set_option maxHeartbeats 1000000 in
theorem EqualM_ok (a b : List Mb) (h : Heap) (hl : a.length ≤ 1000000000) : SCalls env 32 [.list 4 (mbL a), .list 4 (mbL b)] h (Ret (.bool (a == b)) h) := by
  refine SCalls.body Tryz.func32 rfl rfl (by simp [Tryz.ntmps32]) ?_
  refine SW.seq (SW.run [] _ ?_)
  simp only [wpC, Bool.false_eq_true, ↓reduceIte, wpS, stops, wantedA, okDst, Tryz.ntmps32, Nat.reduceLT, decide_true, step1, isOwnCall, hxOp, px, AS.eval, ofConst, ofVal, thenQ, AS.put, enumA, Nat.zero_add, dropKey, reduceCtorEq, Nat.reduceEqDiff, true_and]
  refine SW.seq (SW.run [] _ ?_)
  cases el : (((a.length : Nat) : Int) != ((b.length : Nat) : Int))
  case true =>
    have hne : (a == b) = false := by
      rw [beq_eq_false_iff_ne]
      rintro rfl
      simp at el
    simp only [wpC, mayStop, stops, isFlt, Specs.has, Specs.hasO, Bool.or_false, Specs.hasH, Bool.not_false, List.any_cons, List.any_nil, Bool.false_eq_true, ↓reduceIte, wpS, wantedA, okDst, Nat.reduceLT, decide_true, step1, isOwnCall, hxOp, px, AS.eval, AS.get, Lift.look, Nat.succ_ne_zero, Option.getD_some, AS.put, dropKey, Nat.reduceEqDiff, reduceCtorEq, pcall, ty52, plen, mbL_len, okLen, and_self, isNilC, pbinP, pbinI, el, thenQ, isB, tmpOf, asB, ofConst, ofVal, RPost, sres, Tryz.results32, sresL, sres1, Option.some.injEq, hne, Ret_fin, HTo_self, and_true, exists_eq_left']
  have hlen : a.length = b.length := by simp at el; omega
  simp only [wpC, mayStop, stops, isFlt, Specs.has, Specs.hasO, Bool.or_false, Specs.hasH, Bool.not_false, List.any_cons, List.any_nil, Bool.false_eq_true, ↓reduceIte, wpS, wantedA, okDst, Nat.reduceLT, decide_true, step1, isOwnCall, hxOp, px, AS.eval, AS.get, Lift.look, Nat.succ_ne_zero, Option.getD_some, AS.put, dropKey, Nat.reduceEqDiff, reduceCtorEq, pcall, ty52, plen, mbL_len, okLen, and_self, isNilC, pbinP, pbinI, el, thenQ, isB, tmpOf, asB, true_and]
  refine SW.seq (SW.seq (SW.run [] _ ?_))
  simp only [wpC, Bool.false_eq_true, ↓reduceIte, wpS, stops, wantedA, okDst, Nat.reduceLT, decide_true, step1, isOwnCall, hxOp, px, AS.eval, AS.get, Lift.look, Nat.succ_ne_zero, Option.getD_some, AS.put, dropKey, Nat.reduceEqDiff, reduceCtorEq, pcall, ty52, plen, mbL_len, okLen, and_self, ofConst, ofVal, thenQ, true_and]
  refine SW.block (SW.loopK 26 (fun i : Nat => [(0, .list 4 (mbL a)), (1, .list 4 (mbL b)), (12, .int .i64 (a.length : Nat)), (13, .int .i64 (i : Nat))]) (fun _ => h) (fun i => i ≤ a.length ∧ a.take i = b.take i) (fun i => a.length - i) 0 ⟨Nat.zero_le _, rfl⟩ ?_ ?_)
  · simp only [Has, hasAll, AS.get, Lift.look, Nat.succ_ne_zero, ↓reduceIte, Option.getD_some, Nat.reduceEqDiff, reduceCtorEq, Int.cast_ofNat_Int, and_self]
  rintro i ⟨hi, hno⟩
  refine SW.seq (SW.run [] _ ?_)
  by_cases hlt : i < a.length
  · have hw : IntKind.i64.wrap ((i : Int) + 1) = ((i + 1 : Nat) : Int) := by rw [w64 (by omega) (by omega)]; rfl
    have hlb : i < b.length := by omega
    have hg := mbL_at hlt
    have hgb := mbL_at hlb
    simp only [wpC, Bool.false_eq_true, ↓reduceIte, wpS, stops, wantedA, okDst, Nat.reduceLT, decide_true, step1, isOwnCall, hxOp, px, isNilC, pbinP, AS.eval, AS.get, Lift.look, reduceCtorEq, Nat.reduceEqDiff, Option.getD_some, pbinI, Int.ofNat_lt, hlt, thenQ, Has, hasAll, and_true, AS.put, dropKey, true_and]
    refine SW.seq (SW.run [] _ ?_)
    simp only [wpC, isB, AS.get, Lift.look, tmpOf, ↓reduceIte, Option.getD_some, asB, thenQ, true_and]
    refine SW.seq (SW.block (SW.seq (SW.run [] _ ?_)))
    simp only [wpC, Bool.false_eq_true, ↓reduceIte, wpS, stops, wantedA, okDst, Nat.reduceLT, decide_true, step1, isOwnCall, hxOp, px, AS.eval, AS.get, Lift.look, Nat.reduceEqDiff, reduceCtorEq, Option.getD_some, AS.put, dropKey, thenQ, true_and]
    refine SW.seq (SW.regionAny [] [[0, 1, 2, 3, 4, 5, 6, 7, 8]] rfl (by rfl) (by kernel_rfl) ?_)
    simp only [wpOL, wpO, LOp, List.getElem?_toArray, List.getElem?_cons_zero, okDst, Nat.reduceLT, decide_true, wantedA, ↓reduceIte, step1, isOwnCall, Bool.false_eq_true, hxOp, px, AS.eval, AS.get, Lift.look, Nat.succ_ne_zero, Option.getD_some, List.getElem?_cons_succ, AS.put, dropKey, Nat.reduceEqDiff, reduceCtorEq, pindexAddr, ty52, ty58, ne_eq, not_false_eq_true, Int.natCast_nonneg, Int.toNat_natCast, mbL_len, hlt, and_self, hg, pload, okOne, TK.isAgg, Nat.reduceBEq, Bool.or_false, mbV_len, Nat.le_refl, Lift.valOf, mbV_take, hlb, hgb, isNilC, pbinP, pflt, peq, eqkM, fitsM, eqCellsM, thenQ, true_and]
    cases e : (a[i] == b[i])
    · refine SW.run [] _ ?_
      have hne : (a == b) = false := by
        rw [beq_eq_false_iff_ne]
        rintro rfl
        simp at e
      simp only [wpC, isB, AS.get, Lift.look, tmpOf, ↓reduceIte, Bool.not_false, Option.getD_some, asB, mayStop, stops, isFlt, Specs.has, Specs.hasO, Bool.or_false, Specs.hasH, List.any_cons, List.any_nil, Bool.false_eq_true, wpS, wantedA, okDst, Nat.reduceLT, decide_true, step1, isOwnCall, hxOp, px, AS.eval, ofConst, ofVal, thenQ, inQ, RPost, sres, AS.put, dropKey, Nat.reduceEqDiff, reduceCtorEq, Tryz.results32, sresL, sres1, Option.some.injEq, hne, Ret_fin, HTo_self, and_true, exists_eq_left', and_self]
    · refine SW.run [] _ ?_
      simp only [wpC, isB, AS.get, Lift.look, tmpOf, ↓reduceIte, Bool.not_true, Option.getD_some, asB, Bool.false_eq_true, inQ, thenQ, true_and]
      refine SW.run [] _ ?_
      simp only [wpC, Bool.false_eq_true, ↓reduceIte, wpS, stops, isFlt, ty3, wantedA, okDst, Nat.reduceLT, decide_true, step1, isOwnCall, hxOp, px, isNilC, pbinP, AS.eval, AS.get, Lift.look, Nat.reduceEqDiff, reduceCtorEq, Option.getD_some, ofConst, ofVal, pbinI, hw, AS.put, dropKey, thenQ, Nat.succ_ne_zero, true_and]
      refine ⟨i + 1, ⟨hlt, ?_⟩, by omega, rfl⟩
      have e : a[i] = b[i] := by simpa using e
      rw [List.take_succ_eq_append_getElem hlt, List.take_succ_eq_append_getElem hlb, hno, e]
  · have he : a = b := by
      rw [List.take_of_length_le (by omega), List.take_of_length_le (by omega)] at hno
      exact hno
    simp only [wpC, Bool.false_eq_true, ↓reduceIte, wpS, stops, wantedA, okDst, Nat.reduceLT, decide_true, step1, isOwnCall, hxOp, px, isNilC, pbinP, AS.eval, AS.get, Lift.look, reduceCtorEq, Nat.reduceEqDiff, Option.getD_some, pbinI, Int.ofNat_lt, hlt, decide_false, thenQ, Has, hasAll, and_true, AS.put, dropKey, true_and]
    refine SW.seq (SW.run [] _ ?_)
    simp only [wpC, isB, AS.get, Lift.look, tmpOf, ↓reduceIte, Option.getD_some, asB, Bool.false_eq_true, thenQ, inQ, true_and]
    refine SW.run [] _ ?_
    simp only [wpC, mayStop, stops, isFlt, Specs.has, Specs.hasO, Bool.or_false, Specs.hasH, Bool.not_false, List.any_cons, List.any_nil, Bool.false_eq_true, ↓reduceIte, wpS, wantedA, okDst, Nat.reduceLT, decide_true, step1, isOwnCall, hxOp, px, AS.eval, ofConst, ofVal, thenQ, RPost, sres, AS.put, dropKey, Nat.reduceEqDiff, reduceCtorEq, Tryz.results32, sresL, sres1, AS.get, Lift.look, Option.getD_some, Option.some.injEq, Ret_fin, HTo_self, and_true, exists_eq_left', true_and]
    rw [he]
    simp
def sEqualM : List PV → Prop × PV
  | [.list 4 xs, .list 4 ys] => match unM xs, unM ys with
    | some a, some b => (a.length ≤ 1000000000, .bool (a == b))
    | _, _ => PBad
  | _ => PBad
noncomputable def eEqualM : SpecE env := ⟨32, sEqualM, fun args h hc => by
  unfold sEqualM at hc ⊢
  split at hc
  · split at hc
    · rename_i a b ha hb; rw [unM_spec ha, unM_spec hb]; exact .inl (EqualM_ok a b h hc)
    · exact hc.elim
  · exact hc.elim⟩
set_option maxHeartbeats 4000000 in
theorem MembersO_ok (es : List Mb) (hl : es.length ≤ 1000000) (h : Heap) : SCalls env 29 [.list 4 (mbL es)] h (fun e h' => ∃ u, e = .ret u ∧ Own h 58 4 (mbL es) u h') := by
  refine SCalls.body Tryz.func29 rfl rfl (by simp [Tryz.ntmps29]) ?_
  refine SW.seq (SW.run [] _ ?_)
  simp only [wpC, Bool.false_eq_true, ↓reduceIte, wpS, stops, wantedA, okDst, Tryz.ntmps29, Nat.reduceLT, decide_true, step1, isOwnCall, hxOp, px, AS.eval, ofConst, ofVal, thenQ, AS.put, enumA, dropKey, reduceCtorEq, true_and]
  refine SW.seq (SW.run [] _ ?_)
  simp only [wpC, Bool.false_eq_true, ↓reduceIte, wpS, stops, wantedA, okDst, Nat.reduceLT, decide_true, step1, isOwnCall, hxOp, px, AS.eval, ofConst, ofVal, thenQ, AS.put, dropKey, Nat.reduceEqDiff, reduceCtorEq, true_and]
  refine SW.seq (SW.seq (SW.run [] _ ?_))
  simp only [wpC, Bool.false_eq_true, ↓reduceIte, wpS, stops, wantedA, okDst, Nat.reduceLT, decide_true, step1, isOwnCall, hxOp, px, AS.eval, AS.get, Lift.look, Nat.succ_ne_zero, Option.getD_some, AS.put, dropKey, Nat.reduceEqDiff, reduceCtorEq, pcall, ty48, plen, mbL_len, okLen, and_self, ofConst, ofVal, thenQ, true_and]
  refine SW.block (SW.loop (fun bb st => ∃ (i : Nat) (v : PV) (h1 : Heap), i ≤ es.length ∧ es.length - i = bb ∧ Lift.Inc h h1 ∧ Own h1 58 4 (mbL (es.take i)) v st.h ∧ st.n = 18 ∧ hasAll st [(3, v), (6, .list 4 (mbL es)), (7, .int .i64 (es.length : Nat)), (8, .int .i64 (i : Nat))]) es.length ⟨0, .val (.slice none 0 0), h, Nat.zero_le _, rfl, incSelf h, Own.nil _ _ _, rfl, ?_⟩ ?_)
  · simp only [hasAll, AS.get, Lift.look, Nat.reduceEqDiff, ↓reduceIte, Option.getD_some, Int.cast_ofNat_Int, and_self]
  rintro bb st ⟨i, v, h1, hi, hbb, inc, ow, hn, hs'⟩
  refine SW.norm ⟨hn, rfl, hs'⟩ ?_
  generalize st.h = H at ow
  clear hn hs'
  refine SW.seq (SW.run [] _ ?_)
  by_cases hlt : i < es.length
  · have hw : IntKind.i64.wrap ((i : Int) + 1) = ((i + 1 : Nat) : Int) := by rw [w64 (by omega) (by omega)]; rfl
    have hg := mbL_at hlt
    have hel : (mbL (es.take i)).length = i := by rw [mbL_len, List.length_take]; omega
    have hnx : mbL (es.take (i + 1)) = mbL (es.take i) ++ [mbV es[i]] := by rw [List.take_succ_eq_append_getElem hlt, mbL_append]; rfl
    simp only [wpC, Bool.false_eq_true, ↓reduceIte, wpS, stops, wantedA, okDst, Nat.reduceLT, decide_true, step1, isOwnCall, hxOp, px, isNilC, pbinP, AS.eval, AS.get, Lift.look, Nat.reduceEqDiff, Option.getD_some, pbinI, Int.ofNat_lt, hlt, thenQ, hasAll, and_true, AS.put, dropKey, true_and]
    refine SW.seq (SW.run [] _ ?_)
    simp only [wpC, isB, AS.get, Lift.look, tmpOf, ↓reduceIte, Option.getD_some, asB, thenQ, true_and]
    refine SW.seq (SW.block (SW.seq (SW.run [] _ ?_)))
    simp only [wpC, Bool.false_eq_true, ↓reduceIte, wpS, stops, wantedA, okDst, Nat.reduceLT, decide_true, step1, isOwnCall, hxOp, px, pindexAddr, ty48, ty50, AS.eval, AS.get, Lift.look, Nat.reduceEqDiff, Option.getD_some, ne_eq, Nat.succ_ne_zero, not_false_eq_true, Int.natCast_nonneg, Int.toNat_natCast, mbL_len, hlt, and_self, hg, mbV, AS.put, dropKey, pload, okOne, TK.isAgg, Nat.reduceBEq, Bool.or_false, List.length_cons, List.length_nil, Nat.zero_add, Nat.reduceAdd, Nat.le_refl, Lift.valOf, List.take_succ_cons, List.take_nil, okAlloc, okZero, List.all_cons, Value.oneCell', List.all_nil, Bool.and_true, hx, zeroOf, List.map_cons, ofVal, List.map_nil, Heap.get_put, known1, PV.cells, splice, List.take_zero, List.nil_append, List.drop_succ_cons, List.drop_nil, List.append_nil, thenQ, true_and]
    intro r hr
    rw [Heap.put_put]
    have ow2 := ow.putx hr (.cells 50 4 [.str es[i].n, .int .i64 es[i].m, .int .i64 es[i].t, .str es[i].x])
    have hr1 : h1 r = none := incFresh ow.inc hr
    have inc2 : Lift.Inc h (h1.put r (.cells 50 4 [.str es[i].n, .int .i64 es[i].m, .int .i64 es[i].t, .str es[i].x])) := Inc.over inc (incFresh inc hr1) _
    have gr : (H.put r (.cells 50 4 [.str es[i].n, .int .i64 es[i].m, .int .i64 es[i].t, .str es[i].x])) r = some (.cells 50 4 [.str es[i].n, .int .i64 es[i].m, .int .i64 es[i].t, .str es[i].x]) := Heap.put_same _ _ _
    generalize H.put r (.cells 50 4 [.str es[i].n, .int .i64 es[i].m, .int .i64 es[i].t, .str es[i].x]) = H2 at gr ow2 ⊢
    refine SW.run [] _ ?_
    simp only [wpC, Bool.false_eq_true, ↓reduceIte, wpS, stops, wantedA, okDst, Nat.reduceLT, decide_true, step1, isOwnCall, hxOp, px, AS.eval, AS.get, Lift.look, Nat.reduceEqDiff, Option.getD_some, AS.put, dropKey, pload, ty50, gr, okOne, TK.isAgg, Nat.reduceBEq, Bool.or_false, Nat.zero_add, List.length_cons, List.length_nil, Nat.reduceAdd, Nat.le_refl, and_self, Lift.valOf, List.drop_zero, List.take_succ_cons, List.take_nil, pbuildSlice, ty52, ty58, Nat.succ_ne_zero, List.replicate, List.map_cons, ofVal, List.map_nil, List.flatten_cons, List.flatten_nil, List.append_nil, ofConst, pfill, PV.cells, Nat.reduceMul, splice, List.take_zero, List.nil_append, List.drop_succ_cons, List.drop_nil, Nat.reduceLeDiff, okZero, List.all_cons, Value.oneCell', List.all_nil, Bool.and_true, known, chunk, true_and]
    refine SWO.append (.tmp 12) (.tmp 14) 52 52 rfl ty52 rfl ty58 (by decide) rfl ty52 rfl ow2 (ys := [mbV es[i]]) rfl (by rw [hel]; show (_ + 1) * 48 ≤ _; omega) (by rw [hel]; simp [maxLen]; omega) rfl rfl ?_
    intro v' h' ow' _ _
    refine SWO.run [] 1000 ?_
    simp only [wpS, stops, Bool.false_eq_true, ↓reduceIte, wantedA, okDst, AS.put, dropKey, Nat.reduceEqDiff, Nat.reduceLT, decide_true, step1, isOwnCall, hxOp, px, AS.eval, AS.get, Lift.look, Option.getD_some, inQ, thenQ, true_and]
    refine SW.run [] _ ?_
    simp only [wpC, Bool.false_eq_true, ↓reduceIte, wpS, stops, isFlt, ty3, wantedA, okDst, Nat.reduceLT, decide_true, step1, isOwnCall, hxOp, px, isNilC, pbinP, AS.eval, AS.get, Lift.look, Nat.reduceEqDiff, Option.getD_some, ofConst, ofVal, pbinI, hw, AS.put, dropKey, thenQ, true_and]
    exact ⟨es.length - (i + 1), by omega, i + 1, v', _, by omega, rfl, inc2, by rw [hnx]; exact ow', rfl, rfl⟩
  · have hie : i = es.length := by omega
    subst hie
    rw [List.take_length] at ow
    simp only [wpC, Bool.false_eq_true, ↓reduceIte, wpS, stops, wantedA, okDst, Nat.reduceLT, decide_true, step1, isOwnCall, hxOp, px, isNilC, pbinP, AS.eval, AS.get, Lift.look, Nat.reduceEqDiff, Option.getD_some, pbinI, Int.ofNat_lt, hlt, decide_false, thenQ, hasAll, and_true, AS.put, dropKey, true_and]
    refine SW.seq (SW.run [] _ ?_)
    simp only [wpC, isB, AS.get, Lift.look, tmpOf, ↓reduceIte, Option.getD_some, asB, Bool.false_eq_true, thenQ, inQ, true_and]
    obtain ⟨A0, N0, rfl⟩ := ow.slice
    refine SW.run [] _ ?_
    simp only [wpC, mayStop, stops, isFlt, Specs.has, Specs.hasO, Bool.or_false, Specs.hasH, Bool.not_false, List.any_cons, List.any_nil, Bool.false_eq_true, ↓reduceIte, wpS, wantedA, okDst, Nat.reduceLT, decide_true, step1, isOwnCall, hxOp, px, AS.eval, AS.get, Lift.look, Nat.reduceEqDiff, Option.getD_some, AS.put, dropKey, thenQ, RPost, sres, Tryz.results29, sresL, sres1, Option.some.injEq, exists_eq_left', true_and]
    obtain ⟨H', hH, ow'⟩ := Own.shrink ow inc
    exact ⟨H', hH, _, rfl, ow'⟩
end Go.Proofs.YtincpomenogppaaGreatDoor
