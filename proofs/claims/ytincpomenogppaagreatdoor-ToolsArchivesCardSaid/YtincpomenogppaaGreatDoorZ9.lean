/- Contracts of functions that the law reaches. -/
import Derived.Test.YtincpomenogppaaGreatDoorZ8
set_option linter.unusedSimpArgs false
set_option linter.unusedVariables false
namespace Go.Proofs.YtincpomenogppaaGreatDoor
open Go Go.RowKit Go.Proofs.YtincpomenogppaaGreatDoor Go.Proofs.YtincpomenogppaaGreatDoor.Lift
set_option maxRecDepth 100000

set_option maxHeartbeats 8000000 in
theorem RPack_ok (ms : List Mb) (hs : ∀ e ∈ ms, e.fit) (hl : ms.length ≤ 1000000) (hb : (packB ms).length ≤ 100000000000000) (h : Heap) : SCalls env 30 [.list 4 (mbL ms)] h (Ret (packR ms) h) := by
  refine SCalls.body Tryz.func30 rfl rfl (by simp [Tryz.ntmps30]) ?_
  have hmg : ([33, 97, 99, 104, 101, 114, 111, 110, 10] : List UInt8) = magicS := rfl
  refine SW.seq (SW.run [] _ ?_)
  simp only [wpC, Bool.false_eq_true, ↓reduceIte, wpS, stops, wantedA, okDst, Tryz.ntmps30, Nat.reduceLT, decide_true, step1, isOwnCall, hxOp, px, AS.eval, ofConst, ofVal, AS.put, enumA, dropKey, reduceCtorEq, thenQ, Nat.reduceEqDiff, true_and]
  refine SW.seq (SW.run [] _ ?_)
  simp only [wpC, Bool.false_eq_true, ↓reduceIte, wpS, stops, wantedA, okDst, Nat.reduceLT, decide_true, step1, isOwnCall, hxOp, px, AS.eval, ofConst, ofVal, thenQ, AS.put, dropKey, Nat.reduceEqDiff, reduceCtorEq, true_and]
  rw [hmg]
  refine SW.seq (SW.seq (SW.run [] _ ?_))
  simp only [wpC, Bool.false_eq_true, ↓reduceIte, wpS, stops, wantedA, okDst, Nat.reduceLT, decide_true, step1, isOwnCall, hxOp, px, AS.eval, ofConst, ofVal, thenQ, AS.put, dropKey, Nat.reduceEqDiff, reduceCtorEq, true_and]
  refine SW.block (SW.loop (fun bb st => ∃ i : Nat, i ≤ ms.length ∧ ms.length - i = bb ∧ packE [] ms = packE (ms.take i) (ms.drop i) ∧ Lift.Inc h st.h ∧ st.n = 73 ∧ hasAll st [(0, .list 4 (mbL ms)), (4, .str (packB (ms.take i))), (5, .int .i64 (i : Nat))]) ms.length ⟨0, Nat.zero_le _, rfl, rfl, incSelf h, rfl, ?_⟩ ?_)
  · have e0 : packB [] = magicS := by unfold packB; simp
    simp only [hasAll, AS.get, Lift.look, Nat.succ_ne_zero, ↓reduceIte, Option.getD_some, Nat.reduceEqDiff, List.take_zero, e0, Int.cast_ofNat_Int, and_self]
  rintro bb st ⟨i, hi, hbb, hpe, inc, hn, hs'⟩
  refine SW.norm ⟨hn, rfl, hs'⟩ ?_
  generalize st.h = H at inc
  clear hn hs'
  refine SW.seq (SW.run [] _ ?_)
  by_cases hlt : i < ms.length
  · have hw : IntKind.i64.wrap ((i : Int) + 1) = ((i + 1 : Nat) : Int) := by rw [w64 (by omega) (by omega)]; rfl
    have hg := mbL_at hlt
    have hlt' : (i : Int) < (ms.length : Int) := by omega
    obtain ⟨hm, ht, hnl, hxl⟩ := hs _ (List.getElem_mem hlt)
    rw [List.drop_eq_getElem_cons hlt] at hpe
    simp only [wpC, mayStop, stops, isFlt, Specs.has, Specs.hasO, Bool.or_false, Specs.hasH, Bool.not_false, List.any_cons, List.any_nil, Bool.false_eq_true, ↓reduceIte, wpS, wantedA, okDst, Nat.reduceLT, decide_true, step1, isOwnCall, hxOp, px, AS.eval, AS.get, Lift.look, reduceCtorEq, Nat.reduceEqDiff, Option.getD_some, AS.put, dropKey, Nat.succ_ne_zero, pcall, ty48, plen, mbL_len, okLen, and_self, isNilC, pbinP, pbinI, hlt', thenQ, isB, tmpOf, asB, hasAll, and_true, true_and]
    refine SW.seq (SW.block (SW.seq (SW.run [] _ ?_)))
    simp only [wpC, Bool.false_eq_true, ↓reduceIte, wpS, stops, wantedA, okDst, Nat.reduceLT, decide_true, step1, isOwnCall, hxOp, px, AS.eval, AS.get, Lift.look, Nat.succ_ne_zero, Option.getD_some, AS.put, dropKey, Nat.reduceEqDiff, reduceCtorEq, pindexAddr, ty48, ty50, ne_eq, not_false_eq_true, Int.natCast_nonneg, Int.toNat_natCast, mbL_len, hlt, and_self, hg, mbV, pload, okOne, TK.isAgg, Nat.reduceBEq, Bool.or_false, List.length_cons, List.length_nil, Nat.zero_add, Nat.reduceAdd, Nat.le_refl, Lift.valOf, List.take_succ_cons, List.take_nil, okAlloc, okZero, List.all_cons, Value.oneCell', List.all_nil, Bool.and_true, hx, zeroOf, List.map_cons, ofVal, List.map_nil, Heap.get_put, known1, PV.cells, splice, List.take_zero, List.nil_append, List.drop_succ_cons, List.drop_nil, List.append_nil, thenQ, true_and]
    intro q hq
    rw [Heap.put_put]
    have gq : (H.put q (.cells 50 4 [.str ms[i].n, .int .i64 ms[i].m, .int .i64 ms[i].t, .str ms[i].x])) q = some (.cells 50 4 [.str ms[i].n, .int .i64 ms[i].m, .int .i64 ms[i].t, .str ms[i].x]) := Heap.put_same _ _ _
    have inc1 : Lift.Inc h (H.put q (.cells 50 4 [.str ms[i].n, .int .i64 ms[i].m, .int .i64 ms[i].t, .str ms[i].x])) := Inc.over inc (incFresh inc hq) _
    generalize H.put q (.cells 50 4 [.str ms[i].n, .int .i64 ms[i].m, .int .i64 ms[i].t, .str ms[i].x]) = H1 at gq inc1 ⊢
    refine SW.enter (n := 73) (l := [(0, .list 4 (mbL ms)), (4, .str (packB (ms.take i))), (5, .int .i64 (i : Nat)), (6, .val (.pointer (some ⟨q, 0, none⟩)))]) (H := H1) rfl (.refl _ _) (by simp only [hasAll, AS.get, Lift.look, Nat.succ_ne_zero, ↓reduceIte, Option.getD_some, Nat.reduceEqDiff, reduceCtorEq, and_self]) ?_
    have hwr : wrongS (ms.take i) ms[i] (ms[i].x.length : Nat) = if namedS ms[i].n = false then 8 else if hasN (ms.take i) ms[i] = true then 5 else if ms[i].m < 0 ∨ ms[i].t < 0 then 11 else if 1048576 < ((ms[i].x.length : Nat) : Int) then 3 else 0 := rfl
    rw [packE_cons] at hpe
    have herr : ∀ w, wrongS (ms.take i) ms[i] (ms[i].x.length : Nat) = w → w ≠ 0 → packR ms = .tuple [.str [], .int .i64 w] := fun w e e0 => by
      rw [e, if_neg e0] at hpe
      unfold packR packS
      rw [if_neg (by rw [hpe]; exact e0), hpe]
    refine SW.seq (SW.run [eRName] _ ?_)
    cases hnm : namedS ms[i].n
    · have hre := herr 8 (by rw [hwr, if_pos hnm]) (by decide)
      simp only [wpC, mayStop, stops, isFlt, Specs.has, eRName, Specs.hasO, Bool.or_false, Specs.hasH, List.any_cons, ↓reduceIte, Bool.not_true, List.any_nil, Bool.false_eq_true, wpS, wantedA, okDst, Nat.reduceLT, decide_true, step1, isOwnCall, hxOp, px, pfieldAddr, fieldOf, ty50, fieldIn, List.getElem?_cons_zero, ty9, Option.map_some, AS.eval, AS.get, Lift.look, reduceCtorEq, Nat.reduceEqDiff, Option.getD_some, ne_eq, Nat.succ_ne_zero, not_false_eq_true, Nat.add_zero, AS.put, dropKey, pload, gq, okOne, TK.isAgg, beq_self_eq_true, Bool.or_true, Nat.zero_add, List.length_cons, List.length_nil, Nat.reduceAdd, Nat.reduceLeDiff, and_self, Lift.valOf, List.drop_zero, List.take_succ_cons, List.take_zero, List.getD_cons_zero, pcall, okArg, ofConst, ofVal, List.all_cons, List.all_nil, Bool.and_true, Specs.at, List.map_cons, List.map_nil, sLB, hnl, hnm, pun, Bool.not_false, thenQ, isB, tmpOf, asB, inQ, RPost, sres, Tryz.results30, sresL, sres1, Option.some.injEq, hre, Ret_fin, exists_eq_left', true_and]
      exact Inc.to inc1
    rw [if_neg (by rw [hnm]; simp)] at hwr
    simp only [wpC, mayStop, stops, isFlt, Specs.has, eRName, Specs.hasO, Bool.or_false, Specs.hasH, List.any_cons, ↓reduceIte, Bool.not_true, List.any_nil, Bool.false_eq_true, wpS, wantedA, okDst, Nat.reduceLT, decide_true, step1, isOwnCall, hxOp, px, pfieldAddr, fieldOf, ty50, fieldIn, List.getElem?_cons_zero, ty9, Option.map_some, AS.eval, AS.get, Lift.look, reduceCtorEq, Nat.reduceEqDiff, Option.getD_some, ne_eq, Nat.succ_ne_zero, not_false_eq_true, Nat.add_zero, AS.put, dropKey, pload, gq, okOne, TK.isAgg, beq_self_eq_true, Bool.or_true, Nat.zero_add, List.length_cons, List.length_nil, Nat.reduceAdd, Nat.reduceLeDiff, and_self, Lift.valOf, List.drop_zero, List.take_succ_cons, List.take_zero, List.getD_cons_zero, pcall, okArg, ofConst, ofVal, List.all_cons, List.all_nil, Bool.and_true, Specs.at, List.map_cons, List.map_nil, sLB, hnl, hnm, pun, thenQ, isB, tmpOf, asB, true_and]
    refine SW.seq (SW.seq (SW.run [] _ ?_))
    simp only [wpC, Bool.false_eq_true, ↓reduceIte, wpS, stops, wantedA, okDst, Nat.reduceLT, decide_true, step1, isOwnCall, hxOp, px, AS.eval, ofConst, ofVal, thenQ, AS.put, dropKey, Nat.reduceEqDiff, reduceCtorEq, true_and]
    refine SW.block (SW.loopK 73 (fun j : Nat => [(0, .list 4 (mbL ms)), (4, .str (packB (ms.take i))), (5, .int .i64 (i : Nat)), (6, .val (.pointer (some ⟨q, 0, none⟩))), (7, .int .i64 (j : Nat))]) (fun _ => H1) (fun j => j ≤ i ∧ hasN (ms.take j) ms[i] = false) (fun j => i - j) 0 ⟨Nat.zero_le _, rfl⟩ ?_ ?_)
    · simp only [Has, hasAll, AS.get, Lift.look, Nat.succ_ne_zero, ↓reduceIte, Option.getD_some, Nat.reduceEqDiff, reduceCtorEq, Int.cast_ofNat_Int, and_self]
    rintro j ⟨hj, hno⟩
    refine SW.seq (SW.run [] _ ?_)
    by_cases hji : j < i
    · have hji' : (j : Int) < (i : Int) := by omega
      have hjl : j < ms.length := by omega
      have hjl' : (j : Int) < (ms.length : Int) := by omega
      have hgj := mbL_at hjl
      have hwj : IntKind.i64.wrap ((j : Int) + 1) = ((j + 1 : Nat) : Int) := by rw [w64 (by omega) (by omega)]; rfl
      simp only [wpC, mayStop, stops, isFlt, Specs.has, Specs.hasO, Bool.or_false, Specs.hasH, Bool.not_false, List.any_cons, List.any_nil, Bool.false_eq_true, ↓reduceIte, wpS, wantedA, okDst, Nat.reduceLT, decide_true, step1, isOwnCall, hxOp, px, AS.eval, AS.get, Lift.look, reduceCtorEq, Nat.reduceEqDiff, Option.getD_some, AS.put, dropKey, isNilC, pbinP, pbinI, hji', thenQ, isB, tmpOf, asB, Has, hasAll, and_true, true_and]
      refine SW.seq (SW.block (SW.seq (SW.regionAny [] [[0, 1, 2, 3, 4, 5, 6, 7]] rfl (by rfl) (by kernel_rfl) ?_)))
      simp only [wpOL, wpO, LOp, List.getElem?_toArray, List.getElem?_cons_zero, okDst, Nat.reduceLT, decide_true, wantedA, ↓reduceIte, step1, isOwnCall, Bool.false_eq_true, hxOp, px, AS.eval, AS.get, Lift.look, Nat.succ_ne_zero, Option.getD_some, List.getElem?_cons_succ, AS.put, dropKey, Nat.reduceEqDiff, reduceCtorEq, pindexAddr, ty48, ty50, ne_eq, not_false_eq_true, Int.natCast_nonneg, Int.toNat_natCast, mbL_len, hjl, and_self, hgj, mbV, pfieldAddr, fieldOf, fieldIn, ty9, Option.map_some, List.drop_zero, pload, okOne, TK.isAgg, beq_self_eq_true, Bool.or_true, List.length_cons, List.length_nil, Nat.zero_add, Nat.reduceAdd, Nat.reduceLeDiff, Lift.valOf, List.take_succ_cons, List.take_zero, List.getD_cons_zero, Nat.add_zero, gq, isNilC, pbinP, pbinS, thenQ, true_and]
      refine SW.run [] _ ?_
      cases heq : (ms[j].n == ms[i].n)
      · simp only [wpC, isB, AS.get, Lift.look, tmpOf, ↓reduceIte, Option.getD_some, asB, Bool.false_eq_true, inQ, thenQ, true_and]
        refine SW.run [] _ ?_
        simp only [wpC, Bool.false_eq_true, ↓reduceIte, wpS, stops, wantedA, okDst, Nat.reduceLT, decide_true, step1, isOwnCall, hxOp, px, AS.eval, AS.get, Lift.look, Nat.reduceEqDiff, reduceCtorEq, Option.getD_some, isFlt, ty3, AS.put, dropKey, isNilC, pbinP, ofConst, ofVal, pbinI, hwj, thenQ, Nat.succ_ne_zero, true_and]
        exact ⟨j + 1, ⟨by omega, by rw [hasN_take hjl, hno]; exact heq⟩, by omega, rfl⟩
      · have hh : hasN (ms.take i) ms[i] = true := by
          unfold hasN
          rw [List.any_eq_true]
          refine ⟨ms[j], ?_, heq⟩
          rw [List.mem_take_iff_getElem]
          exact ⟨j, by omega, rfl⟩
        have hre := herr 5 (by rw [hwr, if_pos hh]) (by decide)
        simp only [wpC, isB, AS.get, Lift.look, tmpOf, ↓reduceIte, Option.getD_some, asB, mayStop, stops, isFlt, Specs.has, Specs.hasO, Bool.or_false, Specs.hasH, Bool.not_false, List.any_cons, List.any_nil, Bool.false_eq_true, wpS, wantedA, okDst, Nat.reduceLT, decide_true, step1, isOwnCall, hxOp, px, AS.eval, ofConst, ofVal, AS.put, dropKey, Nat.reduceEqDiff, reduceCtorEq, thenQ, inQ, RPost, sres, Tryz.results30, sresL, sres1, Option.some.injEq, hre, Ret_fin, exists_eq_left', true_and]
        exact Inc.to inc1
    have hji' : ¬ (j : Int) < (i : Int) := by omega
    obtain rfl : j = i := by omega
    rw [if_neg (by rw [hno]; simp)] at hwr
    simp only [wpC, mayStop, stops, isFlt, Specs.has, Specs.hasO, Bool.or_false, Specs.hasH, Bool.not_false, List.any_cons, List.any_nil, Bool.false_eq_true, ↓reduceIte, wpS, wantedA, okDst, Nat.reduceLT, decide_true, step1, isOwnCall, hxOp, px, AS.eval, AS.get, Lift.look, reduceCtorEq, Nat.reduceEqDiff, Option.getD_some, AS.put, dropKey, isNilC, pbinP, pbinI, hji', decide_false, thenQ, isB, tmpOf, asB, inQ, true_and]
    refine SW.seq (SW.run [] _ ?_)
    by_cases hm0 : ms[j].m < 0
    · have hre := herr 11 (by rw [hwr, if_pos (.inl hm0)]) (by decide)
      simp only [wpC, mayStop, stops, isFlt, Specs.has, Specs.hasO, Bool.or_false, Specs.hasH, Bool.not_false, List.any_cons, List.any_nil, Bool.false_eq_true, ↓reduceIte, wpS, wantedA, okDst, Nat.reduceLT, decide_true, step1, isOwnCall, hxOp, px, pfieldAddr, fieldOf, ty50, fieldIn, List.getElem?_cons_succ, List.getElem?_cons_zero, ty3, Option.map_some, AS.eval, AS.get, Lift.look, Nat.reduceEqDiff, reduceCtorEq, Option.getD_some, ne_eq, Nat.succ_ne_zero, not_false_eq_true, Nat.zero_add, AS.put, dropKey, pload, gq, okOne, TK.isAgg, beq_self_eq_true, Bool.or_true, Nat.reduceAdd, List.length_cons, List.length_nil, Nat.reduceLeDiff, and_self, Lift.valOf, List.drop_succ_cons, List.drop_zero, List.take_succ_cons, List.take_zero, List.getD_cons_zero, isNilC, pbinP, ofConst, ofVal, pbinI, hm0, List.getElem?_toArray, Option.bind_some, beq_tf, Option.some.injEq, ppick_true, thenQ, isB, tmpOf, asB, inQ, RPost, sres, Tryz.results30, sresL, sres1, hre, Ret_fin, exists_eq_left', true_and]
      exact Inc.to inc1
    by_cases ht0 : ms[j].t < 0
    · have hre := herr 11 (by rw [hwr, if_pos (.inr ht0)]) (by decide)
      simp only [wpC, mayStop, stops, isFlt, Specs.has, Specs.hasO, Bool.or_false, Specs.hasH, Bool.not_false, List.any_cons, List.any_nil, Bool.false_eq_true, ↓reduceIte, wpS, wantedA, okDst, Nat.reduceLT, decide_true, step1, isOwnCall, hxOp, px, pfieldAddr, fieldOf, ty50, fieldIn, List.getElem?_cons_succ, List.getElem?_cons_zero, ty3, Option.map_some, AS.eval, AS.get, Lift.look, Nat.reduceEqDiff, reduceCtorEq, Option.getD_some, ne_eq, Nat.succ_ne_zero, not_false_eq_true, Nat.zero_add, AS.put, dropKey, pload, gq, okOne, TK.isAgg, beq_self_eq_true, Bool.or_true, Nat.reduceAdd, List.length_cons, List.length_nil, Nat.reduceLeDiff, and_self, Lift.valOf, List.drop_succ_cons, List.drop_zero, List.take_succ_cons, List.take_zero, List.getD_cons_zero, isNilC, pbinP, ofConst, ofVal, pbinI, hm0, decide_false, List.getElem?_toArray, Option.bind_some, ht0, ppick_bool, thenQ, isB, tmpOf, asB, inQ, RPost, sres, Tryz.results30, sresL, sres1, Option.some.injEq, hre, Ret_fin, exists_eq_left', true_and]
      exact Inc.to inc1
    rw [if_neg (by rintro (k | k); exact hm0 k; exact ht0 k)] at hwr
    simp only [wpC, mayStop, stops, isFlt, Specs.has, Specs.hasO, Bool.or_false, Specs.hasH, Bool.not_false, List.any_cons, List.any_nil, Bool.false_eq_true, ↓reduceIte, wpS, wantedA, okDst, Nat.reduceLT, decide_true, step1, isOwnCall, hxOp, px, pfieldAddr, fieldOf, ty50, fieldIn, List.getElem?_cons_succ, List.getElem?_cons_zero, ty3, Option.map_some, AS.eval, AS.get, Lift.look, Nat.reduceEqDiff, reduceCtorEq, Option.getD_some, ne_eq, Nat.succ_ne_zero, not_false_eq_true, Nat.zero_add, AS.put, dropKey, pload, gq, okOne, TK.isAgg, beq_self_eq_true, Bool.or_true, Nat.reduceAdd, List.length_cons, List.length_nil, Nat.reduceLeDiff, and_self, Lift.valOf, List.drop_succ_cons, List.drop_zero, List.take_succ_cons, List.take_zero, List.getD_cons_zero, isNilC, pbinP, ofConst, ofVal, pbinI, hm0, decide_false, List.getElem?_toArray, Option.bind_some, ht0, ppick_bool, thenQ, isB, tmpOf, asB, true_and]
    refine SW.seq (SW.run [] _ ?_)
    by_cases hbig : (1048576 : Int) < ((ms[j].x.length : Nat) : Int)
    · have hre := herr 3 (by rw [hwr, if_pos hbig]) (by decide)
      simp only [wpC, mayStop, stops, isFlt, Specs.has, Specs.hasO, Bool.or_false, Specs.hasH, Bool.not_false, List.any_cons, List.any_nil, Bool.false_eq_true, ↓reduceIte, wpS, wantedA, okDst, Nat.reduceLT, decide_true, step1, isOwnCall, hxOp, px, pfieldAddr, fieldOf, ty50, fieldIn, List.getElem?_cons_succ, List.getElem?_cons_zero, ty9, Option.map_some, AS.eval, AS.get, Lift.look, Nat.reduceEqDiff, reduceCtorEq, Option.getD_some, ne_eq, Nat.succ_ne_zero, not_false_eq_true, Nat.zero_add, AS.put, dropKey, pload, gq, okOne, TK.isAgg, beq_self_eq_true, Bool.or_true, Nat.reduceAdd, List.length_cons, List.length_nil, Nat.le_refl, and_self, Lift.valOf, List.drop_succ_cons, List.drop_zero, List.take_succ_cons, List.take_nil, List.getD_cons_zero, pcall, plen, okLen, isNilC, pbinP, ofConst, ofVal, pbinI, hbig, thenQ, isB, tmpOf, asB, inQ, RPost, sres, Tryz.results30, sresL, sres1, Option.some.injEq, hre, Ret_fin, exists_eq_left', true_and]
      exact Inc.to inc1
    rw [if_neg hbig] at hwr
    rw [hwr, if_pos rfl] at hpe
    simp only [wpC, mayStop, stops, isFlt, Specs.has, Specs.hasO, Bool.or_false, Specs.hasH, Bool.not_false, List.any_cons, List.any_nil, Bool.false_eq_true, ↓reduceIte, wpS, wantedA, okDst, Nat.reduceLT, decide_true, step1, isOwnCall, hxOp, px, pfieldAddr, fieldOf, ty50, fieldIn, List.getElem?_cons_succ, List.getElem?_cons_zero, ty9, Option.map_some, AS.eval, AS.get, Lift.look, Nat.reduceEqDiff, reduceCtorEq, Option.getD_some, ne_eq, Nat.succ_ne_zero, not_false_eq_true, Nat.zero_add, AS.put, dropKey, pload, gq, okOne, TK.isAgg, beq_self_eq_true, Bool.or_true, Nat.reduceAdd, List.length_cons, List.length_nil, Nat.le_refl, and_self, Lift.valOf, List.drop_succ_cons, List.drop_zero, List.take_succ_cons, List.take_nil, List.getD_cons_zero, pcall, plen, okLen, isNilC, pbinP, ofConst, ofVal, pbinI, hbig, decide_false, thenQ, isB, tmpOf, asB, true_and]
    have hm1 : 0 ≤ ms[j].m := by omega
    have ht1 : 0 ≤ ms[j].t := by omega
    have hx1 : (0 : Int) ≤ ((ms[j].x.length : Nat) : Int) := by omega
    have hx2 : ((ms[j].x.length : Nat) : Int) ≤ 9223372036854775807 := by omega
    have hpre := packB_pre ms (j + 1)
    rw [packB_next hlt, List.length_append] at hpre
    have hL : (packT ms[j]).length = ms[j].n.length + (Lib.itoa ms[j].m).length + (Lib.itoa ms[j].t).length + (Lib.itoa ((ms[j].x.length : Nat) : Int)).length + ms[j].x.length + 5 := by
      unfold packT
      simp only [List.length_append, List.length_cons, List.length_nil]
      omega
    refine SW.regionAny [eDigits] [[0, 1, 2, 3, 4, 5, 6, 7, 8, 9, 10, 11, 12, 13, 14, 15, 16, 17, 18, 19, 20, 21, 22, 23, 24, 25]] rfl (by rfl) (by kernel_rfl) ?_
    simp only [wpOL, wpO, LOp, List.getElem?_toArray, List.getElem?_cons_zero, okDst, Nat.reduceLT, decide_true, wantedA, ↓reduceIte, step1, isOwnCall, Bool.false_eq_true, hxOp, px, AS.eval, AS.get, Lift.look, Nat.reduceEqDiff, reduceCtorEq, Option.getD_some, List.getElem?_cons_succ, AS.put, dropKey, pfieldAddr, fieldOf, ty50, fieldIn, ty9, Option.map_some, ne_eq, Nat.succ_ne_zero, not_false_eq_true, Nat.add_zero, pload, gq, okOne, TK.isAgg, beq_self_eq_true, Bool.or_true, Nat.zero_add, List.length_cons, List.length_nil, Nat.reduceAdd, Nat.reduceLeDiff, and_self, Lift.valOf, List.drop_zero, List.take_succ_cons, List.take_zero, List.getD_cons_zero, isNilC, pbinP, ofConst, ofVal, pbinS, ty3, List.drop_succ_cons, Specs.hasO, Specs.hasH, pcall, okArg, List.all_cons, List.all_nil, Bool.and_true, Specs.at, eDigits, List.map_cons, List.map_nil, sDigits, hm1, hm, ht1, ht, Nat.le_refl, List.take_nil, plen, okLen, hx1, hx2, inQ, thenQ, true_and]
    refine ⟨by omega, by simp only [List.length_append, List.length_cons, List.length_nil]; omega, by simp only [List.length_append, List.length_cons, List.length_nil]; omega, by simp only [List.length_append, List.length_cons, List.length_nil]; omega, by simp only [List.length_append, List.length_cons, List.length_nil]; omega, by simp only [List.length_append, List.length_cons, List.length_nil]; omega, by simp only [List.length_append, List.length_cons, List.length_nil]; omega, by simp only [List.length_append, List.length_cons, List.length_nil]; omega, by simp only [List.length_append, List.length_cons, List.length_nil]; omega, by simp only [List.length_append, List.length_cons, List.length_nil]; omega, ?_⟩
    refine SW.run [] _ ?_
    simp only [wpC, Bool.false_eq_true, ↓reduceIte, wpS, stops, wantedA, okDst, Nat.reduceLT, decide_true, step1, isOwnCall, hxOp, px, AS.eval, AS.get, Lift.look, Nat.reduceEqDiff, reduceCtorEq, Option.getD_some, isFlt, ty3, AS.put, dropKey, isNilC, pbinP, ofConst, ofVal, pbinI, hw, thenQ, Nat.succ_ne_zero, true_and]
    exact ⟨ms.length - (j + 1), by omega, j + 1, by omega, rfl, by rw [hpe, List.take_succ_eq_append_getElem hlt], inc1, by rw [packB_next hlt]; rfl, rfl⟩
  · have hlt' : ¬ (i : Int) < (ms.length : Int) := by omega
    simp only [wpC, mayStop, stops, isFlt, Specs.has, Specs.hasO, Bool.or_false, Specs.hasH, Bool.not_false, List.any_cons, List.any_nil, Bool.false_eq_true, ↓reduceIte, wpS, wantedA, okDst, Nat.reduceLT, decide_true, step1, isOwnCall, hxOp, px, AS.eval, AS.get, Lift.look, reduceCtorEq, Nat.reduceEqDiff, Option.getD_some, AS.put, dropKey, Nat.succ_ne_zero, pcall, ty48, plen, mbL_len, okLen, and_self, isNilC, pbinP, pbinI, hlt', decide_false, thenQ, isB, tmpOf, asB, inQ, true_and]
    have hei : i = ms.length := by omega
    subst hei
    rw [List.take_length] at hpe ⊢
    rw [List.drop_length] at hpe
    refine SW.seq (SW.run [] _ ?_)
    simp only [wpC, Bool.false_eq_true, ↓reduceIte, wpS, stops, wantedA, okDst, Nat.reduceLT, decide_true, step1, isOwnCall, hxOp, px, AS.eval, AS.get, Lift.look, Nat.reduceEqDiff, reduceCtorEq, Option.getD_some, AS.put, dropKey, ofConst, ofVal, thenQ, true_and]
    refine SW.run [] _ ?_
    simp only [wpC, RPost, sres, Tryz.results30, sresL, sres1, AS.get, Lift.look, Nat.reduceEqDiff, ↓reduceIte, Option.getD_some, Option.some.injEq, Ret_fin, exists_eq_left']
    refine ⟨?_, Inc.to inc⟩
    unfold packR packS
    have hpe : packE [] ms = 0 := hpe
    rw [if_pos hpe]
noncomputable def eRPackM : SpecE env := ⟨30, sPackM, fun args h hc => by
  unfold sPackM at hc ⊢
  split at hc
  · split at hc
    · rename_i l hl; rw [unM_spec hl]; exact .inl (RPack_ok l hc.1 hc.2.1 hc.2.2 h)
    · exact hc.elim
  · exact hc.elim⟩
end Go.Proofs.YtincpomenogppaaGreatDoor
