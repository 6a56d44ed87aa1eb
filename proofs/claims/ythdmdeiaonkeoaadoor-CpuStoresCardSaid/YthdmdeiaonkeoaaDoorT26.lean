/- Contracts of functions that the law reaches. -/
import Derived.Test.YthdmdeiaonkeoaaDoorT25
set_option linter.unusedSimpArgs false
set_option linter.unusedVariables false
namespace Go.Proofs.YthdmdeiaonkeoaaDoor
open Go Go.RowKit Go.Proofs.YthdmdeiaonkeoaaDoor Go.Proofs.YthdmdeiaonkeoaaDoor.Lift

/-! CpuStores -/
theorem stV_r0 {s : Mach} (hr : s.rg.length = 16) (hz : s.rg.set 0 0 = s.rg) : List.take 1 (List.drop 1 (stV s)) = [.int .i64 0] := by
  have := stC_reg (pc := s.pc) (st := s.st) (f := .list 1 (el64 s.fr)) (d := .list 1 (el64 s.da)) hr (a := 0) (by omega) (by omega)
  have e : s.rg.getD (0 : Int).toNat 0 = 0 := by
    show s.rg.getD 0 0 = 0
    rw [← hz]
    cases hh : s.rg with
    | nil => rw [hh] at hr; cases hr
    | cons y l => rfl
  rw [e] at this
  exact this
set_option maxRecDepth 100000 in
set_option maxHeartbeats 4000000 in
theorem CpuStores_ok (code : List Int) (s : Mach) (h : Heap) (hr : s.rg.length = 16) :
    SCalls env 7 [.list 1 (el64 code), .agg (stV s)] h (Ret (.bool true) h) := by
  refine SCalls.body Tryd.func7 rfl rfl (by simp [Tryd.ntmps7]) ?_
  refine SW.seq (SW.run [] _ ?_)
  simp only [wpC, Bool.false_eq_true, ↓reduceIte, wpS, stops, wantedA, okDst, Tryd.ntmps7, Nat.reduceLT, decide_true, step1, known1, AS.eval, AS.get, enumA, Nat.zero_add, Lift.look, reduceCtorEq, Option.getD_some, AS.put, dropKey, Nat.reduceEqDiff, isOwnCall, hxOp, px, ofConst, ofVal, thenQ, PV.cells, stV_len hr, true_and]
  intro r h0
  refine SW.seq (SW.run [eAwake] _ ?_)
  simp only [wpC, mayStop, stops, isFlt, Specs.has, eAwake, Specs.hasO, Nat.reduceLeDiff, Nat.reduceSub, false_and, ↓reduceIte, Bool.or_false, List.any_cons, Bool.not_true, List.any_nil, Bool.false_eq_true, wpS, reduceCtorEq, and_self, wantedA, okDst, Nat.reduceLT, decide_true, step1, isOwnCall, hxOp, px, pcall, okArg, AS.eval, AS.get, Lift.look, ofConst, ofVal, List.all_nil, Specs.at, List.map_nil, sAwake, AS.put, dropKey, Nat.reduceEqDiff, pun, Option.getD_some, thenQ, isB, tmpOf, asB, true_and]
  cases hs : smallS code s with
  | false =>
    refine SW.run [eSmall] _ ?_
    simp only [wpC, mayStop, stops, isFlt, Specs.has, eSmall, Specs.hasO, Nat.reduceLeDiff, Nat.reduceSub, false_and, ↓reduceIte, Bool.or_false, List.any_cons, Bool.not_true, List.any_nil, Bool.false_eq_true, wpS, wantedA, okDst, Nat.reduceLT, decide_true, step1, isOwnCall, hxOp, px, AS.eval, AS.get, Lift.look, Nat.succ_ne_zero, Option.getD_some, AS.put, dropKey, Nat.reduceEqDiff, reduceCtorEq, pload, ty45, Heap.get_put, okOne, TK.isAgg, Nat.reduceBEq, Nat.zero_add, stV_len hr, Nat.le_refl, and_self, Lift.valOf, List.drop_zero, stV_all hr, pcall, okArg, ofConst, ofVal, List.all_cons, List.all_nil, Bool.and_true, Specs.at, List.map_cons, List.map_nil, sSmall_st hr, hr, hs, pun, Bool.not_false, thenQ, isB, tmpOf, asB, RPost, sres, Tryd.results7, sresL, sres1, Option.some.injEq, Ret_fin, exists_eq_left', true_and]
    exact HTo.put (.refl _ _) h0 _
  | true =>
  obtain ⟨c1, c2, c3, c4⟩ := small_spec hs
  refine SW.seq (SW.run [eSmall] _ ?_)
  simp only [wpC, mayStop, stops, isFlt, Specs.has, eSmall, Specs.hasO, Nat.reduceLeDiff, Nat.reduceSub, false_and, ↓reduceIte, Bool.or_false, List.any_cons, Bool.not_true, List.any_nil, Bool.false_eq_true, wpS, wantedA, okDst, Nat.reduceLT, decide_true, step1, isOwnCall, hxOp, px, AS.eval, AS.get, Lift.look, Nat.succ_ne_zero, Option.getD_some, AS.put, dropKey, Nat.reduceEqDiff, reduceCtorEq, pload, ty45, Heap.get_put, okOne, TK.isAgg, Nat.reduceBEq, Nat.zero_add, stV_len hr, Nat.le_refl, and_self, Lift.valOf, List.drop_zero, stV_all hr, pcall, okArg, ofConst, ofVal, List.all_cons, List.all_nil, Bool.and_true, Specs.at, List.map_cons, List.map_nil, sSmall_st hr, hr, hs, pun, thenQ, isB, tmpOf, asB, true_and]
  have hst : s.st < 9223372036854775808 := by omega
  have hcl : code.length ≤ 1000000000 := by omega
  have hfr : s.fr.length ≤ 1000000000 := by omega
  have hda : s.da.length ≤ 1000000000 := by omega
  have hfit : s.fit := ⟨hr, hst, hfr, hda⟩
  have kp1 := all_keep (code := code) (s := s) hr hst
  have named := all_named code s
  rcases hX : runAll code s with ⟨x, hx, nx⟩
  rw [hX] at kp1 named
  dsimp only at kp1 named
  have xr : x.rg.length = 16 := kp1.rg
  have xfl : x.fr.length = s.fr.length := kp1.fr
  have xdl : x.da.length = s.da.length := kp1.da
  refine SW.seq (SW.run [eRun] _ ?_)
  simp only [wpC, Bool.false_eq_true, ↓reduceIte, wpS, stops, wantedA, okDst, Nat.reduceLT, decide_true, step1, isOwnCall, hxOp, px, AS.eval, AS.get, Lift.look, Nat.succ_ne_zero, Option.getD_some, AS.put, dropKey, Nat.reduceEqDiff, reduceCtorEq, pload, ty45, Heap.get_put, okOne, TK.isAgg, Nat.reduceBEq, Bool.or_false, Nat.zero_add, stV_len hr, Nat.le_refl, and_self, Lift.valOf, List.drop_zero, stV_all hr, Specs.has, eRun, Specs.hasO, Nat.reduceLeDiff, Nat.reduceSub, Bool.not_true, pcall, okArg, ofConst, ofVal, List.all_cons, List.all_nil, Bool.and_true, Specs.at, List.map_cons, List.map_nil, sRun_st hr, hfit, hcl, hX, ans_eta, List.getElem?_cons_zero, List.getElem?_cons_succ, okAlloc, okZero, Value.oneCell', some_none, Lift.hx, zeroOf, List.length_cons, List.length_nil, Nat.reduceAdd, known1, PV.cells, stV_len xr, splice, List.take_zero, List.nil_append, List.drop_succ_cons, List.drop_nil, List.append_nil, thenQ, true_and]
  rintro q ⟨hqr, h3⟩
  have hrq : ¬ r = q := fun e => hqr e.symm
  simp only [Heap.put_put]
  refine SW.seq (SW.run [] _ ?_)
  simp only [wpC, mayStop, stops, isFlt, Specs.has, Specs.hasO, Bool.or_false, Bool.not_false, List.any_cons, List.any_nil, Bool.false_eq_true, ↓reduceIte, wpS, wantedA, okDst, Nat.reduceLT, decide_true, step1, isOwnCall, hxOp, px, pfieldAddr, fieldOf, ty45, fieldIn, List.getElem?_cons_succ, List.getElem?_cons_zero, ty43, Option.map_some, AS.eval, AS.get, Lift.look, Nat.reduceEqDiff, Option.getD_some, ne_eq, Nat.succ_ne_zero, not_false_eq_true, Nat.zero_add, AS.put, dropKey, reduceCtorEq, pload, Heap.get_put, okOne, TK.isAgg, beq_self_eq_true, Bool.or_true, Nat.reduceAdd, stV_len xr, Nat.reduceLeDiff, and_self, Lift.valOf, stV_fr xr, List.getD_cons_zero, pcall, plen, el64_len, xfl, okLen, hrq, stV_len hr, stV_fr hr, pbinP, pbinI, bne_self_eq_false, List.getElem?_toArray, Option.bind_some, stV_da xr, xdl, stV_da hr, ofConst, ofVal, ppick_bool, ty42, pindexAddr, ty2, Int.reduceLE, Int.cast_ofNat_Int, Int.reduceLT, Int.reduceToNat, Nat.reduceMul, Nat.add_zero, stV_r0 xr kp1.z, thenQ, isB, tmpOf, asB, true_and]
  refine SW.seq (SW.region ?_)
  refine SWO.makeMap 57 rfl rfl rfl ?_
  rintro m hm
  obtain ⟨hmq, hmr, hm⟩ : ¬ m = q ∧ ¬ m = r ∧ h m = none := by
    have hm' := hm
    rw [Heap.put_none, Heap.put_none] at hm'
    exact ⟨hm'.1, hm'.2.1, hm'.2.2⟩
  have hrm : ¬ r = m := fun e => hmr e.symm
  have hqm : ¬ q = m := fun e => hmq e.symm
  refine SWO.run [] 1000 ?_
  simp only [wpS, stops, Bool.false_eq_true, ↓reduceIte, wantedA, okDst, AS.put, dropKey, Nat.reduceEqDiff, reduceCtorEq, Nat.reduceLT, decide_true, step1, isOwnCall, hxOp, px, AS.eval, AS.get, Lift.look, Option.getD_some, thenQ, true_and]
  refine SW.seq (SW.run [] _ ?_)
  simp only [wpC, mayStop, stops, isFlt, Specs.has, Specs.hasO, Bool.or_false, Bool.not_false, List.any_cons, List.any_nil, Bool.false_eq_true, ↓reduceIte, wpS, wantedA, okDst, Nat.reduceLT, decide_true, step1, isOwnCall, hxOp, px, AS.eval, AS.get, Lift.look, Nat.succ_ne_zero, Option.getD_some, AS.put, dropKey, Nat.reduceEqDiff, reduceCtorEq, pcall, ty41, plen, el64_len, okLen, and_self, ofConst, ofVal, thenQ, true_and]
  refine SW.loopH 131 (fun b : Nat => [(0, .list 1 (el64 code)), (3, .val (.pointer (some ⟨r, 0, none⟩))), (5, .val (.pointer (some ⟨q, 0, none⟩))), (8, .val (.map (some m))), (51, .list 1 (el64 code)), (52, .int .i64 code.length), (53, .int .i64 b)]) (fun b => ((h.put r (.cells 45 20 (stV s))).put q (.cells 45 20 (stV x))).put m (.pmap (namedTo (code.take b)))) (fun b => b ≤ code.length) (fun b => code.length - b) 0 (Nat.zero_le _) ?_ ?_
  · exact ⟨rfl, HTo.refl _ _, ⟨rfl, rfl, rfl, rfl, rfl, rfl, rfl, trivial⟩⟩
  · intro b hb
    by_cases hlt : b < code.length
    · have hlt' : ((b : Nat) : Int) < ((code.length : Nat) : Int) := by omega
      have hw := el64_getD hlt
      have hsucc := named_succ hlt
      have hb1 : IntKind.i64.wrap ((b : Int) + 1) = ((b + 1 : Nat) : Int) := by
        rw [w64 (by omega) (by omega)]
        omega
      generalize hwd : code.getD b 0 = w at hw hsucc
      have skip1 : ∀ {d : Nat} {I1 I2 : AObj}, ¬ d = m → ¬ d = q → ¬ d = r → h d = none → HTo env (((((h.put r (.cells 45 20 (stV s))).put q (.cells 45 20 (stV x))).put m (.pmap (namedTo (code.take b)))).put d I1).put d I2) (((h.put r (.cells 45 20 (stV s))).put q (.cells 45 20 (stV x))).put m (.pmap (namedTo (code.take b)))) := fun n1 n2 n3 n4 => by
        rw [Heap.put_put]
        exact HTo.put (.refl _ _) (by rw [Heap.put_ne _ _ n1, Heap.put_ne _ _ n2, Heap.put_ne _ _ n3]; exact n4) _
      have sto1 : ∀ {d : Nat} {I1 I2 : AObj} {ks : List (Int × Int)}, ¬ d = m → ¬ d = q → ¬ d = r → h d = none → HTo env ((((((h.put r (.cells 45 20 (stV s))).put q (.cells 45 20 (stV x))).put m (.pmap (namedTo (code.take b)))).put d I1).put d I2).put m (.pmap ks)) (((h.put r (.cells 45 20 (stV s))).put q (.cells 45 20 (stV x))).put m (.pmap ks)) := by
        intro d I1 I2 ks n1 n2 n3 n4
        rw [Heap.put_put]
        refine HSub.to fun j => ?_
        by_cases e0 : j = d
        · exact .inl (by rw [e0, Heap.put_ne _ _ n1, Heap.put_ne _ _ n2, Heap.put_ne _ _ n3]; exact n4)
        · right
          by_cases e1 : j = m
          · subst e1; rw [Heap.put_same, Heap.put_same]
          · rw [Heap.put_ne _ _ e1, Heap.put_ne _ _ e1, Heap.put_ne _ _ e0, Heap.put_ne _ _ e1]
      by_cases hi : isW w = true
      · obtain ⟨o, a, y, c, i, hdec, ho⟩ : ∃ o a y c i, decS w = .tuple [.agg [.int .i64 o, .int .i64 a, .int .i64 y, .int .i64 c, .int .i64 i], .int .i64 0] ∧ o = oW w ∧ y = bW w ∧ i = immS w := ⟨_, aW w, _, cW w, _, by unfold decS; rw [if_pos hi]; rfl, rfl, rfl, rfl⟩
        obtain ⟨ho, hy, hii⟩ := ho
        by_cases k5 : o = 5
        · have hst : stW w = true := by unfold stW; rw [hi, ← ho, k5]; rfl
          have hk : (o == 5) = true := by simpa using k5
          refine SW.run [eDecode] _ ?_
          simp only [wpC, mayStop, stops, isFlt, Specs.has, eDecode, Specs.hasO, Nat.reduceLeDiff, Nat.reduceSub, false_and, ↓reduceIte, Bool.or_false, List.any_cons, List.any_nil, Bool.false_eq_true, wpS, wantedA, okDst, Nat.reduceLT, decide_true, step1, isOwnCall, hxOp, px, pbinP, AS.eval, AS.get, Lift.look, reduceCtorEq, Nat.reduceEqDiff, Option.getD_some, pbinI, hlt', thenQ, isB, AS.put, dropKey, tmpOf, asB, Bool.not_true, Bool.or_true, pindexAddr, ty41, ty3, ne_eq, Nat.succ_ne_zero, not_false_eq_true, Int.natCast_nonneg, Int.toNat_natCast, el64_len, hlt, and_self, hw, pload, okOne, TK.isAgg, beq_self_eq_true, List.length_cons, List.length_nil, Nat.zero_add, Nat.le_refl, Lift.valOf, List.take_succ_cons, List.take_nil, List.getD_cons_zero, pcall, okArg, ofConst, ofVal, List.all_cons, List.all_nil, Bool.and_true, Specs.at, List.map_cons, List.map_nil, sDecode, hdec, List.getElem?_cons_zero, List.getElem?_cons_succ, okAlloc, ty23, okZero, Value.oneCell', Heap.get_put, some_none, Lift.hx, zeroOf, Nat.reduceAdd, known1, PV.cells, splice, List.take_zero, List.nil_append, List.drop_succ_cons, List.drop_nil, List.append_nil, List.getElem?_toArray, Option.bind_some, pfieldAddr, fieldOf, fieldIn, Option.map_some, Nat.add_zero, List.drop_zero, hk, beq_tf, Option.some.injEq, ppick_true, ppick_bool, pbuild, ty58, pfill, Nat.reduceMul, List.cons_append, known, hasAll, and_true, true_and]
          rintro d ⟨hdm, hdq, hdr, hdn⟩
          have hmd : ¬ m = d := fun e => hdm e.symm
          refine SWO.mapUpd 57 _ _ _ rfl ty57 rfl pair58 (ks := namedTo (code.take b)) (x := (y, i)) rfl rfl rfl (by simp only [Heap.put_ne _ _ hmd, Heap.put_same]) rfl rfl ?_
          refine SWO.run [] 1000 ?_
          simp only [wpS, inQ, thenQ, AS.put]
          refine SW.run [] _ ?_
          simp only [wpC, Bool.false_eq_true, ↓reduceIte, wpS, stops, isFlt, ty3, wantedA, okDst, Nat.reduceLT, decide_true, step1, isOwnCall, hxOp, px, pbinP, AS.eval, AS.get, Lift.look, Nat.reduceEqDiff, reduceCtorEq, Option.getD_some, ofConst, ofVal, pbinI, hb1, AS.put, dropKey, thenQ, Nat.succ_ne_zero, true_and]
          refine ⟨b + 1, by omega, by omega, ?_, rfl⟩
          rw [hsucc, addN, if_pos hst, ← hy, ← hii]
          exact sto1 hdm hdq hdr hdn
        · have hk : (o == 5) = false := by simpa using k5
          by_cases k7 : o = 7
          · have hst : stW w = true := by unfold stW; rw [hi, ← ho, k7]; rfl
            have hk7 : (o == 7) = true := by simpa using k7
            refine SW.run [eDecode] _ ?_
            simp only [wpC, mayStop, stops, isFlt, Specs.has, eDecode, Specs.hasO, Nat.reduceLeDiff, Nat.reduceSub, false_and, ↓reduceIte, Bool.or_false, List.any_cons, List.any_nil, Bool.false_eq_true, wpS, wantedA, okDst, Nat.reduceLT, decide_true, step1, isOwnCall, hxOp, px, pbinP, AS.eval, AS.get, Lift.look, reduceCtorEq, Nat.reduceEqDiff, Option.getD_some, pbinI, hlt', thenQ, isB, AS.put, dropKey, tmpOf, asB, Bool.not_true, Bool.or_true, pindexAddr, ty41, ty3, ne_eq, Nat.succ_ne_zero, not_false_eq_true, Int.natCast_nonneg, Int.toNat_natCast, el64_len, hlt, and_self, hw, pload, okOne, TK.isAgg, beq_self_eq_true, List.length_cons, List.length_nil, Nat.zero_add, Nat.le_refl, Lift.valOf, List.take_succ_cons, List.take_nil, List.getD_cons_zero, pcall, okArg, ofConst, ofVal, List.all_cons, List.all_nil, Bool.and_true, Specs.at, List.map_cons, List.map_nil, sDecode, hdec, List.getElem?_cons_zero, List.getElem?_cons_succ, okAlloc, ty23, okZero, Value.oneCell', Heap.get_put, some_none, Lift.hx, zeroOf, Nat.reduceAdd, known1, PV.cells, splice, List.take_zero, List.nil_append, List.drop_succ_cons, List.drop_nil, List.append_nil, List.getElem?_toArray, Option.bind_some, pfieldAddr, fieldOf, fieldIn, Option.map_some, Nat.add_zero, List.drop_zero, hk, hk7, ppick_bool, pbuild, ty58, pfill, Nat.reduceMul, List.cons_append, known, hasAll, and_true, true_and]
            rintro d ⟨hdm, hdq, hdr, hdn⟩
            have hmd : ¬ m = d := fun e => hdm e.symm
            refine SWO.mapUpd 57 _ _ _ rfl ty57 rfl pair58 (ks := namedTo (code.take b)) (x := (y, i)) rfl rfl rfl (by simp only [Heap.put_ne _ _ hmd, Heap.put_same]) rfl rfl ?_
            refine SWO.run [] 1000 ?_
            simp only [wpS, inQ, thenQ, AS.put]
            refine SW.run [] _ ?_
            simp only [wpC, Bool.false_eq_true, ↓reduceIte, wpS, stops, isFlt, ty3, wantedA, okDst, Nat.reduceLT, decide_true, step1, isOwnCall, hxOp, px, pbinP, AS.eval, AS.get, Lift.look, Nat.reduceEqDiff, reduceCtorEq, Option.getD_some, ofConst, ofVal, pbinI, hb1, AS.put, dropKey, thenQ, Nat.succ_ne_zero, true_and]
            refine ⟨b + 1, by omega, by omega, ?_, rfl⟩
            rw [hsucc, addN, if_pos hst, ← hy, ← hii]
            exact sto1 hdm hdq hdr hdn
          · have hst : ¬ stW w = true := by unfold stW; rw [hi, ← ho]; simp [k5, k7]
            have hk7 : (o == 7) = false := by simpa using k7
            refine SW.run [eDecode] _ ?_
            simp only [wpC, mayStop, stops, isFlt, Specs.has, eDecode, Specs.hasO, Nat.reduceLeDiff, Nat.reduceSub, false_and, ↓reduceIte, Bool.or_false, List.any_cons, List.any_nil, Bool.false_eq_true, wpS, wantedA, okDst, Nat.reduceLT, decide_true, step1, isOwnCall, hxOp, px, pbinP, AS.eval, AS.get, Lift.look, reduceCtorEq, Nat.reduceEqDiff, Option.getD_some, pbinI, hlt', thenQ, isB, AS.put, dropKey, tmpOf, asB, Bool.not_true, Bool.or_true, pindexAddr, ty41, ty3, ne_eq, Nat.succ_ne_zero, not_false_eq_true, Int.natCast_nonneg, Int.toNat_natCast, el64_len, hlt, and_self, hw, pload, okOne, TK.isAgg, beq_self_eq_true, List.length_cons, List.length_nil, Nat.zero_add, Nat.le_refl, Lift.valOf, List.take_succ_cons, List.take_nil, List.getD_cons_zero, pcall, okArg, ofConst, ofVal, List.all_cons, List.all_nil, Bool.and_true, Specs.at, List.map_cons, List.map_nil, sDecode, hdec, List.getElem?_cons_zero, List.getElem?_cons_succ, okAlloc, ty23, okZero, Value.oneCell', Heap.get_put, some_none, Lift.hx, zeroOf, Nat.reduceAdd, known1, PV.cells, splice, List.take_zero, List.nil_append, List.drop_succ_cons, List.drop_nil, List.append_nil, List.getElem?_toArray, Option.bind_some, pfieldAddr, fieldOf, fieldIn, Option.map_some, Nat.add_zero, List.drop_zero, hk, hk7, ppick_bool, inQ, hasAll, and_true, true_and]
            rintro d ⟨hdm, hdq, hdr, hdn⟩
            refine SW.run [] _ ?_
            simp only [wpC, Bool.false_eq_true, ↓reduceIte, wpS, stops, isFlt, ty3, wantedA, okDst, Nat.reduceLT, decide_true, step1, isOwnCall, hxOp, px, pbinP, AS.eval, AS.get, Lift.look, Nat.reduceEqDiff, reduceCtorEq, Option.getD_some, ofConst, ofVal, pbinI, hb1, AS.put, dropKey, thenQ, Nat.succ_ne_zero, true_and]
            refine ⟨b + 1, by omega, by omega, ?_, rfl⟩
            rw [hsucc, addN, if_neg hst]
            exact skip1 hdm hdq hdr hdn
      · have hst : ¬ stW w = true := by unfold stW; rw [Bool.not_eq_true _ |>.mp hi]; simp
        have hdec : decS w = .tuple [.agg [.int .i64 0, .int .i64 0, .int .i64 0, .int .i64 0, .int .i64 0], .int .i64 2] := by unfold decS; rw [if_neg hi]; rfl
        refine SW.run [eDecode] _ ?_
        simp only [wpC, mayStop, stops, isFlt, Specs.has, eDecode, Specs.hasO, Nat.reduceLeDiff, Nat.reduceSub, false_and, ↓reduceIte, Bool.or_false, List.any_cons, List.any_nil, Bool.false_eq_true, wpS, wantedA, okDst, Nat.reduceLT, decide_true, step1, isOwnCall, hxOp, px, pbinP, AS.eval, AS.get, Lift.look, reduceCtorEq, Nat.reduceEqDiff, Option.getD_some, pbinI, hlt', thenQ, isB, AS.put, dropKey, tmpOf, asB, Bool.not_true, Bool.or_true, pindexAddr, ty41, ty3, ne_eq, Nat.succ_ne_zero, not_false_eq_true, Int.natCast_nonneg, Int.toNat_natCast, el64_len, hlt, and_self, hw, pload, okOne, TK.isAgg, beq_self_eq_true, List.length_cons, List.length_nil, Nat.zero_add, Nat.le_refl, Lift.valOf, List.take_succ_cons, List.take_nil, List.getD_cons_zero, pcall, okArg, ofConst, ofVal, List.all_cons, List.all_nil, Bool.and_true, Specs.at, List.map_cons, List.map_nil, sDecode, hdec, List.getElem?_cons_zero, List.getElem?_cons_succ, okAlloc, ty23, okZero, Value.oneCell', Heap.get_put, some_none, Lift.hx, zeroOf, Nat.reduceAdd, known1, PV.cells, splice, List.take_zero, List.nil_append, List.drop_succ_cons, List.drop_nil, List.append_nil, Int.reduceBEq, List.getElem?_toArray, Option.bind_some, beq_ft, Option.some.injEq, ppick_false, inQ, hasAll, and_true, true_and]
        rintro d ⟨hdm, hdq, hdr, hdn⟩
        refine SW.run [] _ ?_
        simp only [wpC, Bool.false_eq_true, ↓reduceIte, wpS, stops, isFlt, ty3, wantedA, okDst, Nat.reduceLT, decide_true, step1, isOwnCall, hxOp, px, pbinP, AS.eval, AS.get, Lift.look, Nat.reduceEqDiff, reduceCtorEq, Option.getD_some, ofConst, ofVal, pbinI, hb1, AS.put, dropKey, thenQ, Nat.succ_ne_zero, true_and]
        refine ⟨b + 1, by omega, by omega, ?_, rfl⟩
        rw [hsucc, addN, if_neg hst]
        exact skip1 hdm hdq hdr hdn
    · have hlt' : ¬ ((b : Nat) : Int) < ((code.length : Nat) : Int) := by omega
      have hbe : b = code.length := by omega
      subst hbe
      refine SW.run [] _ ?_
      simp only [wpC, mayStop, stops, isFlt, Specs.has, Specs.hasO, Bool.or_false, Bool.not_false, List.any_cons, List.any_nil, Bool.false_eq_true, ↓reduceIte, wpS, wantedA, okDst, Nat.reduceLT, decide_true, step1, isOwnCall, hxOp, px, pbinP, AS.eval, AS.get, Lift.look, reduceCtorEq, Nat.reduceEqDiff, Option.getD_some, pbinI, hlt', decide_false, thenQ, isB, AS.put, dropKey, tmpOf, asB, inQ, true_and]
      rw [List.take_length]
      refine SW.enter (n := 131) (l := [(3, .val (.pointer (some ⟨r, 0, none⟩))), (5, .val (.pointer (some ⟨q, 0, none⟩))), (8, .val (.map (some m)))]) (H := ((h.put r (.cells 45 20 (stV s))).put q (.cells 45 20 (stV x))).put m (.pmap (namedTo code))) rfl (HTo.refl _ _) ⟨rfl, rfl, rfl, trivial⟩ ?_
      clear hb hlt hlt'
      refine SW.seq (SW.run [] _ ?_)
      simp only [wpC, mayStop, stops, isFlt, Specs.has, Specs.hasO, Bool.or_false, Bool.not_false, List.any_cons, List.any_nil, Bool.false_eq_true, ↓reduceIte, wpS, wantedA, okDst, Nat.reduceLT, decide_true, step1, isOwnCall, hxOp, px, pfieldAddr, fieldOf, ty45, fieldIn, List.getElem?_cons_succ, List.getElem?_cons_zero, ty43, Option.map_some, AS.eval, AS.get, Lift.look, Option.getD_some, ne_eq, Nat.succ_ne_zero, not_false_eq_true, Nat.zero_add, AS.put, dropKey, Nat.reduceEqDiff, pload, Heap.get_put, hrm, hrq, okOne, TK.isAgg, beq_self_eq_true, Bool.or_true, Nat.reduceAdd, stV_len hr, Nat.reduceLeDiff, and_self, Lift.valOf, stV_fr hr, List.getD_cons_zero, pcall, plen, el64_len, okLen, ofConst, ofVal, thenQ, true_and]
      refine SW.loopH 131 (fun b : Nat => [(3, .val (.pointer (some ⟨r, 0, none⟩))), (5, .val (.pointer (some ⟨q, 0, none⟩))), (8, .val (.map (some m))), (83, .int .i64 s.fr.length), (84, .int .i64 b)]) (fun b => ((h.put r (.cells 45 20 (stV s))).put q (.cells 45 20 (stV x))).put m (.pmap (namedTo code))) (fun b => b ≤ s.fr.length) (fun b => s.fr.length - b) 0 (Nat.zero_le _) ?_ ?_
      · exact ⟨rfl, HTo.refl _ _, ⟨rfl, rfl, rfl, rfl, rfl, trivial⟩⟩
      · intro b hb
        by_cases hlt : b < s.fr.length
        · have hlt' : ((b : Nat) : Int) < ((s.fr.length : Nat) : Int) := by omega
          have hltx : b < x.fr.length := by rw [xfl]; exact hlt
          have gs := el64_getD hlt
          have gx := el64_getD hltx
          have hb1 : IntKind.i64.wrap ((b : Int) + 1) = ((b + 1 : Nat) : Int) := by
            rw [w64 (by omega) (by omega)]
            omega
          refine SW.run [] _ ?_
          simp only [wpC, mayStop, stops, isFlt, Specs.has, Specs.hasO, Bool.or_false, Bool.not_false, List.any_cons, List.any_nil, Bool.false_eq_true, ↓reduceIte, wpS, wantedA, okDst, Nat.reduceLT, decide_true, step1, isOwnCall, hxOp, px, pbinP, AS.eval, AS.get, Lift.look, Nat.reduceEqDiff, Option.getD_some, pbinI, hlt', thenQ, isB, AS.put, dropKey, tmpOf, asB, Bool.or_true, hasAll, and_true, true_and]
          by_cases hne : x.fr.getD b 0 = s.fr.getD b 0
          · have hne' : (x.fr.getD b 0 != s.fr.getD b 0) = false := by rw [hne]; exact bne_self_eq_false _
            refine SW.regionAny [] [[0, 1, 2, 3, 4, 5, 6, 7, 8, 9, 10, 11, 12, 13, 14, 15, 16, 17]] rfl (by rfl) (by kernel_rfl) ?_
            simp only [wpOL, wpO, LOp, List.getElem?_toArray, List.getElem?_cons_zero, okDst, Nat.reduceLT, decide_true, wantedA, ↓reduceIte, step1, isOwnCall, Bool.false_eq_true, hxOp, px, pfieldAddr, fieldOf, ty45, fieldIn, List.getElem?_cons_succ, ty43, Option.map_some, AS.eval, AS.get, Lift.look, Nat.reduceEqDiff, Option.getD_some, ne_eq, Nat.succ_ne_zero, not_false_eq_true, Nat.zero_add, AS.put, dropKey, pload, Heap.get_put, hqm, okOne, TK.isAgg, beq_self_eq_true, Bool.or_true, Nat.reduceAdd, stV_len xr, Nat.reduceLeDiff, and_self, Lift.valOf, stV_fr xr, List.getD_cons_zero, pindexAddr, ty2, Int.natCast_nonneg, Int.toNat_natCast, el64_len, xfl, hlt, gx, List.length_cons, List.length_nil, Nat.le_refl, List.take_succ_cons, List.take_nil, hrm, hrq, stV_len hr, stV_fr hr, gs, pbinP, pbinI, hne', Option.bind_some, beq_ft, Option.some.injEq, ofConst, ofVal, ppick_false, thenQ, true_and]
            refine SW.run [] _ ?_
            simp only [wpC, isB, AS.get, Lift.look, tmpOf, ↓reduceIte, Option.getD_some, asB, Bool.false_eq_true, inQ, thenQ, true_and]
            refine SW.run [] _ ?_
            simp only [wpC, Bool.false_eq_true, ↓reduceIte, wpS, stops, isFlt, ty3, wantedA, okDst, Nat.reduceLT, decide_true, step1, isOwnCall, hxOp, px, pbinP, AS.eval, AS.get, Lift.look, Nat.reduceEqDiff, Option.getD_some, ofConst, ofVal, pbinI, hb1, AS.put, dropKey, thenQ, HTo_self, true_and]
            exact ⟨b + 1, by omega, by omega, rfl⟩
          · have hne' : (x.fr.getD b 0 != s.fr.getD b 0) = true := by simpa using hne
            have hmem := (named b).1 hne
            refine SW.regionAny [] [[0, 1, 2, 3, 4, 5, 6, 7, 8, 9, 10, 11, 12, 13, 14, 15, 16, 17]] rfl (by rfl) (by kernel_rfl) ?_
            simp only [wpOL, wpO, LOp, List.getElem?_toArray, List.getElem?_cons_zero, okDst, Nat.reduceLT, decide_true, wantedA, ↓reduceIte, step1, isOwnCall, Bool.false_eq_true, hxOp, px, pfieldAddr, fieldOf, ty45, fieldIn, List.getElem?_cons_succ, ty43, Option.map_some, AS.eval, AS.get, Lift.look, Nat.reduceEqDiff, Option.getD_some, ne_eq, Nat.succ_ne_zero, not_false_eq_true, Nat.zero_add, AS.put, dropKey, pload, Heap.get_put, hqm, okOne, TK.isAgg, beq_self_eq_true, Bool.or_true, Nat.reduceAdd, stV_len xr, Nat.reduceLeDiff, and_self, Lift.valOf, stV_fr xr, List.getD_cons_zero, pindexAddr, ty2, Int.natCast_nonneg, Int.toNat_natCast, el64_len, xfl, hlt, gx, List.length_cons, List.length_nil, Nat.le_refl, List.take_succ_cons, List.take_nil, hrm, hrq, stV_len hr, stV_fr hr, gs, pbinP, pbinI, hne', Option.bind_some, pbuild, ty58, ty3, List.map_cons, ofVal, List.map_nil, ofConst, pfill, PV.cells, Nat.reduceMul, splice, List.take_zero, List.nil_append, List.drop_succ_cons, List.drop_zero, List.cons_append, List.drop_nil, List.append_nil, okZero, List.all_cons, Value.oneCell', List.all_nil, Bool.and_true, known, plookup, ty57, ty4, pair58, hmem, pun, Bool.not_true, ppick_bool, thenQ, true_and]
            refine SW.run [] _ ?_
            simp only [wpC, isB, AS.get, Lift.look, tmpOf, ↓reduceIte, Option.getD_some, asB, Bool.false_eq_true, inQ, thenQ, true_and]
            refine SW.run [] _ ?_
            simp only [wpC, Bool.false_eq_true, ↓reduceIte, wpS, stops, isFlt, ty3, wantedA, okDst, Nat.reduceLT, decide_true, step1, isOwnCall, hxOp, px, pbinP, AS.eval, AS.get, Lift.look, Nat.reduceEqDiff, Option.getD_some, ofConst, ofVal, pbinI, hb1, AS.put, dropKey, thenQ, HTo_self, true_and]
            exact ⟨b + 1, by omega, by omega, rfl⟩
        · have hlt' : ¬ ((b : Nat) : Int) < ((s.fr.length : Nat) : Int) := by omega
          refine SW.run [] _ ?_
          simp only [wpC, mayStop, stops, isFlt, Specs.has, Specs.hasO, Bool.or_false, Bool.not_false, List.any_cons, List.any_nil, Bool.false_eq_true, ↓reduceIte, wpS, wantedA, okDst, Nat.reduceLT, decide_true, step1, isOwnCall, hxOp, px, pbinP, AS.eval, AS.get, Lift.look, Nat.reduceEqDiff, Option.getD_some, pbinI, hlt', decide_false, thenQ, isB, AS.put, dropKey, tmpOf, asB, inQ, true_and]
          refine SW.enter (n := 131) (l := [(3, .val (.pointer (some ⟨r, 0, none⟩))), (5, .val (.pointer (some ⟨q, 0, none⟩))), (8, .val (.map (some m)))]) (H := ((h.put r (.cells 45 20 (stV s))).put q (.cells 45 20 (stV x))).put m (.pmap (namedTo code))) rfl (HTo.refl _ _) ⟨rfl, rfl, rfl, trivial⟩ ?_
          clear hb hlt hlt'
          refine SW.seq (SW.run [] _ ?_)
          simp only [wpC, mayStop, stops, isFlt, Specs.has, Specs.hasO, Bool.or_false, Bool.not_false, List.any_cons, List.any_nil, Bool.false_eq_true, ↓reduceIte, wpS, wantedA, okDst, Nat.reduceLT, decide_true, step1, isOwnCall, hxOp, px, pfieldAddr, fieldOf, ty45, fieldIn, List.getElem?_cons_succ, List.getElem?_cons_zero, ty43, Option.map_some, AS.eval, AS.get, Lift.look, Option.getD_some, ne_eq, Nat.succ_ne_zero, not_false_eq_true, Nat.zero_add, AS.put, dropKey, Nat.reduceEqDiff, pload, Heap.get_put, hrm, hrq, okOne, TK.isAgg, beq_self_eq_true, Bool.or_true, Nat.reduceAdd, stV_len hr, Nat.reduceLeDiff, and_self, Lift.valOf, stV_da hr, List.getD_cons_zero, pcall, plen, el64_len, okLen, ofConst, ofVal, thenQ, true_and]
          refine SW.loopH 131 (fun b : Nat => [(3, .val (.pointer (some ⟨r, 0, none⟩))), (5, .val (.pointer (some ⟨q, 0, none⟩))), (8, .val (.map (some m))), (108, .int .i64 s.da.length), (109, .int .i64 b)]) (fun b => ((h.put r (.cells 45 20 (stV s))).put q (.cells 45 20 (stV x))).put m (.pmap (namedTo code))) (fun b => b ≤ s.da.length) (fun b => s.da.length - b) 0 (Nat.zero_le _) ?_ ?_
          · exact ⟨rfl, HTo.refl _ _, ⟨rfl, rfl, rfl, rfl, rfl, trivial⟩⟩
          · intro b hb
            by_cases hlt : b < s.da.length
            · have hlt' : ((b : Nat) : Int) < ((s.da.length : Nat) : Int) := by omega
              have hltx : b < x.da.length := by rw [xdl]; exact hlt
              have gs := el64_getD hlt
              have gx := el64_getD hltx
              have hb1 : IntKind.i64.wrap ((b : Int) + 1) = ((b + 1 : Nat) : Int) := by
                rw [w64 (by omega) (by omega)]
                omega
              refine SW.run [] _ ?_
              simp only [wpC, mayStop, stops, isFlt, Specs.has, Specs.hasO, Bool.or_false, Bool.not_false, List.any_cons, List.any_nil, Bool.false_eq_true, ↓reduceIte, wpS, wantedA, okDst, Nat.reduceLT, decide_true, step1, isOwnCall, hxOp, px, pbinP, AS.eval, AS.get, Lift.look, Nat.reduceEqDiff, Option.getD_some, pbinI, hlt', thenQ, isB, AS.put, dropKey, tmpOf, asB, Bool.or_true, hasAll, and_true, true_and]
              by_cases hne : x.da.getD b 0 = s.da.getD b 0
              · have hne' : (x.da.getD b 0 != s.da.getD b 0) = false := by rw [hne]; exact bne_self_eq_false _
                refine SW.regionAny [] [[0, 1, 2, 3, 4, 5, 6, 7, 8, 9, 10, 11, 12, 13, 14, 15, 16, 17]] rfl (by rfl) (by kernel_rfl) ?_
                simp only [wpOL, wpO, LOp, List.getElem?_toArray, List.getElem?_cons_zero, okDst, Nat.reduceLT, decide_true, wantedA, ↓reduceIte, step1, isOwnCall, Bool.false_eq_true, hxOp, px, pfieldAddr, fieldOf, ty45, fieldIn, List.getElem?_cons_succ, ty43, Option.map_some, AS.eval, AS.get, Lift.look, Nat.reduceEqDiff, Option.getD_some, ne_eq, Nat.succ_ne_zero, not_false_eq_true, Nat.zero_add, AS.put, dropKey, pload, Heap.get_put, hqm, okOne, TK.isAgg, beq_self_eq_true, Bool.or_true, Nat.reduceAdd, stV_len xr, Nat.reduceLeDiff, and_self, Lift.valOf, stV_da xr, List.getD_cons_zero, pindexAddr, ty2, Int.natCast_nonneg, Int.toNat_natCast, el64_len, xdl, hlt, gx, List.length_cons, List.length_nil, Nat.le_refl, List.take_succ_cons, List.take_nil, hrm, hrq, stV_len hr, stV_da hr, gs, pbinP, pbinI, hne', Option.bind_some, beq_ft, Option.some.injEq, ofConst, ofVal, ppick_false, thenQ, true_and]
                refine SW.run [] _ ?_
                simp only [wpC, isB, AS.get, Lift.look, tmpOf, ↓reduceIte, Option.getD_some, asB, Bool.false_eq_true, inQ, thenQ, true_and]
                refine SW.run [] _ ?_
                simp only [wpC, Bool.false_eq_true, ↓reduceIte, wpS, stops, isFlt, ty3, wantedA, okDst, Nat.reduceLT, decide_true, step1, isOwnCall, hxOp, px, pbinP, AS.eval, AS.get, Lift.look, Nat.reduceEqDiff, Option.getD_some, ofConst, ofVal, pbinI, hb1, AS.put, dropKey, thenQ, HTo_self, true_and]
                exact ⟨b + 1, by omega, by omega, rfl⟩
              · have hne' : (x.da.getD b 0 != s.da.getD b 0) = true := by simpa using hne
                have hmem := (named b).2 hne
                refine SW.regionAny [] [[0, 1, 2, 3, 4, 5, 6, 7, 8, 9, 10, 11, 12, 13, 14, 15, 16, 17]] rfl (by rfl) (by kernel_rfl) ?_
                simp only [wpOL, wpO, LOp, List.getElem?_toArray, List.getElem?_cons_zero, okDst, Nat.reduceLT, decide_true, wantedA, ↓reduceIte, step1, isOwnCall, Bool.false_eq_true, hxOp, px, pfieldAddr, fieldOf, ty45, fieldIn, List.getElem?_cons_succ, ty43, Option.map_some, AS.eval, AS.get, Lift.look, Nat.reduceEqDiff, Option.getD_some, ne_eq, Nat.succ_ne_zero, not_false_eq_true, Nat.zero_add, AS.put, dropKey, pload, Heap.get_put, hqm, okOne, TK.isAgg, beq_self_eq_true, Bool.or_true, Nat.reduceAdd, stV_len xr, Nat.reduceLeDiff, and_self, Lift.valOf, stV_da xr, List.getD_cons_zero, pindexAddr, ty2, Int.natCast_nonneg, Int.toNat_natCast, el64_len, xdl, hlt, gx, List.length_cons, List.length_nil, Nat.le_refl, List.take_succ_cons, List.take_nil, hrm, hrq, stV_len hr, stV_da hr, gs, pbinP, pbinI, hne', Option.bind_some, pbuild, ty58, ty3, List.map_cons, ofVal, List.map_nil, ofConst, pfill, PV.cells, Nat.reduceMul, splice, List.take_zero, List.nil_append, List.drop_succ_cons, List.drop_zero, List.cons_append, List.drop_nil, List.append_nil, okZero, List.all_cons, Value.oneCell', List.all_nil, Bool.and_true, known, plookup, ty57, ty4, pair58, hmem, pun, Bool.not_true, ppick_bool, thenQ, true_and]
                refine SW.run [] _ ?_
                simp only [wpC, isB, AS.get, Lift.look, tmpOf, ↓reduceIte, Option.getD_some, asB, Bool.false_eq_true, inQ, thenQ, true_and]
                refine SW.run [] _ ?_
                simp only [wpC, Bool.false_eq_true, ↓reduceIte, wpS, stops, isFlt, ty3, wantedA, okDst, Nat.reduceLT, decide_true, step1, isOwnCall, hxOp, px, pbinP, AS.eval, AS.get, Lift.look, Nat.reduceEqDiff, Option.getD_some, ofConst, ofVal, pbinI, hb1, AS.put, dropKey, thenQ, HTo_self, true_and]
                exact ⟨b + 1, by omega, by omega, rfl⟩
            · have hlt' : ¬ ((b : Nat) : Int) < ((s.da.length : Nat) : Int) := by omega
              refine SW.run [] _ ?_
              simp only [wpC, mayStop, stops, isFlt, Specs.has, Specs.hasO, Bool.or_false, Bool.not_false, List.any_cons, List.any_nil, Bool.false_eq_true, ↓reduceIte, wpS, wantedA, okDst, Nat.reduceLT, decide_true, step1, isOwnCall, hxOp, px, pbinP, AS.eval, AS.get, Lift.look, Nat.reduceEqDiff, Option.getD_some, pbinI, hlt', decide_false, thenQ, isB, AS.put, dropKey, tmpOf, asB, inQ, true_and]
              refine SW.run [] _ ?_
              simp only [wpC, mayStop, stops, isFlt, Specs.has, Specs.hasO, Bool.or_false, Bool.not_false, List.any_cons, List.any_nil, Bool.false_eq_true, ↓reduceIte, wpS, wantedA, okDst, Nat.reduceLT, decide_true, step1, isOwnCall, hxOp, px, AS.eval, ofConst, ofVal, thenQ, RPost, sres, AS.put, dropKey, Nat.reduceEqDiff, Tryd.results7, sresL, sres1, AS.get, Lift.look, Option.getD_some, Option.some.injEq, Ret_fin, exists_eq_left', true_and]
              exact HSub.to (hdrop (hdrop (hdrop (hself _) h0) h3) hm)
end Go.Proofs.YthdmdeiaonkeoaaDoor
