/- Contracts of functions that the law reaches. -/
import Derived.Test.YthdmdeiaonkeoaaDoorT18
set_option linter.unusedSimpArgs false
set_option linter.unusedVariables false
namespace Go.Proofs.YthdmdeiaonkeoaaDoor
open Go Go.RowKit Go.Proofs.YthdmdeiaonkeoaaDoor Go.Proofs.YthdmdeiaonkeoaaDoor.Lift

set_option maxRecDepth 100000 in
set_option maxHeartbeats 4000000 in
theorem RunQ_ok (code : List Int) (s : Mach) (h : Heap) (hrg : s.rg.length = 16) (hst : s.st < 9223372036854775808) (hcl : code.length ≤ 1000000000) (hf : s.fr.length ≤ 1000000000) (hd : s.da.length ≤ 1000000000) :
    SCalls env 20 [.list 1 (el64 code), .agg (stV s)] h (RunQ code s h) := by
  refine SCalls.body Tryd.func20 rfl rfl (by simp [Tryd.ntmps20]) ?_
  unfold stV
  refine SW.seq (SW.run [] _ ?_)
  simp only [wpC, Bool.false_eq_true, ↓reduceIte, wpS, stops, wantedA, okDst, Tryd.ntmps20, Nat.reduceLT, decide_true, step1, known1, AS.eval, AS.get, enumA, Nat.zero_add, Lift.look, reduceCtorEq, Option.getD_some, AS.put, dropKey, Nat.reduceEqDiff, okAlloc, ty45, okZero, List.all_cons, Value.oneCell', List.all_nil, Bool.and_true, PV.cells, stC_len hrg, Heap.get_put, some_none, isOwnCall, hxOp, px, ofConst, ofVal, zeroOf, List.map_cons, List.map_nil, List.length_cons, List.length_nil, Nat.reduceAdd, thenQ, true_and]
  rintro r hr q ⟨hqr, hq⟩
  have hrq : ¬ r = q := fun e => hqr e.symm
  refine SW.seq (SW.regionAny [oClone] [[0, 1, 3, 4, 2, 6, 5, 7, 8, 9]] rfl (by rfl) (by kernel_rfl) ?_)
  simp only [wpOL, wpO, LOp, List.getElem?_toArray, List.getElem?_cons_zero, okDst, Nat.reduceLT, decide_true, wantedA, ↓reduceIte, step1, isOwnCall, Bool.false_eq_true, hxOp, px, pfieldAddr, fieldOf, ty45, fieldIn, List.getElem?_cons_succ, ty43, Option.map_some, AS.eval, AS.get, Lift.look, Nat.reduceEqDiff, Option.getD_some, ne_eq, Nat.succ_ne_zero, not_false_eq_true, Nat.zero_add, AS.put, dropKey, reduceCtorEq, pload, Heap.get_put, hrq, okOne, TK.isAgg, beq_self_eq_true, Bool.or_true, Nat.reduceAdd, stC_len hrg, Nat.reduceLeDiff, and_self, Lift.valOf, stC_fr hrg, List.getD_cons_zero, stC_da hrg, Specs.hasO, oClone, Nat.reduceSub, ownSpec, okArg, ofConst, ofVal, List.all_cons, List.all_nil, Bool.and_true, Specs.atO, List.map_cons, List.map_nil, sClone, un64_el64, hf, OwnR, isApp, ownOf, Int.reduceToNat, hd, hx, known1, PV.cells, splice, HBad, thenQ, true_and]
  intro u1 h1 own1 u2 h2 own2
  have own1 : Own ((h.put r (.cells 45 20 (stC s.pc s.rg (.list 1 (el64 s.fr)) (.list 1 (el64 s.da)) s.st))).put q (.cells 45 20 zSt)) 2 1 (el64 s.fr) u1 h1 := own1
  have own2 : Own h1 2 1 (el64 s.da) u2 h2 := own2
  have hr1 : h1 r = some (.cells 45 20 (stC s.pc s.rg (.list 1 (el64 s.fr)) (.list 1 (el64 s.da)) s.st)) := own_keeps own1 (by rw [Heap.put_ne _ _ hrq, Heap.put_same])
  have hr2 := own_keeps own2 hr1
  obtain ⟨o1, ok1, rfl, e1⟩ := own_omem own1
  obtain ⟨o2, ok2, rfl, e2⟩ := own_omem own2
  obtain ⟨ok1a, n1q⟩ := okO_put ok1
  obtain ⟨ok1b, n1r⟩ := okO_put ok1a
  rw [omem_put n1q, omem_put n1r] at e1
  subst e1
  obtain ⟨ok2a, n2q⟩ := okO_put ok2
  obtain ⟨ok2b, n2r⟩ := okO_put ok2a
  rw [omem_put n2q, omem_put n2r] at e2
  subst e2
  simp only [Heap.get_put, hrq, ↓reduceIte, List.length_cons, List.length_nil, Nat.zero_add, stC_len hrg, Nat.reduceLeDiff, and_self, Nat.reduceAdd, stC_setfr hrg, stC_setda hrg, true_and]
  clear own1 own2 hr1 hr2 ok1 ok1a ok2 ok2a
  refine SW.enter (n := 199) (l := [(0, .list 1 (el64 code)), (3, .val (.pointer (some ⟨r, 0, none⟩))), (4, .val (.pointer (some ⟨q, 0, none⟩)))]) (H := ((mems o1 o2 s h).put q (.cells 45 20 zSt)).put r (.cells 45 20 (ownV o1 o2 s.fr.length s.da.length s))) rfl ?_ ⟨rfl, rfl, rfl, trivial⟩ ?_
  · refine HTo_eq (funext fun j => ?_)
    by_cases j1 : j = r
    · subst j1; simp only [Heap.put_same, ownV]
    · by_cases j2 : j = q
      · subst j2; simp only [Heap.put_same, Heap.put_ne _ _ j1]
      · simp only [Heap.put_ne _ _ j1, Heap.put_ne _ _ j2]; rfl
  refine SW.seq (SW.run [] _ ?_)
  simp only [wpC, Bool.false_eq_true, ↓reduceIte, wpS, stops, wantedA, okDst, Nat.reduceLT, decide_true, step1, isOwnCall, hxOp, px, pfieldAddr, fieldOf, ty45, fieldIn, List.getElem?_cons_succ, List.getElem?_cons_zero, ty43, Option.map_some, AS.eval, AS.get, Lift.look, reduceCtorEq, Option.getD_some, ne_eq, Nat.succ_ne_zero, not_false_eq_true, Nat.zero_add, AS.put, dropKey, Nat.reduceEqDiff, ownV, pload, Heap.get_put, okOne, TK.isAgg, beq_self_eq_true, Bool.or_true, Nat.reduceAdd, stC_len hrg, Nat.reduceLeDiff, and_self, Lift.valOf, stC_fr hrg, List.getD_cons_zero, stC_da hrg, pbuild, ty76, List.map_cons, ofVal, List.map_nil, ofConst, pfill, PV.cells, List.length_cons, List.length_nil, Nat.reduceMul, splice, List.take_zero, List.nil_append, List.drop_succ_cons, List.drop_zero, List.cons_append, Nat.le_refl, List.take_succ_cons, List.drop_nil, List.append_nil, okZero, List.all_cons, Value.oneCell', List.all_nil, Bool.and_true, known, okAlloc, some_none, hx, zeroOf, known1, thenQ, true_and]
  rintro m hm
  obtain ⟨hmr, hmq, hm⟩ := hm
  have hrm : ¬ r = m := fun e => hmr e.symm
  have hqm : ¬ q = m := fun e => hmq e.symm
  refine SW.seq (SW.run [] _ ?_)
  simp only [wpC, Bool.false_eq_true, ↓reduceIte, wpS, stops, wantedA, okDst, Nat.reduceLT, decide_true, step1, isOwnCall, hxOp, px, pfieldAddr, fieldOf, ty45, fieldIn, List.getElem?_cons_succ, List.getElem?_cons_zero, ty3, Option.map_some, AS.eval, AS.get, Lift.look, Nat.reduceEqDiff, reduceCtorEq, Option.getD_some, ne_eq, Nat.succ_ne_zero, not_false_eq_true, Nat.zero_add, AS.put, dropKey, pload, Heap.get_put, hrm, okOne, TK.isAgg, beq_self_eq_true, Bool.or_true, Nat.reduceAdd, stC_len hrg, Nat.le_refl, and_self, Lift.valOf, stC_st hrg, List.getD_cons_zero, pcall, ofConst, ofVal, hx, known1, PV.cells, List.length_cons, List.length_nil, splice, stC_setst hrg, stC_none hrg, List.append_nil, thenQ, true_and]
  refine SW.seq (SW.run [] _ ?_)
  simp only [wpC, Bool.false_eq_true, ↓reduceIte, wpS, stops, wantedA, okDst, Nat.reduceLT, decide_true, step1, isOwnCall, hxOp, px, pfieldAddr, fieldOf, ty45, fieldIn, List.getElem?_cons_succ, List.getElem?_cons_zero, ty42, Option.map_some, AS.eval, AS.get, Lift.look, Nat.reduceEqDiff, reduceCtorEq, Option.getD_some, ne_eq, Nat.succ_ne_zero, not_false_eq_true, Nat.zero_add, AS.put, dropKey, pindexAddr, ty2, ofConst, ofVal, Int.reduceLE, Int.cast_ofNat_Int, Int.reduceLT, and_self, Int.reduceToNat, Nat.reduceMul, Nat.add_zero, hx, Heap.get_put, known1, PV.cells, List.length_cons, List.length_nil, Nat.reduceAdd, stC_len hrg, Nat.reduceLeDiff, splice, stC_pc, List.cons_append, List.nil_append, stC_set0 hrg, thenQ, true_and]
  have hmax : (if 0 < s.st then s.st else 0) = max 0 s.st := by split <;> omega
  rw [hmax]
  have hlen0 : s.begin.fr.length = s.fr.length ∧ s.begin.da.length = s.da.length := ⟨rfl, rfl⟩
  have hb0 : s.begin.ok := ⟨by simp [Mach.begin, hrg], by show 0 ≤ max 0 s.st; omega, by show max 0 s.st < _; omega⟩
  clear own1 own2 hmax
  refine SW.seq (SW.block ?_)
  refine SW.loopH 199 (fun b : Mach => [(0, .list 1 (el64 code)), (3, .val (.pointer (some ⟨r, 0, none⟩))), (4, .val (.pointer (some ⟨q, 0, none⟩))), (7, .val (.pointer (some ⟨m, 0, none⟩)))]) (fun b => (((mems o1 o2 b h).put q (.cells 45 20 zSt)).put r (.cells 45 20 (ownV o1 o2 s.fr.length s.da.length b))).put m (.cells 76 2 [.val (ovl o1 s.fr.length), .val (ovl o2 s.da.length)])) (fun b => b.ok ∧ b.fr.length = s.fr.length ∧ b.da.length = s.da.length ∧ runS code b.st.toNat b = runAll code s) (fun b => b.st.toNat) s.begin ⟨hb0, rfl, rfl, rfl⟩ ?_ ?_
  · refine ⟨rfl, ?_, ⟨rfl, rfl, rfl, rfl, trivial⟩⟩
    refine HTo_eq (funext fun j => ?_)
    by_cases j1 : j = m
    · subst j1; simp only [Heap.put_same, Heap.put_ne _ _ hmr]
    · by_cases j2 : j = r
      · subst j2; simp only [Heap.put_same, Heap.put_ne _ _ hrm]; rfl
      · simp only [Heap.put_ne _ _ j1, Heap.put_ne _ _ j2]; rfl
  rintro b ⟨hok, hfl, hdl, hrun⟩
  have hb := hok.rg
  have nR : mems o1 o2 b h r = none := none_mems ⟨hr, n1r, n2r⟩
  have nQ : mems o1 o2 b h q = none := none_mems ⟨hq, n1q, n2q⟩
  have nM : mems o1 o2 b h m = none := none_mems (mems_none hm)
  have hz : zSt.length = 20 := rfl
  have hz2 : List.drop 20 zSt = [] := rfl
  by_cases h0 : 0 < b.st
  · by_cases hp0 : b.pc < 0
    · have e : stepS code b = .out b 3 b.pc := by unfold stepS; rw [if_pos (.inl hp0)]
      refine SW.run [] _ ?_
      simp only [wpC, mayStop, stops, isFlt, Specs.has, Specs.hasO, Bool.or_false, Bool.not_false, List.any_cons, List.any_nil, Bool.false_eq_true, ↓reduceIte, wpS, wantedA, okDst, Nat.reduceLT, decide_true, step1, isOwnCall, hxOp, px, pfieldAddr, fieldOf, ty45, fieldIn, List.getElem?_cons_succ, List.getElem?_cons_zero, ty3, Option.map_some, AS.eval, AS.get, Lift.look, reduceCtorEq, Option.getD_some, ne_eq, Nat.succ_ne_zero, not_false_eq_true, Nat.zero_add, AS.put, dropKey, Nat.reduceEqDiff, ownV, pload, Heap.get_put, hrm, okOne, TK.isAgg, beq_self_eq_true, Bool.or_true, Nat.reduceAdd, stC_len hb, Nat.le_refl, and_self, Lift.valOf, stC_st hb, List.getD_cons_zero, pbinP, ofConst, ofVal, pbinI, h0, thenQ, isB, tmpOf, asB, Nat.add_zero, Nat.reduceLeDiff, List.drop_zero, stC_pc, hp0, List.getElem?_toArray, Option.bind_some, beq_tf, Option.some.injEq, ppick_true, hasAll, and_true, true_and]
      refine SW.regionAny2 [] [(0, []), (1, []), (2, [3]), (3, []), (4, []), (5, [])] rfl (by rfl) (by kernel_rfl) ?_
      simp only [wpO2, dynOK, LOp, List.getElem?_toArray, List.getElem?_cons_zero, okDst, Nat.reduceLT, decide_true, wantedA, ↓reduceIte, step1, isOwnCall, Bool.false_eq_true, hxOp, px, pload, ty45, AS.eval, AS.get, Lift.look, Nat.reduceEqDiff, reduceCtorEq, Option.getD_some, Heap.get_put, hrm, okOne, TK.isAgg, Nat.reduceBEq, Bool.or_false, Nat.zero_add, stC_len hb, Nat.le_refl, and_self, Lift.valOf, List.drop_zero, stC_all hb, List.getElem?_cons_succ, AS.put, dropKey, pfieldAddr, fieldOf, fieldIn, ty3, Option.map_some, ne_eq, Nat.succ_ne_zero, not_false_eq_true, Nat.add_zero, disj, ptrAt, ptrT, hrq, beq_self_eq_true, Bool.or_true, Nat.reduceLeDiff, stC_pc, List.getD_cons_zero, hx, hqm, hqr, known1, PV.cells, hz, splice, List.take_zero, List.nil_append, hz2, List.append_nil, ofConst, ofVal, thenQ, true_and]
      refine SW.run [] _ ?_
      simp only [wpC, thenQ, inQ, RPost, sres, Tryd.results20, sresL, sres1, AS.get, Lift.look, Nat.reduceEqDiff, ↓reduceIte, reduceCtorEq, Option.getD_some, ty45, Heap.get_put, Nat.zero_add, stC_len hb, Nat.le_refl, okOne, TK.isAgg, Nat.reduceBEq, Bool.or_false, and_self, Lift.valOf, List.drop_zero, stC_all hb, Option.some.injEq, exists_eq_left']
      exact ⟨_, HSub.to (hdrop (hdrop (hdrop (hdrop (hself _) nQ) nR) nM) nQ), exitQ ok1b ok2b hfl hdl (by rw [← hrun, runS_out h0 e])⟩
    by_cases hp1 : (code.length : Int) ≤ b.pc
    · have e : stepS code b = .out b 3 b.pc := by unfold stepS; rw [if_pos (.inr hp1)]
      refine SW.run [] _ ?_
      simp only [wpC, mayStop, stops, isFlt, Specs.has, Specs.hasO, Bool.or_false, Bool.not_false, List.any_cons, List.any_nil, Bool.false_eq_true, ↓reduceIte, wpS, wantedA, okDst, Nat.reduceLT, decide_true, step1, isOwnCall, hxOp, px, pfieldAddr, fieldOf, ty45, fieldIn, List.getElem?_cons_succ, List.getElem?_cons_zero, ty3, Option.map_some, AS.eval, AS.get, Lift.look, reduceCtorEq, Option.getD_some, ne_eq, Nat.succ_ne_zero, not_false_eq_true, Nat.zero_add, AS.put, dropKey, Nat.reduceEqDiff, ownV, pload, Heap.get_put, hrm, okOne, TK.isAgg, beq_self_eq_true, Bool.or_true, Nat.reduceAdd, stC_len hb, Nat.le_refl, and_self, Lift.valOf, stC_st hb, List.getD_cons_zero, pbinP, ofConst, ofVal, pbinI, h0, thenQ, isB, tmpOf, asB, Nat.add_zero, Nat.reduceLeDiff, List.drop_zero, stC_pc, hp0, decide_false, List.getElem?_toArray, Option.bind_some, pcall, ty41, plen, el64_len, okLen, hp1, ppick_bool, hasAll, and_true, true_and]
      refine SW.regionAny2 [] [(0, []), (1, []), (2, [3]), (3, []), (4, []), (5, [])] rfl (by rfl) (by kernel_rfl) ?_
      simp only [wpO2, dynOK, LOp, List.getElem?_toArray, List.getElem?_cons_zero, okDst, Nat.reduceLT, decide_true, wantedA, ↓reduceIte, step1, isOwnCall, Bool.false_eq_true, hxOp, px, pload, ty45, AS.eval, AS.get, Lift.look, Nat.reduceEqDiff, reduceCtorEq, Option.getD_some, Heap.get_put, hrm, okOne, TK.isAgg, Nat.reduceBEq, Bool.or_false, Nat.zero_add, stC_len hb, Nat.le_refl, and_self, Lift.valOf, List.drop_zero, stC_all hb, List.getElem?_cons_succ, AS.put, dropKey, pfieldAddr, fieldOf, fieldIn, ty3, Option.map_some, ne_eq, Nat.succ_ne_zero, not_false_eq_true, Nat.add_zero, disj, ptrAt, ptrT, hrq, beq_self_eq_true, Bool.or_true, Nat.reduceLeDiff, stC_pc, List.getD_cons_zero, hx, hqm, hqr, known1, PV.cells, hz, splice, List.take_zero, List.nil_append, hz2, List.append_nil, ofConst, ofVal, thenQ, true_and]
      refine SW.run [] _ ?_
      simp only [wpC, thenQ, inQ, RPost, sres, Tryd.results20, sresL, sres1, AS.get, Lift.look, Nat.reduceEqDiff, ↓reduceIte, reduceCtorEq, Option.getD_some, ty45, Heap.get_put, Nat.zero_add, stC_len hb, Nat.le_refl, okOne, TK.isAgg, Nat.reduceBEq, Bool.or_false, and_self, Lift.valOf, List.drop_zero, stC_all hb, Option.some.injEq, exists_eq_left']
      exact ⟨_, HSub.to (hdrop (hdrop (hdrop (hdrop (hself _) nQ) nR) nM) nQ), exitQ ok1b ok2b hfl hdl (by rw [← hrun, runS_out h0 e])⟩
    have hpl : b.pc.toNat < code.length := by omega
    have hpn : 0 ≤ b.pc := by omega
    have hw := el64_getD hpl
    refine SW.run [] _ ?_
    simp only [wpC, mayStop, stops, isFlt, Specs.has, Specs.hasO, Bool.or_false, Bool.not_false, List.any_cons, List.any_nil, Bool.false_eq_true, ↓reduceIte, wpS, wantedA, okDst, Nat.reduceLT, decide_true, step1, isOwnCall, hxOp, px, pfieldAddr, fieldOf, ty45, fieldIn, List.getElem?_cons_succ, List.getElem?_cons_zero, ty3, Option.map_some, AS.eval, AS.get, Lift.look, reduceCtorEq, Option.getD_some, ne_eq, Nat.succ_ne_zero, not_false_eq_true, Nat.zero_add, AS.put, dropKey, Nat.reduceEqDiff, ownV, pload, Heap.get_put, hrm, okOne, TK.isAgg, beq_self_eq_true, Bool.or_true, Nat.reduceAdd, stC_len hb, Nat.le_refl, and_self, Lift.valOf, stC_st hb, List.getD_cons_zero, pbinP, ofConst, ofVal, pbinI, h0, thenQ, isB, tmpOf, asB, Nat.add_zero, Nat.reduceLeDiff, List.drop_zero, stC_pc, hp0, decide_false, List.getElem?_toArray, Option.bind_some, pcall, ty41, plen, el64_len, okLen, hp1, ppick_bool, hasAll, and_true, true_and]
    by_cases hi : ¬ isW (code.getD b.pc.toNat 0) = true
    · have e : stepS code b = .out b 4 b.pc := by unfold stepS; rw [if_neg (by omega), if_neg hi]
      have hdec : decS (code.getD b.pc.toNat 0) = .tuple [.agg [.int .i64 0, .int .i64 0, .int .i64 0, .int .i64 0, .int .i64 0], .int .i64 2] := by unfold decS; rw [if_neg hi]; rfl
      refine SW.run [eDecode] _ ?_
      simp only [wpC, mayStop, stops, isFlt, Specs.has, eDecode, Specs.hasO, Nat.reduceLeDiff, Nat.reduceSub, false_and, ↓reduceIte, Bool.or_false, List.any_cons, Bool.not_true, List.any_nil, Bool.false_eq_true, wpS, wantedA, okDst, Nat.reduceLT, decide_true, step1, isOwnCall, hxOp, px, AS.eval, AS.get, Lift.look, Nat.succ_ne_zero, Option.getD_some, AS.put, dropKey, Nat.reduceEqDiff, reduceCtorEq, pfieldAddr, fieldOf, ty45, fieldIn, List.getElem?_cons_zero, ty3, Option.map_some, ne_eq, not_false_eq_true, Nat.add_zero, pload, Heap.get_put, hrm, okOne, TK.isAgg, beq_self_eq_true, Bool.or_true, Nat.zero_add, stC_len hb, and_self, Lift.valOf, List.drop_zero, stC_pc, List.getD_cons_zero, pindexAddr, ty41, hpn, el64_len, hpl, hw, List.length_cons, List.length_nil, Nat.le_refl, List.take_succ_cons, List.take_nil, pcall, okArg, ofConst, ofVal, List.all_cons, List.all_nil, Bool.and_true, Specs.at, List.map_cons, List.map_nil, sDecode, hdec, List.getElem?_cons_succ, okAlloc, ty23, okZero, Value.oneCell', some_none, hx, zeroOf, Nat.reduceAdd, known1, PV.cells, splice, List.take_zero, List.nil_append, List.drop_succ_cons, List.drop_nil, List.append_nil, thenQ, pbinP, pbinI, Int.reduceBNe, isB, tmpOf, asB, true_and]
      rintro d ⟨hdm, hdr, hdq, hdn⟩
      have hmd : ¬ m = d := fun e => hdm e.symm
      have hrd : ¬ r = d := fun e => hdr e.symm
      have hqd : ¬ q = d := fun e => hdq e.symm
      refine SW.regionAny2 [] [(0, []), (1, []), (2, [3]), (3, []), (4, []), (5, [])] rfl (by rfl) (by kernel_rfl) ?_
      simp only [wpO2, dynOK, LOp, List.getElem?_toArray, List.getElem?_cons_zero, okDst, Nat.reduceLT, decide_true, wantedA, ↓reduceIte, step1, isOwnCall, Bool.false_eq_true, hxOp, px, pload, ty45, AS.eval, AS.get, Lift.look, Nat.reduceEqDiff, reduceCtorEq, Option.getD_some, Heap.get_put, hrd, hrm, okOne, TK.isAgg, Nat.reduceBEq, Bool.or_false, Nat.zero_add, stC_len hb, Nat.le_refl, and_self, Lift.valOf, List.drop_zero, stC_all hb, List.getElem?_cons_succ, AS.put, dropKey, pfieldAddr, fieldOf, fieldIn, ty3, Option.map_some, ne_eq, Nat.succ_ne_zero, not_false_eq_true, Nat.add_zero, disj, ptrAt, ptrT, hrq, beq_self_eq_true, Bool.or_true, Nat.reduceLeDiff, stC_pc, List.getD_cons_zero, hx, hqd, hqm, hqr, known1, PV.cells, hz, splice, List.take_zero, List.nil_append, hz2, List.append_nil, ofConst, ofVal, thenQ, true_and]
      refine SW.run [] _ ?_
      simp only [wpC, thenQ, inQ, RPost, sres, Tryd.results20, sresL, sres1, AS.get, Lift.look, Nat.reduceEqDiff, ↓reduceIte, reduceCtorEq, Option.getD_some, ty45, Heap.get_put, Nat.zero_add, stC_len hb, Nat.le_refl, okOne, TK.isAgg, Nat.reduceBEq, Bool.or_false, and_self, Lift.valOf, List.drop_zero, stC_all hb, Option.some.injEq, exists_eq_left']
      exact ⟨_, HSub.to (hdrop (hdrop (hdrop (hdrop (hdrop (hdrop (hself _) nQ) nR) nM) hdn) hdn) nQ), exitQ ok1b ok2b hfl hdl (by rw [← hrun, runS_out h0 e])⟩
    have hi : isW (code.getD b.pc.toNat 0) = true := Classical.not_not.1 hi
    obtain ⟨o, a, x, c, i, hdec, hstep, ⟨ho0, ho1, ha0, ha1, hx0, hx1, hc0, hc1⟩, hmb, hi0, hi1⟩ : ∃ o a x c i, decS (code.getD b.pc.toNat 0) = .tuple [.agg [.int .i64 o, .int .i64 a, .int .i64 x, .int .i64 c, .int .i64 i], .int .i64 0] ∧ stepS code b = execS b o a x c i ∧ inR o a x c ∧ (4 ≤ o ∧ o ≤ 7 → x = 0 ∨ x = 1) ∧ -2147483648 ≤ i ∧ i ≤ 2147483647 := by
      obtain ⟨k1, k2, k3, k4⟩ := isW_spec hi
      refine ⟨_, _, _, _, _, by unfold decS; rw [if_pos hi]; rfl, by unfold stepS; rw [if_neg (by omega), if_pos hi], k1, k2, k3, k4⟩
    refine SW.run [eDecode] _ ?_
    simp only [wpC, mayStop, stops, isFlt, Specs.has, eDecode, Specs.hasO, Nat.reduceLeDiff, Nat.reduceSub, false_and, ↓reduceIte, Bool.or_false, List.any_cons, Bool.not_true, List.any_nil, Bool.false_eq_true, wpS, wantedA, okDst, Nat.reduceLT, decide_true, step1, isOwnCall, hxOp, px, AS.eval, AS.get, Lift.look, Nat.succ_ne_zero, Option.getD_some, AS.put, dropKey, Nat.reduceEqDiff, reduceCtorEq, pfieldAddr, fieldOf, ty45, fieldIn, List.getElem?_cons_zero, ty3, Option.map_some, ne_eq, not_false_eq_true, Nat.add_zero, pload, Heap.get_put, hrm, okOne, TK.isAgg, beq_self_eq_true, Bool.or_true, Nat.zero_add, stC_len hb, and_self, Lift.valOf, List.drop_zero, stC_pc, List.getD_cons_zero, pindexAddr, ty41, hpn, el64_len, hpl, hw, List.length_cons, List.length_nil, Nat.le_refl, List.take_succ_cons, List.take_nil, pcall, okArg, ofConst, ofVal, List.all_cons, List.all_nil, Bool.and_true, Specs.at, List.map_cons, List.map_nil, sDecode, hdec, List.getElem?_cons_succ, okAlloc, ty23, okZero, Value.oneCell', some_none, hx, zeroOf, Nat.reduceAdd, known1, PV.cells, splice, List.take_zero, List.nil_append, List.drop_succ_cons, List.drop_nil, List.append_nil, thenQ, pbinP, pbinI, Int.reduceBNe, isB, tmpOf, asB, true_and]
    rintro d ⟨hdm, hdr, hdq, hdn⟩
    have hmd : ¬ m = d := fun e => hdm e.symm
    have hrd : ¬ r = d := fun e => hdr e.symm
    have hqd : ¬ q = d := fun e => hdq e.symm
    have hpc : IntKind.i64.wrap (b.pc + 1) = b.pc + 1 := w64 (by omega) (by omega)
    have hst1 : IntKind.i64.wrap (b.st - 1) = b.st - 1 := by have := hok.st1; exact w64 (by omega) (by omega)
    refine SW.seq (SW.run [] _ ?_)
    simp only [wpC, Bool.false_eq_true, ↓reduceIte, wpS, stops, wantedA, okDst, Nat.reduceLT, decide_true, step1, isOwnCall, hxOp, px, pfieldAddr, fieldOf, ty45, fieldIn, List.getElem?_cons_zero, ty3, Option.map_some, AS.eval, AS.get, Lift.look, Nat.reduceEqDiff, reduceCtorEq, Option.getD_some, ne_eq, Nat.succ_ne_zero, not_false_eq_true, Nat.add_zero, AS.put, dropKey, pload, Heap.get_put, hrd, hrm, okOne, TK.isAgg, beq_self_eq_true, Bool.or_true, Nat.zero_add, stC_len hb, Nat.reduceLeDiff, and_self, Lift.valOf, List.drop_zero, stC_pc, List.getD_cons_zero, isFlt, pbinP, ofConst, ofVal, pbinI, hpc, thenQ, true_and]
    refine SW.cut (Mid code h o1 o2 (.val (ovl o1 s.fr.length)) (.val (ovl o2 s.da.length)) r q m (.cells 45 20 zSt) b) ?_ ?_
    rotate_left
    · rintro a1 ⟨s1, e, h16, hn, ht, hs⟩
      refine SW.enter (n := 199) (l := [(0, .list 1 (el64 code)), (3, .val (.pointer (some ⟨r, 0, none⟩))), (4, .val (.pointer (some ⟨q, 0, none⟩))), (7, .val (.pointer (some ⟨m, 0, none⟩))), (10, .int .i64 s1.pc)]) hn ht hs ?_
      have hb2 : (s1.rg.set 0 0).length = 16 := by rw [List.length_set]; exact h16
      refine SW.seq (SW.run [] _ ?_)
      simp only [wpC, Bool.false_eq_true, ↓reduceIte, wpS, stops, wantedA, okDst, Nat.reduceLT, decide_true, step1, isOwnCall, hxOp, px, pfieldAddr, fieldOf, ty45, fieldIn, List.getElem?_cons_succ, List.getElem?_cons_zero, ty42, Option.map_some, AS.eval, AS.get, Lift.look, reduceCtorEq, Option.getD_some, ne_eq, Nat.succ_ne_zero, not_false_eq_true, Nat.zero_add, AS.put, dropKey, Nat.reduceEqDiff, pindexAddr, ty2, ofConst, ofVal, Int.reduceLE, Int.cast_ofNat_Int, Int.reduceLT, and_self, Int.reduceToNat, Nat.reduceMul, Nat.add_zero, hx, Heap.get_put, hrm, known1, PV.cells, List.length_cons, List.length_nil, Nat.reduceAdd, stC_len h16, Nat.reduceLeDiff, splice, stC_pc, List.cons_append, List.nil_append, stC_set0 h16, thenQ, true_and]
      refine SW.seq (SW.run [] _ ?_)
      simp only [wpC, Bool.false_eq_true, ↓reduceIte, wpS, stops, wantedA, okDst, Nat.reduceLT, decide_true, step1, isOwnCall, hxOp, px, AS.eval, AS.get, Lift.look, Nat.reduceEqDiff, reduceCtorEq, Option.getD_some, AS.put, dropKey, pfieldAddr, fieldOf, ty45, fieldIn, List.getElem?_cons_zero, ty3, Option.map_some, ne_eq, Nat.succ_ne_zero, not_false_eq_true, Nat.add_zero, hx, Heap.get_put, known1, PV.cells, List.length_cons, List.length_nil, Nat.zero_add, stC_len hb2, Nat.reduceLeDiff, and_self, splice, List.take_zero, List.nil_append, List.cons_append, stC_setpc, thenQ, true_and]
      refine SW.run [] _ ?_
      simp only [wpC, Bool.false_eq_true, ↓reduceIte, wpS, stops, wantedA, okDst, Nat.reduceLT, decide_true, step1, isOwnCall, hxOp, px, pfieldAddr, fieldOf, ty45, fieldIn, List.getElem?_cons_succ, List.getElem?_cons_zero, ty3, Option.map_some, AS.eval, AS.get, Lift.look, Nat.reduceEqDiff, reduceCtorEq, Option.getD_some, ne_eq, Nat.succ_ne_zero, not_false_eq_true, Nat.zero_add, AS.put, dropKey, pload, Heap.get_put, okOne, TK.isAgg, beq_self_eq_true, Bool.or_true, Nat.reduceAdd, stC_len hb2, Nat.le_refl, and_self, Lift.valOf, stC_st hb2, List.getD_cons_zero, isFlt, pbinP, ofConst, ofVal, pbinI, hst1, hx, known1, PV.cells, List.length_cons, List.length_nil, splice, stC_setst hb2, stC_none hb2, List.append_nil, inQ, thenQ, and_true, true_and]
      obtain ⟨g1, g2⟩ := goInv hok h0 e hfl hdl hrun
      refine ⟨_, g1, g2, HTo_eq (funext fun j => ?_)⟩
      by_cases e1 : j = r
      · subst e1
        simp only [Heap.put_same, Heap.put_ne _ _ hrm]
      · by_cases e2 : j = m
        · subst e2
          simp only [Heap.put_same, Heap.put_ne _ _ e1]
        · simp only [Heap.put_ne _ _ e1, Heap.put_ne _ _ e2]
          rfl
    refine SW.seq (SW.run [] _ ?_)
    simp only [wpC, Bool.false_eq_true, ↓reduceIte, wpS, stops, wantedA, okDst, Nat.reduceLT, decide_true, step1, isOwnCall, hxOp, px, pfieldAddr, fieldOf, ty23, fieldIn, List.getElem?_cons_zero, ty3, Option.map_some, AS.eval, AS.get, Lift.look, Nat.reduceEqDiff, Option.getD_some, ne_eq, Nat.succ_ne_zero, not_false_eq_true, Nat.add_zero, AS.put, dropKey, reduceCtorEq, pload, Heap.get_put, okOne, TK.isAgg, beq_self_eq_true, Bool.or_true, Nat.zero_add, List.length_cons, List.length_nil, Nat.reduceAdd, Nat.reduceLeDiff, and_self, Lift.valOf, List.drop_zero, List.take_succ_cons, List.take_zero, List.getD_cons_zero, thenQ, true_and]
    refine SW.block ?_
    refine SW.enter (n := 199) (l := [(0, .list 1 (el64 code)), (3, .val (.pointer (some ⟨r, 0, none⟩))), (4, .val (.pointer (some ⟨q, 0, none⟩))), (7, .val (.pointer (some ⟨m, 0, none⟩))), (8, .val (.pointer (some ⟨d, 0, none⟩))), (10, .int .i64 (b.pc + 1)), (11, .int .i64 o)])
      (H := ((((mems o1 o2 b h).put q (.cells 45 20 zSt)).put r (.cells 45 20 (stC b.pc b.rg (.val (ovl o1 s.fr.length)) (.val (ovl o2 s.da.length)) b.st))).put m (.cells 76 2 [.val (ovl o1 s.fr.length), .val (ovl o2 s.da.length)])).put d (.cells 23 5 [.int .i64 o, .int .i64 a, .int .i64 x, .int .i64 c, .int .i64 i])) rfl (HTo_eq (by dsimp only; rw [Heap.put_put])) ⟨rfl, rfl, rfl, rfl, rfl, rfl, rfl, trivial⟩ ?_
    have ha : a < 16 := by omega
    have hx : x < 16 := by omega
    have hc : c < 16 := by omega
    have ha2 : 1 + a.toNat + 1 ≤ 20 := by omega
    have hx2 : 1 + x.toNat + 1 ≤ 20 := by omega
    have hc2 : 1 + c.toNat + 1 ≤ 20 := by omega
    clear hw hdec
    by_cases k0 : o = 0
    · have hk : (o == 0) = true := by simpa using k0
      have e : execS b o a x c i = .out { b with st := b.st - 1 } 0 i := by unfold execS; rw [if_pos k0]
      refine SW.caseEq3 rfl rfl rfl rfl rfl rfl rfl rfl rfl rfl (fun _ => rfl) hk rfl rfl rfl rfl rfl rfl ?_
      refine SW.seq (SW.run [] _ ?_)
      simp only [wpC, Bool.false_eq_true, ↓reduceIte, wpS, stops, wantedA, okDst, Nat.reduceLT, decide_true, step1, isOwnCall, hxOp, px, pfieldAddr, fieldOf, ty45, fieldIn, List.getElem?_cons_succ, List.getElem?_cons_zero, ty3, Option.map_some, AS.eval, AS.get, Lift.look, reduceCtorEq, Option.getD_some, ne_eq, Nat.succ_ne_zero, not_false_eq_true, Nat.zero_add, AS.put, dropKey, Nat.reduceEqDiff, pload, Heap.get_put, hrd, hrm, okOne, TK.isAgg, beq_self_eq_true, Bool.or_true, Nat.reduceAdd, stC_len hb, Nat.le_refl, and_self, Lift.valOf, stC_st hb, List.getD_cons_zero, isFlt, pbinP, ofConst, ofVal, pbinI, hst1, Lift.hx, known1, PV.cells, List.length_cons, List.length_nil, splice, stC_setst hb, stC_none hb, List.append_nil, thenQ, true_and]
      refine SW.seq (SW.regionAny2 [] [(0, []), (1, []), (2, [3]), (3, []), (4, []), (5, [])] rfl (by rfl) (by kernel_rfl) ?_)
      simp only [wpO2, dynOK, LOp, List.getElem?_toArray, List.getElem?_cons_zero, okDst, Nat.reduceLT, decide_true, wantedA, ↓reduceIte, step1, isOwnCall, Bool.false_eq_true, hxOp, px, pload, ty45, AS.eval, AS.get, Lift.look, Nat.reduceEqDiff, reduceCtorEq, Option.getD_some, Heap.get_put, okOne, TK.isAgg, Nat.reduceBEq, Bool.or_false, Nat.zero_add, stC_len hb, Nat.le_refl, and_self, Lift.valOf, List.drop_zero, stC_all hb, List.getElem?_cons_succ, AS.put, dropKey, pfieldAddr, fieldOf, ty23, fieldIn, ty3, Option.map_some, ne_eq, Nat.succ_ne_zero, not_false_eq_true, disj, ptrAt, ptrT, hdq, hdr, beq_self_eq_true, Bool.or_true, Nat.reduceAdd, List.length_cons, List.length_nil, List.drop_succ_cons, List.take_succ_cons, List.take_nil, List.getD_cons_zero, Lift.hx, hqr, hqd, hqm, known1, PV.cells, hz, splice, List.take_zero, List.nil_append, hz2, List.append_nil, ofConst, ofVal, thenQ, true_and]
      refine SW.run [] _ ?_
      simp only [wpC, inQ, thenQ, RPost, sres, Tryd.results20, sresL, sres1, AS.get, Lift.look, Nat.reduceEqDiff, ↓reduceIte, reduceCtorEq, Option.getD_some, ty45, Heap.get_put, Nat.zero_add, stC_len hb, Nat.le_refl, okOne, TK.isAgg, Nat.reduceBEq, Bool.or_false, and_self, Lift.valOf, List.drop_zero, stC_all hb, Option.some.injEq, exists_eq_left']
      have hb1 := hok.st1
      exact ⟨_, HSub.to (hdrop (hdrop (hdrop (hdrop (hdrop (hdrop (hself _) nQ) nR) nM) hdn) nR) nQ), exitQ (b := { b with st := b.st - 1 }) ok1b ok2b hfl hdl (by rw [← hrun, runS_out h0 (hstep.trans e)])⟩
    have k0' : (o == 0) = false := by simpa using k0
    refine SW.caseNe3 rfl rfl rfl rfl rfl rfl rfl rfl rfl rfl (fun _ => rfl) k0' rfl rfl rfl rfl rfl rfl ?_
    by_cases k1 : o = 1
    · have hk : (o == 1) = true := by simpa using k1
      have hnm : ¬ (4 ≤ o ∧ o ≤ 7) := by omega
      have hnj : ¬ 24 ≤ o := by omega
      have e : stepS code b = .go (b.wr a i) := by rw [hstep]; unfold execS; rw [if_neg k0, if_neg hnm, if_neg hnj, k1, write1]
      refine SW.caseEq3 rfl rfl rfl rfl rfl rfl rfl rfl rfl rfl (fun _ => rfl) hk rfl rfl rfl rfl rfl rfl ?_
      refine SW.run [] _ ?_
      simp only [wpC, Bool.false_eq_true, ↓reduceIte, wpS, stops, wantedA, okDst, Nat.reduceLT, decide_true, step1, isOwnCall, hxOp, px, pfieldAddr, fieldOf, ty23, fieldIn, List.getElem?_cons_succ, List.getElem?_cons_zero, ty3, Option.map_some, AS.eval, AS.get, Lift.look, reduceCtorEq, Nat.reduceEqDiff, Option.getD_some, ne_eq, Nat.succ_ne_zero, not_false_eq_true, Nat.zero_add, AS.put, dropKey, pload, Heap.get_put, okOne, TK.isAgg, beq_self_eq_true, Bool.or_true, Nat.reduceAdd, List.length_cons, List.length_nil, Nat.reduceLeDiff, and_self, Lift.valOf, List.drop_succ_cons, List.drop_zero, List.take_succ_cons, List.take_zero, List.getD_cons_zero, Nat.le_refl, List.take_nil, ty45, ty42, pindexAddr, ty2, ha0, Int.cast_ofNat_Int, ha, Nat.mul_one, Lift.hx, hrd, hrm, known1, PV.cells, stC_len hb, ha2, splice, stC_setreg hb ha0 ha, inQ, thenQ, true_and]
      exact ⟨⟨b.pc + 1, b.rg.set a.toNat i, b.fr, b.da, b.st⟩, e, by rw [List.length_set]; exact hb, rfl, midHT hdn hdm hdr hdq hrm, ⟨rfl, rfl, rfl, rfl, rfl, trivial⟩⟩
    have k1' : (o == 1) = false := by simpa using k1
    refine SW.caseNe3 rfl rfl rfl rfl rfl rfl rfl rfl rfl rfl (fun _ => rfl) k1' rfl rfl rfl rfl rfl rfl ?_
    by_cases k2 : o = 2
    · have hk : (o == 2) = true := by simpa using k2
      have hnm : ¬ (4 ≤ o ∧ o ≤ 7) := by omega
      have hnj : ¬ 24 ≤ o := by omega
      have e : stepS code b = .go (b.wr a (highS i (b.r x))) := by rw [hstep]; unfold execS; rw [if_neg k0, if_neg hnm, if_neg hnj, k2, write2]
      refine SW.caseEq3 rfl rfl rfl rfl rfl rfl rfl rfl rfl rfl (fun _ => rfl) hk rfl rfl rfl rfl rfl rfl ?_
      refine SW.regionAny [] [[0, 1, 2, 3, 4, 5, 6, 7, 8, 9, 10, 11, 12, 13, 14, 15]] rfl (by rfl) (by kernel_rfl) ?_
      simp only [wpOL, wpO, LOp, List.getElem?_toArray, List.getElem?_cons_zero, okDst, Nat.reduceLT, decide_true, wantedA, ↓reduceIte, step1, isOwnCall, Bool.false_eq_true, hxOp, px, pfieldAddr, fieldOf, ty23, fieldIn, List.getElem?_cons_succ, ty3, Option.map_some, AS.eval, AS.get, Lift.look, reduceCtorEq, Nat.reduceEqDiff, Option.getD_some, ne_eq, Nat.succ_ne_zero, not_false_eq_true, Nat.zero_add, AS.put, dropKey, pload, Heap.get_put, okOne, TK.isAgg, beq_self_eq_true, Bool.or_true, Nat.reduceAdd, List.length_cons, List.length_nil, Nat.reduceLeDiff, and_self, Lift.valOf, List.drop_succ_cons, List.drop_zero, List.take_succ_cons, List.take_zero, List.getD_cons_zero, Nat.le_refl, List.take_nil, pbinP, ofConst, ofVal, pbinI, Int.reduceLE, Int.reduceToNat, ty45, ty42, pindexAddr, ty2, hx0, Int.cast_ofNat_Int, hx, Nat.mul_one, hrd, hrm, stC_len hb, hx2, stC_reg hb hx0 hx, ty68, pconvH, pconv, high_cpu, ha0, ha, Lift.hx, known1, PV.cells, ha2, splice, stC_setreg hb ha0 ha, inQ, thenQ, true_and]
      exact ⟨⟨b.pc + 1, b.rg.set a.toNat (highS i (b.r x)), b.fr, b.da, b.st⟩, e, by rw [List.length_set]; exact hb, rfl, midHT hdn hdm hdr hdq hrm, ⟨rfl, rfl, rfl, rfl, rfl, trivial⟩⟩
    have k2' : (o == 2) = false := by simpa using k2
    refine SW.caseNe3 rfl rfl rfl rfl rfl rfl rfl rfl rfl rfl (fun _ => rfl) k2' rfl rfl rfl rfl rfl rfl ?_
    by_cases k4 : 4 ≤ o ∧ o ≤ 7
    · have ho : o = 4 ∨ o = 5 ∨ o = 6 ∨ o = 7 := by omega
      rcases hmb k4 with rfl | rfl
      · have hmm : b.mem 0 = b.fr := rfl
        by_cases hrng : i < 0 ∨ ((b.fr).length : Int) ≤ i
        · obtain ⟨A, cap, hv⟩ := ovl_slice ok1b
          have e : execS b o a 0 c i = .out b (if o = 4 ∨ o = 5 then 1 else 2) i := by unfold execS; rw [if_neg k0, if_pos k4, hmm, if_pos hrng]
          rw [hv]
          by_cases hA : i < 0
          · rcases ho with rfl | rfl | rfl | rfl
            all_goals refine SW.run [eMem] _ ?_
            all_goals simp only [wpC, mayStop, stops, isFlt, Specs.has, eMem, Specs.hasO, Nat.reduceLeDiff, Nat.reduceSub, false_and, ↓reduceIte, Bool.or_false, List.any_cons, Bool.not_true, List.any_nil, Bool.false_eq_true, wpS, wantedA, okDst, Nat.reduceLT, decide_true, step1, isOwnCall, hxOp, px, AS.eval, AS.get, Lift.look, reduceCtorEq, Nat.reduceEqDiff, Option.getD_some, and_self, AS.put, dropKey, pcall, okArg, ofConst, ofVal, List.all_cons, List.all_nil, Bool.and_true, Specs.at, List.map_cons, List.map_nil, sMem, mem4, thenQ, isB, tmpOf, asB, pfieldAddr, fieldOf, ty23, fieldIn, List.getElem?_cons_succ, List.getElem?_cons_zero, ty3, Option.map_some, ne_eq, Nat.succ_ne_zero, not_false_eq_true, Nat.zero_add, pload, Heap.get_put, okOne, TK.isAgg, beq_self_eq_true, Bool.or_true, Nat.reduceAdd, List.length_cons, List.length_nil, Lift.valOf, List.drop_succ_cons, List.drop_zero, List.take_succ_cons, List.take_zero, List.getD_cons_zero, pindexAddr, ty76, ty43, Int.reduceLE, Int.cast_ofNat_Int, Int.reduceLT, Int.reduceToNat, Nat.reduceMul, Nat.add_zero, hmd, Nat.le_refl, List.take_nil, pbinP, pbinI, hA, List.getElem?_toArray, Option.bind_some, beq_tf, Option.some.injEq, ppick_true, true_and, mem5, Int.reduceBEq, ppick_bool, mem6, mem7]
            all_goals first | refine SW.regionAny2 [] [(0, []), (1, []), (2, [3]), (3, []), (4, []), (5, [])] rfl (by rfl) (by kernel_rfl) ?_ | refine SW.seq (SW.regionAny2 [] [(0, []), (1, []), (2, [3]), (3, []), (4, []), (5, [])] rfl (by rfl) (by kernel_rfl) ?_)
            all_goals simp only [wpO2, dynOK, LOp, List.getElem?_toArray, List.getElem?_cons_zero, okDst, Nat.reduceLT, decide_true, wantedA, ↓reduceIte, step1, isOwnCall, Bool.false_eq_true, hxOp, px, pload, ty45, AS.eval, AS.get, Lift.look, Nat.reduceEqDiff, reduceCtorEq, Option.getD_some, Heap.get_put, hrd, hrm, okOne, TK.isAgg, Nat.reduceBEq, Bool.or_false, Nat.zero_add, stC_len hb, Nat.le_refl, and_self, Lift.valOf, List.drop_zero, stC_all hb, List.getElem?_cons_succ, AS.put, dropKey, pfieldAddr, fieldOf, ty23, fieldIn, ty3, Option.map_some, ne_eq, Nat.succ_ne_zero, not_false_eq_true, disj, ptrAt, ptrT, hdq, beq_self_eq_true, Bool.or_true, Nat.reduceAdd, List.length_cons, List.length_nil, List.drop_succ_cons, List.take_succ_cons, List.take_nil, List.getD_cons_zero, Lift.hx, hqd, hqm, hqr, known1, PV.cells, hz, splice, List.take_zero, List.nil_append, hz2, List.append_nil, ofConst, ofVal, thenQ, true_and]
            all_goals refine SW.run [] _ ?_
            all_goals simp only [wpC, thenQ, inQ, RPost, sres, Tryd.results20, sresL, sres1, AS.get, Lift.look, Nat.reduceEqDiff, ↓reduceIte, reduceCtorEq, Option.getD_some, ty45, Heap.get_put, Nat.zero_add, stC_len hb, Nat.le_refl, okOne, TK.isAgg, Nat.reduceBEq, Bool.or_false, and_self, Lift.valOf, List.drop_zero, stC_all hb, Option.some.injEq, exists_eq_left']
            all_goals rw [← hv]
            all_goals exact ⟨_, HSub.to (hdrop (hdrop (hdrop (hdrop (hdrop (hself _) nQ) nR) nM) hdn) nQ), exitQ ok1b ok2b hfl hdl (by rw [← hrun, runS_out h0 (hstep.trans e)]; rfl)⟩
          · have hB : ((s.fr.length : Nat) : Int) ≤ i := by rw [← hfl]; omega
            rcases ho with rfl | rfl | rfl | rfl
            all_goals refine SW.run [eMem] _ ?_
            all_goals simp only [wpC, mayStop, stops, isFlt, Specs.has, eMem, Specs.hasO, Nat.reduceLeDiff, Nat.reduceSub, false_and, ↓reduceIte, Bool.or_false, List.any_cons, Bool.not_true, List.any_nil, Bool.false_eq_true, wpS, wantedA, okDst, Nat.reduceLT, decide_true, step1, isOwnCall, hxOp, px, AS.eval, AS.get, Lift.look, reduceCtorEq, Nat.reduceEqDiff, Option.getD_some, and_self, AS.put, dropKey, pcall, okArg, ofConst, ofVal, List.all_cons, List.all_nil, Bool.and_true, Specs.at, List.map_cons, List.map_nil, sMem, mem4, thenQ, isB, tmpOf, asB, pfieldAddr, fieldOf, ty23, fieldIn, List.getElem?_cons_succ, List.getElem?_cons_zero, ty3, Option.map_some, ne_eq, Nat.succ_ne_zero, not_false_eq_true, Nat.zero_add, pload, Heap.get_put, okOne, TK.isAgg, beq_self_eq_true, Bool.or_true, Nat.reduceAdd, List.length_cons, List.length_nil, Lift.valOf, List.drop_succ_cons, List.drop_zero, List.take_succ_cons, List.take_zero, List.getD_cons_zero, pindexAddr, ty76, ty43, Int.reduceLE, Int.cast_ofNat_Int, Int.reduceLT, Int.reduceToNat, Nat.reduceMul, Nat.add_zero, hmd, Nat.le_refl, List.take_nil, pbinP, pbinI, hA, decide_false, List.getElem?_toArray, Option.bind_some, plen, okLen, hB, ppick_bool, beq_tf, Option.some.injEq, ppick_true, true_and, mem5, Int.reduceBEq, mem6, mem7]
            all_goals first | refine SW.regionAny2 [] [(0, []), (1, []), (2, [3]), (3, []), (4, []), (5, [])] rfl (by rfl) (by kernel_rfl) ?_ | refine SW.seq (SW.regionAny2 [] [(0, []), (1, []), (2, [3]), (3, []), (4, []), (5, [])] rfl (by rfl) (by kernel_rfl) ?_)
            all_goals simp only [wpO2, dynOK, LOp, List.getElem?_toArray, List.getElem?_cons_zero, okDst, Nat.reduceLT, decide_true, wantedA, ↓reduceIte, step1, isOwnCall, Bool.false_eq_true, hxOp, px, pload, ty45, AS.eval, AS.get, Lift.look, Nat.reduceEqDiff, reduceCtorEq, Option.getD_some, Heap.get_put, hrd, hrm, okOne, TK.isAgg, Nat.reduceBEq, Bool.or_false, Nat.zero_add, stC_len hb, Nat.le_refl, and_self, Lift.valOf, List.drop_zero, stC_all hb, List.getElem?_cons_succ, AS.put, dropKey, pfieldAddr, fieldOf, ty23, fieldIn, ty3, Option.map_some, ne_eq, Nat.succ_ne_zero, not_false_eq_true, disj, ptrAt, ptrT, hdq, beq_self_eq_true, Bool.or_true, Nat.reduceAdd, List.length_cons, List.length_nil, List.drop_succ_cons, List.take_succ_cons, List.take_nil, List.getD_cons_zero, Lift.hx, hqd, hqm, hqr, known1, PV.cells, hz, splice, List.take_zero, List.nil_append, hz2, List.append_nil, ofConst, ofVal, thenQ, true_and]
            all_goals refine SW.run [] _ ?_
            all_goals simp only [wpC, thenQ, inQ, RPost, sres, Tryd.results20, sresL, sres1, AS.get, Lift.look, Nat.reduceEqDiff, ↓reduceIte, reduceCtorEq, Option.getD_some, ty45, Heap.get_put, Nat.zero_add, stC_len hb, Nat.le_refl, okOne, TK.isAgg, Nat.reduceBEq, Bool.or_false, and_self, Lift.valOf, List.drop_zero, stC_all hb, Option.some.injEq, exists_eq_left']
            all_goals rw [← hv]
            all_goals exact ⟨_, HSub.to (hdrop (hdrop (hdrop (hdrop (hdrop (hself _) nQ) nR) nM) hdn) nQ), exitQ ok1b ok2b hfl hdl (by rw [← hrun, runS_out h0 (hstep.trans e)]; rfl)⟩
        have hA : ¬ i < 0 := by omega
        have hB : ¬ ((s.fr.length : Nat) : Int) ≤ i := by rw [← hfl]; omega
        have hC : 0 ≤ i := by omega
        have hD : i < ((s.fr.length : Nat) : Int) := by omega
        have hE : i.toNat < (b.fr).length := by omega
        have hF : i.toNat + 1 ≤ (b.fr).length := by omega
        obtain ⟨k, cap, hv, hk, hput, hnk⟩ := mem_fr (okO_len ok1b hfl) (okO_len (okO_mem ok2b) hdl) (fun e => by rw [e] at hE; cases hE)
        have hkr := hnk r nR
        have hkq := hnk q nQ
        have hkm := hnk m nM
        have hkd := hnk d hdn
        have hrk : ¬ r = k := fun e => hkr e.symm
        have hqk : ¬ q = k := fun e => hkq e.symm
        have hmk : ¬ m = k := fun e => hkm e.symm
        have hdk : ¬ d = k := fun e => hkd e.symm
        rw [hv s.fr.length]
        have ho : (o = 4 ∨ o = 6) ∨ (o = 5 ∨ o = 7) := by omega
        rcases ho with ho | ho
        · have e : stepS code b = .go (b.wr a ((b.fr).getD i.toNat 0)) := by rw [hstep]; unfold execS; rw [if_neg k0, if_pos k4, hmm, if_neg hrng, if_pos ho]
          rcases ho with rfl | rfl
          all_goals refine SW.run [eMem] _ ?_
          all_goals simp only [wpC, mayStop, stops, isFlt, Specs.has, eMem, Specs.hasO, Nat.reduceLeDiff, Nat.reduceSub, false_and, ↓reduceIte, Bool.or_false, List.any_cons, Bool.not_true, List.any_nil, Bool.false_eq_true, wpS, wantedA, okDst, Nat.reduceLT, decide_true, step1, isOwnCall, hxOp, px, AS.eval, AS.get, Lift.look, reduceCtorEq, Nat.reduceEqDiff, Option.getD_some, and_self, AS.put, dropKey, pcall, okArg, ofConst, ofVal, List.all_cons, List.all_nil, Bool.and_true, Specs.at, List.map_cons, List.map_nil, sMem, mem4, thenQ, isB, tmpOf, asB, pfieldAddr, fieldOf, ty23, fieldIn, List.getElem?_cons_succ, List.getElem?_cons_zero, ty3, Option.map_some, ne_eq, Nat.succ_ne_zero, not_false_eq_true, Nat.zero_add, pload, Heap.get_put, okOne, TK.isAgg, beq_self_eq_true, Bool.or_true, Nat.reduceAdd, List.length_cons, List.length_nil, Lift.valOf, List.drop_succ_cons, List.drop_zero, List.take_succ_cons, List.take_zero, List.getD_cons_zero, pindexAddr, ty76, ty43, Int.reduceLE, Int.cast_ofNat_Int, Int.reduceLT, Int.reduceToNat, Nat.reduceMul, Nat.add_zero, hmd, Nat.le_refl, List.take_nil, pbinP, pbinI, hA, decide_false, List.getElem?_toArray, Option.bind_some, plen, okLen, hB, ppick_bool, true_and, mem6]
          all_goals refine SW.run [] _ ?_
          all_goals simp only [wpC, mayStop, stops, isFlt, Specs.has, Specs.hasO, Bool.or_false, Bool.not_false, List.any_cons, List.any_nil, Bool.false_eq_true, ↓reduceIte, wpS, wantedA, okDst, Nat.reduceLT, decide_true, step1, isOwnCall, hxOp, px, AS.eval, AS.get, Lift.look, Nat.reduceEqDiff, reduceCtorEq, Option.getD_some, AS.put, dropKey, pbinP, ofConst, ofVal, pbinI, beq_self_eq_true, List.getElem?_toArray, List.getElem?_cons_succ, List.getElem?_cons_zero, Option.bind_some, beq_tf, Option.some.injEq, ppick_true, thenQ, isB, tmpOf, asB, true_and, Int.reduceBEq, ppick_bool]
          all_goals refine SW.regionAny [] [[0, 1, 2, 3, 4, 5, 6, 7, 8, 9]] rfl (by rfl) (by kernel_rfl) ?_
          all_goals simp only [wpOL, wpO, LOp, List.getElem?_toArray, List.getElem?_cons_zero, okDst, Nat.reduceLT, decide_true, wantedA, ↓reduceIte, step1, isOwnCall, Bool.false_eq_true, hxOp, px, pfieldAddr, fieldOf, ty23, fieldIn, List.getElem?_cons_succ, ty3, Option.map_some, AS.eval, AS.get, Lift.look, Nat.reduceEqDiff, reduceCtorEq, Option.getD_some, ne_eq, Nat.succ_ne_zero, not_false_eq_true, Nat.zero_add, AS.put, dropKey, pload, Heap.get_put, okOne, TK.isAgg, beq_self_eq_true, Bool.or_true, Nat.reduceAdd, List.length_cons, List.length_nil, Nat.reduceLeDiff, and_self, Lift.valOf, List.drop_succ_cons, List.drop_zero, List.take_succ_cons, List.take_zero, List.getD_cons_zero, Nat.le_refl, List.take_nil, pindexAddr, ty43, ty2, hC, hD, Nat.mul_one, hkd, hkm, hkr, hkq, hk, List.length_map, hF, mget hE, ty45, ty42, ha0, Int.cast_ofNat_Int, ha, Lift.hx, hrd, hrm, known1, PV.cells, stC_len hb, ha2, splice, stC_setreg hb ha0 ha, inQ, thenQ, true_and]
          all_goals rw [← hv s.fr.length]
          all_goals exact ⟨⟨b.pc + 1, b.rg.set a.toNat ((b.fr).getD i.toNat 0), b.fr, b.da, b.st⟩, e, by rw [List.length_set]; exact hb, rfl, midHT hdn hdm hdr hdq hrm, ⟨rfl, rfl, rfl, rfl, rfl, trivial⟩⟩
        · have e : stepS code b = .go (b.sto 0 i (b.r a)) := by rw [hstep]; unfold execS; rw [if_neg k0, if_pos k4, hmm, if_neg hrng, if_neg (by omega)]
          rcases ho with rfl | rfl
          all_goals refine SW.run [eMem] _ ?_
          all_goals simp only [wpC, mayStop, stops, isFlt, Specs.has, eMem, Specs.hasO, Nat.reduceLeDiff, Nat.reduceSub, false_and, ↓reduceIte, Bool.or_false, List.any_cons, Bool.not_true, List.any_nil, Bool.false_eq_true, wpS, wantedA, okDst, Nat.reduceLT, decide_true, step1, isOwnCall, hxOp, px, AS.eval, AS.get, Lift.look, reduceCtorEq, Nat.reduceEqDiff, Option.getD_some, and_self, AS.put, dropKey, pcall, okArg, ofConst, ofVal, List.all_cons, List.all_nil, Bool.and_true, Specs.at, List.map_cons, List.map_nil, sMem, mem5, thenQ, isB, tmpOf, asB, pfieldAddr, fieldOf, ty23, fieldIn, List.getElem?_cons_succ, List.getElem?_cons_zero, ty3, Option.map_some, ne_eq, Nat.succ_ne_zero, not_false_eq_true, Nat.zero_add, pload, Heap.get_put, okOne, TK.isAgg, beq_self_eq_true, Bool.or_true, Nat.reduceAdd, List.length_cons, List.length_nil, Lift.valOf, List.drop_succ_cons, List.drop_zero, List.take_succ_cons, List.take_zero, List.getD_cons_zero, pindexAddr, ty76, ty43, Int.reduceLE, Int.cast_ofNat_Int, Int.reduceLT, Int.reduceToNat, Nat.reduceMul, Nat.add_zero, hmd, Nat.le_refl, List.take_nil, pbinP, pbinI, hA, decide_false, List.getElem?_toArray, Option.bind_some, plen, okLen, hB, ppick_bool, true_and, mem7]
          all_goals refine SW.run [] _ ?_
          all_goals simp only [wpC, mayStop, stops, isFlt, Specs.has, Specs.hasO, Bool.or_false, Bool.not_false, List.any_cons, List.any_nil, Bool.false_eq_true, ↓reduceIte, wpS, wantedA, okDst, Nat.reduceLT, decide_true, step1, isOwnCall, hxOp, px, AS.eval, AS.get, Lift.look, Nat.reduceEqDiff, reduceCtorEq, Option.getD_some, AS.put, dropKey, pbinP, ofConst, ofVal, pbinI, Int.reduceBEq, List.getElem?_toArray, List.getElem?_cons_succ, List.getElem?_cons_zero, Option.bind_some, beq_self_eq_true, ppick_bool, thenQ, isB, tmpOf, asB, true_and]
          all_goals refine SW.regionAny [] [[0, 1, 2, 3, 4, 5, 6, 7, 8, 9]] rfl (by rfl) (by kernel_rfl) ?_
          all_goals simp only [wpOL, wpO, LOp, List.getElem?_toArray, List.getElem?_cons_zero, okDst, Nat.reduceLT, decide_true, wantedA, ↓reduceIte, step1, isOwnCall, Bool.false_eq_true, hxOp, px, AS.eval, AS.get, Lift.look, Nat.reduceEqDiff, Option.getD_some, List.getElem?_cons_succ, AS.put, dropKey, reduceCtorEq, pfieldAddr, fieldOf, ty23, fieldIn, ty3, Option.map_some, ne_eq, Nat.succ_ne_zero, not_false_eq_true, Nat.zero_add, pload, Heap.get_put, okOne, TK.isAgg, beq_self_eq_true, Bool.or_true, Nat.reduceAdd, List.length_cons, List.length_nil, Nat.le_refl, and_self, Lift.valOf, List.drop_succ_cons, List.drop_zero, List.take_succ_cons, List.take_nil, List.getD_cons_zero, Nat.reduceLeDiff, List.take_zero, ty45, ty42, pindexAddr, ty2, ha0, Int.cast_ofNat_Int, ha, Nat.mul_one, hrd, hrm, stC_len hb, ha2, stC_reg hb ha0 ha, ty43, hC, hD, Lift.hx, hkd, hkm, hkr, hkq, hk, known1, PV.cells, List.length_map, hF, splice, mset hE, inQ, thenQ, true_and]
          all_goals rw [← hv s.fr.length]
          all_goals exact ⟨⟨b.pc + 1, b.rg, b.fr.set i.toNat (b.r a), b.da, b.st⟩, e, hb, rfl, by rw [hput ⟨b.pc + 1, b.rg, b.fr.set i.toNat (b.r a), b.da, b.st⟩ rfl]; exact midHT2 hdn hdm hdr hdq hkr hkq hkm hkd, ⟨rfl, rfl, rfl, rfl, rfl, trivial⟩⟩
      · have hmm : b.mem 1 = b.da := rfl
        by_cases hrng : i < 0 ∨ ((b.da).length : Int) ≤ i
        · obtain ⟨A, cap, hv⟩ := ovl_slice ok2b
          have e : execS b o a 1 c i = .out b (if o = 4 ∨ o = 5 then 1 else 2) i := by unfold execS; rw [if_neg k0, if_pos k4, hmm, if_pos hrng]
          rw [hv]
          by_cases hA : i < 0
          · rcases ho with rfl | rfl | rfl | rfl
            all_goals refine SW.run [eMem] _ ?_
            all_goals simp only [wpC, mayStop, stops, isFlt, Specs.has, eMem, Specs.hasO, Nat.reduceLeDiff, Nat.reduceSub, false_and, ↓reduceIte, Bool.or_false, List.any_cons, Bool.not_true, List.any_nil, Bool.false_eq_true, wpS, wantedA, okDst, Nat.reduceLT, decide_true, step1, isOwnCall, hxOp, px, AS.eval, AS.get, Lift.look, reduceCtorEq, Nat.reduceEqDiff, Option.getD_some, and_self, AS.put, dropKey, pcall, okArg, ofConst, ofVal, List.all_cons, List.all_nil, Bool.and_true, Specs.at, List.map_cons, List.map_nil, sMem, mem4, thenQ, isB, tmpOf, asB, pfieldAddr, fieldOf, ty23, fieldIn, List.getElem?_cons_succ, List.getElem?_cons_zero, ty3, Option.map_some, ne_eq, Nat.succ_ne_zero, not_false_eq_true, Nat.zero_add, pload, Heap.get_put, okOne, TK.isAgg, beq_self_eq_true, Bool.or_true, Nat.reduceAdd, List.length_cons, List.length_nil, Lift.valOf, List.drop_succ_cons, List.drop_zero, List.take_succ_cons, List.take_zero, List.getD_cons_zero, pindexAddr, ty76, ty43, Int.reduceLE, Int.cast_ofNat_Int, Int.reduceLT, Int.reduceToNat, Nat.reduceMul, hmd, Nat.le_refl, List.take_nil, pbinP, pbinI, hA, List.getElem?_toArray, Option.bind_some, beq_tf, Option.some.injEq, ppick_true, true_and, mem5, Int.reduceBEq, ppick_bool, mem6, mem7]
            all_goals first | refine SW.regionAny2 [] [(0, []), (1, []), (2, [3]), (3, []), (4, []), (5, [])] rfl (by rfl) (by kernel_rfl) ?_ | refine SW.seq (SW.regionAny2 [] [(0, []), (1, []), (2, [3]), (3, []), (4, []), (5, [])] rfl (by rfl) (by kernel_rfl) ?_)
            all_goals simp only [wpO2, dynOK, LOp, List.getElem?_toArray, List.getElem?_cons_zero, okDst, Nat.reduceLT, decide_true, wantedA, ↓reduceIte, step1, isOwnCall, Bool.false_eq_true, hxOp, px, pload, ty45, AS.eval, AS.get, Lift.look, Nat.reduceEqDiff, reduceCtorEq, Option.getD_some, Heap.get_put, hrd, hrm, okOne, TK.isAgg, Nat.reduceBEq, Bool.or_false, Nat.zero_add, stC_len hb, Nat.le_refl, and_self, Lift.valOf, List.drop_zero, stC_all hb, List.getElem?_cons_succ, AS.put, dropKey, pfieldAddr, fieldOf, ty23, fieldIn, ty3, Option.map_some, ne_eq, Nat.succ_ne_zero, not_false_eq_true, disj, ptrAt, ptrT, hdq, beq_self_eq_true, Bool.or_true, Nat.reduceAdd, List.length_cons, List.length_nil, List.drop_succ_cons, List.take_succ_cons, List.take_nil, List.getD_cons_zero, Lift.hx, hqd, hqm, hqr, known1, PV.cells, hz, splice, List.take_zero, List.nil_append, hz2, List.append_nil, ofConst, ofVal, thenQ, true_and]
            all_goals refine SW.run [] _ ?_
            all_goals simp only [wpC, thenQ, inQ, RPost, sres, Tryd.results20, sresL, sres1, AS.get, Lift.look, Nat.reduceEqDiff, ↓reduceIte, reduceCtorEq, Option.getD_some, ty45, Heap.get_put, Nat.zero_add, stC_len hb, Nat.le_refl, okOne, TK.isAgg, Nat.reduceBEq, Bool.or_false, and_self, Lift.valOf, List.drop_zero, stC_all hb, Option.some.injEq, exists_eq_left']
            all_goals rw [← hv]
            all_goals exact ⟨_, HSub.to (hdrop (hdrop (hdrop (hdrop (hdrop (hself _) nQ) nR) nM) hdn) nQ), exitQ ok1b ok2b hfl hdl (by rw [← hrun, runS_out h0 (hstep.trans e)]; rfl)⟩
          · have hB : ((s.da.length : Nat) : Int) ≤ i := by rw [← hdl]; omega
            rcases ho with rfl | rfl | rfl | rfl
            all_goals refine SW.run [eMem] _ ?_
            all_goals simp only [wpC, mayStop, stops, isFlt, Specs.has, eMem, Specs.hasO, Nat.reduceLeDiff, Nat.reduceSub, false_and, ↓reduceIte, Bool.or_false, List.any_cons, Bool.not_true, List.any_nil, Bool.false_eq_true, wpS, wantedA, okDst, Nat.reduceLT, decide_true, step1, isOwnCall, hxOp, px, AS.eval, AS.get, Lift.look, reduceCtorEq, Nat.reduceEqDiff, Option.getD_some, and_self, AS.put, dropKey, pcall, okArg, ofConst, ofVal, List.all_cons, List.all_nil, Bool.and_true, Specs.at, List.map_cons, List.map_nil, sMem, mem4, thenQ, isB, tmpOf, asB, pfieldAddr, fieldOf, ty23, fieldIn, List.getElem?_cons_succ, List.getElem?_cons_zero, ty3, Option.map_some, ne_eq, Nat.succ_ne_zero, not_false_eq_true, Nat.zero_add, pload, Heap.get_put, okOne, TK.isAgg, beq_self_eq_true, Bool.or_true, Nat.reduceAdd, List.length_cons, List.length_nil, Lift.valOf, List.drop_succ_cons, List.drop_zero, List.take_succ_cons, List.take_zero, List.getD_cons_zero, pindexAddr, ty76, ty43, Int.reduceLE, Int.cast_ofNat_Int, Int.reduceLT, Int.reduceToNat, Nat.reduceMul, hmd, Nat.le_refl, List.take_nil, pbinP, pbinI, hA, decide_false, List.getElem?_toArray, Option.bind_some, plen, okLen, hB, ppick_bool, beq_tf, Option.some.injEq, ppick_true, true_and, mem5, Int.reduceBEq, mem6, mem7]
            all_goals first | refine SW.regionAny2 [] [(0, []), (1, []), (2, [3]), (3, []), (4, []), (5, [])] rfl (by rfl) (by kernel_rfl) ?_ | refine SW.seq (SW.regionAny2 [] [(0, []), (1, []), (2, [3]), (3, []), (4, []), (5, [])] rfl (by rfl) (by kernel_rfl) ?_)
            all_goals simp only [wpO2, dynOK, LOp, List.getElem?_toArray, List.getElem?_cons_zero, okDst, Nat.reduceLT, decide_true, wantedA, ↓reduceIte, step1, isOwnCall, Bool.false_eq_true, hxOp, px, pload, ty45, AS.eval, AS.get, Lift.look, Nat.reduceEqDiff, reduceCtorEq, Option.getD_some, Heap.get_put, hrd, hrm, okOne, TK.isAgg, Nat.reduceBEq, Bool.or_false, Nat.zero_add, stC_len hb, Nat.le_refl, and_self, Lift.valOf, List.drop_zero, stC_all hb, List.getElem?_cons_succ, AS.put, dropKey, pfieldAddr, fieldOf, ty23, fieldIn, ty3, Option.map_some, ne_eq, Nat.succ_ne_zero, not_false_eq_true, disj, ptrAt, ptrT, hdq, beq_self_eq_true, Bool.or_true, Nat.reduceAdd, List.length_cons, List.length_nil, List.drop_succ_cons, List.take_succ_cons, List.take_nil, List.getD_cons_zero, Lift.hx, hqd, hqm, hqr, known1, PV.cells, hz, splice, List.take_zero, List.nil_append, hz2, List.append_nil, ofConst, ofVal, thenQ, true_and]
            all_goals refine SW.run [] _ ?_
            all_goals simp only [wpC, thenQ, inQ, RPost, sres, Tryd.results20, sresL, sres1, AS.get, Lift.look, Nat.reduceEqDiff, ↓reduceIte, reduceCtorEq, Option.getD_some, ty45, Heap.get_put, Nat.zero_add, stC_len hb, Nat.le_refl, okOne, TK.isAgg, Nat.reduceBEq, Bool.or_false, and_self, Lift.valOf, List.drop_zero, stC_all hb, Option.some.injEq, exists_eq_left']
            all_goals rw [← hv]
            all_goals exact ⟨_, HSub.to (hdrop (hdrop (hdrop (hdrop (hdrop (hself _) nQ) nR) nM) hdn) nQ), exitQ ok1b ok2b hfl hdl (by rw [← hrun, runS_out h0 (hstep.trans e)]; rfl)⟩
        have hA : ¬ i < 0 := by omega
        have hB : ¬ ((s.da.length : Nat) : Int) ≤ i := by rw [← hdl]; omega
        have hC : 0 ≤ i := by omega
        have hD : i < ((s.da.length : Nat) : Int) := by omega
        have hE : i.toNat < (b.da).length := by omega
        have hF : i.toNat + 1 ≤ (b.da).length := by omega
        obtain ⟨k, cap, hv, hk, hput, hnk⟩ := mem_da (o1 := o1) (okO_len (okO_mem (zs := b.fr) ok2b) hdl) (fun e => by rw [e] at hE; cases hE)
        have hkr := hnk r nR
        have hkq := hnk q nQ
        have hkm := hnk m nM
        have hkd := hnk d hdn
        have hrk : ¬ r = k := fun e => hkr e.symm
        have hqk : ¬ q = k := fun e => hkq e.symm
        have hmk : ¬ m = k := fun e => hkm e.symm
        have hdk : ¬ d = k := fun e => hkd e.symm
        rw [hv s.da.length]
        have ho : (o = 4 ∨ o = 6) ∨ (o = 5 ∨ o = 7) := by omega
        rcases ho with ho | ho
        · have e : stepS code b = .go (b.wr a ((b.da).getD i.toNat 0)) := by rw [hstep]; unfold execS; rw [if_neg k0, if_pos k4, hmm, if_neg hrng, if_pos ho]
          rcases ho with rfl | rfl
          all_goals refine SW.run [eMem] _ ?_
          all_goals simp only [wpC, mayStop, stops, isFlt, Specs.has, eMem, Specs.hasO, Nat.reduceLeDiff, Nat.reduceSub, false_and, ↓reduceIte, Bool.or_false, List.any_cons, Bool.not_true, List.any_nil, Bool.false_eq_true, wpS, wantedA, okDst, Nat.reduceLT, decide_true, step1, isOwnCall, hxOp, px, AS.eval, AS.get, Lift.look, reduceCtorEq, Nat.reduceEqDiff, Option.getD_some, and_self, AS.put, dropKey, pcall, okArg, ofConst, ofVal, List.all_cons, List.all_nil, Bool.and_true, Specs.at, List.map_cons, List.map_nil, sMem, mem4, thenQ, isB, tmpOf, asB, pfieldAddr, fieldOf, ty23, fieldIn, List.getElem?_cons_succ, List.getElem?_cons_zero, ty3, Option.map_some, ne_eq, Nat.succ_ne_zero, not_false_eq_true, Nat.zero_add, pload, Heap.get_put, okOne, TK.isAgg, beq_self_eq_true, Bool.or_true, Nat.reduceAdd, List.length_cons, List.length_nil, Lift.valOf, List.drop_succ_cons, List.drop_zero, List.take_succ_cons, List.take_zero, List.getD_cons_zero, pindexAddr, ty76, ty43, Int.reduceLE, Int.cast_ofNat_Int, Int.reduceLT, Int.reduceToNat, Nat.reduceMul, hmd, Nat.le_refl, List.take_nil, pbinP, pbinI, hA, decide_false, List.getElem?_toArray, Option.bind_some, plen, okLen, hB, ppick_bool, true_and, mem6]
          all_goals refine SW.run [] _ ?_
          all_goals simp only [wpC, mayStop, stops, isFlt, Specs.has, Specs.hasO, Bool.or_false, Bool.not_false, List.any_cons, List.any_nil, Bool.false_eq_true, ↓reduceIte, wpS, wantedA, okDst, Nat.reduceLT, decide_true, step1, isOwnCall, hxOp, px, AS.eval, AS.get, Lift.look, Nat.reduceEqDiff, reduceCtorEq, Option.getD_some, AS.put, dropKey, pbinP, ofConst, ofVal, pbinI, beq_self_eq_true, List.getElem?_toArray, List.getElem?_cons_succ, List.getElem?_cons_zero, Option.bind_some, beq_tf, Option.some.injEq, ppick_true, thenQ, isB, tmpOf, asB, true_and, Int.reduceBEq, ppick_bool]
          all_goals refine SW.regionAny [] [[0, 1, 2, 3, 4, 5, 6, 7, 8, 9]] rfl (by rfl) (by kernel_rfl) ?_
          all_goals simp only [wpOL, wpO, LOp, List.getElem?_toArray, List.getElem?_cons_zero, okDst, Nat.reduceLT, decide_true, wantedA, ↓reduceIte, step1, isOwnCall, Bool.false_eq_true, hxOp, px, pfieldAddr, fieldOf, ty23, fieldIn, List.getElem?_cons_succ, ty3, Option.map_some, AS.eval, AS.get, Lift.look, Nat.reduceEqDiff, reduceCtorEq, Option.getD_some, ne_eq, Nat.succ_ne_zero, not_false_eq_true, Nat.zero_add, AS.put, dropKey, pload, Heap.get_put, okOne, TK.isAgg, beq_self_eq_true, Bool.or_true, Nat.reduceAdd, List.length_cons, List.length_nil, Nat.reduceLeDiff, and_self, Lift.valOf, List.drop_succ_cons, List.drop_zero, List.take_succ_cons, List.take_zero, List.getD_cons_zero, Nat.le_refl, List.take_nil, pindexAddr, ty43, ty2, hC, hD, Nat.mul_one, hkd, hkm, hkr, hkq, hk, List.length_map, hF, mget hE, ty45, ty42, ha0, Int.cast_ofNat_Int, ha, Lift.hx, hrd, hrm, known1, PV.cells, stC_len hb, ha2, splice, stC_setreg hb ha0 ha, inQ, thenQ, true_and]
          all_goals rw [← hv s.da.length]
          all_goals exact ⟨⟨b.pc + 1, b.rg.set a.toNat ((b.da).getD i.toNat 0), b.fr, b.da, b.st⟩, e, by rw [List.length_set]; exact hb, rfl, midHT hdn hdm hdr hdq hrm, ⟨rfl, rfl, rfl, rfl, rfl, trivial⟩⟩
        · have e : stepS code b = .go (b.sto 1 i (b.r a)) := by rw [hstep]; unfold execS; rw [if_neg k0, if_pos k4, hmm, if_neg hrng, if_neg (by omega)]
          rcases ho with rfl | rfl
          all_goals refine SW.run [eMem] _ ?_
          all_goals simp only [wpC, mayStop, stops, isFlt, Specs.has, eMem, Specs.hasO, Nat.reduceLeDiff, Nat.reduceSub, false_and, ↓reduceIte, Bool.or_false, List.any_cons, Bool.not_true, List.any_nil, Bool.false_eq_true, wpS, wantedA, okDst, Nat.reduceLT, decide_true, step1, isOwnCall, hxOp, px, AS.eval, AS.get, Lift.look, reduceCtorEq, Nat.reduceEqDiff, Option.getD_some, and_self, AS.put, dropKey, pcall, okArg, ofConst, ofVal, List.all_cons, List.all_nil, Bool.and_true, Specs.at, List.map_cons, List.map_nil, sMem, mem5, thenQ, isB, tmpOf, asB, pfieldAddr, fieldOf, ty23, fieldIn, List.getElem?_cons_succ, List.getElem?_cons_zero, ty3, Option.map_some, ne_eq, Nat.succ_ne_zero, not_false_eq_true, Nat.zero_add, pload, Heap.get_put, okOne, TK.isAgg, beq_self_eq_true, Bool.or_true, Nat.reduceAdd, List.length_cons, List.length_nil, Lift.valOf, List.drop_succ_cons, List.drop_zero, List.take_succ_cons, List.take_zero, List.getD_cons_zero, pindexAddr, ty76, ty43, Int.reduceLE, Int.cast_ofNat_Int, Int.reduceLT, Int.reduceToNat, Nat.reduceMul, hmd, Nat.le_refl, List.take_nil, pbinP, pbinI, hA, decide_false, List.getElem?_toArray, Option.bind_some, plen, okLen, hB, ppick_bool, true_and, mem7]
          all_goals refine SW.run [] _ ?_
          all_goals simp only [wpC, mayStop, stops, isFlt, Specs.has, Specs.hasO, Bool.or_false, Bool.not_false, List.any_cons, List.any_nil, Bool.false_eq_true, ↓reduceIte, wpS, wantedA, okDst, Nat.reduceLT, decide_true, step1, isOwnCall, hxOp, px, AS.eval, AS.get, Lift.look, Nat.reduceEqDiff, reduceCtorEq, Option.getD_some, AS.put, dropKey, pbinP, ofConst, ofVal, pbinI, Int.reduceBEq, List.getElem?_toArray, List.getElem?_cons_succ, List.getElem?_cons_zero, Option.bind_some, beq_self_eq_true, ppick_bool, thenQ, isB, tmpOf, asB, true_and]
          all_goals refine SW.regionAny [] [[0, 1, 2, 3, 4, 5, 6, 7, 8, 9]] rfl (by rfl) (by kernel_rfl) ?_
          all_goals simp only [wpOL, wpO, LOp, List.getElem?_toArray, List.getElem?_cons_zero, okDst, Nat.reduceLT, decide_true, wantedA, ↓reduceIte, step1, isOwnCall, Bool.false_eq_true, hxOp, px, AS.eval, AS.get, Lift.look, Nat.reduceEqDiff, Option.getD_some, List.getElem?_cons_succ, AS.put, dropKey, reduceCtorEq, pfieldAddr, fieldOf, ty23, fieldIn, ty3, Option.map_some, ne_eq, Nat.succ_ne_zero, not_false_eq_true, Nat.zero_add, pload, Heap.get_put, okOne, TK.isAgg, beq_self_eq_true, Bool.or_true, Nat.reduceAdd, List.length_cons, List.length_nil, Nat.le_refl, and_self, Lift.valOf, List.drop_succ_cons, List.drop_zero, List.take_succ_cons, List.take_nil, List.getD_cons_zero, Nat.reduceLeDiff, List.take_zero, ty45, ty42, pindexAddr, ty2, ha0, Int.cast_ofNat_Int, ha, Nat.mul_one, hrd, hrm, stC_len hb, ha2, stC_reg hb ha0 ha, ty43, hC, hD, Lift.hx, hkd, hkm, hkr, hkq, hk, known1, PV.cells, List.length_map, hF, splice, mset hE, inQ, thenQ, true_and]
          all_goals rw [← hv s.da.length]
          all_goals exact ⟨⟨b.pc + 1, b.rg, b.fr, b.da.set i.toNat (b.r a), b.st⟩, e, hb, rfl, by rw [hput ⟨b.pc + 1, b.rg, b.fr, b.da.set i.toNat (b.r a), b.st⟩ rfl]; exact midHT2 hdn hdm hdr hdq hkr hkq hkm hkd, ⟨rfl, rfl, rfl, rfl, rfl, trivial⟩⟩
    have hmem : memS o = false := by unfold memS; simp; omega
    by_cases k5 : 24 ≤ o
    · have hjo : 24 ≤ o ∧ o ≤ 31 := by omega
      have e : stepS code b = .go (b.to (if holdS o (b.r x) (b.r c) = true then i else b.pc + 1)) := by rw [hstep]; unfold execS; rw [if_neg k0, if_neg k4, if_pos k5]
      refine SW.run [eMem] _ ?_
      simp only [wpC, mayStop, stops, isFlt, Specs.has, eMem, Specs.hasO, Nat.reduceLeDiff, Nat.reduceSub, false_and, ↓reduceIte, Bool.or_false, List.any_cons, Bool.not_true, List.any_nil, Bool.false_eq_true, wpS, wantedA, okDst, Nat.reduceLT, decide_true, step1, isOwnCall, hxOp, px, AS.eval, AS.get, Lift.look, reduceCtorEq, Nat.reduceEqDiff, Option.getD_some, and_self, AS.put, dropKey, pcall, okArg, ofConst, ofVal, List.all_cons, List.all_nil, Bool.and_true, Specs.at, List.map_cons, List.map_nil, sMem, hmem, thenQ, isB, tmpOf, asB, pbinP, pbinI, k5, Bool.not_false, Bool.or_true, true_and]
      refine SW.regionAny [eHolds] [[0, 1, 2, 3, 4, 5, 6, 7, 8, 9, 10, 11]] rfl (by rfl) (by kernel_rfl) ?_
      simp only [wpOL, wpO, LOp, List.getElem?_toArray, List.getElem?_cons_zero, okDst, Nat.reduceLT, decide_true, wantedA, ↓reduceIte, step1, isOwnCall, Bool.false_eq_true, hxOp, px, AS.eval, AS.get, Lift.look, Nat.reduceEqDiff, reduceCtorEq, Option.getD_some, List.getElem?_cons_succ, AS.put, dropKey, pfieldAddr, fieldOf, ty23, fieldIn, ty3, Option.map_some, ne_eq, Nat.succ_ne_zero, not_false_eq_true, Nat.zero_add, pload, Heap.get_put, okOne, TK.isAgg, beq_self_eq_true, Bool.or_true, Nat.reduceAdd, List.length_cons, List.length_nil, Nat.reduceLeDiff, and_self, Lift.valOf, List.drop_succ_cons, List.drop_zero, List.take_succ_cons, List.take_zero, List.getD_cons_zero, ty45, ty42, pindexAddr, ty2, hx0, Int.cast_ofNat_Int, hx, Nat.mul_one, hrd, hrm, stC_len hb, hx2, stC_reg hb hx0 hx, hc0, hc, hc2, stC_reg hb hc0 hc, Specs.hasO, eHolds, Nat.reduceSub, pcall, okArg, ofConst, ofVal, List.all_cons, List.all_nil, Bool.and_true, Specs.at, List.map_cons, List.map_nil, sHolds, hjo, thenQ, true_and]
      cases hh : holdS o (b.rg.getD x.toNat 0) (b.rg.getD c.toNat 0) with
      | true =>
        refine SW.run [] _ ?_
        simp only [wpC, isB, AS.get, Lift.look, tmpOf, ↓reduceIte, Option.getD_some, asB, Bool.false_eq_true, wpS, stops, wantedA, okDst, Nat.reduceLT, decide_true, step1, isOwnCall, hxOp, px, pfieldAddr, fieldOf, ty23, fieldIn, List.getElem?_cons_succ, List.getElem?_cons_zero, ty3, Option.map_some, AS.eval, Nat.reduceEqDiff, reduceCtorEq, ne_eq, Nat.succ_ne_zero, not_false_eq_true, Nat.zero_add, AS.put, dropKey, pload, Heap.get_put, okOne, TK.isAgg, beq_self_eq_true, Bool.or_true, Nat.reduceAdd, List.length_cons, List.length_nil, Nat.le_refl, and_self, Lift.valOf, List.drop_succ_cons, List.drop_zero, List.take_succ_cons, List.take_nil, List.getD_cons_zero, inQ, thenQ, true_and]
        rw [show holdS o (b.r x) (b.r c) = true from hh] at e
        exact ⟨⟨i, b.rg, b.fr, b.da, b.st⟩, e, hb, rfl, midHT0 hdn hdm hdr hdq, ⟨rfl, rfl, rfl, rfl, rfl, trivial⟩⟩
      | false =>
        refine SW.run [] _ ?_
        simp only [wpC, isB, AS.get, Lift.look, tmpOf, ↓reduceIte, Option.getD_some, asB, Bool.false_eq_true, inQ, thenQ, true_and]
        rw [show holdS o (b.r x) (b.r c) = false from hh] at e
        exact ⟨⟨b.pc + 1, b.rg, b.fr, b.da, b.st⟩, e, hb, rfl, midHT0 hdn hdm hdr hdq, ⟨rfl, rfl, rfl, rfl, rfl, trivial⟩⟩
    have hop : opC o := by unfold opC; omega
    have e : stepS code b = .go (b.wr a (compS o (b.r x) (b.r c))) := by rw [hstep]; unfold execS; rw [if_neg k0, if_neg k4, if_neg k5, write3 _ _ _ k1 k2]
    refine SW.run [eMem] _ ?_
    simp only [wpC, mayStop, stops, isFlt, Specs.has, eMem, Specs.hasO, Nat.reduceLeDiff, Nat.reduceSub, false_and, ↓reduceIte, Bool.or_false, List.any_cons, Bool.not_true, List.any_nil, Bool.false_eq_true, wpS, wantedA, okDst, Nat.reduceLT, decide_true, step1, isOwnCall, hxOp, px, AS.eval, AS.get, Lift.look, reduceCtorEq, Nat.reduceEqDiff, Option.getD_some, and_self, AS.put, dropKey, pcall, okArg, ofConst, ofVal, List.all_cons, List.all_nil, Bool.and_true, Specs.at, List.map_cons, List.map_nil, sMem, hmem, thenQ, isB, tmpOf, asB, pbinP, pbinI, k5, decide_false, true_and]
    refine SW.regionAny [eCompute] [[0, 1, 2, 3, 4, 5, 6, 7, 8, 9, 10, 11, 12, 13, 14, 15, 16]] rfl (by rfl) (by kernel_rfl) ?_
    simp only [wpOL, wpO, LOp, List.getElem?_toArray, List.getElem?_cons_zero, okDst, Nat.reduceLT, decide_true, wantedA, ↓reduceIte, step1, isOwnCall, Bool.false_eq_true, hxOp, px, pfieldAddr, fieldOf, ty23, fieldIn, List.getElem?_cons_succ, ty3, Option.map_some, AS.eval, AS.get, Lift.look, Nat.reduceEqDiff, reduceCtorEq, Option.getD_some, ne_eq, Nat.succ_ne_zero, not_false_eq_true, Nat.zero_add, AS.put, dropKey, pload, Heap.get_put, okOne, TK.isAgg, beq_self_eq_true, Bool.or_true, Nat.reduceAdd, List.length_cons, List.length_nil, Nat.reduceLeDiff, and_self, Lift.valOf, List.drop_succ_cons, List.drop_zero, List.take_succ_cons, List.take_zero, List.getD_cons_zero, ty45, ty42, pindexAddr, ty2, hx0, Int.cast_ofNat_Int, hx, Nat.mul_one, hrd, hrm, stC_len hb, hx2, stC_reg hb hx0 hx, hc0, hc, hc2, stC_reg hb hc0 hc, Specs.hasO, eCompute, Nat.reduceSub, pcall, okArg, ofConst, ofVal, List.all_cons, List.all_nil, Bool.and_true, Specs.at, List.map_cons, List.map_nil, sCompute, hop, ha0, ha, Lift.hx, known1, PV.cells, ha2, splice, stC_setreg hb ha0 ha, inQ, thenQ, true_and]
    exact ⟨⟨b.pc + 1, b.rg.set a.toNat (compS o (b.r x) (b.r c)), b.fr, b.da, b.st⟩, e, by rw [List.length_set]; exact hb, rfl, midHT hdn hdm hdr hdq hrm, ⟨rfl, rfl, rfl, rfl, rfl, trivial⟩⟩
  · refine SW.run [] _ ?_
    simp only [wpC, mayStop, stops, isFlt, Specs.has, Specs.hasO, Bool.or_false, Bool.not_false, List.any_cons, List.any_nil, Bool.false_eq_true, ↓reduceIte, wpS, wantedA, okDst, Nat.reduceLT, decide_true, step1, isOwnCall, hxOp, px, pfieldAddr, fieldOf, ty45, fieldIn, List.getElem?_cons_succ, List.getElem?_cons_zero, ty3, Option.map_some, AS.eval, AS.get, Lift.look, reduceCtorEq, Option.getD_some, ne_eq, Nat.succ_ne_zero, not_false_eq_true, Nat.zero_add, AS.put, dropKey, Nat.reduceEqDiff, ownV, pload, Heap.get_put, hrm, okOne, TK.isAgg, beq_self_eq_true, Bool.or_true, Nat.reduceAdd, stC_len hb, Nat.le_refl, and_self, Lift.valOf, stC_st hb, List.getD_cons_zero, pbinP, ofConst, ofVal, pbinI, h0, decide_false, thenQ, isB, tmpOf, asB, inQ, true_and]
    refine SW.run [] _ ?_
    simp only [wpC, mayStop, stops, isFlt, Specs.has, Specs.hasO, Bool.or_false, Bool.not_false, List.any_cons, List.any_nil, Bool.false_eq_true, ↓reduceIte, wpS, wantedA, okDst, Nat.reduceLT, decide_true, step1, isOwnCall, hxOp, px, pload, ty45, AS.eval, AS.get, Lift.look, Nat.reduceEqDiff, reduceCtorEq, Option.getD_some, Heap.get_put, hrm, okOne, TK.isAgg, Nat.reduceBEq, Nat.zero_add, stC_len hb, Nat.le_refl, and_self, Lift.valOf, List.drop_zero, stC_all hb, hx, AS.put, dropKey, hqm, hqr, known1, PV.cells, hz, splice, List.take_zero, List.nil_append, hz2, List.append_nil, ofConst, ofVal, thenQ, RPost, sres, Tryd.results20, sresL, sres1, Option.some.injEq, exists_eq_left', true_and]
    refine ⟨_, HSub.to (hdrop (hdrop (hdrop (hdrop (hself _) nQ) nR) nM) nQ), exitQ ok1b ok2b hfl hdl ?_⟩
    have hb0' : b.st = 0 := by have := hok.st0; omega
    rw [← hrun, hb0']
    rfl
end Go.Proofs.YthdmdeiaonkeoaaDoor
