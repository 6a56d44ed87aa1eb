/- Contracts of functions that the law reaches. -/
import Derived.Test.YthdmdeiaonkeoaaDoorT22
import Derived.Test.YthdmdeiaonkeoaaDoorT23
set_option linter.unusedSimpArgs false
set_option linter.unusedVariables false
namespace Go.Proofs.YthdmdeiaonkeoaaDoor
open Go Go.RowKit Go.Proofs.YthdmdeiaonkeoaaDoor Go.Proofs.YthdmdeiaonkeoaaDoor.Lift

/-! CpuRuns -/
theorem RunR_ok (code : List Int) (s : Mach) (h : Heap) (hs : s.fit) (hcl : code.length ≤ 1000000000) (hcw : ∀ w ∈ code, -9223372036854775808 ≤ w ∧ w < 9223372036854775808) : SCalls env 21 [.list 1 (el64 code), .agg (stV s)] h (Ret (ansV (runAll code s)) h) :=
  RunW_letGo (RunW_ok code s h hs.rg hs.st hcl hs.fr hs.da hcw)
def sRunR : List PV → Prop × PV
  | [.list 1 xs, .agg cs] => match un64 xs, unSt cs with
    | some code, some s => (s.fit ∧ code.length ≤ 1000000000 ∧ (∀ w ∈ code, -9223372036854775808 ≤ w ∧ w < 9223372036854775808), ansV (runAll code s))
    | _, _ => PBad
  | _ => PBad
theorem sRunR_st {code : List Int} {s : Mach} (hr : s.rg.length = 16) : sRunR [.list 1 (el64 code), .agg (stV s)] = (s.fit ∧ code.length ≤ 1000000000 ∧ (∀ w ∈ code, -9223372036854775808 ≤ w ∧ w < 9223372036854775808), ansV (runAll code s)) := by
  show (match un64 (el64 code), unSt (stV s) with | some code, some s => (s.fit ∧ code.length ≤ 1000000000 ∧ (∀ w ∈ code, -9223372036854775808 ≤ w ∧ w < 9223372036854775808), ansV (runAll code s)) | _, _ => PBad) = _
  rw [un64_el64, unSt_stV hr]
noncomputable def eRunR : SpecE env := ⟨21, sRunR, fun args h hc => by
  unfold sRunR at hc ⊢
  split at hc
  · split at hc
    · rename_i code s h1 h2
      rw [un64_spec h1, unSt_spec h2]
      exact .inl (RunR_ok code s h hc.1 hc.2.1 hc.2.2)
    · exact hc.elim
  · exact hc.elim⟩
theorem stV_eq (s : Mach) : PV.int .i64 s.pc :: (s.rg.map (PV.int .i64) ++ [PV.list 1 (el64 s.fr), PV.list 1 (el64 s.da), PV.int .i64 s.st]) = stV s := rfl
section
variable {rg : List Int} {a b c f : PV} (hr : rg.length = 16)
include hr
theorem fill_len : (List.map (PV.int .i64) rg ++ [a, b, c]).length = 19 := by simp [hr]
theorem fill_fr : List.take 16 (List.map (PV.int .i64) rg ++ [a, b, c]) ++ [f] ++ List.drop 17 (List.map (PV.int .i64) rg ++ [a, b, c]) = List.map (PV.int .i64) rg ++ [f, b, c] := by
  rw [List.take_left' (by rw [List.length_map, hr]), List.drop_append, List.drop_eq_nil_of_le (by rw [List.length_map, hr]; omega), List.length_map, hr]
  simp
theorem fill_da : List.take 17 (List.map (PV.int .i64) rg ++ [a, b, c]) ++ [f] ++ List.drop 18 (List.map (PV.int .i64) rg ++ [a, b, c]) = List.map (PV.int .i64) rg ++ [a, f, c] := by
  rw [List.take_append, List.take_of_length_le (by rw [List.length_map, hr]; omega), List.drop_append, List.drop_eq_nil_of_le (by rw [List.length_map, hr]; omega), List.length_map, hr]
  simp
theorem fill_st : List.take 18 (List.map (PV.int .i64) rg ++ [a, b, c]) ++ [f] ++ List.drop 19 (List.map (PV.int .i64) rg ++ [a, b, c]) = List.map (PV.int .i64) rg ++ [a, b, f] := by
  rw [List.take_append, List.take_of_length_le (by rw [List.length_map, hr]; omega), List.drop_append, List.drop_eq_nil_of_le (by rw [List.length_map, hr]; omega), List.length_map, hr]
  simp
end
theorem plain_ok (s : Mach) (h : Heap) (hr : s.rg.length = 16) : SCalls env 22 [.agg (stV s)] h (Ret (.agg (stV s)) h) := by
  refine SCalls.body Tryd.func22 rfl rfl (by simp [Tryd.ntmps22]) ?_
  refine SW.seq (SW.run [] _ ?_)
  simp only [wpC, Bool.false_eq_true, ↓reduceIte, wpS, stops, wantedA, okDst, Tryd.ntmps22, Nat.reduceLT, decide_true, step1, known1, AS.eval, AS.get, enumA, Lift.look, Option.getD_some, AS.put, dropKey, reduceCtorEq, okAlloc, ty50, okZero, List.all_cons, Value.oneCell', List.all_nil, Bool.and_true, PV.cells, stV_len hr, Heap.get_put, some_none, thenQ, Nat.reduceEqDiff, zeroOf, List.map_cons, ofVal, List.map_nil, List.length_cons, List.length_nil, Nat.zero_add, Nat.reduceAdd, true_and]
  rintro r h0 q ⟨hqr, h1⟩
  have hrq : ¬ r = q := fun e => hqr e.symm
  refine SW.run [] _ ?_
  simp only [wpC, mayStop, stops, isFlt, Specs.has, Specs.hasO, Bool.or_false, Bool.not_false, List.any_cons, List.any_nil, Bool.false_eq_true, ↓reduceIte, wpS, wantedA, okDst, Nat.reduceLT, decide_true, step1, isOwnCall, hxOp, px, pfieldAddr, fieldOf, ty45, fieldIn, List.getElem?_cons_zero, ty3, Option.map_some, AS.eval, AS.get, Lift.look, Nat.reduceEqDiff, Option.getD_some, ne_eq, Nat.succ_ne_zero, not_false_eq_true, Nat.add_zero, AS.put, dropKey, reduceCtorEq, pload, Heap.get_put, hrq, okOne, TK.isAgg, beq_self_eq_true, Bool.or_true, Nat.zero_add, stV_len hr, Nat.reduceLeDiff, and_self, Lift.valOf, List.drop_zero, stV_pc, List.getD_cons_zero, List.getElem?_cons_succ, ty42, Nat.reduceBEq, Nat.reduceAdd, stV_rg hr, ty43, stV_fr hr, stV_da hr, Nat.le_refl, stV_st hr, pbuild, ty50, List.map_cons, ofVal, List.map_nil, ofConst, pfill, placeOf, PV.cells, List.length_cons, List.length_nil, List.length_map, hr, splice, List.take_zero, List.nil_append, List.drop_succ_cons, List.cons_append, List.take_succ_cons, fill_len hr, fill_fr hr, fill_da hr, fill_st hr, stV_eq, List.all_cons, Option.isSome_some, List.all_nil, Bool.and_true, okZero, Value.oneCell', known, hx, known1, List.drop_nil, List.append_nil, thenQ, RPost, sres, Tryd.results22, sresL, sres1, stV_all hr, Option.some.injEq, Ret_fin, exists_eq_left', true_and]
  exact HSub.to (hdrop (hdrop (hdrop (hself _) h0) h1) h1)
def sPlain : List PV → Prop × PV
  | [.agg cs] => match unSt cs with
    | some s => (s.rg.length = 16, .agg (stV s))
    | none => PBad
  | _ => PBad
theorem sPlain_st {s : Mach} (hr : s.rg.length = 16) : sPlain [.agg (stV s)] = (s.rg.length = 16, .agg (stV s)) := by
  show (match unSt (stV s) with | some s => (s.rg.length = 16, PV.agg (stV s)) | none => PBad) = _
  rw [unSt_stV hr]
noncomputable def ePlain : SpecE env := ⟨22, sPlain, fun args h hc => by
  unfold sPlain at hc ⊢
  split at hc
  · split at hc
    · rename_i s h1
      rw [unSt_spec h1]
      exact .inl (plain_ok s h hc)
    · exact hc.elim
  · exact hc.elim⟩
set_option maxRecDepth 100000 in
set_option maxHeartbeats 4000000 in
theorem CpuRuns_ok (code : List Int) (s : Mach) (h : Heap) (hr : s.rg.length = 16) (hcw : ∀ w ∈ code, -9223372036854775808 ≤ w ∧ w < 9223372036854775808) :
    SCalls env 5 [.list 1 (el64 code), .agg (stV s)] h (Ret (.bool true) h) := by
  refine SCalls.body Tryd.func5 rfl rfl (by simp [Tryd.ntmps5]) ?_
  refine SW.seq (SW.run [] _ ?_)
  simp only [wpC, Bool.false_eq_true, ↓reduceIte, wpS, stops, wantedA, okDst, Tryd.ntmps5, Nat.reduceLT, decide_true, step1, known1, AS.eval, AS.get, enumA, Nat.zero_add, Lift.look, reduceCtorEq, Option.getD_some, AS.put, dropKey, Nat.reduceEqDiff, isOwnCall, hxOp, px, ofConst, ofVal, thenQ, PV.cells, stV_len hr, true_and]
  intro r h0
  refine SW.seq (SW.run [eAwake] _ ?_)
  simp only [wpC, mayStop, stops, isFlt, Specs.has, eAwake, Specs.hasO, Nat.reduceLeDiff, Nat.reduceSub, false_and, ↓reduceIte, Bool.or_false, List.any_cons, Bool.not_true, List.any_nil, Bool.false_eq_true, wpS, reduceCtorEq, and_self, wantedA, okDst, Nat.reduceLT, decide_true, step1, isOwnCall, hxOp, px, pcall, okArg, AS.eval, AS.get, Lift.look, ofConst, ofVal, List.all_nil, Specs.at, List.map_nil, sAwake, AS.put, dropKey, Nat.reduceEqDiff, pun, Option.getD_some, thenQ, isB, tmpOf, asB, true_and]
  cases hs : smallS code s with
  | false =>
    refine SW.run [eSmall] _ ?_
    simp only [wpC, mayStop, stops, isFlt, Specs.has, eSmall, Specs.hasO, Nat.reduceLeDiff, Nat.reduceSub, false_and, ↓reduceIte, Bool.or_false, List.any_cons, Bool.not_true, List.any_nil, Bool.false_eq_true, wpS, wantedA, okDst, Nat.reduceLT, decide_true, step1, isOwnCall, hxOp, px, AS.eval, AS.get, Lift.look, Nat.succ_ne_zero, Option.getD_some, AS.put, dropKey, Nat.reduceEqDiff, reduceCtorEq, pload, ty45, Heap.get_put, okOne, TK.isAgg, Nat.reduceBEq, Nat.zero_add, stV_len hr, Nat.le_refl, and_self, Lift.valOf, List.drop_zero, stV_all hr, pcall, okArg, ofConst, ofVal, List.all_cons, List.all_nil, Bool.and_true, Specs.at, List.map_cons, List.map_nil, sSmall_st hr, hr, hs, pun, Bool.not_false, thenQ, isB, tmpOf, asB, RPost, sres, Tryd.results5, sresL, sres1, Option.some.injEq, Ret_fin, exists_eq_left', true_and]
    exact HTo.put (.refl _ _) h0 _
  | true =>
  obtain ⟨c1, c2, c3, c4⟩ := small_spec hs
  refine SW.seq (SW.run [eSmall] _ ?_)
  simp only [wpC, mayStop, stops, isFlt, Specs.has, eSmall, Specs.hasO, Nat.reduceLeDiff, Nat.reduceSub, false_and, ↓reduceIte, Bool.or_false, List.any_cons, Bool.not_true, List.any_nil, Bool.false_eq_true, wpS, wantedA, okDst, Nat.reduceLT, decide_true, step1, isOwnCall, hxOp, px, AS.eval, AS.get, Lift.look, Nat.succ_ne_zero, Option.getD_some, AS.put, dropKey, Nat.reduceEqDiff, reduceCtorEq, pload, ty45, Heap.get_put, okOne, TK.isAgg, Nat.reduceBEq, Nat.zero_add, stV_len hr, Nat.le_refl, and_self, Lift.valOf, List.drop_zero, stV_all hr, pcall, okArg, ofConst, ofVal, List.all_cons, List.all_nil, Bool.and_true, Specs.at, List.map_cons, List.map_nil, sSmall_st hr, hr, hs, pun, thenQ, isB, tmpOf, asB, true_and]
  have hst : s.st < 9223372036854775808 := by omega
  have hcl : code.length ≤ 1000000000 := by omega
  have hfr : s.fr.length ≤ 1000000000 := by omega
  have hda : s.da.length ≤ 1000000000 := by omega
  have hfit : s.fit := ⟨hr, hst, hfr, hda⟩
  have kp1 := all_keep (code := code) (s := s) hr hst
  rcases hX : runAll code s with ⟨x, hx, nx⟩
  rw [hX] at kp1
  dsimp only at kp1
  have xr : x.rg.length = 16 := kp1.rg
  have xfit : x.fit := ⟨xr, by have := kp1.st1; have e : s.begin.st = max 0 s.st := rfl; omega, by have := kp1.fr; have e : s.begin.fr = s.fr := rfl; rw [this, e]; omega, by have := kp1.da; have e : s.begin.da = s.da := rfl; rw [this, e]; omega⟩
  refine SW.seq (SW.regionAny [oClone] [[0, 1, 3, 4, 2, 5, 6, 7]] rfl (by rfl) (by kernel_rfl) ?_)
  simp only [wpOL, wpO, LOp, List.getElem?_toArray, List.getElem?_cons_zero, okDst, Nat.reduceLT, decide_true, wantedA, ↓reduceIte, step1, isOwnCall, Bool.false_eq_true, hxOp, px, pfieldAddr, fieldOf, ty45, fieldIn, List.getElem?_cons_succ, ty43, Option.map_some, AS.eval, AS.get, Lift.look, Nat.reduceEqDiff, Option.getD_some, ne_eq, Nat.succ_ne_zero, not_false_eq_true, Nat.zero_add, AS.put, dropKey, reduceCtorEq, pload, Heap.get_put, okOne, TK.isAgg, beq_self_eq_true, Bool.or_true, Nat.reduceAdd, stV_len hr, Nat.reduceLeDiff, and_self, Lift.valOf, stV_fr hr, List.getD_cons_zero, stV_da hr, Specs.hasO, oClone, Nat.reduceSub, ownSpec, okArg, ofConst, ofVal, List.all_cons, List.all_nil, Bool.and_true, Specs.atO, List.map_cons, List.map_nil, sClone, un64_el64, hfr, OwnR, isApp, ownOf, Int.reduceToNat, hda, thenQ, true_and]
  intro u1 h1 own1 u2 h2 own2
  have own1 : Own (h.put r (.cells 45 20 (stV s))) 2 1 (el64 s.fr) u1 h1 := own1
  have own2 : Own h1 2 1 (el64 s.da) u2 h2 := own2
  refine SW.own_let 6 rfl own2 ?_
  refine SW.own_let 5 rfl own1 ?_
  refine SW.enter (n := 77) (l := [(0, .list 1 (el64 code)), (3, .val (.pointer (some ⟨r, 0, none⟩))), (5, .list 1 (el64 s.fr)), (6, .list 1 (el64 s.da))]) (H := h.put r (.cells 45 20 (stV s))) rfl (HTo.refl _ _) ⟨rfl, rfl, rfl, rfl, trivial⟩ ?_
  clear own1 own2
  refine SW.seq (SW.run [eRun] _ ?_)
  simp only [wpC, Bool.false_eq_true, ↓reduceIte, wpS, stops, wantedA, okDst, Nat.reduceLT, decide_true, step1, isOwnCall, hxOp, px, AS.eval, AS.get, Lift.look, Option.getD_some, AS.put, dropKey, reduceCtorEq, Nat.reduceEqDiff, pload, ty45, Heap.get_put, okOne, TK.isAgg, Nat.reduceBEq, Bool.or_false, Nat.zero_add, stV_len hr, Nat.le_refl, and_self, Lift.valOf, List.drop_zero, stV_all hr, Specs.has, eRun, Specs.hasO, Nat.reduceLeDiff, Nat.reduceSub, Bool.not_true, pcall, okArg, ofConst, ofVal, List.all_cons, List.all_nil, Bool.and_true, Specs.at, List.map_cons, List.map_nil, sRun_st hr, hfit, hcl, hX, ans_eta, List.getElem?_cons_zero, List.getElem?_cons_succ, okAlloc, okZero, Value.oneCell', some_none, Lift.hx, zeroOf, List.length_cons, List.length_nil, Nat.reduceAdd, known1, PV.cells, stV_len xr, splice, List.take_zero, List.nil_append, List.drop_succ_cons, List.drop_nil, List.append_nil, thenQ, true_and]
  rintro q ⟨hqr, h3⟩
  have hrq : ¬ r = q := fun e => hqr e.symm
  simp only [Heap.put_put]
  refine SW.seq (SW.run [ePlain, eRunR] _ ?_)
  simp only [wpC, Bool.false_eq_true, ↓reduceIte, wpS, stops, wantedA, okDst, Nat.reduceLT, decide_true, step1, isOwnCall, hxOp, px, AS.eval, AS.get, Lift.look, Nat.succ_ne_zero, Option.getD_some, AS.put, dropKey, Nat.reduceEqDiff, reduceCtorEq, pload, ty45, Heap.get_put, hrq, okOne, TK.isAgg, Nat.reduceBEq, Bool.or_false, Nat.zero_add, stV_len hr, Nat.le_refl, and_self, Lift.valOf, List.drop_zero, stV_all hr, Specs.has, ePlain, Specs.hasO, Nat.reduceLeDiff, Nat.reduceSub, eRunR, Bool.not_true, pcall, okArg, ofConst, ofVal, List.all_cons, List.all_nil, Bool.and_true, Specs.at, List.map_cons, List.map_nil, sPlain_st hr, hr, sRunR_st hr, hfit, hcl, true_and, hX, ans_eta, List.getElem?_cons_zero, List.getElem?_cons_succ, okAlloc, ty50, okZero, Value.oneCell', some_none, Lift.hx, zeroOf, List.length_cons, List.length_nil, Nat.reduceAdd, known1, PV.cells, stV_len xr, splice, List.take_zero, List.nil_append, List.drop_succ_cons, List.drop_nil, List.append_nil, thenQ]
  refine ⟨hcw, ?_⟩
  rintro p ⟨hpq, hpr1, h4⟩
  have hrp : ¬ r = p := fun e => hpr1 e.symm
  have hqp : ¬ q = p := fun e => hpq e.symm
  simp only [Heap.put_put]
  refine SW.seq (SW.run [] _ ?_)
  simp only [wpC, Bool.false_eq_true, ↓reduceIte, wpS, stops, wantedA, okDst, Nat.reduceLT, decide_true, step1, isOwnCall, hxOp, px, pfieldAddr, fieldOf, ty50, fieldIn, List.getElem?_cons_zero, ty3, Option.map_some, AS.eval, AS.get, Lift.look, Nat.reduceEqDiff, Option.getD_some, ne_eq, Nat.succ_ne_zero, not_false_eq_true, Nat.add_zero, AS.put, dropKey, reduceCtorEq, pload, Heap.get_put, okOne, TK.isAgg, beq_self_eq_true, Bool.or_true, Nat.zero_add, stV_len xr, Nat.reduceLeDiff, and_self, Lift.valOf, List.drop_zero, stV_pc, List.getD_cons_zero, List.getElem?_cons_succ, ty42, Nat.reduceBEq, Bool.or_false, Nat.reduceAdd, stV_rg xr, ty43, stV_fr xr, stV_da xr, Nat.le_refl, stV_st xr, pbuild, ty45, List.map_cons, ofVal, List.map_nil, ofConst, pfill, placeOf, PV.cells, List.length_cons, List.length_nil, List.length_map, xr, splice, List.take_zero, List.nil_append, List.drop_succ_cons, List.cons_append, List.take_succ_cons, fill_len xr, fill_fr xr, fill_da xr, fill_st xr, stV_eq, List.all_cons, Option.isSome_some, List.all_nil, Bool.and_true, okZero, Value.oneCell', known, okAlloc, some_none, Lift.hx, zeroOf, known1, List.drop_nil, List.append_nil, thenQ, true_and]
  rintro u ⟨hup, huq, hur, h5⟩
  have hru : ¬ r = u := fun e => hur e.symm
  have hqu : ¬ q = u := fun e => huq e.symm
  have hpu : ¬ p = u := fun e => hup e.symm
  simp only [Heap.put_put]
  refine SW.run [eEqualM, eEqual] _ ?_
  simp only [wpC, mayStop, stops, isFlt, Specs.has, eEqualM, eEqual, Specs.hasO, Nat.reduceLeDiff, Nat.reduceSub, false_and, ↓reduceIte, Bool.or_false, List.any_cons, Bool.not_true, Nat.reduceEqDiff, List.any_nil, Bool.false_eq_true, wpS, wantedA, okDst, Nat.reduceLT, decide_true, step1, isOwnCall, hxOp, px, pload, ty45, AS.eval, AS.get, Lift.look, Option.getD_some, Heap.get_put, hqu, hqp, okOne, TK.isAgg, Nat.reduceBEq, Nat.zero_add, stV_len xr, Nat.le_refl, and_self, Lift.valOf, List.drop_zero, stV_all xr, AS.put, dropKey, reduceCtorEq, pcall, okArg, ofConst, ofVal, List.all_cons, List.all_nil, Bool.and_true, Specs.at, List.map_cons, List.map_nil, sEqualM_st xr xr, xfit, List.getElem?_toArray, List.getElem?_cons_succ, List.getElem?_cons_zero, Option.bind_some, beq_self_eq_true, pbinP, pbinI, ppick_bool, pfieldAddr, fieldOf, fieldIn, ty43, Option.map_some, ne_eq, Nat.succ_ne_zero, not_false_eq_true, hru, hrp, hrq, Bool.or_true, Nat.reduceAdd, stV_len hr, stV_fr hr, List.getD_cons_zero, sEqual, un64_el64, hfr, stV_da hr, hda, thenQ, RPost, sres, Tryd.results5, sresL, sres1, Option.some.injEq, Ret_fin, exists_eq_left', true_and]
  exact HSub.to (hdrop (hdrop (hdrop (hdrop (hself _) h0) h3) h4) h5)
end Go.Proofs.YthdmdeiaonkeoaaDoor
