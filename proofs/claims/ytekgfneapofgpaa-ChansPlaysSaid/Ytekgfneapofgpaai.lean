/- Contracts of functions that the law reaches. -/
import Derived.Test.Ytekgfneapofgpaah
set_option linter.unusedSimpArgs false
set_option linter.unusedVariables false
namespace Go.Proofs.Ytekgfneapofgpaa
open Go Go.RowKit Go.Proofs.Ytekgfneapofgpaa Go.Proofs.Ytekgfneapofgpaa.Lift

/-! ChansNil -/
def sNil2 : List PV → Prop × PV
  | [.val (.pointer none), .int .i64 _] => (True, .bool false)
  | _ => PBad
noncomputable def eWaitsN : SpecE env := ⟨11, sNil2, fun args h hc => by
  unfold sNil2 at hc ⊢
  split at hc
  · rename_i p; exact .inl (Waits_nil p h)
  · exact hc.elim⟩
theorem Leave_nil (p : Int) (h : Heap) : SCalls env 12 [.val (.pointer none), .int .i64 p] h (Ret (.bool false) h) := by
  refine SCalls.body Try.func12 rfl rfl (by simp [Try.ntmps12]) (SW.run [eWaitsN] _ ?_)
  simp only [wpC, mayStop, stops, isFlt, Specs.has, eWaitsN, Specs.hasO, Bool.or_false, Specs.hasH, List.any_cons, List.any_nil, Bool.false_eq_true, ↓reduceIte, wpS, wantedA, okDst, Try.ntmps12, Nat.reduceLT, decide_true, step1, isOwnCall, hxOp, px, AS.eval, ofConst, ofVal, thenQ, Bool.not_true, AS.put, enumA, Nat.zero_add, dropKey, reduceCtorEq, Nat.reduceEqDiff, AS.get, Lift.look, Nat.succ_ne_zero, Option.getD_some, pcall, okArg, List.all_cons, List.all_nil, Bool.and_true, Specs.at, List.map_cons, List.map_nil, sNil2, and_self, pun, Bool.not_false, isB, tmpOf, asB, RPost, sres, Try.results12, sresL, sres1, Option.some.injEq, Ret_fin, HTo_self, and_true, exists_eq_left']
noncomputable def eLeaveN : SpecE env := ⟨12, sNil2, fun args h hc => by
  unfold sNil2 at hc ⊢
  split at hc
  · rename_i p; exact .inl (Leave_nil p h)
  · exact hc.elim⟩
def sMeetN : List PV → Prop × PV
  | [.val (.pointer none), .int .i64 _, .agg [.int .i64 _, .bool _]] => (True, .tuple [enZ, .bool false])
  | _ => PBad
noncomputable def eMeetN : SpecE env := ⟨15, sMeetN, fun args h hc => by
  unfold sMeetN at hc ⊢
  split at hc
  · rename_i p c s; exact .inl (Meet_nil p c s h)
  · exact hc.elim⟩
def sReadyN : List PV → Prop × PV
  | [.val (.pointer none), .int .i64 _, .list 2 xs] => match unO xs with
    | some _ => (True, nilS)
    | none => PBad
  | _ => PBad
noncomputable def eReadyN : SpecE env := ⟨13, sReadyN, fun args h hc => by
  unfold sReadyN at hc ⊢
  split at hc
  · rename_i p xs
    split at hc
    · rename_i os ho; rw [unO_spec ho]; exact .inl (Ready_nil p os h)
    · exact hc.elim
  · exact hc.elim⟩
def sWaitN : List PV → Prop × PV
  | [.val (.pointer none), .int .i64 _, .list 2 xs] => match unO xs with
    | some _ => (True, .int .i64 1)
    | none => PBad
  | _ => PBad
noncomputable def eWaitN : SpecE env := ⟨16, sWaitN, fun args h hc => by
  unfold sWaitN at hc ⊢
  split at hc
  · rename_i p xs
    split at hc
    · rename_i os ho; rw [unO_spec ho]; exact .inl (Wait_nil p os h)
    · exact hc.elim
  · exact hc.elim⟩
def sWaitL : List PV → Prop × PV
  | [.val (.pointer (some ⟨_, 0, none⟩)), .int .i64 _, .list 2 xs] => (16384 < xs.length, .int .i64 3)
  | _ => PBad
noncomputable def eWaitL : SpecE env := ⟨16, sWaitL, fun args h hc => by
  unfold sWaitL at hc ⊢
  split at hc
  · rename_i a p xs; exact .inl (Wait_lim p xs hc a h)
  · exact hc.elim⟩
def sQueueN : List PV → Prop × PV
  | [.val (.pointer none), .int .i64 _, .bool _] => (True, nilS)
  | _ => PBad
noncomputable def eQueueN : SpecE env := ⟨20, sQueueN, fun args h hc => by
  unfold sQueueN at hc ⊢
  split at hc
  · rename_i c s; exact .inl (Queue_nil c s h)
  · exact hc.elim⟩
def sEntriesN : List PV → Prop × PV
  | [.val (.pointer none)] => (True, nilS)
  | _ => PBad
noncomputable def eEntriesN : SpecE env := ⟨17, sEntriesN, fun args h hc => by
  unfold sEntriesN at hc ⊢
  split at hc
  · exact .inl (Entries_nil h)
  · exact hc.elim⟩
set_option maxHeartbeats 1000000 in
set_option maxRecDepth 100000 in
theorem ChansNil_ok (wh pid : Int) (os : List (Int × Bool)) (h : Heap) : SCalls env 7 [.agg [.int .u8 wh, .int .i64 pid, .list 2 (elO os)]] h (Ret (.bool true) h) := by
  refine SCalls.body Try.func7 rfl rfl (by simp [Try.ntmps7]) ?_
  refine SW.seq (SW.run [] _ ?_)
  simp only [wpC, Bool.false_eq_true, ↓reduceIte, wpS, stops, wantedA, okDst, Try.ntmps7, Nat.reduceLT, decide_true, step1, known1, AS.eval, AS.get, enumA, Lift.look, Option.getD_some, AS.put, dropKey, reduceCtorEq, isOwnCall, hxOp, px, ofConst, ofVal, thenQ, Nat.reduceEqDiff, PV.cells, List.length_cons, List.length_nil, Nat.zero_add, Nat.reduceAdd, true_and]
  intro r hr
  by_cases h8 : os.length ≤ 8
  case neg =>
    have h8I : (8 : Int) < (os.length : Int) := by omega
    refine SW.run [eAwake] _ ?_
    simp only [wpC, mayStop, stops, isFlt, Specs.has, eAwake, Specs.hasO, Bool.or_false, Specs.hasH, List.any_cons, List.any_nil, Bool.false_eq_true, ↓reduceIte, wpS, wantedA, okDst, Nat.reduceLT, decide_true, step1, isOwnCall, hxOp, px, AS.eval, ofConst, ofVal, thenQ, Bool.not_true, AS.put, dropKey, Nat.reduceEqDiff, reduceCtorEq, pfieldAddr, fieldOf, ty30, fieldIn, List.getElem?_cons_succ, List.getElem?_cons_zero, ty28, Option.map_some, AS.get, Lift.look, Option.getD_some, ne_eq, Nat.succ_ne_zero, not_false_eq_true, Nat.zero_add, pload, Heap.get_put, okOne, TK.isAgg, beq_self_eq_true, Bool.or_true, Nat.reduceAdd, List.length_cons, List.length_nil, Nat.le_refl, and_self, Lift.valOf, List.drop_succ_cons, List.drop_zero, List.take_succ_cons, List.take_nil, List.getD_cons_zero, pcall, plen, elO_len, okLen, isNilC, pbinP, pbinI, h8I, isB, tmpOf, asB, okArg, List.all_nil, Specs.at, List.map_nil, sAwake, RPost, sres, Try.results7, sresL, sres1, Option.some.injEq, Ret_fin, exists_eq_left', true_and]
    exact Inc.to ((Inc.self h).put hr _)
  have h8I : ¬ (8 : Int) < (os.length : Int) := by omega
  have ho : ∃ c s, oneV os = .agg [.int .i64 c, .bool s] := by
    cases os with
    | nil => exact ⟨_, _, rfl⟩
    | cons o l => exact ⟨_, _, rfl⟩
  obtain ⟨c, s, ho⟩ := ho
  refine SW.seq (SW.run [] _ ?_)
  simp only [wpC, Bool.false_eq_true, ↓reduceIte, wpS, stops, wantedA, okDst, Nat.reduceLT, decide_true, step1, isOwnCall, hxOp, px, AS.eval, ofConst, ofVal, thenQ, AS.put, dropKey, Nat.reduceEqDiff, reduceCtorEq, true_and]
  refine SW.seq (SW.run [] _ ?_)
  simp only [wpC, mayStop, stops, isFlt, Specs.has, Specs.hasO, Bool.or_false, Specs.hasH, Bool.not_false, List.any_cons, List.any_nil, Bool.false_eq_true, ↓reduceIte, wpS, wantedA, okDst, Nat.reduceLT, decide_true, step1, isOwnCall, hxOp, px, pfieldAddr, fieldOf, ty30, fieldIn, List.getElem?_cons_succ, List.getElem?_cons_zero, ty28, Option.map_some, AS.eval, AS.get, Lift.look, Nat.reduceEqDiff, Option.getD_some, ne_eq, Nat.succ_ne_zero, not_false_eq_true, Nat.zero_add, AS.put, dropKey, reduceCtorEq, pload, Heap.get_put, okOne, TK.isAgg, beq_self_eq_true, Bool.or_true, Nat.reduceAdd, List.length_cons, List.length_nil, Nat.le_refl, and_self, Lift.valOf, List.drop_succ_cons, List.drop_zero, List.take_succ_cons, List.take_nil, List.getD_cons_zero, pcall, plen, elO_len, okLen, isNilC, pbinP, ofConst, ofVal, pbinI, h8I, decide_false, thenQ, isB, tmpOf, asB, true_and]
  refine SW.seq (SW.regionAny [eOne, eMeetN] [[0, 1, 2, 3, 4, 5, 6, 7, 8, 9, 10, 11, 12]] rfl (by rfl) (by kernel_rfl) ?_)
  simp only [wpOL, wpO, LOp, List.getElem?_toArray, List.getElem?_cons_zero, okDst, Nat.reduceLT, decide_true, wantedA, ↓reduceIte, step1, isOwnCall, Bool.false_eq_true, hxOp, px, AS.eval, AS.get, Lift.look, Nat.reduceEqDiff, Option.getD_some, List.getElem?_cons_succ, AS.put, dropKey, reduceCtorEq, pfieldAddr, fieldOf, ty30, fieldIn, ty3, Option.map_some, ne_eq, Nat.succ_ne_zero, not_false_eq_true, Nat.zero_add, pload, Heap.get_put, okOne, TK.isAgg, beq_self_eq_true, Bool.or_true, Nat.reduceAdd, List.length_cons, List.length_nil, Nat.reduceLeDiff, and_self, Lift.valOf, List.drop_succ_cons, List.drop_zero, List.take_succ_cons, List.take_zero, List.getD_cons_zero, ty28, Nat.le_refl, List.take_nil, Specs.hasO, Specs.hasH, pcall, okArg, ofConst, ofVal, List.all_cons, List.all_nil, Bool.and_true, Specs.at, eOne, List.map_cons, List.map_nil, sOne, unO_el, ho, eMeetN, sMeetN, enZ, okAlloc, ty35, okZero, Value.oneCell', some_none, hx, zeroOf, known1, PV.cells, splice, List.nil_append, List.drop_nil, List.append_nil, thenQ, true_and]
  intro q hq
  have hqr : ¬ q = r := hq.1
  have hrq : ¬ r = q := fun e => hqr e.symm
  rw [Heap.put_put]
  have i2 := ((Inc.self h).put hr (.cells 30 3 [.int .u8 wh, .int .i64 pid, .list 2 (elO os)])).put (r := q) (by rw [Heap.put_none]; exact hq) (.cells 35 4 [.int .i64 0, .int .i64 0, .int .i64 0, .bool false])
  have hr5 : ((h.put r (.cells 30 3 [.int .u8 wh, .int .i64 pid, .list 2 (elO os)])).put q (.cells 35 4 [.int .i64 0, .int .i64 0, .int .i64 0, .bool false])) r = some (.cells 30 3 [.int .u8 wh, .int .i64 pid, .list 2 (elO os)]) := by rw [Heap.put_ne _ _ hrq, Heap.put_same]
  have hq6 : ((h.put r (.cells 30 3 [.int .u8 wh, .int .i64 pid, .list 2 (elO os)])).put q (.cells 35 4 [.int .i64 0, .int .i64 0, .int .i64 0, .bool false])) q = some (.cells 35 4 [.int .i64 0, .int .i64 0, .int .i64 0, .bool false]) := Heap.put_same _ _ _
  generalize (h.put r (.cells 30 3 [.int .u8 wh, .int .i64 pid, .list 2 (elO os)])).put q (.cells 35 4 [.int .i64 0, .int .i64 0, .int .i64 0, .bool false]) = H at i2 hr5 hq6 ⊢
  refine SW.seq (SW.run [] _ ?_)
  simp only [wpC, Bool.false_eq_true, ↓reduceIte, wpS, stops, Specs.has, Specs.hasO, Bool.or_false, Specs.hasH, Bool.not_false]
  refine SWO.call (.func 10) #[] _ 10 #[] #[] rfl rfl rfl rfl rfl rfl (New_ok H) rfl rfl ?_ (fun c h' hc => by obtain ⟨_, hc, _⟩ := hc; cases hc)
  rintro p' h1 ⟨B0, hp', b0, w0, ps0, t0⟩
  injection hp' with hp'
  subst hp'
  have hr7 := b0.inc _ _ hr5
  have hq7 := b0.inc _ _ hq6
  have hpf : (pOf B0.ps pid).isSome = false := by rw [ps0]; rfl
  have hin := b0.inc
  refine SWO.run [] 1000 ?_
  simp only [wpS, stops, Bool.false_eq_true, ↓reduceIte, wantedA, okDst, AS.put, adr, dropKey, Nat.reduceEqDiff, reduceCtorEq, Nat.reduceLT, decide_true, step1, isOwnCall, hxOp, px, AS.eval, AS.get, Lift.look, Option.getD_some, thenQ, true_and]
  refine SW.seq (SW.seq (SW.regionAny [eWaitL, eWaits H noG B0] [[0, 1, 2, 3, 4, 5, 6, 7, 8, 9, 10, 11, 12, 13, 14, 15]] rfl (by rfl) (by kernel_rfl) ?_))
  simp only [wpOL, wpO, LOp, List.getElem?_toArray, List.getElem?_cons_zero, okDst, Nat.reduceLT, decide_true, wantedA, ↓reduceIte, step1, isOwnCall, Bool.false_eq_true, hxOp, px, AS.eval, AS.get, Lift.look, Option.getD_some, List.getElem?_cons_succ, AS.put, dropKey, Nat.reduceEqDiff, reduceCtorEq, isNilC, pbinP, pflt, peq, ty25, peqK, ofConst, ofVal, Option.bind_some, beq_self_eq_true, pfieldAddr, fieldOf, ty30, fieldIn, ty3, Option.map_some, ne_eq, Nat.succ_ne_zero, not_false_eq_true, Nat.zero_add, pload, hr7, okOne, TK.isAgg, Bool.or_true, Nat.reduceAdd, List.length_cons, List.length_nil, Nat.reduceLeDiff, and_self, Lift.valOf, List.drop_succ_cons, List.drop_zero, List.take_succ_cons, List.take_zero, List.getD_cons_zero, pmake, ty28, ty39, Int.reduceLE, Int.cast_ofNat_Int, Int.reduceMul, okZero, List.all_cons, Value.oneCell', List.all_nil, Bool.and_true, List.map_cons, List.map_nil, Int.reduceToNat, Specs.hasO, Specs.hasH, eWaits, pcall, okArg, Specs.at, eWaitL, sWaitL, prow_len, pbinI, Int.reduceBNe, ppick_bool, hx, Specs.atH, sWaits, true_and, hpf, thenQ]
  refine ⟨b0, ?_⟩
  refine SW.run [] _ ?_
  simp only [wpC, isB, AS.get, Lift.look, tmpOf, ↓reduceIte, Option.getD_some, asB, Bool.false_eq_true, thenQ, true_and]
  clear b0 w0 ps0 t0 hpf hr5 hq6
  refine SW.enter (n := 96) (l := [(1, .val (.pointer (some ⟨r, 0, none⟩))), (3, .val (.pointer none)), (4, .val (.pointer (some ⟨q, 0, none⟩))), (5, .bool false)]) (H := h1) rfl (.refl _ _) (by simp only [hasAll, AS.get, Lift.look, Nat.reduceEqDiff, ↓reduceIte, Option.getD_some, and_self]) ?_
  have h9 : os.length ≤ 1000000 := by omega
  refine SW.seq (SW.regionAnyT [eAwake, eOwn, eReadyN, eWaitN, eLeaveN, eWaitsN, eQueueN, eEntriesN] [[0, 1, 2, 3, 4, 5, 6, 7, 8, 9, 10, 11, 12, 13, 14, 15, 16, 17, 18, 19, 20, 21, 22, 23, 24, 25, 26, 27, 28, 29, 30, 31, 32, 33, 34, 35, 36, 37, 38, 39, 40, 41, 42, 43, 44, 45, 46, 47, 48, 49, 50, 51, 52, 53, 54, 55, 56, 57]] rfl (by rfl) (by kernel_rfl) ?_)
  simp only [wpOL, wpO, LOp, List.getElem?_toArray, List.getElem?_cons_zero, okDst, Nat.reduceLT, decide_true, wantedA, ↓reduceIte, step1, isOwnCall, Specs.hasO, Bool.false_eq_true, hxOp, Specs.hasH, px, pcall, okArg, AS.eval, AS.get, Lift.look, ofConst, ofVal, List.all_nil, Specs.at, eAwake, List.map_nil, sAwake, and_self, List.getElem?_cons_succ, AS.put, dropKey, Nat.reduceEqDiff, Option.getD_some, Option.bind_some, beq_self_eq_true, pun, Bool.not_false, ppick_bool, pload, ty35, hq7, okOne, TK.isAgg, Nat.reduceBEq, Bool.or_false, Nat.zero_add, List.length_cons, List.length_nil, Nat.reduceAdd, Nat.le_refl, Lift.valOf, List.drop_zero, List.take_succ_cons, List.take_nil, pbuild, List.map_cons, pfill, List.all_cons, ty3, Option.isSome_some, ty4, Bool.and_true, okZero, Value.oneCell', known, isNilC, pbinP, pflt, peq, eqk35, fits, eqCells, pfieldAddr, fieldOf, ty30, fieldIn, Option.map_some, ne_eq, Nat.succ_ne_zero, not_false_eq_true, hr7, Bool.or_true, Nat.reduceLeDiff, List.drop_succ_cons, List.take_zero, List.getD_cons_zero, ty28, eOwn, sOwn, unO_el, h9, eReadyN, sReadyN, nilS, ty31, plen, okLen, Int.cast_ofNat_Int, pbinI, eWaitN, sWaitN, eLeaveN, sNil2, eWaitsN, eQueueN, sQueueN, ty42, eEntriesN, sEntriesN, thenQ, true_and]
  refine SW.run [] _ ?_
  simp only [wpC, RPost, sres, Try.results7, sresL, sres1, AS.get, Lift.look, ↓reduceIte, Option.getD_some, Option.some.injEq, Ret_fin, exists_eq_left', true_and]
  exact Inc.to fun K X e => hin _ _ (i2 _ _ e)
end Go.Proofs.Ytekgfneapofgpaa
