/- Contracts of functions that the law reaches. -/
import Derived.Test.YtpgnfbdkhakbdaaGreatDoorA1
set_option linter.unusedSimpArgs false
set_option linter.unusedVariables false
namespace Go.Proofs.YtpgnfbdkhakbdaaGreatDoor
open Go Go.RowKit Go.Proofs.YtpgnfbdkhakbdaaGreatDoor Go.Proofs.YtpgnfbdkhakbdaaGreatDoor.Lift
set_option maxRecDepth 100000

def z8 : List PV := List.replicate 8 (.int .u8 0)
theorem Num0_ok (h : Heap) : SCalls env 23 [.int .i64 0] h (Ret (.str (List.replicate 8 0)) h) := by
  refine SCalls.body Tryz.func23 rfl rfl (by simp [Tryz.ntmps23]) ?_
  refine SW.seq (SW.run [] _ ?_)
  simp only [wpC, Bool.false_eq_true, ↓reduceIte, wpS, stops, wantedA, okDst, Tryz.ntmps23, Nat.reduceLT, decide_true, step1, isOwnCall, hxOp, px, AS.eval, ofConst, ofVal, thenQ, List.replicate, AS.put, enumA, dropKey, reduceCtorEq, true_and]
  refine SW.seq (SW.run [] _ ?_)
  simp only [wpC, Bool.false_eq_true, ↓reduceIte, wpS, stops, wantedA, okDst, Nat.reduceLT, decide_true, step1, okAlloc, ty97, okZero, List.all_cons, Value.oneCell', List.all_nil, Bool.and_true, thenQ, AS.put, dropKey, Nat.reduceEqDiff, reduceCtorEq, zeroOf, List.map_cons, ofVal, List.map_nil, List.length_cons, List.length_nil, Nat.zero_add, Nat.reduceAdd, true_and]
  intro r hr
  refine SW.seq (SW.seq (SW.run [] _ ?_))
  simp only [wpC, Bool.false_eq_true, ↓reduceIte, wpS, stops, wantedA, okDst, Nat.reduceLT, decide_true, step1, isOwnCall, hxOp, px, AS.eval, ofConst, ofVal, thenQ, AS.put, dropKey, Nat.reduceEqDiff, reduceCtorEq, true_and]
  refine SW.block (SW.loopK 19 (fun i : Nat => [(0, .int .i64 0), (3, .val (.pointer (some ⟨r, 0, none⟩))), (5, .int .i64 (i : Nat))]) (fun _ => h.put r (.cells 97 8 z8)) (fun i => i ≤ 8) (fun i => 8 - i) 0 (by omega) ?_ ?_)
  · simp only [Has, z8, List.replicate, hasAll, AS.get, Lift.look, Nat.succ_ne_zero, ↓reduceIte, Option.getD_some, Nat.reduceEqDiff, Int.cast_ofNat_Int, and_self]
  intro i hi
  refine SW.seq (SW.run [] _ ?_)
  by_cases hlt : i < 8
  · have hlt' : (i : Int) < 8 := by omega
    have hw : IntKind.i64.wrap ((i : Int) + 1) = ((i + 1 : Nat) : Int) := by rw [w64 (by omega) (by omega)]; rfl
    have hw1 : IntKind.i64.wrap (8 * (i : Int)) = 8 * (i : Int) := w64 (by omega) (by omega)
    have hw2 : IntKind.i64.wrap (56 - 8 * (i : Int)) = 56 - 8 * (i : Int) := w64 (by omega) (by omega)
    simp only [wpC, Bool.false_eq_true, ↓reduceIte, wpS, stops, wantedA, okDst, Nat.reduceLT, decide_true, step1, isOwnCall, hxOp, px, isNilC, pbinP, AS.eval, AS.get, Lift.look, reduceCtorEq, Nat.reduceEqDiff, Option.getD_some, ofConst, ofVal, pbinI, hlt', thenQ, Has, hasAll, and_true, AS.put, dropKey, true_and]
    refine SW.seq (SW.run [] _ ?_)
    simp only [wpC, isB, AS.get, Lift.look, tmpOf, ↓reduceIte, Option.getD_some, asB, thenQ, true_and]
    refine SW.seq (SW.block (SW.seq (SW.run [] _ ?_)))
    simp only [wpC, Bool.false_eq_true, ↓reduceIte, wpS, stops, wantedA, okDst, Nat.reduceLT, decide_true, step1, isOwnCall, hxOp, px, AS.eval, AS.get, Lift.look, Nat.reduceEqDiff, reduceCtorEq, Option.getD_some, AS.put, dropKey, thenQ, true_and]
    refine SW.run [] _ ?_
    have hz : u8of (Int.fdiv 0 (2 ^ min (56 - 8 * (i : Int)).toNat IntKind.i64.bits)) = 0 := by
      rw [Int.zero_fdiv]
      rfl
    have hset : List.take (i * 1) z8 ++ [PV.int IntKind.u8 0] ++ List.drop (i * 1 + 1) z8 = z8 := by
      obtain rfl | rfl | rfl | rfl | rfl | rfl | rfl | rfl : i = 0 ∨ i = 1 ∨ i = 2 ∨ i = 3 ∨ i = 4 ∨ i = 5 ∨ i = 6 ∨ i = 7 := by omega
      all_goals rfl
    have hz8 : z8.length = 8 := rfl
    have h56 : (0 : Int) ≤ 56 - 8 * (i : Int) := by omega
    have hroom : i * 1 + 1 ≤ 8 := by omega
    have hu0 : (((0 : UInt8).toNat : Nat) : Int) = 0 := rfl
    simp only [wpC, Bool.false_eq_true, ↓reduceIte, wpS, stops, wantedA, okDst, Nat.reduceLT, decide_true, step1, isOwnCall, hxOp, px, AS.eval, AS.get, Lift.look, Option.getD_some, AS.put, dropKey, Nat.reduceEqDiff, reduceCtorEq, Nat.succ_ne_zero, isFlt, ty3, isNilC, pbinP, ofConst, ofVal, pbinI, hw1, hw2, h56, ty5, pconvH, pconv, wrap_byte, hz, hu0, pindexAddr, ty97, Int.natCast_nonneg, Int.cast_ofNat_Int, hlt', and_self, Int.toNat_natCast, Nat.zero_add, hx, Heap.get_put, known1, PV.cells, List.length_cons, List.length_nil, hz8, hroom, splice, hset, Heap.put_put, inQ, thenQ, true_and]
    refine SW.run [] _ ?_
    simp only [wpC, Bool.false_eq_true, ↓reduceIte, wpS, stops, isFlt, ty3, wantedA, okDst, Nat.reduceLT, decide_true, step1, isOwnCall, hxOp, px, isNilC, pbinP, AS.eval, AS.get, Lift.look, Nat.reduceEqDiff, reduceCtorEq, Option.getD_some, ofConst, ofVal, pbinI, hw, AS.put, dropKey, thenQ, Nat.succ_ne_zero, true_and]
    exact ⟨i + 1, by omega, by omega, rfl⟩
  · have hlt' : ¬ (i : Int) < 8 := by omega
    simp only [wpC, Bool.false_eq_true, ↓reduceIte, wpS, stops, wantedA, okDst, Nat.reduceLT, decide_true, step1, isOwnCall, hxOp, px, isNilC, pbinP, AS.eval, AS.get, Lift.look, reduceCtorEq, Nat.reduceEqDiff, Option.getD_some, ofConst, ofVal, pbinI, hlt', decide_false, thenQ, Has, hasAll, and_true, AS.put, dropKey, true_and]
    refine SW.seq (SW.run [] _ ?_)
    simp only [wpC, isB, AS.get, Lift.look, tmpOf, ↓reduceIte, Option.getD_some, asB, Bool.false_eq_true, thenQ, inQ, true_and]
    refine SW.seq (SW.region ?_)
    refine SWO.sliceArr 97 (.tmp 3) rfl rfl ty97 rfl ty5 (by decide) rfl rfl ?_
    refine SWO.own_let 17 rfl (h0 := h) (e := 97) (sz := 1) (xs := List.replicate 8 [.int .u8 0]) (.inr ⟨r, 8, rfl, by decide, by simp [maxLen], hr, rfl, by simp⟩) ?_
    refine SWO.run [] 1000 ?_
    simp only [wpS, stops, Bool.false_eq_true, ↓reduceIte, wantedA, okDst, AS.put, dropKey, Nat.reduceEqDiff, reduceCtorEq, List.replicate, Nat.reduceLT, decide_true, step1, isOwnCall, hxOp, px, ty83, ty9, pconvH, AS.eval, AS.get, Lift.look, Option.getD_some, pconv, ty5, unB, Int.reduceLE, Int.reduceLT, and_self, Int.reduceToNat, thenQ, true_and]
    refine SW.run [] _ ?_
    simp only [wpC, RPost, sres, Tryz.results23, sresL, sres1, AS.get, Lift.look, ↓reduceIte, Option.getD_some, Option.some.injEq, Ret_fin, HTo_self, and_true, exists_eq_left']
    rfl
def sNum0 : List PV → Prop × PV
  | [.int .i64 n] => (n = 0, .str (List.replicate 8 0))
  | _ => PBad
noncomputable def eNum0 : SpecE env := ⟨23, sNum0, fun args h hc => by
  unfold sNum0 at hc ⊢
  split at hc
  · rename_i n
    obtain rfl : n = 0 := hc
    exact .inl (Num0_ok h)
  · exact hc.elim⟩
theorem Sig0_ok (h : Heap) : SCalls env 49 [.agg [.int .i64 0, .int .i64 0]] h (Ret (.str (List.replicate 16 0)) h) := by
  refine SCalls.body Tryz.func49 rfl rfl (by simp [Tryz.ntmps49]) ?_
  refine SW.seq (SW.run [] _ ?_)
  simp only [wpC, Bool.false_eq_true, ↓reduceIte, wpS, stops, wantedA, okDst, Tryz.ntmps49, Nat.reduceLT, decide_true, step1, known1, AS.eval, AS.get, enumA, Lift.look, Option.getD_some, AS.put, dropKey, reduceCtorEq, isOwnCall, hxOp, px, ofConst, ofVal, thenQ, List.replicate, Nat.reduceEqDiff, PV.cells, List.length_cons, List.length_nil, Nat.zero_add, Nat.reduceAdd, true_and]
  intro r hr
  have gr : (h.put r (.cells 45 2 [.int .i64 0, .int .i64 0])) r = some (.cells 45 2 [.int .i64 0, .int .i64 0]) := Heap.put_same _ _ _
  have inc : Lift.Inc h (h.put r (.cells 45 2 [.int .i64 0, .int .i64 0])) := Inc.over (incSelf h) hr _
  refine SW.seq (SW.regionAny [eNum0] [[0, 1, 2, 3, 4, 5, 6, 7]] rfl (by rfl) (by kernel_rfl) ?_)
  simp only [wpOL, wpO, LOp, List.getElem?_toArray, List.getElem?_cons_zero, okDst, Nat.reduceLT, decide_true, wantedA, ↓reduceIte, step1, isOwnCall, Bool.false_eq_true, hxOp, px, pfieldAddr, fieldOf, ty45, fieldIn, ty3, Option.map_some, AS.eval, AS.get, Lift.look, Nat.reduceEqDiff, Option.getD_some, ne_eq, Nat.succ_ne_zero, not_false_eq_true, Nat.add_zero, List.getElem?_cons_succ, AS.put, dropKey, reduceCtorEq, pload, Heap.get_put, okOne, TK.isAgg, beq_self_eq_true, Bool.or_true, Nat.zero_add, List.length_cons, List.length_nil, Nat.reduceAdd, Nat.reduceLeDiff, and_self, Lift.valOf, List.drop_zero, List.take_succ_cons, List.take_zero, List.getD_cons_zero, Specs.hasO, Specs.hasH, pcall, okArg, ofConst, ofVal, List.all_cons, List.all_nil, Bool.and_true, Specs.at, eNum0, List.map_cons, List.map_nil, sNum0, List.replicate, Nat.le_refl, List.drop_succ_cons, List.take_nil, isNilC, pbinP, pbinS, List.cons_append, List.nil_append, thenQ, true_and]
  refine SW.run [] _ ?_
  simp only [wpC, RPost, sres, Tryz.results49, sresL, sres1, AS.get, Lift.look, ↓reduceIte, Option.getD_some, Option.some.injEq, Ret_fin, exists_eq_left', true_and]
  exact Inc.to inc
def sSig0 : List PV → Prop × PV
  | [.agg [.int .i64 m, .int .i64 n]] => (m = 0 ∧ n = 0, .str (List.replicate 16 0))
  | _ => PBad
noncomputable def eSig0 : SpecE env := ⟨49, sSig0, fun args h hc => by
  unfold sSig0 at hc ⊢
  split at hc
  · rename_i m n
    obtain ⟨rfl, rfl⟩ : m = 0 ∧ n = 0 := hc
    exact .inl (Sig0_ok h)
  · exact hc.elim⟩
theorem Name_ok (s : List UInt8) (h : Heap) : SCalls env 48 [.str s] h (Ret (.bool (decide (1 ≤ s.length) && (decide (s.length ≤ 40) && !decide (0 ≤ Lib.indexByte s 0)))) h) := by
  refine SCalls.body Tryz.func48 rfl rfl (by simp [Tryz.ntmps48]) ?_
  refine SW.seq (SW.run [] _ ?_)
  simp only [wpC, Bool.false_eq_true, ↓reduceIte, wpS, stops, wantedA, okDst, Tryz.ntmps48, Nat.reduceLT, decide_true, step1, isOwnCall, hxOp, px, AS.eval, ofConst, ofVal, thenQ, AS.put, enumA, dropKey, reduceCtorEq, true_and]
  refine SW.seq (SW.run [eContain1] _ ?_)
  by_cases h1 : 1 ≤ s.length
  · have h1' : (1 : Int) ≤ (s.length : Int) := by omega
    by_cases h2 : s.length ≤ 40
    · have h2' : (s.length : Int) ≤ 40 := by omega
      simp only [wpC, Bool.false_eq_true, ↓reduceIte, wpS, stops, wantedA, okDst, Nat.reduceLT, decide_true, step1, isOwnCall, hxOp, px, AS.eval, AS.get, Lift.look, Nat.succ_ne_zero, Option.getD_some, AS.put, dropKey, Nat.reduceEqDiff, reduceCtorEq, pcall, ty9, plen, okLen, and_self, isNilC, pbinP, ofConst, ofVal, pbinI, h1', List.getElem?_toArray, List.getElem?_cons_succ, List.getElem?_cons_zero, Option.bind_some, beq_self_eq_true, h2', ppick_bool, Specs.has, eContain1, Specs.hasO, Bool.or_false, Specs.hasH, Bool.not_true, okArg, List.all_cons, List.all_nil, Bool.and_true, Specs.at, List.map_cons, List.map_nil, sContain1, pun, thenQ, h1, h2, Bool.true_and, true_and]
      refine SW.run [] _ ?_
      simp only [wpC, RPost, sres, Tryz.results48, sresL, sres1, AS.get, Lift.look, ↓reduceIte, Option.getD_some, Option.some.injEq, Ret_fin, HTo_self, and_true, exists_eq_left']
    · have h2' : ¬ (s.length : Int) ≤ 40 := by omega
      simp only [wpC, Bool.false_eq_true, ↓reduceIte, wpS, stops, wantedA, okDst, Nat.reduceLT, decide_true, step1, isOwnCall, hxOp, px, AS.eval, AS.get, Lift.look, Nat.succ_ne_zero, Option.getD_some, AS.put, dropKey, Nat.reduceEqDiff, reduceCtorEq, pcall, ty9, plen, okLen, and_self, isNilC, pbinP, ofConst, ofVal, pbinI, h1', List.getElem?_toArray, List.getElem?_cons_succ, List.getElem?_cons_zero, Option.bind_some, beq_self_eq_true, h2', decide_false, ppick_bool, beq_ft, Option.some.injEq, Specs.has, eContain1, Specs.hasO, Bool.or_false, Specs.hasH, Bool.not_true, ppick_false, thenQ, h1, h2, Bool.false_and, Bool.and_false, true_and]
      refine SW.run [] _ ?_
      simp only [wpC, RPost, sres, Tryz.results48, sresL, sres1, AS.get, Lift.look, ↓reduceIte, Option.getD_some, Option.some.injEq, Ret_fin, HTo_self, and_true, exists_eq_left']
  · have h1' : ¬ (1 : Int) ≤ (s.length : Int) := by omega
    simp only [wpC, Bool.false_eq_true, ↓reduceIte, wpS, stops, wantedA, okDst, Nat.reduceLT, decide_true, step1, isOwnCall, hxOp, px, AS.eval, AS.get, Lift.look, Nat.succ_ne_zero, Option.getD_some, AS.put, dropKey, Nat.reduceEqDiff, reduceCtorEq, pcall, ty9, plen, okLen, and_self, isNilC, pbinP, ofConst, ofVal, pbinI, h1', decide_false, List.getElem?_toArray, List.getElem?_cons_succ, List.getElem?_cons_zero, Option.bind_some, beq_ft, Option.some.injEq, ppick_false, Specs.has, eContain1, Specs.hasO, Bool.or_false, Specs.hasH, Bool.not_true, thenQ, h1, Bool.false_and, true_and]
    refine SW.run [] _ ?_
    simp only [wpC, RPost, sres, Tryz.results48, sresL, sres1, AS.get, Lift.look, ↓reduceIte, Option.getD_some, Option.some.injEq, Ret_fin, HTo_self, and_true, exists_eq_left']
def sName : List PV → Prop × PV
  | [.str s] => (True, .bool (decide (1 ≤ s.length) && (decide (s.length ≤ 40) && !decide (0 ≤ Lib.indexByte s 0))))
  | _ => PBad
noncomputable def eName : SpecE env := ⟨48, sName, fun args h hc => by
  unfold sName at hc ⊢
  split at hc
  · exact .inl (Name_ok _ h)
  · exact hc.elim⟩
def annS : List UInt8 := [97, 110, 110]
def rootS : List UInt8 := [114, 111, 111, 116]
def annC : List PV := [.str annS, .int .i64 16, .str rootS, .int .i64 9, .int .i64 0, .int .i64 0]
def annT : List UInt8 := Lib.join [[99, 101, 114, 116], annS, Lib.decDigits 16, rootS, Lib.decDigits 9] [0]
theorem annT_len : annT.length = 18 := by kernel_rfl
theorem Text_ok (h : Heap) : SCalls env 22 [.agg annC] h (Ret (.str annT) h) := by
  refine SCalls.body Tryz.func22 rfl rfl (by simp [Tryz.ntmps22]) ?_
  refine SW.seq (SW.run [] _ ?_)
  simp only [wpC, Bool.false_eq_true, ↓reduceIte, wpS, stops, wantedA, okDst, Tryz.ntmps22, Nat.reduceLT, decide_true, step1, known1, AS.eval, AS.get, enumA, annC, Lift.look, Option.getD_some, AS.put, dropKey, reduceCtorEq, isOwnCall, hxOp, px, ofConst, ofVal, thenQ, Nat.reduceEqDiff, PV.cells, List.length_cons, List.length_nil, Nat.zero_add, Nat.reduceAdd, true_and]
  intro r hr
  have gr : (h.put r (.cells 47 6 annC)) r = some (.cells 47 6 annC) := Heap.put_same _ _ _
  have inc : Lift.Inc h (h.put r (.cells 47 6 annC)) := Inc.over (incSelf h) hr _
  have hu : unS [[.str [99, 101, 114, 116]], [.str annS], [.str (Lib.decDigits 16)], [.str rootS], [.str (Lib.decDigits 9)]] = some [[99, 101, 114, 116], annS, Lib.decDigits 16, rootS, Lib.decDigits 9] := rfl
  have hT : Lib.join [[99, 101, 114, 116], annS, Lib.decDigits 16, rootS, Lib.decDigits 9] [0] = annT := rfl
  refine SW.seq (SW.regionAny [eItoaS, eJoinS] [[0, 1, 2, 3, 4, 5, 6, 7, 8, 9, 10, 11, 12]] rfl (by rfl) (by kernel_rfl) ?_)
  simp only [wpOL, wpO, LOp, List.getElem?_toArray, List.getElem?_cons_zero, okDst, Nat.reduceLT, decide_true, wantedA, ↓reduceIte, step1, isOwnCall, Bool.false_eq_true, hxOp, px, pfieldAddr, fieldOf, ty47, fieldIn, ty9, Option.map_some, AS.eval, AS.get, Lift.look, Nat.reduceEqDiff, Option.getD_some, ne_eq, Nat.succ_ne_zero, not_false_eq_true, Nat.add_zero, List.getElem?_cons_succ, AS.put, dropKey, reduceCtorEq, pload, Heap.get_put, okOne, TK.isAgg, beq_self_eq_true, Bool.or_true, Nat.zero_add, List.length_cons, List.length_nil, Nat.reduceAdd, Nat.reduceLeDiff, and_self, Lift.valOf, List.drop_zero, List.take_succ_cons, List.take_zero, List.getD_cons_zero, ty3, List.drop_succ_cons, Specs.hasO, Specs.hasH, pcall, okArg, ofConst, ofVal, List.all_cons, List.all_nil, Bool.and_true, Specs.at, eItoaS, List.map_cons, List.map_nil, sItoaS, Int.reduceLE, Int.reduceLT, Int.reduceToNat, pbuildSlice, ty96, List.replicate, List.flatten_cons, List.flatten_nil, List.append_nil, List.cons_append, List.nil_append, pfill, PV.cells, Nat.reduceMul, splice, Nat.le_refl, List.drop_nil, okZero, Value.oneCell', known, chunk, List.take_nil, eJoinS, sJoinS, hu, hT, annT_len, thenQ, true_and]
  refine SW.run [] _ ?_
  simp only [wpC, RPost, sres, Tryz.results22, sresL, sres1, AS.get, Lift.look, ↓reduceIte, Option.getD_some, Option.some.injEq, Ret_fin, exists_eq_left', true_and]
  exact Inc.to inc
noncomputable def eText0 : SpecE env := ⟨22, fun args => (args = [.agg annC], .str annT), fun args h hc => by
  obtain rfl : args = [.agg annC] := hc
  exact .inl (Text_ok h)⟩
def annB : List UInt8 := u8of (Int.fdiv 18 (2 ^ min 8 IntKind.i64.bits)) :: u8of 18 :: (annT ++ [0, 0, 0, 0, 0, 0, 0, 0, 0, 0, 0, 0, 0, 0, 0, 0])
theorem annB_len : annB.length = 36 := by
  unfold annB
  rw [List.length_cons, List.length_cons, List.length_append, annT_len]
  rfl
theorem n1 : (decide (1 ≤ annS.length) && (decide (annS.length ≤ 40) && !decide (0 ≤ Lib.indexByte annS 0))) = true := by decide
theorem n2 : (decide (1 ≤ rootS.length) && (decide (rootS.length ≤ 40) && !decide (0 ≤ Lib.indexByte rootS 0))) = true := by decide
theorem Bytes_ok (h : Heap) : SCalls env 21 [.agg annC] h (Ret (.tuple [.str annB, .int .i64 0]) h) := by
  refine SCalls.body Tryz.func21 rfl rfl (by simp [Tryz.ntmps21]) ?_
  refine SW.seq (SW.run [] _ ?_)
  simp only [wpC, Bool.false_eq_true, ↓reduceIte, wpS, stops, wantedA, okDst, Tryz.ntmps21, Nat.reduceLT, decide_true, step1, known1, AS.eval, AS.get, enumA, annC, Lift.look, Option.getD_some, AS.put, dropKey, reduceCtorEq, isOwnCall, hxOp, px, ofConst, ofVal, Nat.reduceEqDiff, PV.cells, List.length_cons, List.length_nil, Nat.zero_add, Nat.reduceAdd, thenQ, true_and]
  intro r hr
  have gr : (h.put r (.cells 47 6 annC)) r = some (.cells 47 6 annC) := Heap.put_same _ _ _
  have inc : Lift.Inc h (h.put r (.cells 47 6 annC)) := Inc.over (incSelf h) hr _
  refine SW.seq (SW.block ?_)
  refine SW.seq (SW.run [eName] _ ?_)
  simp only [wpC, Bool.false_eq_true, ↓reduceIte, wpS, stops, wantedA, okDst, Nat.reduceLT, decide_true, step1, isOwnCall, hxOp, px, pfieldAddr, fieldOf, ty47, fieldIn, List.getElem?_cons_zero, ty9, Option.map_some, AS.eval, AS.get, Lift.look, Nat.reduceEqDiff, Option.getD_some, ne_eq, Nat.succ_ne_zero, not_false_eq_true, Nat.add_zero, AS.put, dropKey, reduceCtorEq, pload, Heap.get_put, okOne, TK.isAgg, beq_self_eq_true, Bool.or_true, Nat.zero_add, List.length_cons, List.length_nil, Nat.reduceAdd, Nat.reduceLeDiff, and_self, Lift.valOf, List.drop_zero, List.take_succ_cons, List.take_zero, List.getD_cons_zero, Specs.has, eName, Specs.hasO, Bool.or_false, Specs.hasH, Bool.not_true, pcall, okArg, ofConst, ofVal, List.all_cons, List.all_nil, Bool.and_true, Specs.at, List.map_cons, List.map_nil, sName, n1, pun, List.getElem?_toArray, List.getElem?_cons_succ, Option.bind_some, List.drop_succ_cons, n2, ppick_bool, thenQ, true_and]
  refine SW.run [] _ ?_
  simp only [wpC, isB, AS.get, Lift.look, tmpOf, ↓reduceIte, Option.getD_some, asB, Bool.false_eq_true, mayStop, stops, isFlt, Specs.has, Specs.hasO, Bool.or_false, Specs.hasH, Bool.not_false, List.any_cons, List.any_nil, wpS, wantedA, okDst, Nat.reduceLT, decide_true, step1, isOwnCall, hxOp, px, pfieldAddr, fieldOf, ty47, fieldIn, List.getElem?_cons_succ, List.getElem?_cons_zero, ty3, Option.map_some, AS.eval, Nat.reduceEqDiff, ne_eq, Nat.succ_ne_zero, not_false_eq_true, Nat.zero_add, AS.put, dropKey, reduceCtorEq, pload, Heap.get_put, okOne, TK.isAgg, beq_self_eq_true, Bool.or_true, Nat.reduceAdd, List.length_cons, List.length_nil, Nat.reduceLeDiff, and_self, Lift.valOf, List.drop_succ_cons, List.drop_zero, List.take_succ_cons, List.take_zero, List.getD_cons_zero, isNilC, pbinP, ofConst, ofVal, pbinI, Int.reduceLT, decide_false, List.getElem?_toArray, Option.bind_some, ppick_bool, ty45, Nat.add_zero, Nat.le_refl, List.take_nil, thenQ, inQ, true_and]
  refine SW.seq (SW.run [eText0] _ ?_)
  simp only [wpC, Bool.false_eq_true, ↓reduceIte, wpS, stops, wantedA, okDst, Nat.reduceLT, decide_true, step1, isOwnCall, hxOp, px, pload, ty47, AS.eval, AS.get, Lift.look, Nat.reduceEqDiff, Option.getD_some, Heap.get_put, okOne, TK.isAgg, Nat.reduceBEq, Bool.or_false, Nat.zero_add, List.length_cons, List.length_nil, Nat.reduceAdd, Nat.le_refl, and_self, Lift.valOf, List.drop_zero, List.take_succ_cons, List.take_nil, Specs.has, eText0, annC, Specs.hasO, Specs.hasH, Bool.not_true, AS.put, dropKey, reduceCtorEq, pcall, okArg, ofConst, ofVal, List.all_cons, List.all_nil, Bool.and_true, Specs.at, List.map_cons, List.map_nil, thenQ, true_and]
  refine SW.seq (SW.regionAny [eSig0] [[0, 1, 2, 3, 4, 5, 6, 7, 8, 9, 10, 11, 12, 13, 14, 15, 16]] rfl (by rfl) (by kernel_rfl) ?_)
  simp only [wpOL, wpO, LOp, List.getElem?_toArray, List.getElem?_cons_zero, okDst, Nat.reduceLT, decide_true, wantedA, ↓reduceIte, step1, isOwnCall, Bool.false_eq_true, hxOp, px, AS.eval, AS.get, Lift.look, Option.getD_some, List.getElem?_cons_succ, AS.put, dropKey, Nat.reduceEqDiff, reduceCtorEq, pcall, ty9, plen, annT_len, okLen, and_self, Int.cast_ofNat_Int, isNilC, pbinP, ofConst, ofVal, pbinI, Int.reduceLE, Int.reduceToNat, ty3, ty5, pconvH, pconv, wrap_byte, pbuildSlice, ty83, Nat.succ_ne_zero, List.replicate, List.map_cons, List.map_nil, List.flatten_cons, List.flatten_nil, List.append_nil, List.cons_append, List.nil_append, pfill, PV.cells, List.length_cons, List.length_nil, Nat.zero_add, Nat.reduceMul, Nat.reduceAdd, Nat.reduceLeDiff, splice, List.take_zero, List.drop_succ_cons, List.drop_zero, Nat.le_refl, List.take_succ_cons, List.drop_nil, okZero, List.all_cons, Value.oneCell', List.all_nil, Bool.and_true, known, chunk, List.take_nil, unB, Int.natCast_nonneg, byte_lt_T, Int.toNat_natCast, UInt8.ofNat_toNat, pbinS, pfieldAddr, fieldOf, ty47, fieldIn, ty45, Option.map_some, ne_eq, not_false_eq_true, pload, Heap.get_put, okOne, TK.isAgg, Nat.reduceBEq, Bool.or_false, Lift.valOf, Specs.hasO, Specs.hasH, okArg, Specs.at, eSig0, sSig0, thenQ, true_and]
  refine SW.run [] _ ?_
  simp only [wpC, RPost, sres, Tryz.results21, sresL, sres1, AS.get, Lift.look, Nat.reduceEqDiff, ↓reduceIte, Option.getD_some, Option.some.injEq, annB, Ret_fin, exists_eq_left', true_and]
  exact Inc.to inc
noncomputable def eBytes0 : SpecE env := ⟨21, fun args => (args = [.agg annC], .tuple [.str annB, .int .i64 0]), fun args h hc => by
  obtain rfl : args = [.agg annC] := hc
  exact .inl (Bytes_ok h)⟩
theorem Awake_ok (h : Heap) : SCalls env 6 [] h (Ret (.bool true) h) := by
  refine SCalls.body Tryz.func6 rfl rfl (by simp [Tryz.ntmps6]) ?_
  refine SW.seq (SW.run [] _ ?_)
  simp only [wpC, Bool.false_eq_true, ↓reduceIte, wpS, stops, wantedA, okDst, Tryz.ntmps6, Nat.reduceLT, decide_true, step1, isOwnCall, hxOp, px, AS.eval, ofConst, ofVal, thenQ, AS.put, enumA, dropKey, true_and]
  refine SW.seq (SW.run [] _ ?_)
  simp only [wpC, Bool.false_eq_true, ↓reduceIte, wpS, stops, wantedA, okDst, Nat.reduceLT, decide_true, step1, isOwnCall, hxOp, px, pbuild, ty47, List.map_cons, ofVal, List.map_nil, AS.eval, AS.get, Lift.look, ofConst, pfill, placeOf, List.getElem?_cons_zero, ty9, Option.map_some, PV.cells, List.length_cons, List.length_nil, Nat.zero_add, Nat.reduceAdd, Nat.reduceLeDiff, and_self, List.getElem?_cons_succ, ty3, splice, List.take_zero, List.nil_append, List.drop_succ_cons, List.drop_zero, List.cons_append, List.take_succ_cons, List.all_cons, Option.isSome_some, ty45, List.all_nil, Bool.and_true, okZero, Value.oneCell', known, AS.put, dropKey, reduceCtorEq, okAlloc, hx, Nat.reduceEqDiff, Option.getD_some, zeroOf, Heap.get_put, known1, Nat.le_refl, List.drop_nil, List.append_nil, thenQ, true_and]
  intro r hr
  rw [Heap.put_put]
  have gr : (h.put r (.cells 47 6 annC)) r = some (.cells 47 6 annC) := Heap.put_same _ _ _
  have inc : Lift.Inc h (h.put r (.cells 47 6 annC)) := Inc.over (incSelf h) hr _
  refine SW.enter (n := 23) (l := [(1, .val (.pointer (some ⟨r, 0, none⟩)))]) (H := h.put r (.cells 47 6 annC)) rfl (.refl _ _) (by simp only [hasAll, AS.get, Lift.look, ↓reduceIte, Option.getD_some, and_self]) ?_
  generalize h.put r (.cells 47 6 annC) = H at gr inc
  refine SW.seq (SW.run [eBytes0] _ ?_)
  simp only [wpC, Bool.false_eq_true, ↓reduceIte, wpS, stops, wantedA, okDst, Nat.reduceLT, decide_true, step1, isOwnCall, hxOp, px, pload, ty47, AS.eval, AS.get, Lift.look, Option.getD_some, gr, annC, okOne, TK.isAgg, Nat.reduceBEq, Bool.or_false, Nat.zero_add, List.length_cons, List.length_nil, Nat.reduceAdd, Nat.le_refl, and_self, Lift.valOf, List.drop_zero, List.take_succ_cons, List.take_nil, Specs.has, eBytes0, Specs.hasO, Specs.hasH, Bool.not_true, AS.put, dropKey, Nat.reduceEqDiff, pcall, okArg, ofConst, ofVal, List.all_cons, List.all_nil, Bool.and_true, Specs.at, List.map_cons, List.map_nil, List.getElem?_cons_zero, List.getElem?_cons_succ, thenQ, true_and]
  refine SW.seq (SW.run [eText0] _ ?_)
  simp only [wpC, Bool.false_eq_true, ↓reduceIte, wpS, stops, wantedA, okDst, Nat.reduceLT, decide_true, step1, isOwnCall, hxOp, px, pload, ty47, AS.eval, AS.get, Lift.look, Nat.reduceEqDiff, Option.getD_some, gr, annC, okOne, TK.isAgg, Nat.reduceBEq, Bool.or_false, Nat.zero_add, List.length_cons, List.length_nil, Nat.reduceAdd, Nat.le_refl, and_self, Lift.valOf, List.drop_zero, List.take_succ_cons, List.take_nil, Specs.has, eText0, Specs.hasO, Specs.hasH, Bool.not_true, AS.put, dropKey, pcall, okArg, ofConst, ofVal, List.all_cons, List.all_nil, Bool.and_true, Specs.at, List.map_cons, List.map_nil, ty9, plen, annT_len, okLen, Int.cast_ofNat_Int, isNilC, pbinP, pbinI, beq_self_eq_true, List.getElem?_toArray, List.getElem?_cons_succ, List.getElem?_cons_zero, Option.bind_some, annB_len, ppick_bool, thenQ, Nat.succ_ne_zero, true_and]
  refine SW.run [] _ ?_
  simp only [wpC, RPost, sres, Tryz.results6, sresL, sres1, AS.get, Lift.look, ↓reduceIte, Option.getD_some, Option.some.injEq, Ret_fin, exists_eq_left', true_and]
  exact Inc.to inc
def sAwakeU : List PV → Prop × PV
  | [] => (True, .bool true)
  | _ => PBad
noncomputable def eAwakeU : SpecE env := ⟨6, sAwakeU, fun args h hc => by
  unfold sAwakeU at hc ⊢
  split at hc
  · exact .inl (Awake_ok h)
  · exact hc.elim⟩
end Go.Proofs.YtpgnfbdkhakbdaaGreatDoor
