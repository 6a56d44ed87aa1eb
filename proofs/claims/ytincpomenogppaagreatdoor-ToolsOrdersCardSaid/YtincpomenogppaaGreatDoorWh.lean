/- Contracts of functions that the law reaches. -/
import Derived.Test.YtincpomenogppaaGreatDoorWg
set_option linter.unusedSimpArgs false
set_option linter.unusedVariables false
namespace Go.Proofs.YtincpomenogppaaGreatDoor
open Go Go.RowKit Go.Proofs.YtincpomenogppaaGreatDoor Go.Proofs.YtincpomenogppaaGreatDoor.Lift
set_option maxRecDepth 100000

def packT (e : Mb) : List UInt8 := e.n ++ [32] ++ Lib.itoa e.m ++ [32] ++ Lib.itoa e.t ++ [32] ++ Lib.itoa (e.x.length : Nat) ++ [10] ++ e.x ++ [10]
def magicS : List UInt8 := [33, 97, 99, 104, 101, 114, 111, 110, 10]
def packB (ms : List Mb) : List UInt8 := magicS ++ (ms.map packT).flatten
def packE (pre : List Mb) : List Mb → Int
  | [] => 0
  | e :: l => if wrongS pre e (e.x.length : Nat) = 0 then packE (pre ++ [e]) l else wrongS pre e (e.x.length : Nat)
theorem packE_cons (pre : List Mb) (e : Mb) (l : List Mb) : packE pre (e :: l) = if wrongS pre e (e.x.length : Nat) = 0 then packE (pre ++ [e]) l else wrongS pre e (e.x.length : Nat) := rfl
def packS (ms : List Mb) : List UInt8 × Int := if packE [] ms = 0 then (packB ms, 0) else ([], packE [] ms)
def packR (ms : List Mb) : PV := .tuple [.str (packS ms).1, .int .i64 (packS ms).2]
def Mb.fit (e : Mb) : Prop := e.m ≤ 9223372036854775807 ∧ e.t ≤ 9223372036854775807 ∧ e.n.length ≤ 1000000000 ∧ e.x.length ≤ 1000000000
theorem packB_next {ms : List Mb} {i : Nat} (h : i < ms.length) : packB (ms.take (i + 1)) = packB (ms.take i) ++ packT ms[i] := by
  unfold packB
  rw [List.take_succ_eq_append_getElem h, List.map_append, List.flatten_append, List.append_assoc]
  simp
theorem packB_pre (ms : List Mb) (i : Nat) : (packB (ms.take i)).length ≤ (packB ms).length := by
  have : packB ms = packB (ms.take i) ++ ((ms.drop i).map packT).flatten := by
    unfold packB; rw [List.append_assoc, ← List.flatten_append, ← List.map_append, List.take_append_drop]
  rw [this, List.length_append]; omega
theorem wrong_0 {l : List Mb} {e : Mb} {n : Int} (h : wrongS l e n = 0) : 0 ≤ e.m ∧ 0 ≤ e.t := by
  unfold wrongS at h
  split at h
  · cases h
  split at h
  · cases h
  split at h
  · cases h
  omega
set_option maxHeartbeats 8000000 in
theorem Pack_ok (ms : List Mb) (hs : ∀ e ∈ ms, e.fit) (hl : ms.length ≤ 1000000) (hb : (packB ms).length ≤ 100000000000000) (h : Heap) : SCalls env 28 [.list 4 (mbL ms)] h (Ret (packR ms) h) := by
  refine SCalls.body Tryz.func28 rfl rfl (by simp [Tryz.ntmps28]) ?_
  refine SW.seq (SW.run [] _ ?_)
  simp only [wpC, Bool.false_eq_true, ↓reduceIte, wpS, stops, wantedA, okDst, Tryz.ntmps28, Nat.reduceLT, decide_true, step1, isOwnCall, hxOp, px, AS.eval, ofConst, ofVal, AS.put, enumA, dropKey, reduceCtorEq, thenQ, Nat.reduceEqDiff, true_and]
  refine SW.seq (SW.run [] _ ?_)
  simp only [wpC, Bool.false_eq_true, ↓reduceIte, wpS, stops, wantedA, okDst, Nat.reduceLT, decide_true, step1, okAlloc, ty83, okZero, List.all_cons, Value.oneCell', List.all_nil, Bool.and_true, thenQ, AS.put, dropKey, Nat.reduceEqDiff, reduceCtorEq, zeroOf, List.map_cons, ofVal, List.map_nil, List.length_cons, List.length_nil, Nat.zero_add, Nat.reduceAdd, true_and]
  intro rb hrb
  refine SW.fold_nil (r := rb) (T := 83) (e := 5) (p := none) (.inl rfl) (Heap.put_same _ _ _) ?_
  simp only [Heap.put_put]
  refine SW.seq (SW.run [eWS] _ ?_)
  simp only [wpC, Bool.false_eq_true, ↓reduceIte, wpS, stops, Specs.has, Specs.hasO, Bool.or_false, Specs.hasH, eWS, Bool.or_true, Bool.not_true, wantedA, okDst, Nat.reduceLT, decide_true, step1, isOwnCall, hxOp, hx, okArg, AS.eval, AS.get, Lift.look, ofConst, ofVal, List.all_cons, Option.getD_some, List.all_nil, Bool.and_true, Specs.atH, List.map_cons, List.map_nil, sWS, Heap.get_put, List.length_nil, List.length_cons, Nat.zero_add, Nat.reduceAdd, Nat.reduceLeDiff, and_self, Int.cast_ofNat_Int, List.nil_append, thenQ, AS.put, dropKey, Nat.reduceEqDiff, reduceCtorEq, true_and]
  rw [Heap.put_put]
  refine SW.seq (SW.seq (SW.run [] _ ?_))
  simp only [wpC, Bool.false_eq_true, ↓reduceIte, wpS, stops, wantedA, okDst, Nat.reduceLT, decide_true, step1, isOwnCall, hxOp, px, AS.eval, AS.get, Lift.look, Nat.succ_ne_zero, Option.getD_some, AS.put, dropKey, Nat.reduceEqDiff, reduceCtorEq, pcall, ty52, plen, mbL_len, okLen, and_self, ofConst, ofVal, thenQ, true_and]
  refine SW.block (SW.loop (fun bb st => ∃ i : Nat, i ≤ ms.length ∧ ms.length - i = bb ∧ packE [] ms = packE (ms.take i) (ms.drop i) ∧ st.h rb = some (.bld 83 5 (packB (ms.take i))) ∧ Lift.Inc h st.h ∧ st.n = 53 ∧ hasAll st [(0, .list 4 (mbL ms)), (4, .val (.pointer (some ⟨rb, 0, none⟩))), (9, .list 4 (mbL ms)), (10, .int .i64 (ms.length : Nat)), (11, .int .i64 (i : Nat))]) ms.length ⟨0, Nat.zero_le _, rfl, rfl, Heap.put_same _ _ _, Inc.over (incSelf h) hrb _, rfl, ?_⟩ ?_)
  · simp only [hasAll, AS.get, Lift.look, Nat.succ_ne_zero, ↓reduceIte, Option.getD_some, Nat.reduceEqDiff, Int.cast_ofNat_Int, and_self]
  rintro bb st ⟨i, hi, hbb, hpe, hbl, inc, hn, hs'⟩
  refine SW.norm ⟨hn, rfl, hs'⟩ ?_
  generalize st.h = H at inc hbl
  clear hn hs'
  refine SW.seq (SW.run [] _ ?_)
  by_cases hlt : i < ms.length
  · have hw : IntKind.i64.wrap ((i : Int) + 1) = ((i + 1 : Nat) : Int) := by rw [w64 (by omega) (by omega)]; rfl
    have hg := mbL_at hlt
    have hle : (i : Int) ≤ (ms.length : Int) := by omega
    obtain ⟨hm, ht, hnl, hxl⟩ := hs _ (List.getElem_mem hlt)
    rw [List.drop_eq_getElem_cons hlt] at hpe
    have hum := unM_el (ms.take i)
    rw [← mbL_take] at hum
    have htl : (ms.take i).length ≤ 1000000 := by rw [List.length_take]; omega
    simp only [wpC, Bool.false_eq_true, ↓reduceIte, wpS, stops, wantedA, okDst, Nat.reduceLT, decide_true, step1, isOwnCall, hxOp, px, isNilC, pbinP, AS.eval, AS.get, Lift.look, reduceCtorEq, Nat.reduceEqDiff, Option.getD_some, pbinI, Int.ofNat_lt, hlt, thenQ, hasAll, and_true, AS.put, dropKey, true_and]
    refine SW.seq (SW.run [] _ ?_)
    simp only [wpC, isB, AS.get, Lift.look, tmpOf, ↓reduceIte, Option.getD_some, asB, thenQ, true_and]
    refine SW.seq (SW.block (SW.seq (SW.run [] _ ?_)))
    simp only [wpC, Bool.false_eq_true, ↓reduceIte, wpS, stops, wantedA, okDst, Nat.reduceLT, decide_true, step1, isOwnCall, hxOp, px, AS.eval, AS.get, Lift.look, Nat.reduceEqDiff, reduceCtorEq, Option.getD_some, AS.put, dropKey, pindexAddr, ty52, ty58, ne_eq, Nat.succ_ne_zero, not_false_eq_true, Int.natCast_nonneg, Int.toNat_natCast, mbL_len, hlt, and_self, hg, mbV, pload, okOne, TK.isAgg, Nat.reduceBEq, Bool.or_false, List.length_cons, List.length_nil, Nat.zero_add, Nat.reduceAdd, Nat.le_refl, Lift.valOf, List.take_succ_cons, List.take_nil, okAlloc, okZero, List.all_cons, Value.oneCell', List.all_nil, Bool.and_true, hx, zeroOf, List.map_cons, ofVal, List.map_nil, Heap.get_put, known1, PV.cells, splice, List.take_zero, List.nil_append, List.drop_succ_cons, List.drop_nil, List.append_nil, thenQ, true_and]
    intro q hq
    rw [Heap.put_put]
    have hqb : ¬ q = rb := fun e => by subst e; rw [hbl] at hq; cases hq
    have hbq : ¬ rb = q := fun e => hqb e.symm
    have gq : (H.put q (.cells 58 4 [.str ms[i].n, .int .i64 ms[i].m, .int .i64 ms[i].t, .str ms[i].x])) q = some (.cells 58 4 [.str ms[i].n, .int .i64 ms[i].m, .int .i64 ms[i].t, .str ms[i].x]) := Heap.put_same _ _ _
    have g1 : (H.put q (.cells 58 4 [.str ms[i].n, .int .i64 ms[i].m, .int .i64 ms[i].t, .str ms[i].x])) rb = some (.bld 83 5 (packB (ms.take i))) := by rw [Heap.put_ne _ _ hbq]; exact hbl
    have inc1 : Lift.Inc h (H.put q (.cells 58 4 [.str ms[i].n, .int .i64 ms[i].m, .int .i64 ms[i].t, .str ms[i].x])) := Inc.over inc (incFresh inc hq) _
    generalize H.put q (.cells 58 4 [.str ms[i].n, .int .i64 ms[i].m, .int .i64 ms[i].t, .str ms[i].x]) = H1 at g1 gq inc1 ⊢
    refine SW.seq (SW.seq (SW.regionAny [eWrong] [[0, 1, 2, 3, 4, 5, 6, 7, 8]] rfl (by rfl) (by kernel_rfl) ?_))
    simp only [wpOL, wpO, LOp, List.getElem?_toArray, List.getElem?_cons_zero, okDst, Nat.reduceLT, decide_true, wantedA, ↓reduceIte, step1, isOwnCall, Bool.false_eq_true, hxOp, px, AS.eval, AS.get, Lift.look, Nat.succ_ne_zero, Option.getD_some, List.getElem?_cons_succ, AS.put, dropKey, Nat.reduceEqDiff, reduceCtorEq, pslice, ty52, ty58, pB, Int.cast_ofNat_Int, Int.reduceLE, Int.natCast_nonneg, mbL_len, hle, and_self, Int.reduceToNat, Int.toNat_natCast, List.drop_zero, pload, gq, okOne, TK.isAgg, Nat.reduceBEq, Bool.or_false, Nat.zero_add, List.length_cons, List.length_nil, Nat.reduceAdd, Nat.le_refl, Lift.valOf, List.take_succ_cons, List.take_nil, pfieldAddr, fieldOf, fieldIn, ty9, Option.map_some, ne_eq, not_false_eq_true, beq_self_eq_true, Bool.or_true, List.drop_succ_cons, List.getD_cons_zero, pcall, plen, okLen, Specs.hasO, Specs.hasH, okArg, ofConst, ofVal, List.all_cons, List.all_nil, Bool.and_true, Specs.at, eWrong, List.map_cons, List.map_nil, sWrong, hum, List.length_take, hnl, and_true, true_and, thenQ]
    refine ⟨by omega, ?_⟩
    obtain ⟨W, hW⟩ : ∃ W, wrongS (ms.take i) ⟨ms[i].n, ms[i].m, ms[i].t, ms[i].x⟩ (ms[i].x.length : Nat) = W := ⟨_, rfl⟩
    rw [hW]
    have hW : wrongS (ms.take i) ms[i] (ms[i].x.length : Nat) = W := hW
    rw [packE_cons, hW] at hpe
    refine SW.seq (SW.run [] _ ?_)
    by_cases h0 : W = 0
    case neg =>
      rw [if_neg h0] at hpe
      have hne : ¬ packE [] ms = 0 := by rw [hpe]; exact h0
      have h0' : (W != 0) = true := by simpa using h0
      simp only [wpC, Bool.false_eq_true, ↓reduceIte, wpS, stops, wantedA, okDst, Nat.reduceLT, decide_true, step1, isOwnCall, hxOp, px, AS.eval, AS.get, Lift.look, Option.getD_some, AS.put, dropKey, Nat.reduceEqDiff, reduceCtorEq, isNilC, pbinP, ofConst, ofVal, pbinI, h0', thenQ, true_and]
      refine SW.run [] _ ?_
      simp only [wpC, isB, AS.get, Lift.look, tmpOf, ↓reduceIte, Option.getD_some, asB, mayStop, stops, isFlt, Specs.has, Specs.hasO, Bool.or_false, Specs.hasH, Bool.not_false, List.any_cons, List.any_nil, Bool.false_eq_true, wpS, wantedA, okDst, Nat.reduceLT, decide_true, step1, isOwnCall, hxOp, px, AS.eval, Nat.reduceEqDiff, AS.put, dropKey, reduceCtorEq, ofConst, ofVal, thenQ, inQ, RPost, sres, Tryz.results28, sresL, sres1, Option.some.injEq, Ret_fin, exists_eq_left', true_and]
      refine ⟨?_, Inc.to inc1⟩
      unfold packR packS
      rw [if_neg hne, hpe]
    rw [if_pos h0] at hpe
    have h0' : (W != 0) = false := by simpa using h0
    obtain ⟨hm0, ht0⟩ := wrong_0 (hW.trans h0)
    simp only [wpC, Bool.false_eq_true, ↓reduceIte, wpS, stops, wantedA, okDst, Nat.reduceLT, decide_true, step1, isOwnCall, hxOp, px, AS.eval, AS.get, Lift.look, Option.getD_some, AS.put, dropKey, Nat.reduceEqDiff, reduceCtorEq, isNilC, pbinP, ofConst, ofVal, pbinI, h0', thenQ, true_and]
    have hm1 : -9223372036854775808 ≤ ms[i].m := by omega
    have ht1 : -9223372036854775808 ≤ ms[i].t := by omega
    have hx1 : -9223372036854775808 ≤ ((ms[i].x.length : Nat) : Int) := by omega
    have hx2 : ((ms[i].x.length : Nat) : Int) ≤ 9223372036854775807 := by omega
    have hpre := packB_pre ms (i + 1)
    rw [packB_next hlt, List.length_append] at hpre
    have hL : (packT ms[i]).length = ms[i].n.length + (Lib.itoa ms[i].m).length + (Lib.itoa ms[i].t).length + (Lib.itoa ((ms[i].x.length : Nat) : Int)).length + ms[i].x.length + 5 := by
      unfold packT
      simp only [List.length_append, List.length_cons, List.length_nil]
      omega
    refine SW.run [] _ ?_
    simp only [wpC, isB, AS.get, Lift.look, tmpOf, ↓reduceIte, Option.getD_some, asB, Bool.false_eq_true, thenQ, true_and]
    refine SW.regionAny [eItoa, eWS] [[0, 1, 2, 3, 4, 5, 6, 7, 8, 9, 10, 11, 12, 13, 14, 15, 16, 17, 18, 19, 20, 21, 22, 23]] rfl (by rfl) (by kernel_rfl) ?_
    simp only [wpOL, wpO, LOp, List.getElem?_toArray, List.getElem?_cons_zero, okDst, Nat.reduceLT, decide_true, wantedA, ↓reduceIte, step1, isOwnCall, Bool.false_eq_true, hxOp, px, pfieldAddr, fieldOf, ty58, fieldIn, ty9, Option.map_some, AS.eval, AS.get, Lift.look, Nat.reduceEqDiff, Option.getD_some, ne_eq, Nat.succ_ne_zero, not_false_eq_true, Nat.add_zero, List.getElem?_cons_succ, AS.put, dropKey, reduceCtorEq, pload, gq, okOne, TK.isAgg, beq_self_eq_true, Bool.or_true, Nat.zero_add, List.length_cons, List.length_nil, Nat.reduceAdd, Nat.reduceLeDiff, and_self, Lift.valOf, List.drop_zero, List.take_succ_cons, List.take_zero, List.getD_cons_zero, isNilC, pbinP, ofConst, ofVal, pbinS, ty3, List.drop_succ_cons, Specs.hasO, Specs.hasH, eWS, pcall, okArg, List.all_cons, List.all_nil, Bool.and_true, Specs.at, eItoa, List.map_cons, List.map_nil, sItoa, hm1, hm, ht1, ht, Nat.le_refl, List.take_nil, plen, okLen, hx1, hx2, hx, Specs.atH, sWS, g1, true_and, inQ, thenQ]
    refine ⟨by omega, by simp only [List.length_append, List.length_cons, List.length_nil]; omega, by simp only [List.length_append, List.length_cons, List.length_nil]; omega, by simp only [List.length_append, List.length_cons, List.length_nil]; omega, by simp only [List.length_append, List.length_cons, List.length_nil]; omega, by simp only [List.length_append, List.length_cons, List.length_nil]; omega, by simp only [List.length_append, List.length_cons, List.length_nil]; omega, by simp only [List.length_append, List.length_cons, List.length_nil]; omega, by simp only [List.length_append, List.length_cons, List.length_nil]; omega, by simp only [List.length_append, List.length_cons, List.length_nil]; omega, ?_⟩
    refine SW.run [] _ ?_
    simp only [wpC, Bool.false_eq_true, ↓reduceIte, wpS, stops, isFlt, ty3, wantedA, okDst, Nat.reduceLT, decide_true, step1, isOwnCall, hxOp, px, isNilC, pbinP, AS.eval, AS.get, Lift.look, Nat.reduceEqDiff, reduceCtorEq, Option.getD_some, ofConst, ofVal, pbinI, hw, AS.put, dropKey, thenQ, Heap.get_put, Option.some.injEq, Nat.succ_ne_zero, true_and]
    exact ⟨ms.length - (i + 1), by omega, i + 1, by omega, rfl, by rw [hpe, List.take_succ_eq_append_getElem hlt], by rw [packB_next hlt]; rfl, Inc.over inc1 hrb _, rfl⟩
  · simp only [wpC, Bool.false_eq_true, ↓reduceIte, wpS, stops, wantedA, okDst, Nat.reduceLT, decide_true, step1, isOwnCall, hxOp, px, isNilC, pbinP, AS.eval, AS.get, Lift.look, reduceCtorEq, Nat.reduceEqDiff, Option.getD_some, pbinI, Int.ofNat_lt, hlt, decide_false, thenQ, hasAll, and_true, AS.put, dropKey, true_and]
    refine SW.seq (SW.run [] _ ?_)
    simp only [wpC, isB, AS.get, Lift.look, tmpOf, ↓reduceIte, Option.getD_some, asB, Bool.false_eq_true, thenQ, inQ, true_and]
    have hei : i = ms.length := by omega
    subst hei
    rw [List.take_length] at hbl hpe
    rw [List.drop_length] at hpe
    have hbl2 : (packB ms).length ≤ 140737488355328 := by omega
    refine SW.run [eBS] _ ?_
    simp only [wpC, mayStop, stops, isFlt, Specs.has, Specs.hasO, Bool.or_false, Specs.hasH, eBS, Bool.false_or, List.any_cons, ↓reduceIte, Bool.not_true, List.any_nil, Bool.false_eq_true, wpS, Bool.or_true, wantedA, okDst, Nat.reduceLT, decide_true, step1, isOwnCall, hxOp, hx, okArg, AS.eval, AS.get, Lift.look, ofConst, ofVal, List.all_cons, Nat.reduceEqDiff, reduceCtorEq, Option.getD_some, List.all_nil, Bool.and_true, Specs.atH, List.map_cons, List.map_nil, sBS, hbl, hbl2, and_self, AS.put, dropKey, px, thenQ, RPost, sres, Tryz.results28, sresL, sres1, Option.some.injEq, Ret_fin, exists_eq_left', true_and]
    refine ⟨?_, Inc.to (Inc.gone inc hrb)⟩
    unfold packR packS
    have hpe : packE [] ms = 0 := hpe
    rw [if_pos hpe]
def sPackM : List PV → Prop × PV
  | [.list 4 xs] => match unM xs with
    | some l => ((∀ e ∈ l, e.fit) ∧ l.length ≤ 1000000 ∧ (packB l).length ≤ 100000000000000, packR l)
    | none => PBad
  | _ => PBad
noncomputable def ePackM : SpecE env := ⟨28, sPackM, fun args h hc => by
  unfold sPackM at hc ⊢
  split at hc
  · split at hc
    · rename_i l hl; rw [unM_spec hl]; exact .inl (Pack_ok l hc.1 hc.2.1 hc.2.2 h)
    · exact hc.elim
  · exact hc.elim⟩
end Go.Proofs.YtincpomenogppaaGreatDoor
