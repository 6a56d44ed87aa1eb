/- Contracts of functions that the law reaches. -/
import Derived.Test.YthlibdhjcjangaaTa
set_option linter.unusedSimpArgs false
set_option linter.unusedVariables false
namespace Go.Proofs.Ythlibdhjcjangaa
open Go Go.RowKit Go.Proofs.Ythlibdhjcjangaa Go.Proofs.Ythlibdhjcjangaa.Lift

/-! acheronref01.Place -/
def partR (s : List UInt8) (n : Nat) : List UInt8 := (s.take n).drop (lastN s 10 n + 1).toNat
def placeR (s : List UInt8) (n : Nat) : PV := .tuple [.int .i64 (1 + ((s.take n).count 10 : Nat)), .int .i64 (1 + ((decodeS (partR s n).length (partR s n)).length : Nat))]
def sPlaceR : List PV → Prop × PV
  | [.str s, .int .i64 n] => (s.length ≤ 1000000000 ∧ 0 ≤ n ∧ n ≤ s.length, placeR s n.toNat)
  | _ => PBad
theorem count_next (s : List UInt8) (c : UInt8) {i : Nat} (h : i < s.length) : (s.take (i + 1)).count c = (s.take i).count c + if s.getD i 0 = c then 1 else 0 := by
  rw [take_next h 0, List.count_append]
  congr 1
  rw [List.count_singleton]
  split <;> rename_i h1 <;> simp_all
theorem PlaceR_ok (s : List UInt8) (n : Nat) (h : Heap) (hs : s.length ≤ 1000000000) (hn : n ≤ s.length) : SCalls env 14 [.str s, .int .i64 n] h (Ret (placeR s n) h) := by
  refine SCalls.body Try.func14 rfl rfl (by simp [Try.ntmps14]) ?_
  refine SW.seq (SW.run [] _ ?_)
  simp only [wpC, Bool.false_eq_true, ↓reduceIte, wpS, stops, wantedA, okDst, Try.ntmps14, Nat.reduceLT, decide_true, step1, hxOp, px, AS.eval, ofConst, ofVal, AS.put, enumA, Nat.zero_add, dropKey, reduceCtorEq, Nat.reduceEqDiff, thenQ, true_and]
  refine SW.seq (SW.run [] _ ?_)
  simp only [wpC, Bool.false_eq_true, ↓reduceIte, wpS, stops, wantedA, okDst, Nat.reduceLT, decide_true, step1, hxOp, px, AS.eval, ofConst, ofVal, AS.put, dropKey, Nat.reduceEqDiff, reduceCtorEq, thenQ, true_and]
  refine SW.seq (SW.seq (SW.run [] _ ?_))
  simp only [wpC, Bool.false_eq_true, ↓reduceIte, wpS, stops, wantedA, okDst, Nat.reduceLT, decide_true, step1, hxOp, px, AS.eval, ofConst, ofVal, thenQ, AS.put, dropKey, Nat.reduceEqDiff, reduceCtorEq, true_and]
  refine SW.block (SW.loopK 30 (fun i : Nat => [(0, .str s), (1, .int .i64 n), (6, .int .i64 (1 + ((s.take i).count 10 : Nat))), (7, .int .i64 (lastN s 10 i + 1)), (8, .int .i64 (i : Nat))]) (fun _ => h) (fun i => i ≤ n) (fun i => n - i) 0 (Nat.zero_le _) ?_ ?_)
  · simp only [Has, hasAll, AS.get, Lift.look, Nat.succ_ne_zero, ↓reduceIte, Option.getD_some, Nat.reduceEqDiff, reduceCtorEq, List.take_zero, lastN, Int.reduceAdd, Int.cast_ofNat_Int, and_self, and_true, true_and]
    try simp
  intro i hi
  have hl := lastN_lt s 10 i
  have hc : (s.take i).count 10 ≤ (s.take i).length := List.count_le_length
  have hc2 : (s.take i).length ≤ i := by rw [List.length_take]; omega
  refine SW.run [eDecode] _ ?_
  by_cases hlt : i < n
  · have his : i < s.length := by omega
    by_cases hb : s.getD i 0 = 10
    · have hb' : ((((s.getD i 0).toNat : Nat) : Int) == 10) = true := by rw [hb]; rfl
      simp only [wpC, mayStop, stops, Specs.has, List.any_cons, List.any_nil, Bool.or_false, Bool.false_eq_true, ↓reduceIte, wpS, wantedA, okDst, Nat.reduceLT, decide_true, step1, hxOp, px, AS.eval, AS.get, Lift.look, reduceCtorEq, Nat.reduceEqDiff, Option.getD_some, AS.put, dropKey, pbinP, pbinI, Int.ofNat_lt, hlt, thenQ, isB, tmpOf, asB, Nat.succ_ne_zero, pindex, ty9, Int.natCast_nonneg, Int.toNat_natCast, his, and_self, ofConst, ofVal, hb', inQ, Has, hasAll, and_true, true_and]
      refine ⟨i + 1, by omega, by omega, ?_, ?_, by rw [w64 (by omega) (by omega)]; rfl⟩
      · rw [count_next s 10 his, if_pos hb, w64 (by omega) (by omega)]
        congr 1
      · rw [lastN, if_pos hb, w64 (by omega) (by omega)]
    · have hb' : ((((s.getD i 0).toNat : Nat) : Int) == 10) = false := by
        have := byte_eq (s.getD i 0) 10
        rw [show (((10 : UInt8).toNat : Nat) : Int) = 10 from rfl] at this
        rw [this]; simpa using hb
      simp only [wpC, mayStop, stops, Specs.has, List.any_cons, List.any_nil, Bool.or_false, Bool.false_eq_true, ↓reduceIte, wpS, wantedA, okDst, Nat.reduceLT, decide_true, step1, hxOp, px, AS.eval, AS.get, Lift.look, reduceCtorEq, Nat.reduceEqDiff, Option.getD_some, AS.put, dropKey, pbinP, pbinI, Int.ofNat_lt, hlt, thenQ, isB, tmpOf, asB, Nat.succ_ne_zero, pindex, ty9, Int.natCast_nonneg, Int.toNat_natCast, his, and_self, ofConst, ofVal, hb', inQ, Has, hasAll, and_true, true_and]
      refine ⟨i + 1, by omega, by omega, ?_, ?_, by rw [w64 (by omega) (by omega)]; rfl⟩
      · rw [count_next s 10 his, if_neg hb, Nat.add_zero]
      · rw [lastN, if_neg hb]
  · simp only [wpC, mayStop, stops, Specs.has, List.any_cons, List.any_nil, Bool.or_false, Bool.false_eq_true, ↓reduceIte, wpS, wantedA, okDst, Nat.reduceLT, decide_true, step1, hxOp, px, AS.eval, AS.get, Lift.look, reduceCtorEq, Nat.reduceEqDiff, Option.getD_some, AS.put, dropKey, pbinP, pbinI, Int.ofNat_lt, hlt, decide_false, thenQ, isB, tmpOf, asB, inQ, true_and]
    have hin : i = n := by omega
    subst hin
    refine SW.run [eDecode] _ ?_
    simp only [wpC, mayStop, stops, Specs.has, eDecode, List.any_cons, ↓reduceIte, Bool.not_true, List.any_nil, Bool.or_false, Bool.false_eq_true, wpS, wantedA, okDst, Nat.reduceLT, decide_true, step1, hxOp, px, AS.eval, AS.get, Lift.look, Nat.reduceEqDiff, reduceCtorEq, Option.getD_some, AS.put, dropKey, Nat.succ_ne_zero, pslice, ty9, pB, Int.toNat_natCast, pcall, okArg, ofConst, ofVal, List.all_cons, List.all_nil, Bool.and_true, Specs.at, List.map_cons, List.map_nil, sDecode, List.length_drop, List.length_take, true_and, ty28, plen, elI_len, okLen, and_self, pbinP, pbinI, thenQ, RPost, sres, Try.results14, sresL, sres1, Option.some.injEq, Ret_fin, HTo_self, and_true, exists_eq_left']
    have hp : min i s.length - (lastN s 10 i + 1).toNat = (partR s i).length := by
      unfold partR; rw [List.length_drop, List.length_take]
    have hd := decodeS_len (partR s i).length (partR s i)
    have hpl : (partR s i).length ≤ i := by rw [← hp]; omega
    rw [hp]
    refine ⟨⟨by omega, by omega, by omega⟩, by omega, ?_⟩
    show PV.tuple [_, PV.int .i64 (IntKind.i64.wrap (1 + ((decodeS (partR s i).length (partR s i)).length : Nat)))] = _
    rw [w64 (by omega) (by omega)]
    rfl
noncomputable def ePlaceR : SpecE env := ⟨14, sPlaceR, fun args h hc => by
  unfold sPlaceR at hc ⊢
  split at hc
  · rename_i s n
    have e : n = (n.toNat : Int) := by have := hc.2.1; omega
    have := PlaceR_ok s n.toNat h hc.1 (by have := hc.2.2; omega)
    rw [← e] at this
    exact .inl this
  · exact hc.elim⟩
/-! awake -/
def sAwake : List PV → Prop × PV
  | [] => (True, .bool true)
  | _ => PBad
set_option maxRecDepth 100000 in
theorem Awake_ok (h : Heap) : SCalls env 8 [] h (Ret (.bool true) h) := by
  have e1 : runesOf [97, 255, 195, 169] = [97, 65533, 233] := by kernel_rfl
  have e2 : packL [97, 65533, 233] = [0, 0, 0, 97, 0, 0, 255, 253, 0, 0, 0, 233] := by kernel_rfl
  have e3 : anyWide [97, 65533, 233] = true := by kernel_rfl
  have e4 : (charsS [0, 0, 0, 97, 0, 0, 255, 253, 0, 0, 0, 233] true).flatMap encL = [97, 239, 191, 189, 195, 169] := by kernel_rfl
  have e5 : atS [0, 0, 0, 97, 0, 0, 255, 253, 0, 0, 0, 233] true 1 = .tuple [.int .i64 65533, .int .i64 0] := by kernel_rfl
  have e6 : placeS [97, 98, 10, 99, 100] 4 = .tuple [.int .i64 2, .int .i64 2, .int .i64 0] := by kernel_rfl
  have e7 : lenS [0, 0, 0, 97, 0, 0, 255, 253, 0, 0, 0, 233] true = 3 := by kernel_rfl
  refine SCalls.body Try.func8 rfl rfl (by simp [Try.ntmps8]) ?_
  refine SW.seq (SW.run [] _ ?_)
  simp only [wpC, Bool.false_eq_true, ↓reduceIte, wpS, stops, wantedA, okDst, Try.ntmps8, Nat.reduceLT, decide_true, step1, hxOp, px, AS.eval, ofConst, ofVal, thenQ, AS.put, enumA, dropKey, true_and]
  refine SW.seq (SW.run [eOf] _ ?_)
  simp only [wpC, Bool.false_eq_true, ↓reduceIte, wpS, stops, Specs.has, eOf, Bool.not_true, wantedA, okDst, Nat.reduceLT, decide_true, step1, hxOp, px, pcall, okArg, AS.eval, AS.get, Lift.look, ofConst, ofVal, List.all_cons, List.all_nil, Bool.and_true, Specs.at, List.map_cons, List.map_nil, sOf, List.length_cons, List.length_nil, Nat.zero_add, Nat.reduceAdd, Nat.reduceLeDiff, e1, and_self, strV, e2, e3, AS.put, dropKey, reduceCtorEq, Option.getD_some, Nat.reduceEqDiff, List.getElem?_cons_zero, List.getElem?_cons_succ, okAlloc, ty24, okZero, Value.oneCell', hx, zeroOf, Heap.get_put, known1, PV.cells, Nat.le_refl, splice, List.take_zero, List.nil_append, List.drop_succ_cons, List.drop_nil, List.append_nil, thenQ, true_and]
  intro r hr
  refine SW.seq (SW.run [eLen, eWide, eText] _ ?_)
  simp only [wpC, mayStop, stops, Specs.has, eLen, eWide, eText, List.any_cons, ↓reduceIte, Bool.not_true, Nat.reduceEqDiff, List.any_nil, Bool.or_false, Bool.false_eq_true, wpS, wantedA, okDst, Nat.reduceLT, decide_true, step1, hxOp, px, AS.eval, AS.get, Lift.look, Option.getD_some, AS.put, dropKey, reduceCtorEq, pbinP, ofConst, ofVal, pbinI, Int.reduceBNe, List.getElem?_toArray, List.getElem?_cons_succ, List.getElem?_cons_zero, Option.bind_some, beq_self_eq_true, pload, ty24, Heap.get_put, okOne, TK.isAgg, Nat.reduceBEq, Nat.zero_add, List.length_cons, List.length_nil, Nat.reduceAdd, Nat.le_refl, and_self, Lift.valOf, List.drop_zero, List.take_succ_cons, List.take_nil, pcall, okArg, List.all_cons, List.all_nil, Bool.and_true, Specs.at, List.map_cons, List.map_nil, sLen, Nat.reduceLeDiff, e7, Int.cast_ofNat_Int, ppick_bool, sWide, pun, sText, e4, ty9, plen, okLen, thenQ, isB, tmpOf, asB, true_and]
  refine SW.run [eAt, ePlace] _ ?_
  simp only [wpC, mayStop, stops, Specs.has, eAt, ePlace, List.any_cons, ↓reduceIte, Bool.not_true, List.any_nil, Bool.or_false, Bool.false_eq_true, wpS, wantedA, okDst, Nat.reduceLT, decide_true, step1, hxOp, px, pload, ty24, AS.eval, AS.get, Lift.look, Nat.reduceEqDiff, Option.getD_some, Heap.get_put, okOne, TK.isAgg, Nat.reduceBEq, Nat.zero_add, List.length_cons, List.length_nil, Nat.reduceAdd, Nat.le_refl, and_self, Lift.valOf, List.drop_zero, List.take_succ_cons, List.take_nil, AS.put, dropKey, reduceCtorEq, pcall, okArg, ofConst, ofVal, List.all_cons, List.all_nil, Bool.and_true, Specs.at, List.map_cons, List.map_nil, sAt, Nat.reduceLeDiff, e5, List.getElem?_cons_zero, List.getElem?_cons_succ, thenQ, sPlace, e6, pbinP, pbinI, beq_self_eq_true, List.getElem?_toArray, Option.bind_some, ppick_bool, RPost, sres, Nat.succ_ne_zero, Try.results8, sresL, sres1, Option.some.injEq, Ret_fin, exists_eq_left', true_and]
  exact HTo.put2 _ _ hr hr
noncomputable def eAwake : SpecE env := ⟨8, sAwake, fun args h hc => by
  unfold sAwake at hc ⊢
  split at hc
  · exact .inl (Awake_ok h)
  · exact hc.elim⟩
end Go.Proofs.Ythlibdhjcjangaa
