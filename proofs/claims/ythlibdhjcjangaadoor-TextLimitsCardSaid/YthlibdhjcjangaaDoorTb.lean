/- Contracts of functions that the law reaches. -/
import Derived.Test.YthlibdhjcjangaaDoorTa
set_option linter.unusedSimpArgs false
set_option linter.unusedVariables false
namespace Go.Proofs.YthlibdhjcjangaaDoor
open Go Go.RowKit Go.Proofs.YthlibdhjcjangaaDoor Go.Proofs.YthlibdhjcjangaaDoor.Lift
set_option maxRecDepth 100000

/-! acheronref01.Place -/
def partR (s : List UInt8) (n : Nat) : List UInt8 := (s.take n).drop (lastN s 10 n + 1).toNat
def placeR (s : List UInt8) (n : Nat) : PV := .tuple [.int .i64 (1 + ((s.take n).count 10 : Nat)), .int .i64 (1 + ((decodeS (partR s n).length (partR s n)).length : Nat))]
def sPlaceR : List PV → Prop × PV
  | [.str s, .int .i64 n] => (s.length ≤ 1000000000 ∧ 0 ≤ n ∧ n ≤ s.length, placeR s n.toNat)
  | _ => PBad
theorem count_next (s : List UInt8) (c : UInt8) {i : Nat} (h : i < s.length) : (s.take (i + 1)).count c = (s.take i).count c + if s.getD i 0 = c then 1 else 0 := by
  rw [take_next h 0, List.count_append]
  congr 1
  rw [List.count_singleton]
  split <;> rename_i h1 <;> simp_all
/-! awake -/
def sAwake : List PV → Prop × PV
  | [] => (True, .bool true)
  | _ => PBad
set_option maxRecDepth 100000 in
theorem Awake_ok (h : Heap) : SCalls env 5 [] h (Ret (.bool true) h) := by
  have e1 : runesOf [97, 255, 195, 169] = [97, 65533, 233] := by kernel_rfl
  have e2 : packL [97, 65533, 233] = [0, 0, 0, 97, 0, 0, 255, 253, 0, 0, 0, 233] := by kernel_rfl
  have e3 : anyWide [97, 65533, 233] = true := by kernel_rfl
  have e4 : (charsS [0, 0, 0, 97, 0, 0, 255, 253, 0, 0, 0, 233] true).flatMap encL = [97, 239, 191, 189, 195, 169] := by kernel_rfl
  have e5 : atS [0, 0, 0, 97, 0, 0, 255, 253, 0, 0, 0, 233] true 1 = .tuple [.int .i64 65533, .int .i64 0] := by kernel_rfl
  have e6 : placeS [97, 98, 10, 99, 100] 4 = .tuple [.int .i64 2, .int .i64 2, .int .i64 0] := by kernel_rfl
  have e7 : lenS [0, 0, 0, 97, 0, 0, 255, 253, 0, 0, 0, 233] true = 3 := by kernel_rfl
  refine SCalls.body Tryd.func5 rfl rfl (by simp [Tryd.ntmps5]) ?_
  refine SW.seq (SW.run [] _ ?_)
  simp only [wpC, Bool.false_eq_true, ↓reduceIte, wpS, stops, wantedA, okDst, Tryd.ntmps5, Nat.reduceLT, decide_true, step1, isOwnCall, hxOp, px, AS.eval, ofConst, ofVal, thenQ, AS.put, enumA, dropKey, true_and]
  refine SW.seq (SW.run [eOf] _ ?_)
  simp only [wpC, Bool.false_eq_true, ↓reduceIte, wpS, stops, Specs.has, eOf, Specs.hasO, Bool.or_false, Specs.hasH, Bool.not_true, wantedA, okDst, Nat.reduceLT, decide_true, step1, isOwnCall, hxOp, px, pcall, okArg, AS.eval, AS.get, Lift.look, ofConst, ofVal, List.all_cons, List.all_nil, Bool.and_true, Specs.at, List.map_cons, List.map_nil, sOf, List.length_cons, List.length_nil, Nat.zero_add, Nat.reduceAdd, Nat.reduceLeDiff, e1, and_self, strV, e2, e3, AS.put, dropKey, reduceCtorEq, Option.getD_some, Nat.reduceEqDiff, List.getElem?_cons_zero, List.getElem?_cons_succ, okAlloc, ty24, okZero, Value.oneCell', hx, zeroOf, Heap.get_put, known1, PV.cells, Nat.le_refl, splice, List.take_zero, List.nil_append, List.drop_succ_cons, List.drop_nil, List.append_nil, thenQ, true_and]
  intro r hr
  refine SW.seq (SW.run [eLen, eWide, eText] _ ?_)
  simp only [wpC, mayStop, stops, isFlt, Specs.has, eLen, eWide, eText, Specs.hasO, Bool.or_false, Specs.hasH, List.any_cons, ↓reduceIte, Bool.not_true, Nat.reduceEqDiff, List.any_nil, Bool.false_eq_true, wpS, wantedA, okDst, Nat.reduceLT, decide_true, step1, isOwnCall, hxOp, px, AS.eval, AS.get, Lift.look, Option.getD_some, AS.put, dropKey, reduceCtorEq, isNilC, pbinP, ofConst, ofVal, pbinI, Int.reduceBNe, List.getElem?_toArray, List.getElem?_cons_succ, List.getElem?_cons_zero, Option.bind_some, beq_self_eq_true, pload, ty24, Heap.get_put, okOne, TK.isAgg, Nat.reduceBEq, Nat.zero_add, List.length_cons, List.length_nil, Nat.reduceAdd, Nat.le_refl, and_self, Lift.valOf, List.drop_zero, List.take_succ_cons, List.take_nil, pcall, okArg, List.all_cons, List.all_nil, Bool.and_true, Specs.at, List.map_cons, List.map_nil, sLen, Nat.reduceLeDiff, e7, Int.cast_ofNat_Int, ppick_bool, sWide, pun, sText, e4, ty9, plen, okLen, thenQ, isB, tmpOf, asB, true_and]
  refine SW.run [eAt, ePlace] _ ?_
  simp only [wpC, mayStop, stops, isFlt, Specs.has, eAt, ePlace, Specs.hasO, Bool.or_false, Specs.hasH, List.any_cons, ↓reduceIte, Bool.not_true, List.any_nil, Bool.false_eq_true, wpS, wantedA, okDst, Nat.reduceLT, decide_true, step1, isOwnCall, hxOp, px, pload, ty24, AS.eval, AS.get, Lift.look, Nat.reduceEqDiff, Option.getD_some, Heap.get_put, okOne, TK.isAgg, Nat.reduceBEq, Nat.zero_add, List.length_cons, List.length_nil, Nat.reduceAdd, Nat.le_refl, and_self, Lift.valOf, List.drop_zero, List.take_succ_cons, List.take_nil, AS.put, dropKey, reduceCtorEq, pcall, okArg, ofConst, ofVal, List.all_cons, List.all_nil, Bool.and_true, Specs.at, List.map_cons, List.map_nil, sAt, Nat.reduceLeDiff, e5, List.getElem?_cons_zero, List.getElem?_cons_succ, thenQ, sPlace, e6, isNilC, pbinP, pbinI, beq_self_eq_true, List.getElem?_toArray, Option.bind_some, ppick_bool, RPost, sres, Nat.succ_ne_zero, Tryd.results5, sresL, sres1, Option.some.injEq, Ret_fin, exists_eq_left', true_and]
  exact HTo.put2 _ _ hr hr
noncomputable def eAwake : SpecE env := ⟨5, sAwake, fun args h hc => by
  unfold sAwake at hc ⊢
  split at hc
  · exact .inl (Awake_ok h)
  · exact hc.elim⟩
end Go.Proofs.YthlibdhjcjangaaDoor
