/- Contracts of functions that the law reaches. -/
import Derived.Test.YtekgfneapofgpaaEnv
import Derived.Sort.Grow
import Derived.Deep.Draws
set_option linter.unusedSimpArgs false
set_option linter.unusedVariables false
namespace Go.Proofs.Ytekgfneapofgpaa
open Go Go.RowKit Go.Proofs.Ytekgfneapofgpaa Go.Proofs.Ytekgfneapofgpaa.Lift

/-! cmp.Compare, cmp.Or; the closure by which entries are ordered -/
def cmp3 (a b : Int) : Int := if a < b then -1 else if b < a then 1 else 0
def sIsNaN : List PV → Prop × PV
  | [.int .i64 _] => (True, .bool false)
  | _ => PBad
theorem IsNaN_ok (a : Int) (h : Heap) : SCalls env 40 [.int .i64 a] h (Ret (.bool false) h) := by
  refine SCalls.body Try.func40 rfl rfl (by simp [Try.ntmps40]) (SW.run [] _ ?_)
  simp only [wpC, mayStop, stops, isFlt, Specs.has, Specs.hasO, Bool.or_false, Specs.hasH, Bool.not_false, List.any_cons, List.any_nil, Bool.false_eq_true, ↓reduceIte, wpS, wantedA, okDst, Try.ntmps40, Nat.reduceLT, decide_true, step1, isOwnCall, hxOp, px, AS.eval, ofConst, ofVal, thenQ, AS.put, enumA, dropKey, reduceCtorEq, AS.get, Lift.look, Nat.succ_ne_zero, Option.getD_some, Nat.reduceEqDiff, isNilC, pbinP, pbinI, bne_self_eq_false, RPost, sres, Try.results40, sresL, sres1, Option.some.injEq, Ret_fin, HTo_self, and_true, exists_eq_left', and_self]
noncomputable def eIsNaN : SpecE env := ⟨40, sIsNaN, fun args h hc => by
  unfold sIsNaN at hc ⊢
  split at hc
  · rename_i a; exact .inl (IsNaN_ok a h)
  · exact hc.elim⟩
def sCmp : List PV → Prop × PV
  | [.int .i64 a, .int .i64 b] => (True, .int .i64 (cmp3 a b))
  | _ => PBad
theorem Cmp_ok (a b : Int) (h : Heap) : SCalls env 28 [.int .i64 a, .int .i64 b] h (Ret (.int .i64 (cmp3 a b)) h) := by
  refine SCalls.body Try.func28 rfl rfl (by simp [Try.ntmps28]) (SW.run [eIsNaN] _ ?_)
  by_cases h1 : a < b
  · simp only [wpC, mayStop, stops, isFlt, Specs.has, eIsNaN, Specs.hasO, Bool.or_false, Specs.hasH, List.any_cons, List.any_nil, Bool.false_eq_true, ↓reduceIte, wpS, wantedA, okDst, Try.ntmps28, Nat.reduceLT, decide_true, step1, isOwnCall, hxOp, px, AS.eval, ofConst, ofVal, thenQ, Bool.not_true, AS.put, enumA, Nat.zero_add, dropKey, reduceCtorEq, Nat.reduceEqDiff, AS.get, Lift.look, Nat.succ_ne_zero, Option.getD_some, pcall, okArg, List.all_cons, List.all_nil, Bool.and_true, Specs.at, List.map_cons, List.map_nil, sIsNaN, and_self, isB, tmpOf, asB, isNilC, pbinP, pbinI, h1, RPost, sres, Try.results28, sresL, sres1, Option.some.injEq, cmp3, Ret_fin, HTo_self, and_true, exists_eq_left']
  · by_cases h2 : b < a
    · simp only [wpC, mayStop, stops, isFlt, Specs.has, eIsNaN, Specs.hasO, Bool.or_false, Specs.hasH, List.any_cons, List.any_nil, Bool.false_eq_true, ↓reduceIte, wpS, wantedA, okDst, Try.ntmps28, Nat.reduceLT, decide_true, step1, isOwnCall, hxOp, px, AS.eval, ofConst, ofVal, thenQ, Bool.not_true, AS.put, enumA, Nat.zero_add, dropKey, reduceCtorEq, Nat.reduceEqDiff, AS.get, Lift.look, Nat.succ_ne_zero, Option.getD_some, pcall, okArg, List.all_cons, List.all_nil, Bool.and_true, Specs.at, List.map_cons, List.map_nil, sIsNaN, and_self, isB, tmpOf, asB, isNilC, pbinP, pbinI, h1, decide_false, h2, RPost, sres, Try.results28, sresL, sres1, Option.some.injEq, cmp3, Ret_fin, HTo_self, and_true, exists_eq_left']
    · simp only [wpC, mayStop, stops, isFlt, Specs.has, eIsNaN, Specs.hasO, Bool.or_false, Specs.hasH, List.any_cons, List.any_nil, Bool.false_eq_true, ↓reduceIte, wpS, wantedA, okDst, Try.ntmps28, Nat.reduceLT, decide_true, step1, isOwnCall, hxOp, px, AS.eval, ofConst, ofVal, thenQ, Bool.not_true, AS.put, enumA, Nat.zero_add, dropKey, reduceCtorEq, Nat.reduceEqDiff, AS.get, Lift.look, Nat.succ_ne_zero, Option.getD_some, pcall, okArg, List.all_cons, List.all_nil, Bool.and_true, Specs.at, List.map_cons, List.map_nil, sIsNaN, and_self, isB, tmpOf, asB, isNilC, pbinP, pbinI, h1, decide_false, h2, RPost, sres, Try.results28, sresL, sres1, Option.some.injEq, cmp3, Ret_fin, HTo_self, and_true, exists_eq_left']
noncomputable def eCmp : SpecE env := ⟨28, sCmp, fun args h hc => by
  unfold sCmp at hc ⊢
  split at hc
  · rename_i a b; exact .inl (Cmp_ok a b h)
  · exact hc.elim⟩
def sOr : List PV → Prop × PV
  | [.list 1 [[.int .i64 a], [.int .i64 b]]] => (True, .int .i64 (if a = 0 then b else a))
  | _ => PBad
theorem Or_ok (a b : Int) (h : Heap) : SCalls env 27 [.list 1 [[.int .i64 a], [.int .i64 b]]] h (Ret (.int .i64 (if a = 0 then b else a)) h) := by
  refine SCalls.body Try.func27 rfl rfl (by simp [Try.ntmps27]) ?_
  refine SW.seq (SW.run [] _ ?_)
  simp only [wpC, Bool.false_eq_true, ↓reduceIte, wpS, stops, wantedA, okDst, Try.ntmps27, Nat.reduceLT, decide_true, step1, isOwnCall, hxOp, px, AS.eval, ofConst, ofVal, thenQ, AS.put, enumA, dropKey, reduceCtorEq, true_and]
  refine SW.seq (SW.run [] _ ?_)
  simp only [wpC, Bool.false_eq_true, ↓reduceIte, wpS, stops, wantedA, okDst, Nat.reduceLT, decide_true, step1, isOwnCall, hxOp, px, AS.eval, ofConst, ofVal, thenQ, AS.put, dropKey, Nat.reduceEqDiff, reduceCtorEq, true_and]
  refine SW.seq (SW.seq (SW.run [] _ ?_))
  simp only [wpC, Bool.false_eq_true, ↓reduceIte, wpS, stops, wantedA, okDst, Nat.reduceLT, decide_true, step1, isOwnCall, hxOp, px, AS.eval, AS.get, Lift.look, Nat.succ_ne_zero, Option.getD_some, AS.put, dropKey, Nat.reduceEqDiff, reduceCtorEq, pcall, ty31, plen, List.length_cons, List.length_nil, Nat.zero_add, Nat.reduceAdd, okLen, and_self, Int.cast_ofNat_Int, ofConst, ofVal, thenQ, true_and]
  refine SW.block (SW.loopH 18 (fun i : Nat => [(0, .list 1 [[.int .i64 a], [.int .i64 b]]), (3, .int .i64 0), (6, .list 1 [[.int .i64 a], [.int .i64 b]]), (7, .int .i64 2), (8, .int .i64 i)]) (fun _ => h) (fun i => i ≤ 2 ∧ (0 < i → a = 0) ∧ (1 < i → b = 0)) (fun i => 2 - i) 0 ⟨Nat.zero_le _, fun h => absurd h (by omega), fun h => absurd h (by omega)⟩ ⟨rfl, .refl _ _, ?_⟩ ?_)
  · simp only [hasAll, AS.get, Lift.look, Nat.succ_ne_zero, ↓reduceIte, Option.getD_some, Nat.reduceEqDiff, Int.cast_ofNat_Int, and_self]
  · rintro i ⟨hi, ha, hb⟩
    have hw1 : IntKind.i64.wrap (0 + 1) = 1 := by rw [w64 (by omega) (by omega)]; rfl
    have hw2 : IntKind.i64.wrap (1 + 1) = 2 := by rw [w64 (by omega) (by omega)]; rfl
    obtain rfl | rfl | rfl : i = 0 ∨ i = 1 ∨ i = 2 := by omega
    · refine SW.run [] _ ?_
      by_cases h0 : a = 0
      · have g0 : (a != 0) = false := by simpa using h0
        simp only [wpC, mayStop, stops, isFlt, Specs.has, Specs.hasO, Bool.or_false, Specs.hasH, Bool.not_false, List.any_cons, List.any_nil, Bool.false_eq_true, ↓reduceIte, wpS, wantedA, okDst, Nat.reduceLT, decide_true, step1, isOwnCall, hxOp, px, isNilC, pbinP, AS.eval, AS.get, Lift.look, reduceCtorEq, Nat.reduceEqDiff, Int.cast_ofNat_Int, Option.getD_some, pbinI, Int.reduceLT, thenQ, isB, AS.put, dropKey, h0, tmpOf, asB, pindexAddr, ty31, ty3, ne_eq, Nat.succ_ne_zero, not_false_eq_true, Int.reduceLE, Int.reduceToNat, List.length_cons, List.length_nil, Nat.zero_add, Nat.reduceAdd, and_self, List.getD_cons_zero, pload, okOne, TK.isAgg, beq_self_eq_true, Bool.or_true, Nat.le_refl, Lift.valOf, List.take_succ_cons, List.take_nil, Int.reduceBNe, inQ, ofConst, ofVal, Int.reduceAdd, implies_true, true_and, Nat.reduceSub, HTo_self, hasAll, and_true]
        exact ⟨1, ⟨by omega, by omega⟩, by omega, rfl⟩
      · have g0 : (a != 0) = true := by simpa using h0
        simp only [wpC, mayStop, stops, isFlt, Specs.has, Specs.hasO, Bool.or_false, Specs.hasH, Bool.not_false, List.any_cons, List.any_nil, Bool.false_eq_true, ↓reduceIte, wpS, wantedA, okDst, Nat.reduceLT, decide_true, step1, isOwnCall, hxOp, px, isNilC, pbinP, AS.eval, AS.get, Lift.look, reduceCtorEq, Nat.reduceEqDiff, Int.cast_ofNat_Int, Option.getD_some, pbinI, Int.reduceLT, thenQ, isB, AS.put, dropKey, tmpOf, asB, pindexAddr, ty31, ty3, ne_eq, Nat.succ_ne_zero, not_false_eq_true, Int.reduceLE, Int.reduceToNat, List.length_cons, List.length_nil, Nat.zero_add, Nat.reduceAdd, and_self, List.getD_cons_zero, pload, okOne, TK.isAgg, beq_self_eq_true, Bool.or_true, Nat.le_refl, Lift.valOf, List.take_succ_cons, List.take_nil, g0, inQ, RPost, sres, Try.results27, sresL, sres1, Option.some.injEq, h0, Ret_fin, HTo_self, and_true, exists_eq_left']
    · have ha := ha (by omega)
      subst ha
      refine SW.run [] _ ?_
      by_cases h0 : b = 0
      · have g0 : (b != 0) = false := by simpa using h0
        simp only [wpC, mayStop, stops, isFlt, Specs.has, Specs.hasO, Bool.or_false, Specs.hasH, Bool.not_false, List.any_cons, List.any_nil, Bool.false_eq_true, ↓reduceIte, wpS, wantedA, okDst, Nat.reduceLT, decide_true, step1, isOwnCall, hxOp, px, isNilC, pbinP, AS.eval, AS.get, Lift.look, reduceCtorEq, Nat.reduceEqDiff, Int.cast_ofNat_Int, Option.getD_some, pbinI, Int.reduceLT, thenQ, isB, AS.put, dropKey, h0, tmpOf, asB, pindexAddr, ty31, ty3, ne_eq, Nat.succ_ne_zero, not_false_eq_true, Int.reduceLE, Int.reduceToNat, List.length_cons, List.length_nil, Nat.zero_add, Nat.reduceAdd, and_self, List.getD_cons_succ, List.getD_cons_zero, pload, okOne, TK.isAgg, beq_self_eq_true, Bool.or_true, Nat.le_refl, Lift.valOf, List.take_succ_cons, List.take_nil, Int.reduceBNe, inQ, ofConst, ofVal, Int.reduceAdd, implies_true, and_true, Nat.reduceSub, HTo_self, hasAll, true_and]
        exact ⟨2, by omega, by omega, rfl⟩
      · have g0 : (b != 0) = true := by simpa using h0
        simp only [wpC, mayStop, stops, isFlt, Specs.has, Specs.hasO, Bool.or_false, Specs.hasH, Bool.not_false, List.any_cons, List.any_nil, Bool.false_eq_true, ↓reduceIte, wpS, wantedA, okDst, Nat.reduceLT, decide_true, step1, isOwnCall, hxOp, px, isNilC, pbinP, AS.eval, AS.get, Lift.look, reduceCtorEq, Nat.reduceEqDiff, Int.cast_ofNat_Int, Option.getD_some, pbinI, Int.reduceLT, thenQ, isB, AS.put, dropKey, tmpOf, asB, pindexAddr, ty31, ty3, ne_eq, Nat.succ_ne_zero, not_false_eq_true, Int.reduceLE, Int.reduceToNat, List.length_cons, List.length_nil, Nat.zero_add, Nat.reduceAdd, and_self, List.getD_cons_succ, List.getD_cons_zero, pload, okOne, TK.isAgg, beq_self_eq_true, Bool.or_true, Nat.le_refl, Lift.valOf, List.take_succ_cons, List.take_nil, g0, inQ, RPost, sres, Try.results27, sresL, sres1, Option.some.injEq, Ret_fin, HTo_self, and_true, exists_eq_left']
    · have ha := ha (by omega)
      have hb := hb (by omega)
      subst ha; subst hb
      refine SW.run [] _ ?_
      simp only [wpC, mayStop, stops, isFlt, Specs.has, Specs.hasO, Bool.or_false, Specs.hasH, Bool.not_false, List.any_cons, List.any_nil, Bool.false_eq_true, ↓reduceIte, wpS, wantedA, okDst, Nat.reduceLT, decide_true, step1, isOwnCall, hxOp, px, isNilC, pbinP, AS.eval, AS.get, Lift.look, reduceCtorEq, Nat.reduceEqDiff, Int.cast_ofNat_Int, Option.getD_some, pbinI, Int.reduceLT, decide_false, thenQ, isB, AS.put, dropKey, tmpOf, asB, inQ, Try.results27, true_and]
      refine SW.run [] _ ?_
      simp only [wpC, mayStop, stops, isFlt, Specs.has, Specs.hasO, Bool.or_false, Specs.hasH, Bool.not_false, List.any_cons, List.any_nil, Bool.false_eq_true, ↓reduceIte, wpS, wantedA, okDst, Nat.reduceLT, decide_true, step1, isOwnCall, hxOp, px, AS.eval, AS.get, Lift.look, Nat.reduceEqDiff, reduceCtorEq, Option.getD_some, AS.put, dropKey, thenQ, RPost, sres, sresL, sres1, Option.some.injEq, Ret_fin, HTo_self, and_true, exists_eq_left', and_self]
noncomputable def eOr : SpecE env := ⟨27, sOr, fun args h hc => by
  unfold sOr at hc ⊢
  split at hc
  · rename_i a b; exact .inl (Or_ok a b h)
  · exact hc.elim⟩
/-- The order of two entries that wait: since when, and which of the process's offers. -/
def ord3 (s a t b : Int) : Int := if cmp3 s t = 0 then cmp3 a b else cmp3 s t
theorem Less_ok (s p a c t q b d : Int) (g g' x x' : Bool) (h : Heap) :
    SCalls env 26 [.elem [.int .i64 s, .bool g, .int .i64 p, .int .i64 a, .int .i64 c, .bool x], .elem [.int .i64 t, .bool g', .int .i64 q, .int .i64 b, .int .i64 d, .bool x']] h (Ret (.int .i64 (ord3 s a t b)) h) := by
  refine SCalls.body Try.func26 rfl rfl (by simp [Try.ntmps26]) ?_
  refine SW.seq (SW.run [] _ ?_)
  simp only [wpC, Bool.false_eq_true, ↓reduceIte, wpS, stops, wantedA, okDst, Try.ntmps26, Nat.reduceLT, decide_true, step1, isOwnCall, hxOp, px, AS.eval, ofConst, ofVal, thenQ, AS.put, enumA, Nat.zero_add, dropKey, reduceCtorEq, Nat.reduceEqDiff, true_and]
  refine SW.seq (SW.regionAny [eCmp, eOr] [[0, 1, 2, 3, 4, 5, 6, 7, 8, 9, 10, 11, 12, 13, 14, 15, 16, 17, 18, 19, 20, 21, 22]] rfl (by rfl) (by kernel_rfl) ?_)
  simp only [wpOL, wpO, LOp, List.getElem?_toArray, List.getElem?_cons_zero, okDst, Nat.reduceLT, decide_true, wantedA, ↓reduceIte, step1, isOwnCall, Bool.false_eq_true, hxOp, px, AS.eval, AS.get, Lift.look, Nat.succ_ne_zero, Option.getD_some, List.getElem?_cons_succ, AS.put, dropKey, Nat.reduceEqDiff, reduceCtorEq, pfieldAddr, fieldOf, ty63, fieldIn, ty3, Option.map_some, ne_eq, not_false_eq_true, List.drop_zero, pload, okOne, TK.isAgg, beq_self_eq_true, Bool.or_true, List.length_cons, List.length_nil, Nat.zero_add, Nat.reduceAdd, Nat.reduceLeDiff, and_self, Lift.valOf, List.take_succ_cons, List.take_zero, List.getD_cons_zero, Specs.hasO, Specs.hasH, pcall, okArg, ofConst, ofVal, List.all_cons, List.all_nil, Bool.and_true, Specs.at, eCmp, List.map_cons, List.map_nil, sCmp, ty35, List.drop_succ_cons, pbuildSlice, ty31, List.replicate, List.flatten_cons, List.flatten_nil, List.append_nil, List.cons_append, List.nil_append, pfill, PV.cells, Nat.reduceMul, splice, Nat.le_refl, List.drop_nil, okZero, Value.oneCell', known, chunk, List.take_nil, eOr, sOr, thenQ, true_and]
  refine SW.run [] _ ?_
  simp only [wpC, RPost, sres, Try.results26, sresL, sres1, AS.get, Lift.look, ↓reduceIte, Option.getD_some, Option.some.injEq, ord3, Ret_fin, HTo_self, and_true, exists_eq_left']
end Go.Proofs.Ytekgfneapofgpaa
