/- Contracts of functions that the law reaches. -/
import Derived.Test.YthlibdhjcjangaaDoorTj
set_option linter.unusedSimpArgs false
set_option linter.unusedVariables false
namespace Go.Proofs.YthlibdhjcjangaaDoor
open Go Go.RowKit Go.Proofs.YthlibdhjcjangaaDoor Go.Proofs.YthlibdhjcjangaaDoor.Lift
set_option maxRecDepth 100000

/-! cmp.Compare -/
def cmp1 (a b : Int) : Int := if a < b then -1 else if b < a then 1 else 0
def sNaN : List PV → Prop × PV
  | [.int _ _] => (True, .bool false)
  | _ => PBad
theorem isNaN50_ok (k : IntKind) (a : Int) (h : Heap) : SCalls env 52 [.int k a] h (Ret (.bool false) h) := by
  refine SCalls.body Tryd.func52 rfl rfl (by simp [Tryd.ntmps52]) (SW.run [] _ ?_)
  simp only [wpC, mayStop, stops, isFlt, Specs.has, Specs.hasO, Bool.or_false, Specs.hasH, Bool.not_false, List.any_cons, List.any_nil, Bool.false_eq_true, ↓reduceIte, wpS, wantedA, okDst, Tryd.ntmps52, Nat.reduceLT, decide_true, step1, isOwnCall, hxOp, px, AS.eval, ofConst, ofVal, thenQ, AS.put, enumA, dropKey, reduceCtorEq, AS.get, Lift.look, Nat.succ_ne_zero, Option.getD_some, Nat.reduceEqDiff, isNilC, pbinP, pbinI, bne_self_eq_false, RPost, sres, Tryd.results52, sresL, sres1, Option.some.injEq, Ret_fin, HTo_self, and_true, exists_eq_left', and_self]
noncomputable def eNaN50 : SpecE env := ⟨52, sNaN, fun args h hc => by
  unfold sNaN at hc ⊢
  split at hc
  · rename_i k a; exact .inl (isNaN50_ok k a h)
  · exact hc.elim⟩
theorem isNaN51_ok (k : IntKind) (a : Int) (h : Heap) : SCalls env 53 [.int k a] h (Ret (.bool false) h) := by
  refine SCalls.body Tryd.func53 rfl rfl (by simp [Tryd.ntmps53]) (SW.run [] _ ?_)
  simp only [wpC, mayStop, stops, isFlt, Specs.has, Specs.hasO, Bool.or_false, Specs.hasH, Bool.not_false, List.any_cons, List.any_nil, Bool.false_eq_true, ↓reduceIte, wpS, wantedA, okDst, Tryd.ntmps53, Nat.reduceLT, decide_true, step1, isOwnCall, hxOp, px, AS.eval, ofConst, ofVal, thenQ, AS.put, enumA, dropKey, reduceCtorEq, AS.get, Lift.look, Nat.succ_ne_zero, Option.getD_some, Nat.reduceEqDiff, isNilC, pbinP, pbinI, bne_self_eq_false, RPost, sres, Tryd.results53, sresL, sres1, Option.some.injEq, Ret_fin, HTo_self, and_true, exists_eq_left', and_self]
noncomputable def eNaN51 : SpecE env := ⟨53, sNaN, fun args h hc => by
  unfold sNaN at hc ⊢
  split at hc
  · rename_i k a; exact .inl (isNaN51_ok k a h)
  · exact hc.elim⟩
def sCmp32 : List PV → Prop × PV
  | [.int .i32 a, .int .i32 b] => (True, .int .i64 (cmp1 a b))
  | _ => PBad
def sCmp64 : List PV → Prop × PV
  | [.int .i64 a, .int .i64 b] => (True, .int .i64 (cmp1 a b))
  | _ => PBad
theorem Cmp32_ok (a b : Int) (h : Heap) : SCalls env 38 [.int .i32 a, .int .i32 b] h (Ret (.int .i64 (cmp1 a b)) h) := by
  refine SCalls.body Tryd.func38 rfl rfl (by simp [Tryd.ntmps38]) (SW.run [eNaN50] _ ?_)
  by_cases h1 : a < b
  · simp only [wpC, mayStop, stops, isFlt, Specs.has, eNaN50, Specs.hasO, Bool.or_false, Specs.hasH, List.any_cons, List.any_nil, Bool.false_eq_true, ↓reduceIte, wpS, wantedA, okDst, Tryd.ntmps38, Nat.reduceLT, decide_true, step1, isOwnCall, hxOp, px, AS.eval, ofConst, ofVal, thenQ, Bool.not_true, AS.put, enumA, Nat.zero_add, dropKey, reduceCtorEq, Nat.reduceEqDiff, AS.get, Lift.look, Nat.succ_ne_zero, Option.getD_some, pcall, okArg, List.all_cons, List.all_nil, Bool.and_true, Specs.at, List.map_cons, List.map_nil, sNaN, and_self, isB, tmpOf, asB, isNilC, pbinP, pbinI, h1, RPost, sres, Tryd.results38, sresL, sres1, Option.some.injEq, cmp1, Ret_fin, HTo_self, and_true, exists_eq_left']
  · by_cases h2 : b < a <;> simp only [wpC, mayStop, stops, isFlt, Specs.has, eNaN50, Specs.hasO, Bool.or_false, Specs.hasH, List.any_cons, List.any_nil, Bool.false_eq_true, ↓reduceIte, wpS, wantedA, okDst, Tryd.ntmps38, Nat.reduceLT, decide_true, step1, isOwnCall, hxOp, px, AS.eval, ofConst, ofVal, thenQ, Bool.not_true, AS.put, enumA, Nat.zero_add, dropKey, reduceCtorEq, Nat.reduceEqDiff, AS.get, Lift.look, Nat.succ_ne_zero, Option.getD_some, pcall, okArg, List.all_cons, List.all_nil, Bool.and_true, Specs.at, List.map_cons, List.map_nil, sNaN, and_self, isB, tmpOf, asB, isNilC, pbinP, pbinI, h1, decide_false, h2, RPost, sres, Tryd.results38, sresL, sres1, Option.some.injEq, cmp1, Ret_fin, HTo_self, and_true, exists_eq_left']
noncomputable def eCmp32 : SpecE env := ⟨38, sCmp32, fun args h hc => by
  unfold sCmp32 at hc ⊢
  split at hc
  · rename_i a b; exact .inl (Cmp32_ok a b h)
  · exact hc.elim⟩
theorem Cmp64_ok (a b : Int) (h : Heap) : SCalls env 40 [.int .i64 a, .int .i64 b] h (Ret (.int .i64 (cmp1 a b)) h) := by
  refine SCalls.body Tryd.func40 rfl rfl (by simp [Tryd.ntmps40]) (SW.run [eNaN51] _ ?_)
  by_cases h1 : a < b
  · simp only [wpC, mayStop, stops, isFlt, Specs.has, eNaN51, Specs.hasO, Bool.or_false, Specs.hasH, List.any_cons, List.any_nil, Bool.false_eq_true, ↓reduceIte, wpS, wantedA, okDst, Tryd.ntmps40, Nat.reduceLT, decide_true, step1, isOwnCall, hxOp, px, AS.eval, ofConst, ofVal, thenQ, Bool.not_true, AS.put, enumA, Nat.zero_add, dropKey, reduceCtorEq, Nat.reduceEqDiff, AS.get, Lift.look, Nat.succ_ne_zero, Option.getD_some, pcall, okArg, List.all_cons, List.all_nil, Bool.and_true, Specs.at, List.map_cons, List.map_nil, sNaN, and_self, isB, tmpOf, asB, isNilC, pbinP, pbinI, h1, RPost, sres, Tryd.results40, sresL, sres1, Option.some.injEq, cmp1, Ret_fin, HTo_self, and_true, exists_eq_left']
  · by_cases h2 : b < a <;> simp only [wpC, mayStop, stops, isFlt, Specs.has, eNaN51, Specs.hasO, Bool.or_false, Specs.hasH, List.any_cons, List.any_nil, Bool.false_eq_true, ↓reduceIte, wpS, wantedA, okDst, Tryd.ntmps40, Nat.reduceLT, decide_true, step1, isOwnCall, hxOp, px, AS.eval, ofConst, ofVal, thenQ, Bool.not_true, AS.put, enumA, Nat.zero_add, dropKey, reduceCtorEq, Nat.reduceEqDiff, AS.get, Lift.look, Nat.succ_ne_zero, Option.getD_some, pcall, okArg, List.all_cons, List.all_nil, Bool.and_true, Specs.at, List.map_cons, List.map_nil, sNaN, and_self, isB, tmpOf, asB, isNilC, pbinP, pbinI, h1, decide_false, h2, RPost, sres, Tryd.results40, sresL, sres1, Option.some.injEq, cmp1, Ret_fin, HTo_self, and_true, exists_eq_left']
noncomputable def eCmp64 : SpecE env := ⟨40, sCmp64, fun args h hc => by
  unfold sCmp64 at hc ⊢
  split at hc
  · rename_i a b; exact .inl (Cmp64_ok a b h)
  · exact hc.elim⟩
end Go.Proofs.YthlibdhjcjangaaDoor
