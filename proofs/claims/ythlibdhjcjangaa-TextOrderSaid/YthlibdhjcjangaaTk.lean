/- Contracts of functions that the law reaches. -/
import Derived.Test.YthlibdhjcjangaaTj
set_option linter.unusedSimpArgs false
set_option linter.unusedVariables false
namespace Go.Proofs.Ythlibdhjcjangaa
open Go Go.RowKit Go.Proofs.Ythlibdhjcjangaa Go.Proofs.Ythlibdhjcjangaa.Lift

/-! cmp.Compare -/
def cmp1 (a b : Int) : Int := if a < b then -1 else if b < a then 1 else 0
def sNaN : List PV → Prop × PV
  | [.int _ _] => (True, .bool false)
  | _ => PBad
theorem isNaN50_ok (k : IntKind) (a : Int) (h : Heap) : SCalls env 50 [.int k a] h (Ret (.bool false) h) := by
  refine SCalls.body Try.func50 rfl rfl (by simp [Try.ntmps50]) (SW.run [] _ ?_)
  simp only [wpC, mayStop, stops, Specs.has, Bool.not_false, List.any_cons, List.any_nil, Bool.or_false, Bool.false_eq_true, ↓reduceIte, wpS, wantedA, okDst, Try.ntmps50, Nat.reduceLT, decide_true, step1, hxOp, px, AS.eval, ofConst, ofVal, thenQ, AS.put, enumA, dropKey, reduceCtorEq, AS.get, Lift.look, Nat.succ_ne_zero, Option.getD_some, Nat.reduceEqDiff, pbinP, pbinI, bne_self_eq_false, RPost, sres, Try.results50, sresL, sres1, Option.some.injEq, Ret_fin, HTo_self, and_true, exists_eq_left', and_self]
noncomputable def eNaN50 : SpecE env := ⟨50, sNaN, fun args h hc => by
  unfold sNaN at hc ⊢
  split at hc
  · rename_i k a; exact .inl (isNaN50_ok k a h)
  · exact hc.elim⟩
theorem isNaN51_ok (k : IntKind) (a : Int) (h : Heap) : SCalls env 51 [.int k a] h (Ret (.bool false) h) := by
  refine SCalls.body Try.func51 rfl rfl (by simp [Try.ntmps51]) (SW.run [] _ ?_)
  simp only [wpC, mayStop, stops, Specs.has, Bool.not_false, List.any_cons, List.any_nil, Bool.or_false, Bool.false_eq_true, ↓reduceIte, wpS, wantedA, okDst, Try.ntmps51, Nat.reduceLT, decide_true, step1, hxOp, px, AS.eval, ofConst, ofVal, thenQ, AS.put, enumA, dropKey, reduceCtorEq, AS.get, Lift.look, Nat.succ_ne_zero, Option.getD_some, Nat.reduceEqDiff, pbinP, pbinI, bne_self_eq_false, RPost, sres, Try.results51, sresL, sres1, Option.some.injEq, Ret_fin, HTo_self, and_true, exists_eq_left', and_self]
noncomputable def eNaN51 : SpecE env := ⟨51, sNaN, fun args h hc => by
  unfold sNaN at hc ⊢
  split at hc
  · rename_i k a; exact .inl (isNaN51_ok k a h)
  · exact hc.elim⟩
def sCmp32 : List PV → Prop × PV
  | [.int .i32 a, .int .i32 b] => (True, .int .i64 (cmp1 a b))
  | _ => PBad
def sCmp64 : List PV → Prop × PV
  | [.int .i64 a, .int .i64 b] => (True, .int .i64 (cmp1 a b))
  | _ => PBad
theorem Cmp32_ok (a b : Int) (h : Heap) : SCalls env 38 [.int .i32 a, .int .i32 b] h (Ret (.int .i64 (cmp1 a b)) h) := by
  refine SCalls.body Try.func38 rfl rfl (by simp [Try.ntmps38]) (SW.run [eNaN50] _ ?_)
  by_cases h1 : a < b
  · simp only [wpC, mayStop, stops, Specs.has, eNaN50, List.any_cons, List.any_nil, Bool.or_false, Bool.false_eq_true, ↓reduceIte, wpS, wantedA, okDst, Try.ntmps38, Nat.reduceLT, decide_true, step1, hxOp, px, AS.eval, ofConst, ofVal, thenQ, Bool.not_true, AS.put, enumA, Nat.zero_add, dropKey, reduceCtorEq, Nat.reduceEqDiff, AS.get, Lift.look, Nat.succ_ne_zero, Option.getD_some, pcall, okArg, List.all_cons, List.all_nil, Bool.and_true, Specs.at, List.map_cons, List.map_nil, sNaN, and_self, isB, tmpOf, asB, pbinP, pbinI, h1, RPost, sres, Try.results38, sresL, sres1, Option.some.injEq, cmp1, Ret_fin, HTo_self, and_true, exists_eq_left']
  · by_cases h2 : b < a <;> simp only [wpC, mayStop, stops, Specs.has, eNaN50, List.any_cons, List.any_nil, Bool.or_false, Bool.false_eq_true, ↓reduceIte, wpS, wantedA, okDst, Try.ntmps38, Nat.reduceLT, decide_true, step1, hxOp, px, AS.eval, ofConst, ofVal, thenQ, Bool.not_true, AS.put, enumA, Nat.zero_add, dropKey, reduceCtorEq, Nat.reduceEqDiff, AS.get, Lift.look, Nat.succ_ne_zero, Option.getD_some, pcall, okArg, List.all_cons, List.all_nil, Bool.and_true, Specs.at, List.map_cons, List.map_nil, sNaN, and_self, isB, tmpOf, asB, pbinP, pbinI, h1, decide_false, h2, RPost, sres, Try.results38, sresL, sres1, Option.some.injEq, cmp1, Ret_fin, HTo_self, and_true, exists_eq_left']
noncomputable def eCmp32 : SpecE env := ⟨38, sCmp32, fun args h hc => by
  unfold sCmp32 at hc ⊢
  split at hc
  · rename_i a b; exact .inl (Cmp32_ok a b h)
  · exact hc.elim⟩
theorem Cmp64_ok (a b : Int) (h : Heap) : SCalls env 39 [.int .i64 a, .int .i64 b] h (Ret (.int .i64 (cmp1 a b)) h) := by
  refine SCalls.body Try.func39 rfl rfl (by simp [Try.ntmps39]) (SW.run [eNaN51] _ ?_)
  by_cases h1 : a < b
  · simp only [wpC, mayStop, stops, Specs.has, eNaN51, List.any_cons, List.any_nil, Bool.or_false, Bool.false_eq_true, ↓reduceIte, wpS, wantedA, okDst, Try.ntmps39, Nat.reduceLT, decide_true, step1, hxOp, px, AS.eval, ofConst, ofVal, thenQ, Bool.not_true, AS.put, enumA, Nat.zero_add, dropKey, reduceCtorEq, Nat.reduceEqDiff, AS.get, Lift.look, Nat.succ_ne_zero, Option.getD_some, pcall, okArg, List.all_cons, List.all_nil, Bool.and_true, Specs.at, List.map_cons, List.map_nil, sNaN, and_self, isB, tmpOf, asB, pbinP, pbinI, h1, RPost, sres, Try.results39, sresL, sres1, Option.some.injEq, cmp1, Ret_fin, HTo_self, and_true, exists_eq_left']
  · by_cases h2 : b < a <;> simp only [wpC, mayStop, stops, Specs.has, eNaN51, List.any_cons, List.any_nil, Bool.or_false, Bool.false_eq_true, ↓reduceIte, wpS, wantedA, okDst, Try.ntmps39, Nat.reduceLT, decide_true, step1, hxOp, px, AS.eval, ofConst, ofVal, thenQ, Bool.not_true, AS.put, enumA, Nat.zero_add, dropKey, reduceCtorEq, Nat.reduceEqDiff, AS.get, Lift.look, Nat.succ_ne_zero, Option.getD_some, pcall, okArg, List.all_cons, List.all_nil, Bool.and_true, Specs.at, List.map_cons, List.map_nil, sNaN, and_self, isB, tmpOf, asB, pbinP, pbinI, h1, decide_false, h2, RPost, sres, Try.results39, sresL, sres1, Option.some.injEq, cmp1, Ret_fin, HTo_self, and_true, exists_eq_left']
noncomputable def eCmp64 : SpecE env := ⟨39, sCmp64, fun args h hc => by
  unfold sCmp64 at hc ⊢
  split at hc
  · rename_i a b; exact .inl (Cmp64_ok a b h)
  · exact hc.elim⟩
end Go.Proofs.Ythlibdhjcjangaa
