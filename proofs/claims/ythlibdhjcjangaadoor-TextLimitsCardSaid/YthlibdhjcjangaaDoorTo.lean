/- Contracts of functions that the law reaches. -/
import Derived.Test.YthlibdhjcjangaaDoorTn
set_option linter.unusedSimpArgs false
set_option linter.unusedVariables false
namespace Go.Proofs.YthlibdhjcjangaaDoor
open Go Go.RowKit Go.Proofs.YthlibdhjcjangaaDoor Go.Proofs.YthlibdhjcjangaaDoor.Lift
set_option maxRecDepth 100000

/-! utf8.ValidRune, text.character -/
def sValid : List PV → Prop × PV
  | [.int .i32 c] => (True, .bool (isC c))
  | _ => PBad
theorem Valid_ok (c : Int) (h : Heap) : SCalls env 48 [.int .i32 c] h (Ret (.bool (isC c)) h) := by
  refine SCalls.body Tryd.func48 rfl rfl (by simp [Tryd.ntmps48]) (SW.run [] _ ?_)
  by_cases h0 : 0 ≤ c <;> by_cases h1 : c ≤ 1114111 <;> by_cases h2 : c < 55296 <;> by_cases h3 : 57343 < c
  all_goals first
    | omega
    | simp only [wpC, mayStop, stops, isFlt, Specs.has, Specs.hasO, Bool.or_false, Specs.hasH, Bool.not_false, List.any_cons, List.any_nil, Bool.false_eq_true, ↓reduceIte, wpS, wantedA, okDst, Tryd.ntmps48, Nat.reduceLT, decide_true, step1, isOwnCall, hxOp, px, AS.eval, ofConst, ofVal, thenQ, AS.put, enumA, dropKey, reduceCtorEq, AS.get, Lift.look, Nat.succ_ne_zero, Option.getD_some, Nat.reduceEqDiff, isNilC, pbinP, pbinI, h0, List.getElem?_toArray, List.getElem?_cons_succ, List.getElem?_cons_zero, Option.bind_some, beq_self_eq_true, h2, ppick_bool, isB, tmpOf, asB, inQ, RPost, sres, Tryd.results48, sresL, sres1, Option.some.injEq, isC, h1, h3, or_false, and_self, Ret_fin, HTo_self, and_true, exists_eq_left', decide_false, or_true, beq_ft, ppick_false, or_self, and_false]
noncomputable def eValid : SpecE env := ⟨48, sValid, fun args h hc => by
  unfold sValid at hc ⊢
  split at hc
  · rename_i c; exact .inl (Valid_ok c h)
  · exact hc.elim⟩
def sCharacter : List PV → Prop × PV
  | [.int .i64 c] => (True, .bool (isC c))
  | _ => PBad
theorem Character_ok (c : Int) (h : Heap) : SCalls env 32 [.int .i64 c] h (Ret (.bool (isC c)) h) := by
  refine SCalls.body Tryd.func32 rfl rfl (by simp [Tryd.ntmps32]) (SW.run [eValid] _ ?_)
  by_cases h0 : 0 ≤ c
  · by_cases h1 : c ≤ 1114111
    · simp only [wpC, mayStop, stops, isFlt, Specs.has, eValid, Specs.hasO, Bool.or_false, Specs.hasH, List.any_cons, List.any_nil, Bool.false_eq_true, ↓reduceIte, wpS, wantedA, okDst, Tryd.ntmps32, Nat.reduceLT, decide_true, step1, isOwnCall, hxOp, px, AS.eval, ofConst, ofVal, thenQ, Bool.not_true, AS.put, enumA, dropKey, reduceCtorEq, AS.get, Lift.look, Nat.succ_ne_zero, Option.getD_some, Nat.reduceEqDiff, isNilC, pbinP, pbinI, h0, List.getElem?_toArray, List.getElem?_cons_succ, List.getElem?_cons_zero, Option.bind_some, beq_self_eq_true, h1, ppick_bool, ty3, ty21, pconvH, pconv, pcall, okArg, List.all_cons, List.all_nil, Bool.and_true, Specs.at, List.map_cons, List.map_nil, sValid, and_self, RPost, sres, Tryd.results32, sresL, sres1, Option.some.injEq, Ret_fin, HTo_self, and_true, exists_eq_left', true_and]
      rw [w32 (by omega) (by omega)]
    · have hn : isC c = false := by unfold isC; rw [decide_eq_false_iff_not]; omega
      simp only [wpC, mayStop, stops, isFlt, Specs.has, eValid, Specs.hasO, Bool.or_false, Specs.hasH, List.any_cons, List.any_nil, Bool.false_eq_true, ↓reduceIte, wpS, wantedA, okDst, Tryd.ntmps32, Nat.reduceLT, decide_true, step1, isOwnCall, hxOp, px, AS.eval, ofConst, ofVal, thenQ, Bool.not_true, AS.put, enumA, dropKey, reduceCtorEq, AS.get, Lift.look, Nat.succ_ne_zero, Option.getD_some, Nat.reduceEqDiff, isNilC, pbinP, pbinI, h0, List.getElem?_toArray, List.getElem?_cons_succ, List.getElem?_cons_zero, Option.bind_some, beq_self_eq_true, h1, decide_false, ppick_bool, beq_ft, Option.some.injEq, ppick_false, RPost, sres, Tryd.results32, sresL, sres1, hn, Ret_fin, HTo_self, and_true, exists_eq_left', and_self]
  · have hn : isC c = false := by unfold isC; rw [decide_eq_false_iff_not]; omega
    simp only [wpC, mayStop, stops, isFlt, Specs.has, eValid, Specs.hasO, Bool.or_false, Specs.hasH, List.any_cons, List.any_nil, Bool.false_eq_true, ↓reduceIte, wpS, wantedA, okDst, Tryd.ntmps32, Nat.reduceLT, decide_true, step1, isOwnCall, hxOp, px, AS.eval, ofConst, ofVal, thenQ, Bool.not_true, AS.put, enumA, dropKey, reduceCtorEq, AS.get, Lift.look, Nat.succ_ne_zero, Option.getD_some, Nat.reduceEqDiff, isNilC, pbinP, pbinI, h0, decide_false, List.getElem?_toArray, List.getElem?_cons_succ, List.getElem?_cons_zero, Option.bind_some, beq_ft, Option.some.injEq, ppick_false, RPost, sres, Tryd.results32, sresL, sres1, hn, Ret_fin, HTo_self, and_true, exists_eq_left', and_self]
noncomputable def eCharacter : SpecE env := ⟨32, sCharacter, fun args h hc => by
  unfold sCharacter at hc ⊢
  split at hc
  · rename_i c; exact .inl (Character_ok c h)
  · exact hc.elim⟩
end Go.Proofs.YthlibdhjcjangaaDoor
