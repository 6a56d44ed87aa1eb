/- Contracts of functions that the law reaches. -/
import Derived.Test.YthlibdhjcjangaaDoorU5
set_option linter.unusedSimpArgs false
set_option linter.unusedVariables false
namespace Go.Proofs.YthlibdhjcjangaaDoor
open Go Go.RowKit Go.Proofs.YthlibdhjcjangaaDoor Go.Proofs.YthlibdhjcjangaaDoor.Lift
set_option maxRecDepth 100000

theorem unquote_chars (s : List UInt8) : okChars (unquoteS s).1 := by
  unfold unquoteS
  split
  · exact unqS_ok s _ _ _ (fun c hc => by cases hc)
  · intro c hc; cases hc
theorem unquote_len (s : List UInt8) : (unquoteS s).1.length ≤ s.length := by
  unfold unquoteS
  split
  · have := unqS_len s s.length 1 []
    simpa using this
  · simp
/-! TextUnquotes -/
theorem TextUnquotes_ok (s : List UInt8) (h : Heap) : SCalls env 3 [.str s] h (Ret (.bool true) h) := by
  refine SCalls.body Tryd.func3 rfl rfl (by simp [Tryd.ntmps3]) ?_
  refine SW.run [eAwake, eUnquote, eUnquoteR, eIsS] _ ?_
  by_cases hl : 1000 < s.length
  · have hI : (1000 : Int) < s.length := by omega
    simp only [wpC, mayStop, stops, isFlt, Specs.has, eAwake, Specs.hasO, Bool.or_false, Specs.hasH, List.any_cons, List.any_nil, Bool.false_eq_true, ↓reduceIte, wpS, wantedA, okDst, Tryd.ntmps3, Nat.reduceLT, decide_true, step1, isOwnCall, hxOp, px, AS.eval, ofConst, ofVal, thenQ, Bool.not_true, AS.put, enumA, dropKey, reduceCtorEq, pcall, okArg, AS.get, Lift.look, List.all_nil, Specs.at, List.map_nil, sAwake, and_self, Nat.reduceEqDiff, pun, Option.getD_some, isB, tmpOf, asB, Nat.succ_ne_zero, ty9, plen, okLen, isNilC, pbinP, pbinI, hI, RPost, sres, Tryd.results3, sresL, sres1, Option.some.injEq, Ret_fin, HTo_self, and_true, exists_eq_left']
  · have hI : ¬ (1000 : Int) < s.length := by omega
    have h1 : s.length ≤ 1000000000 := by omega
    have hc := unquote_chars s
    have hn := unquote_len s
    have hn2 : (unquoteS s).1.length ≤ 100000000 := by omega
    simp only [wpC, mayStop, stops, isFlt, Specs.has, eAwake, eUnquote, eUnquoteR, eIsS, Specs.hasO, Bool.or_false, Specs.hasH, List.any_cons, List.any_nil, Bool.false_eq_true, ↓reduceIte, wpS, wantedA, okDst, Tryd.ntmps3, Nat.reduceLT, decide_true, step1, isOwnCall, hxOp, px, AS.eval, ofConst, ofVal, thenQ, Bool.not_true, AS.put, enumA, dropKey, reduceCtorEq, pcall, okArg, AS.get, Lift.look, List.all_nil, Specs.at, List.map_nil, sAwake, and_self, Nat.reduceEqDiff, pun, Option.getD_some, isB, tmpOf, asB, Nat.succ_ne_zero, ty9, plen, okLen, isNilC, pbinP, pbinI, hI, decide_false, List.all_cons, Bool.and_true, List.map_cons, sUnquote, h1, unqV, List.getElem?_cons_zero, List.getElem?_cons_succ, okAlloc, ty24, okZero, Value.oneCell', hx, zeroOf, List.length_cons, List.length_nil, Nat.zero_add, Nat.reduceAdd, Heap.get_put, known1, PV.cells, Nat.le_refl, splice, List.take_zero, List.nil_append, List.drop_succ_cons, List.drop_nil, List.append_nil, sUnquoteR, beq_self_eq_true, List.getElem?_toArray, Option.bind_some, ppick_bool, pload, okOne, TK.isAgg, Nat.reduceBEq, Lift.valOf, List.drop_zero, List.take_succ_cons, List.take_nil, sIsS, unI_elI, hc, hn2, RPost, sres, Tryd.results3, sresL, sres1, Option.some.injEq, Ret_fin, exists_eq_left', true_and]
    intro r hr
    trace_state
    exact HTo_new hr
end Go.Proofs.YthlibdhjcjangaaDoor
