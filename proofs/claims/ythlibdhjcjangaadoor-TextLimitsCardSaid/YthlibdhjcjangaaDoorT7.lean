/- Contracts of functions that the law reaches. -/
import Derived.Test.YthlibdhjcjangaaDoorT6
set_option linter.unusedSimpArgs false
set_option linter.unusedVariables false
namespace Go.Proofs.YthlibdhjcjangaaDoor
open Go Go.RowKit Go.Proofs.YthlibdhjcjangaaDoor Go.Proofs.YthlibdhjcjangaaDoor.Lift
set_option maxRecDepth 100000

theorem runesAt_len (s : ByteArray) : ∀ n i, (runesAt s n i).length ≤ n
  | 0, _ => Nat.le_refl _
  | n + 1, i => by
    unfold runesAt
    split
    · simp only [List.length_cons]
      exact Nat.succ_le_succ (runesAt_len s n _)
    · exact Nat.zero_le _
theorem runesOf_len (l : List UInt8) : (runesOf l).length ≤ l.length := runesAt_len _ _ _
def strV (ns : List Int) : PV := .agg [.str (packL ns), .bool (anyWide ns)]
def sOf : List PV → Prop × PV
  | [.str s] => (s.length ≤ 70368744177664 ∧ (runesOf s).length ≤ 65536, .tuple [strV (runesOf s), .int .i64 0])
  | _ => PBad
theorem map_elR (ns : List Int) : (ns.map fun n => [PV.int .i32 n]) = elR ns := rfl
theorem Of_ok (s : List UInt8) (h : Heap) (h1 : s.length ≤ 70368744177664) (h2 : (runesOf s).length ≤ 65536) : SCalls env 12 [.str s] h (Ret (.tuple [strV (runesOf s), .int .i64 0]) h) := by
  refine SCalls.body Tryd.func12 rfl rfl (by simp [Tryd.ntmps12]) (SW.run [ePack] _ ?_)
  have hng : ¬ (65536 : Int) < ((runesOf s).length : Int) := by omega
  simp only [wpC, mayStop, stops, isFlt, Specs.has, ePack, Specs.hasO, Bool.or_false, Specs.hasH, List.any_cons, List.any_nil, Bool.false_eq_true, ↓reduceIte, wpS, wantedA, okDst, Tryd.ntmps12, Nat.reduceLT, decide_true, step1, okAlloc, ty24, okZero, List.all_cons, Value.oneCell', List.all_nil, Bool.and_true, AS.put, enumA, dropKey, reduceCtorEq, isOwnCall, hxOp, px, AS.eval, ofConst, ofVal, thenQ, Nat.reduceEqDiff, zeroOf, List.map_cons, List.map_nil, List.length_cons, List.length_nil, Nat.zero_add, Nat.reduceAdd, AS.get, Lift.look, Nat.succ_ne_zero, Option.getD_some, ty9, ty56, pconvH, pconv, ty21, h1, map_elR, pcall, plen, elR_len, okLen, and_self, isNilC, pbinP, pbinI, hng, decide_false, isB, tmpOf, asB, Bool.not_true, okArg, Specs.at, sPack, unR_elR, true_and, hx, Heap.get_put, known1, PV.cells, Nat.le_refl, splice, List.take_zero, List.nil_append, List.drop_succ_cons, List.drop_nil, List.append_nil, RPost, sres, Tryd.results12, sresL, sres1, okOne, TK.isAgg, Nat.reduceBEq, Lift.valOf, List.drop_zero, List.take_succ_cons, List.take_nil, Option.some.injEq, Ret_fin, exists_eq_left']
  intro r hr
  exact ⟨by omega, rfl, HTo.put2 _ _ hr hr⟩
noncomputable def eOf : SpecE env := ⟨12, sOf, fun args h hc => by
  unfold sOf at hc ⊢
  split at hc
  · rename_i s; exact .inl (Of_ok s h hc.1 hc.2)
  · exact hc.elim⟩
def sText : List PV → Prop × PV
  | [.agg [.str l, .bool w]] => (l.length ≤ 1000000000, .str ((charsS l w).flatMap encL))
  | _ => PBad
theorem Text_ok (l : List UInt8) (w : Bool) (h : Heap) (hl : l.length ≤ 1000000000) : SCalls env 18 [.agg [.str l, .bool w]] h (Ret (.str ((charsS l w).flatMap encL)) h) := by
  refine SCalls.body Tryd.func18 rfl rfl (by simp [Tryd.ntmps18]) (SW.run [eRunes] _ ?_)
  simp only [wpC, mayStop, stops, isFlt, Specs.has, eRunes, Specs.hasO, Bool.or_false, Specs.hasH, List.any_cons, List.any_nil, Bool.false_eq_true, ↓reduceIte, wpS, wantedA, okDst, Tryd.ntmps18, Nat.reduceLT, decide_true, step1, known1, AS.eval, AS.get, enumA, Lift.look, Option.getD_some, AS.put, dropKey, reduceCtorEq, isOwnCall, hxOp, px, ofConst, ofVal, thenQ, Bool.not_true, Nat.reduceEqDiff, PV.cells, List.length_cons, List.length_nil, Nat.zero_add, Nat.reduceAdd, pload, ty24, Heap.get_put, okOne, TK.isAgg, Nat.reduceBEq, Nat.le_refl, and_self, Lift.valOf, List.drop_zero, List.take_succ_cons, List.take_nil, pcall, okArg, List.all_cons, List.all_nil, Bool.and_true, Specs.at, List.map_cons, List.map_nil, sRunes, true_and, ty56, ty9, pconvH, pconv, ty21, unR_elR, RPost, sres, Tryd.results18, sresL, sres1, Option.some.injEq, Ret_fin, exists_eq_left']
  intro r hr
  exact ⟨hl, HTo.put (.refl _ _) hr _⟩
noncomputable def eText : SpecE env := ⟨18, sText, fun args h hc => by
  unfold sText at hc ⊢
  split at hc
  · rename_i l w; exact .inl (Text_ok l w h hc)
  · exact hc.elim⟩
def sWide : List PV → Prop × PV
  | [.agg [.str _, .bool w]] => (True, .bool w)
  | _ => PBad
theorem Wide_ok (l : List UInt8) (w : Bool) (h : Heap) : SCalls env 17 [.agg [.str l, .bool w]] h (Ret (.bool w) h) := by
  refine SCalls.body Tryd.func17 rfl rfl (by simp [Tryd.ntmps17]) (SW.run [] _ ?_)
  simp only [wpC, mayStop, stops, isFlt, Specs.has, Specs.hasO, Bool.or_false, Specs.hasH, Bool.not_false, List.any_cons, List.any_nil, Bool.false_eq_true, ↓reduceIte, wpS, wantedA, okDst, Tryd.ntmps17, Nat.reduceLT, decide_true, step1, known1, AS.eval, AS.get, enumA, Lift.look, Option.getD_some, AS.put, dropKey, reduceCtorEq, isOwnCall, hxOp, px, ofConst, ofVal, thenQ, Nat.reduceEqDiff, PV.cells, List.length_cons, List.length_nil, Nat.zero_add, Nat.reduceAdd, pfieldAddr, fieldOf, ty24, fieldIn, List.getElem?_cons_succ, List.getElem?_cons_zero, ty4, Option.map_some, ne_eq, Nat.succ_ne_zero, not_false_eq_true, pload, Heap.get_put, okOne, TK.isAgg, beq_self_eq_true, Bool.or_true, Nat.le_refl, and_self, Lift.valOf, List.drop_succ_cons, List.drop_zero, List.take_succ_cons, List.take_nil, List.getD_cons_zero, RPost, sres, Tryd.results17, sresL, sres1, Option.some.injEq, Ret_fin, exists_eq_left', true_and]
  intro r hr
  exact HTo.put (.refl _ _) hr _
noncomputable def eWide : SpecE env := ⟨17, sWide, fun args h hc => by
  unfold sWide at hc ⊢
  split at hc
  · rename_i l w; exact .inl (Wide_ok l w h)
  · exact hc.elim⟩
theorem charS_range (l : List UInt8) (w : Bool) (i : Nat) : -2147483648 ≤ charS l w i ∧ charS l w i < 2147483648 := by
  unfold charS
  split
  · exact w32_range _
  · have := byte_lt (l.getD i 0)
    omega
/-- A character that is asked. -/
def atS (l : List UInt8) (w : Bool) (i : Int) : PV := if i < 0 ∨ (lenS l w : Int) ≤ i then .tuple [.int .i64 0, .int .i64 11] else .tuple [.int .i64 (charS l w i.toNat), .int .i64 0]
def sAt : List PV → Prop × PV
  | [.agg [.str l, .bool w], .int .i64 i] => (l.length ≤ 1000000000, atS l w i)
  | _ => PBad
theorem At_ok (l : List UInt8) (w : Bool) (i : Int) (h : Heap) (hl : l.length ≤ 1000000000) : SCalls env 19 [.agg [.str l, .bool w], .int .i64 i] h (Ret (atS l w i) h) := by
  refine SCalls.body Tryd.func19 rfl rfl (by simp [Tryd.ntmps19]) (SW.run [eLen, eChar] _ ?_)
  by_cases h0 : i < 0
  · simp only [wpC, mayStop, stops, isFlt, Specs.has, eLen, eChar, Specs.hasO, Bool.or_false, Specs.hasH, List.any_cons, List.any_nil, Bool.false_eq_true, ↓reduceIte, wpS, wantedA, okDst, Tryd.ntmps19, Nat.reduceLT, decide_true, step1, known1, AS.eval, AS.get, enumA, Nat.zero_add, Lift.look, Option.getD_some, AS.put, dropKey, reduceCtorEq, Nat.reduceEqDiff, isOwnCall, hxOp, px, ofConst, ofVal, PV.cells, List.length_cons, List.length_nil, Nat.reduceAdd, thenQ, Bool.not_true, isNilC, pbinP, pbinI, h0, List.getElem?_toArray, List.getElem?_cons_succ, List.getElem?_cons_zero, Option.bind_some, beq_tf, Option.some.injEq, ppick_true, isB, tmpOf, asB, RPost, sres, Tryd.results19, sresL, sres1, atS, true_or, Ret_fin, exists_eq_left', true_and]
    intro r hr
    exact HTo.put (.refl _ _) hr _
  · by_cases h1 : (lenS l w : Int) ≤ i
    · simp only [wpC, mayStop, stops, isFlt, Specs.has, eLen, eChar, Specs.hasO, Bool.or_false, Specs.hasH, List.any_cons, List.any_nil, Bool.false_eq_true, ↓reduceIte, wpS, wantedA, okDst, Tryd.ntmps19, Nat.reduceLT, decide_true, step1, known1, AS.eval, AS.get, enumA, Nat.zero_add, Lift.look, Option.getD_some, AS.put, dropKey, reduceCtorEq, Nat.reduceEqDiff, isOwnCall, hxOp, px, ofConst, ofVal, PV.cells, List.length_cons, List.length_nil, Nat.reduceAdd, thenQ, Bool.not_true, isNilC, pbinP, pbinI, h0, decide_false, List.getElem?_toArray, List.getElem?_cons_succ, List.getElem?_cons_zero, Option.bind_some, beq_self_eq_true, pload, ty24, Heap.get_put, okOne, TK.isAgg, Nat.reduceBEq, Nat.le_refl, and_self, Lift.valOf, List.drop_zero, List.take_succ_cons, List.take_nil, pcall, okArg, List.all_cons, List.all_nil, Bool.and_true, Specs.at, List.map_cons, List.map_nil, sLen, true_and, h1, ppick_bool, isB, tmpOf, asB, RPost, sres, Tryd.results19, sresL, sres1, Option.some.injEq, atS, or_true, Ret_fin, exists_eq_left']
      intro r hr
      exact ⟨hl, HTo.put (.refl _ _) hr _⟩
    · simp only [wpC, mayStop, stops, isFlt, Specs.has, eLen, eChar, Specs.hasO, Bool.or_false, Specs.hasH, List.any_cons, List.any_nil, Bool.false_eq_true, ↓reduceIte, wpS, wantedA, okDst, Tryd.ntmps19, Nat.reduceLT, decide_true, step1, known1, AS.eval, AS.get, enumA, Nat.zero_add, Lift.look, Option.getD_some, AS.put, dropKey, reduceCtorEq, Nat.reduceEqDiff, isOwnCall, hxOp, px, ofConst, ofVal, PV.cells, List.length_cons, List.length_nil, Nat.reduceAdd, thenQ, Bool.not_true, isNilC, pbinP, pbinI, h0, decide_false, List.getElem?_toArray, List.getElem?_cons_succ, List.getElem?_cons_zero, Option.bind_some, beq_self_eq_true, pload, ty24, Heap.get_put, okOne, TK.isAgg, Nat.reduceBEq, Nat.le_refl, and_self, Lift.valOf, List.drop_zero, List.take_succ_cons, List.take_nil, pcall, okArg, List.all_cons, List.all_nil, Bool.and_true, Specs.at, List.map_cons, List.map_nil, sLen, true_and, h1, ppick_bool, isB, tmpOf, asB, sChar, ty21, ty3, pconvH, pconv, RPost, sres, Tryd.results19, sresL, sres1, Option.some.injEq, atS, or_self, Ret_fin, exists_eq_left']
      intro r hr
      have hc := charS_range l w i.toNat
      exact ⟨hl, ⟨hl, by omega, by omega⟩, by rw [w64 (by omega) (by omega)], HTo.put (.refl _ _) hr _⟩
noncomputable def eAt : SpecE env := ⟨19, sAt, fun args h hc => by
  unfold sAt at hc ⊢
  split at hc
  · rename_i l w i; exact .inl (At_ok l w i h hc)
  · exact hc.elim⟩
end Go.Proofs.YthlibdhjcjangaaDoor
