/- Contracts of functions that the law reaches. -/
import Derived.Test.YtincpomenogppaaGreatDoorWj
import Derived.Test.YtincpomenogppaaGreatDoorLiftD
set_option linter.unusedSimpArgs false
set_option linter.unusedVariables false
namespace Go.Proofs.YtincpomenogppaaGreatDoor
open Go Go.RowKit Go.Proofs.YtincpomenogppaaGreatDoor Go.Proofs.YtincpomenogppaaGreatDoor.Lift
set_option maxRecDepth 100000

def shEd : Sh := .struct (.fcons (.int .i64) (.fcons (.int .i64) (.fcons (.slice .str) (.fcons (.slice .str) .fnil))))
structure Ed.wide (e : Ed) : Prop where
  a : (Lit.int .i64 e.a).wf = true
  b : (Lit.int .i64 e.b).wf = true
  del : e.del.length ≤ maxLen
  ins : e.ins.length ≤ maxLen
theorem open_st {cs : List PV} (h : VSh .str cs) : ∃ l, l.length ≤ maxLen ∧ cs = [.str l] := by
  obtain ⟨l, rfl, hl⟩ := h
  exact ⟨l, hl, rfl⟩
def fewE (e : Ed) : Bool := decide (e.del.length ≤ 20) && (decide (e.ins.length ≤ 20) && (smallS e.del && smallS e.ins))
def fewS (es : List Ed) : Bool := es.all fewE && decide (es.length ≤ 20)
set_option maxHeartbeats 4000000 in
theorem Few_ok (es : List Ed) (hl : es.length ≤ maxLen) (h : Heap) : SCalls env 8 [.list 4 (edL es)] h (Ret (.bool (fewS es)) h) := by
  refine SCalls.body Tryz.func8 rfl rfl (by simp [Tryz.ntmps8]) ?_
  have hl : es.length ≤ 9223372036854775807 := by unfold maxLen at hl; omega
  refine SW.seq (SW.run [] _ ?_)
  simp only [wpC, Bool.false_eq_true, ↓reduceIte, wpS, stops, wantedA, okDst, Tryz.ntmps8, Nat.reduceLT, decide_true, step1, isOwnCall, hxOp, px, AS.eval, ofConst, ofVal, thenQ, AS.put, enumA, dropKey, reduceCtorEq, true_and]
  refine SW.seq (SW.seq (SW.run [] _ ?_))
  simp only [wpC, Bool.false_eq_true, ↓reduceIte, wpS, stops, wantedA, okDst, Nat.reduceLT, decide_true, step1, isOwnCall, hxOp, px, AS.eval, AS.get, Lift.look, Nat.succ_ne_zero, Option.getD_some, AS.put, dropKey, Nat.reduceEqDiff, reduceCtorEq, pcall, ty22, plen, edL_len, okLen, and_self, ofConst, ofVal, thenQ, true_and]
  refine SW.block (SW.loop (fun bb st => ∃ i : Nat, i ≤ es.length ∧ es.length - i = bb ∧ (es.take i).all fewE = true ∧ Lift.Inc h st.h ∧ st.n = 37 ∧ hasAll st [(0, .list 4 (edL es)), (5, .list 4 (edL es)), (6, .int .i64 (es.length : Nat)), (7, .int .i64 (i : Nat))]) es.length ⟨0, Nat.zero_le _, rfl, rfl, incSelf h, rfl, ?_⟩ ?_)
  · simp only [hasAll, AS.get, Lift.look, Nat.succ_ne_zero, ↓reduceIte, Option.getD_some, Nat.reduceEqDiff, Int.cast_ofNat_Int, and_self]
  rintro bb st ⟨i, hi, hbb, hall, inc, hn', hs'⟩
  refine SW.norm ⟨hn', rfl, hs'⟩ ?_
  generalize st.h = H at inc
  clear hn' hs'
  refine SW.seq (SW.run [] _ ?_)
  by_cases hlt : i < es.length
  · have hw : IntKind.i64.wrap ((i : Int) + 1) = ((i + 1 : Nat) : Int) := by rw [w64 (by omega) (by omega)]; rfl
    have hg := edL_at hlt
    simp only [wpC, Bool.false_eq_true, ↓reduceIte, wpS, stops, wantedA, okDst, Nat.reduceLT, decide_true, step1, isOwnCall, hxOp, px, isNilC, pbinP, AS.eval, AS.get, Lift.look, reduceCtorEq, Nat.reduceEqDiff, Option.getD_some, pbinI, Int.ofNat_lt, hlt, thenQ, hasAll, and_true, AS.put, dropKey, true_and]
    refine SW.seq (SW.run [] _ ?_)
    simp only [wpC, isB, AS.get, Lift.look, tmpOf, ↓reduceIte, Option.getD_some, asB, thenQ, true_and]
    refine SW.seq (SW.block (SW.seq (SW.run [] _ ?_)))
    simp only [wpC, Bool.false_eq_true, ↓reduceIte, wpS, stops, wantedA, okDst, Nat.reduceLT, decide_true, step1, isOwnCall, hxOp, px, pindexAddr, ty22, ty77, AS.eval, AS.get, Lift.look, Nat.reduceEqDiff, reduceCtorEq, Option.getD_some, ne_eq, Nat.succ_ne_zero, not_false_eq_true, Int.natCast_nonneg, Int.toNat_natCast, edL_len, hlt, and_self, hg, edV, AS.put, dropKey, pload, okOne, TK.isAgg, Nat.reduceBEq, Bool.or_false, List.length_cons, List.length_nil, Nat.zero_add, Nat.reduceAdd, Nat.le_refl, Lift.valOf, List.take_succ_cons, List.take_nil, okAlloc, okZero, List.all_cons, Value.oneCell', List.all_nil, Bool.and_true, hx, zeroOf, List.map_cons, ofVal, List.map_nil, Heap.get_put, known1, PV.cells, splice, List.take_zero, List.nil_append, List.drop_succ_cons, List.drop_nil, List.append_nil, thenQ, true_and]
    intro r hr
    rw [Heap.put_put]
    obtain ⟨e, he⟩ : ∃ e, e = es[i] := ⟨_, rfl⟩
    have hnx : (es.take (i + 1)).all fewE = fewE e := by rw [List.take_succ_eq_append_getElem hlt, List.all_append, hall, he]; simp
    have hno : fewE e = false → fewS es = false := fun k => by
      have : es.all fewE = false := by rw [List.all_eq_false]; exact ⟨_, List.getElem_mem hlt, by rw [← he, k]; simp⟩
      unfold fewS; rw [this]; rfl
    rw [← he]
    have inc2 : Lift.Inc h (H.put r (.cells 77 4 [.int .i64 e.a, .int .i64 e.b, .list 1 (strL e.del), .list 1 (strL e.ins)])) := Inc.over inc (incFresh inc hr) _
    have gr : (H.put r (.cells 77 4 [.int .i64 e.a, .int .i64 e.b, .list 1 (strL e.del), .list 1 (strL e.ins)])) r = some (.cells 77 4 [.int .i64 e.a, .int .i64 e.b, .list 1 (strL e.del), .list 1 (strL e.ins)]) := Heap.put_same _ _ _
    generalize H.put r (.cells 77 4 [.int .i64 e.a, .int .i64 e.b, .list 1 (strL e.del), .list 1 (strL e.ins)]) = H2 at gr inc2 ⊢
    refine SW.meet1 37 [(0, .list 4 (edL es)), (5, .list 4 (edL es)), (6, .int .i64 (es.length : Nat)), (7, .int .i64 (i : Nat)), (32, .bool (!fewE e))] H2 ?_ ?_
    · refine SW.run [eSmall] _ ?_
      by_cases c1 : e.del.length ≤ 20
      · have c1' : ¬ (20 : Int) < ((e.del.length : Nat) : Int) := by omega
        have d9 : e.del.length ≤ 1000000000 := by omega
        by_cases c2 : e.ins.length ≤ 20
        · have c2' : ¬ (20 : Int) < ((e.ins.length : Nat) : Int) := by omega
          have i9 : e.ins.length ≤ 1000000000 := by omega
          cases c3 : smallS e.del
          · have hf : fewE e = false := by unfold fewE; rw [c3]; simp
            simp only [wpC, Bool.false_eq_true, ↓reduceIte, wpS, stops, wantedA, okDst, Nat.reduceLT, decide_true, step1, isOwnCall, hxOp, px, pfieldAddr, fieldOf, ty77, fieldIn, List.getElem?_cons_succ, List.getElem?_cons_zero, ty43, Option.map_some, AS.eval, AS.get, Lift.look, Option.getD_some, ne_eq, Nat.succ_ne_zero, not_false_eq_true, Nat.zero_add, AS.put, dropKey, Nat.reduceEqDiff, reduceCtorEq, pload, gr, okOne, TK.isAgg, beq_self_eq_true, Bool.or_true, Nat.reduceAdd, List.length_cons, List.length_nil, Nat.reduceLeDiff, and_self, Lift.valOf, List.drop_succ_cons, List.drop_zero, List.take_succ_cons, List.take_zero, List.getD_cons_zero, pcall, plen, strL_len, okLen, isNilC, pbinP, ofConst, ofVal, pbinI, c1', decide_false, List.getElem?_toArray, Option.bind_some, Nat.le_refl, List.take_nil, c2', ppick_bool, Specs.has, eSmall, Specs.hasO, Bool.or_false, Specs.hasH, Bool.not_true, okArg, List.all_cons, List.all_nil, Bool.and_true, Specs.at, List.map_cons, List.map_nil, sSmall, unS_el, d9, c3, pun, Bool.not_false, beq_tf, Option.some.injEq, ppick_true, thenQ, Meet, HTo_self, hasAll, hf]
          cases c4 : smallS e.ins
          · have hf : fewE e = false := by unfold fewE; rw [c4]; simp
            simp only [wpC, Bool.false_eq_true, ↓reduceIte, wpS, stops, wantedA, okDst, Nat.reduceLT, decide_true, step1, isOwnCall, hxOp, px, pfieldAddr, fieldOf, ty77, fieldIn, List.getElem?_cons_succ, List.getElem?_cons_zero, ty43, Option.map_some, AS.eval, AS.get, Lift.look, Option.getD_some, ne_eq, Nat.succ_ne_zero, not_false_eq_true, Nat.zero_add, AS.put, dropKey, Nat.reduceEqDiff, reduceCtorEq, pload, gr, okOne, TK.isAgg, beq_self_eq_true, Bool.or_true, Nat.reduceAdd, List.length_cons, List.length_nil, Nat.reduceLeDiff, and_self, Lift.valOf, List.drop_succ_cons, List.drop_zero, List.take_succ_cons, List.take_zero, List.getD_cons_zero, pcall, plen, strL_len, okLen, isNilC, pbinP, ofConst, ofVal, pbinI, c1', decide_false, List.getElem?_toArray, Option.bind_some, Nat.le_refl, List.take_nil, c2', ppick_bool, Specs.has, eSmall, Specs.hasO, Bool.or_false, Specs.hasH, Bool.not_true, okArg, List.all_cons, List.all_nil, Bool.and_true, Specs.at, List.map_cons, List.map_nil, sSmall, unS_el, d9, c3, pun, i9, c4, Bool.not_false, thenQ, Meet, HTo_self, hasAll, hf]
          · have hf : fewE e = true := by unfold fewE; rw [c3, c4]; simp [c1, c2]
            simp only [wpC, Bool.false_eq_true, ↓reduceIte, wpS, stops, wantedA, okDst, Nat.reduceLT, decide_true, step1, isOwnCall, hxOp, px, pfieldAddr, fieldOf, ty77, fieldIn, List.getElem?_cons_succ, List.getElem?_cons_zero, ty43, Option.map_some, AS.eval, AS.get, Lift.look, Option.getD_some, ne_eq, Nat.succ_ne_zero, not_false_eq_true, Nat.zero_add, AS.put, dropKey, Nat.reduceEqDiff, reduceCtorEq, pload, gr, okOne, TK.isAgg, beq_self_eq_true, Bool.or_true, Nat.reduceAdd, List.length_cons, List.length_nil, Nat.reduceLeDiff, and_self, Lift.valOf, List.drop_succ_cons, List.drop_zero, List.take_succ_cons, List.take_zero, List.getD_cons_zero, pcall, plen, strL_len, okLen, isNilC, pbinP, ofConst, ofVal, pbinI, c1', decide_false, List.getElem?_toArray, Option.bind_some, Nat.le_refl, List.take_nil, c2', ppick_bool, Specs.has, eSmall, Specs.hasO, Bool.or_false, Specs.hasH, Bool.not_true, okArg, List.all_cons, List.all_nil, Bool.and_true, Specs.at, List.map_cons, List.map_nil, sSmall, unS_el, d9, c3, pun, i9, c4, thenQ, Meet, HTo_self, hasAll, hf]
        · have c2' : (20 : Int) < ((e.ins.length : Nat) : Int) := by omega
          have hf : fewE e = false := by unfold fewE; simp [c2]
          simp only [wpC, Bool.false_eq_true, ↓reduceIte, wpS, stops, wantedA, okDst, Nat.reduceLT, decide_true, step1, isOwnCall, hxOp, px, pfieldAddr, fieldOf, ty77, fieldIn, List.getElem?_cons_succ, List.getElem?_cons_zero, ty43, Option.map_some, AS.eval, AS.get, Lift.look, Option.getD_some, ne_eq, Nat.succ_ne_zero, not_false_eq_true, Nat.zero_add, AS.put, dropKey, Nat.reduceEqDiff, reduceCtorEq, pload, gr, okOne, TK.isAgg, beq_self_eq_true, Bool.or_true, Nat.reduceAdd, List.length_cons, List.length_nil, Nat.reduceLeDiff, and_self, Lift.valOf, List.drop_succ_cons, List.drop_zero, List.take_succ_cons, List.take_zero, List.getD_cons_zero, pcall, plen, strL_len, okLen, isNilC, pbinP, ofConst, ofVal, pbinI, c1', decide_false, List.getElem?_toArray, Option.bind_some, Nat.le_refl, List.take_nil, c2', ppick_bool, beq_tf, Option.some.injEq, Specs.has, eSmall, Specs.hasO, Bool.or_false, Specs.hasH, Bool.not_true, ppick_true, thenQ, Meet, HTo_self, hasAll, hf, Bool.not_false]
      · have c1' : (20 : Int) < ((e.del.length : Nat) : Int) := by omega
        have hf : fewE e = false := by unfold fewE; simp [c1]
        simp only [wpC, Bool.false_eq_true, ↓reduceIte, wpS, stops, wantedA, okDst, Nat.reduceLT, decide_true, step1, isOwnCall, hxOp, px, pfieldAddr, fieldOf, ty77, fieldIn, List.getElem?_cons_succ, List.getElem?_cons_zero, ty43, Option.map_some, AS.eval, AS.get, Lift.look, Option.getD_some, ne_eq, Nat.succ_ne_zero, not_false_eq_true, Nat.zero_add, AS.put, dropKey, Nat.reduceEqDiff, reduceCtorEq, pload, gr, okOne, TK.isAgg, beq_self_eq_true, Bool.or_true, Nat.reduceAdd, List.length_cons, List.length_nil, Nat.reduceLeDiff, and_self, Lift.valOf, List.drop_succ_cons, List.drop_zero, List.take_succ_cons, List.take_zero, List.getD_cons_zero, pcall, plen, strL_len, okLen, isNilC, pbinP, ofConst, ofVal, pbinI, c1', List.getElem?_toArray, Option.bind_some, beq_tf, Option.some.injEq, ppick_true, Specs.has, eSmall, Specs.hasO, Bool.or_false, Specs.hasH, Bool.not_true, thenQ, Meet, HTo_self, hasAll, hf, Bool.not_false]
    refine SW.run [] _ ?_
    cases hf : fewE e
    · simp only [wpC, isB, AS.get, Lift.look, tmpOf, reduceCtorEq, ↓reduceIte, Nat.reduceEqDiff, Bool.not_false, Option.getD_some, asB, mayStop, stops, isFlt, Specs.has, Specs.hasO, Bool.or_false, Specs.hasH, List.any_cons, List.any_nil, Bool.false_eq_true, wpS, wantedA, okDst, Nat.reduceLT, decide_true, step1, isOwnCall, hxOp, px, AS.eval, ofConst, ofVal, thenQ, inQ, RPost, sres, AS.put, dropKey, Tryz.results8, sresL, sres1, Option.some.injEq, hno hf, Ret_fin, exists_eq_left', true_and]
      exact Inc.to inc2
    · simp only [wpC, isB, AS.get, Lift.look, tmpOf, reduceCtorEq, ↓reduceIte, Nat.reduceEqDiff, Bool.not_true, Option.getD_some, asB, Bool.false_eq_true, inQ, thenQ, true_and]
      refine SW.run [] _ ?_
      simp only [wpC, Bool.false_eq_true, ↓reduceIte, wpS, stops, isFlt, ty3, wantedA, okDst, Nat.reduceLT, decide_true, step1, isOwnCall, hxOp, px, isNilC, pbinP, AS.eval, AS.get, Lift.look, reduceCtorEq, Nat.reduceEqDiff, Option.getD_some, ofConst, ofVal, pbinI, hw, AS.put, dropKey, thenQ, Nat.succ_ne_zero, true_and]
      exact ⟨es.length - (i + 1), by omega, i + 1, by omega, rfl, by rw [hnx, hf], inc2, rfl⟩
  · rw [List.take_of_length_le (by omega)] at hall
    simp only [wpC, Bool.false_eq_true, ↓reduceIte, wpS, stops, wantedA, okDst, Nat.reduceLT, decide_true, step1, isOwnCall, hxOp, px, isNilC, pbinP, AS.eval, AS.get, Lift.look, reduceCtorEq, Nat.reduceEqDiff, Option.getD_some, pbinI, Int.ofNat_lt, hlt, decide_false, thenQ, hasAll, and_true, AS.put, dropKey, true_and]
    refine SW.seq (SW.run [] _ ?_)
    simp only [wpC, isB, AS.get, Lift.look, tmpOf, ↓reduceIte, Option.getD_some, asB, Bool.false_eq_true, thenQ, inQ, true_and]
    refine SW.run [] _ ?_
    by_cases c : es.length ≤ 20
    · have c' : ((es.length : Nat) : Int) ≤ 20 := by omega
      have hf : fewS es = true := by unfold fewS; rw [hall]; simp [c]
      simp only [wpC, mayStop, stops, isFlt, Specs.has, Specs.hasO, Bool.or_false, Specs.hasH, Bool.not_false, List.any_cons, List.any_nil, Bool.false_eq_true, ↓reduceIte, wpS, wantedA, okDst, Nat.reduceLT, decide_true, step1, isOwnCall, hxOp, px, AS.eval, AS.get, Lift.look, Nat.succ_ne_zero, Option.getD_some, AS.put, dropKey, Nat.reduceEqDiff, reduceCtorEq, pcall, ty22, plen, edL_len, okLen, and_self, isNilC, pbinP, ofConst, ofVal, pbinI, c', thenQ, RPost, sres, Tryz.results8, sresL, sres1, Option.some.injEq, hf, Ret_fin, exists_eq_left', true_and]
      exact Inc.to inc
    · have c' : ¬ ((es.length : Nat) : Int) ≤ 20 := by omega
      have hf : fewS es = false := by unfold fewS; simp [c]
      simp only [wpC, mayStop, stops, isFlt, Specs.has, Specs.hasO, Bool.or_false, Specs.hasH, Bool.not_false, List.any_cons, List.any_nil, Bool.false_eq_true, ↓reduceIte, wpS, wantedA, okDst, Nat.reduceLT, decide_true, step1, isOwnCall, hxOp, px, AS.eval, AS.get, Lift.look, Nat.succ_ne_zero, Option.getD_some, AS.put, dropKey, Nat.reduceEqDiff, reduceCtorEq, pcall, ty22, plen, edL_len, okLen, and_self, isNilC, pbinP, ofConst, ofVal, pbinI, c', decide_false, thenQ, RPost, sres, Tryz.results8, sresL, sres1, Option.some.injEq, hf, Ret_fin, exists_eq_left', true_and]
      exact Inc.to inc
def sFew (es : List Ed) : List PV → Prop × PV
  | [.list 4 xs] => (xs = edL es ∧ es.length ≤ maxLen, .bool (fewS es))
  | _ => PBad
noncomputable def eFew (es : List Ed) : SpecE env := ⟨8, sFew es, fun args h hc => by
  unfold sFew at hc ⊢
  split at hc
  · obtain ⟨rfl, h1⟩ := hc
    exact .inl (Few_ok es h1 h)
  · exact hc.elim⟩
structure FewE (e : Ed) : Prop where
  d : e.del.length ≤ 20
  i : e.ins.length ≤ 20
  ds : smallS e.del = true
  is : smallS e.ins = true
theorem FewE.of {e : Ed} (h : fewE e = true) : FewE e := by
  unfold fewE at h
  simp only [Bool.and_eq_true, decide_eq_true_eq] at h
  exact ⟨h.1, h.2.1, h.2.2.1, h.2.2.2⟩
end Go.Proofs.YtincpomenogppaaGreatDoor
