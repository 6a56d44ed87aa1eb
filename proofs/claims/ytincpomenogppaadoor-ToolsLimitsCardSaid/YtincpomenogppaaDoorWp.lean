/- Contracts of functions that the law reaches. -/
import Derived.Test.YtincpomenogppaaDoorWo
set_option linter.unusedSimpArgs false
set_option linter.unusedVariables false
namespace Go.Proofs.YtincpomenogppaaDoor
open Go Go.RowKit Go.Proofs.YtincpomenogppaaDoor Go.Proofs.YtincpomenogppaaDoor.Lift
set_option maxRecDepth 100000

/-! acheronref38.Patch -/
theorem take_drop_eq {x d : List (List UInt8)} {A : Nat} (h : A + d.length ≤ x.length) (k : ∀ j, (hj : j < d.length) → x[A + j] = d[j]) : (x.drop A).take d.length = d := by
  apply List.ext_getElem
  · rw [List.length_take, List.length_drop]; omega
  · intro j h1 h2
    rw [List.getElem_take, List.getElem_drop]
    exact k j h2
theorem take_drop_ne {x d : List (List UInt8)} {A j : Nat} (h : A + d.length ≤ x.length) (hj : j < d.length) (k : x[A + j] ≠ d[j]) : (x.drop A).take d.length ≠ d := by
  intro e
  have h1 : j < ((x.drop A).take d.length).length := by rw [e]; exact hj
  have := List.getElem_of_eq e h1
  rw [List.getElem_take, List.getElem_drop] at this
  exact k this
set_option maxHeartbeats 8000000 in
set_option maxRecDepth 100000 in
theorem RPatch_ok (s : List UInt8) (es : List Ed) (hs : s.length ≤ 1000000) (he : ∀ e ∈ es, e.small ∧ ∀ l ∈ e.ins, l.length ≤ 1000000000) (hl : es.length ≤ 1000000) (hn : insN es ≤ 1000000) (hf : (patchE (linesOf s) 0 [] es).2.flatten.length ≤ 1000000000) (h : Heap) :
    SCalls env 19 [.str s, .list 4 (edL es)] h (Ret (patchR s es) h) := by
  refine SCalls.body Tryd.func19 rfl rfl (by simp [Tryd.ntmps19]) ?_
  have hll := linesOf_len s
  refine SW.seq (SW.run [] _ ?_)
  simp only [wpC, Bool.false_eq_true, ↓reduceIte, wpS, stops, wantedA, okDst, Tryd.ntmps19, Nat.reduceLT, decide_true, step1, isOwnCall, hxOp, px, AS.eval, ofConst, ofVal, AS.put, enumA, Nat.zero_add, dropKey, reduceCtorEq, Nat.reduceEqDiff, thenQ, true_and]
  refine SW.seq (SW.run [eRLines] _ ?_)
  simp only [wpC, Bool.false_eq_true, ↓reduceIte, wpS, stops, wantedA, okDst, Nat.reduceLT, decide_true, step1, isOwnCall, hxOp, px, AS.eval, AS.get, Lift.look, Nat.succ_ne_zero, Option.getD_some, Specs.has, eRLines, Specs.hasO, Bool.or_false, Specs.hasH, Bool.not_true, AS.put, dropKey, Nat.reduceEqDiff, reduceCtorEq, pcall, okArg, ofConst, ofVal, List.all_cons, List.all_nil, Bool.and_true, Specs.at, List.map_cons, List.map_nil, sLines, hs, and_self, thenQ, true_and]
  unfold patchR
  generalize linesOf s = x at *
  obtain ⟨R, hR⟩ : ∃ R, patchE x 0 [] es = R := ⟨_, rfl⟩
  rw [hR] at hf ⊢
  refine SW.seq (SW.run [] _ ?_)
  simp only [wpC, Bool.false_eq_true, ↓reduceIte, wpS, stops, wantedA, okDst, Nat.reduceLT, decide_true, step1, isOwnCall, hxOp, px, AS.eval, ofConst, ofVal, thenQ, AS.put, dropKey, Nat.reduceEqDiff, reduceCtorEq, true_and]
  refine SW.seq (SW.run [] _ ?_)
  simp only [wpC, Bool.false_eq_true, ↓reduceIte, wpS, stops, wantedA, okDst, Nat.reduceLT, decide_true, step1, isOwnCall, hxOp, px, AS.eval, ofConst, ofVal, thenQ, AS.put, dropKey, Nat.reduceEqDiff, reduceCtorEq, true_and]
  refine SW.seq (SW.seq (SW.run [] _ ?_))
  simp only [wpC, Bool.false_eq_true, ↓reduceIte, wpS, stops, wantedA, okDst, Nat.reduceLT, decide_true, step1, isOwnCall, hxOp, px, AS.eval, ofConst, ofVal, thenQ, AS.put, dropKey, Nat.reduceEqDiff, reduceCtorEq, true_and]
  refine SW.block (SW.loop (fun bb st => ∃ (i fr : Nat) (out : List (List UInt8)) (v : PV) (h1 : Heap), i ≤ es.length ∧ es.length - i = bb ∧ fr ≤ x.length ∧ out.length + insN (es.drop i) ≤ fr + insN es ∧ patchE x fr out (es.drop i) = R ∧ Lift.Inc h h1 ∧ Own h1 9 1 (strL out) v st.h ∧ st.n = 130 ∧ hasAll st [(1, .list 4 (edL es)), (6, .list 1 (strL x)), (7, v), (8, .int .i64 (fr : Nat)), (9, .int .i64 (i : Nat))]) es.length ⟨0, 0, [], .val (.slice none 0 0), h, Nat.zero_le _, rfl, Nat.zero_le _, by rw [List.drop_zero]; simp, by rw [List.drop_zero]; exact hR, incSelf h, Own.nil _ _ _, rfl, ?_⟩ ?_)
  · simp only [hasAll, AS.get, Lift.look, Nat.reduceEqDiff, ↓reduceIte, reduceCtorEq, Option.getD_some, Int.cast_ofNat_Int, and_self]
  rintro bb st ⟨i, fr, out, v, h1, hi, hbb, hfr, hol, hp, inc, ow, hn', hs'⟩
  refine SW.norm ⟨hn', rfl, hs'⟩ ?_
  generalize st.h = H at ow
  clear hn' hs'
  refine SW.seq (SW.run [] _ ?_)
  by_cases hlt : i < es.length
  · have hw : IntKind.i64.wrap ((i : Int) + 1) = ((i + 1 : Nat) : Int) := by rw [w64 (by omega) (by omega)]; rfl
    have hg := edL_at hlt
    obtain ⟨⟨sd, si⟩, hins⟩ := he _ (List.getElem_mem hlt)
    rw [List.drop_eq_getElem_cons hlt] at hp hol
    have hol : out.length + (es[i].ins.length + insN (es.drop (i + 1))) ≤ fr + insN es := hol
    simp only [wpC, mayStop, stops, isFlt, Specs.has, Specs.hasO, Bool.or_false, Specs.hasH, Bool.not_false, List.any_cons, List.any_nil, Bool.false_eq_true, ↓reduceIte, wpS, wantedA, okDst, Nat.reduceLT, decide_true, step1, isOwnCall, hxOp, px, AS.eval, AS.get, Lift.look, Nat.reduceEqDiff, Option.getD_some, AS.put, dropKey, pcall, ty28, plen, edL_len, okLen, and_self, isNilC, pbinP, pbinI, Int.ofNat_lt, hlt, thenQ, isB, tmpOf, asB, hasAll, and_true, true_and]
    refine SW.seq (SW.block (SW.seq (SW.run [] _ ?_)))
    simp only [wpC, Bool.false_eq_true, ↓reduceIte, wpS, stops, wantedA, okDst, Nat.reduceLT, decide_true, step1, isOwnCall, hxOp, px, AS.eval, AS.get, Lift.look, Nat.reduceEqDiff, Option.getD_some, AS.put, dropKey, pindexAddr, ty28, ty67, ne_eq, Nat.succ_ne_zero, not_false_eq_true, Int.natCast_nonneg, Int.toNat_natCast, edL_len, hlt, and_self, hg, edV, pload, okOne, TK.isAgg, Nat.reduceBEq, Bool.or_false, List.length_cons, List.length_nil, Nat.zero_add, Nat.reduceAdd, Nat.le_refl, Lift.valOf, List.take_succ_cons, List.take_nil, okAlloc, okZero, List.all_cons, Value.oneCell', List.all_nil, Bool.and_true, hx, zeroOf, List.map_cons, ofVal, List.map_nil, Heap.get_put, known1, PV.cells, splice, List.take_zero, List.nil_append, List.drop_succ_cons, List.drop_nil, List.append_nil, thenQ, true_and]
    generalize es[i] = e at *
    intro r hr
    rw [Heap.put_put]
    have ow2 := ow.putx hr (.cells 67 4 [.int .i64 e.a, .int .i64 e.b, .list 1 (strL e.del), .list 1 (strL e.ins)])
    have hr1 : h1 r = none := incFresh ow.inc hr
    have inc2 : Lift.Inc h (h1.put r (.cells 67 4 [.int .i64 e.a, .int .i64 e.b, .list 1 (strL e.del), .list 1 (strL e.ins)])) := Inc.over inc (incFresh inc hr1) _
    have g1 : (h1.put r (.cells 67 4 [.int .i64 e.a, .int .i64 e.b, .list 1 (strL e.del), .list 1 (strL e.ins)])) r = some (.cells 67 4 [.int .i64 e.a, .int .i64 e.b, .list 1 (strL e.del), .list 1 (strL e.ins)]) := Heap.put_same _ _ _
    generalize h1.put r (.cells 67 4 [.int .i64 e.a, .int .i64 e.b, .list 1 (strL e.del), .list 1 (strL e.ins)]) = h2 at g1 inc2 ow2
    have gr := ow2.base g1
    generalize H.put r (.cells 67 4 [.int .i64 e.a, .int .i64 e.b, .list 1 (strL e.del), .list 1 (strL e.ins)]) = H2 at gr ow2 ⊢
    have incE : Lift.Inc h H2 := fun k X ek => ow2.inc k X (inc2 k X ek)
    clear ow hr hr1 inc
    have herr : ∀ k : Int, k ≠ 0 → errP x fr out e = k → R = (k, []) := fun k hk ek => by rw [← hp]; exact patchE_err _ ek hk
    refine SW.enter (n := 130) (l := [(1, .list 4 (edL es)), (6, .list 1 (strL x)), (7, v), (8, .int .i64 (fr : Nat)), (9, .int .i64 (i : Nat)), (10, .val (.pointer (some ⟨r, 0, none⟩)))]) (H := H2) rfl (.refl _ _) (by simp only [hasAll, AS.get, Lift.look, Nat.reduceEqDiff, ↓reduceIte, Option.getD_some, and_self]) ?_
    have hw1 : IntKind.i64.wrap (((e.del.length : Nat) : Int) + ((e.ins.length : Nat) : Int)) = ((e.del.length + e.ins.length : Nat) : Int) := by rw [w64 (by omega) (by omega)]; rfl
    have hd0 : (((e.del.length + e.ins.length : Nat) : Int) == 0) = decide (e.del = [] ∧ e.ins = []) := by
      cases e.del <;> cases e.ins <;> simp <;> omega
    refine SW.seq (SW.run [] _ ?_)
    by_cases c1 : e.del = [] ∧ e.ins = []
    · have hE : R = (12, []) := herr 12 (by decide) (by unfold errP; rw [if_pos c1])
      subst hE
      simp only [wpC, mayStop, stops, isFlt, Specs.has, Specs.hasO, Bool.or_false, Specs.hasH, Bool.not_false, List.any_cons, ty3, List.any_nil, Bool.false_eq_true, ↓reduceIte, wpS, wantedA, okDst, Nat.reduceLT, decide_true, step1, isOwnCall, hxOp, px, pfieldAddr, fieldOf, ty67, fieldIn, List.getElem?_cons_succ, List.getElem?_cons_zero, ty34, Option.map_some, AS.eval, AS.get, Lift.look, Nat.reduceEqDiff, Option.getD_some, ne_eq, Nat.succ_ne_zero, not_false_eq_true, Nat.zero_add, AS.put, dropKey, pload, gr, c1, okOne, TK.isAgg, beq_self_eq_true, Bool.or_true, Nat.reduceAdd, List.length_cons, List.length_nil, Nat.reduceLeDiff, and_self, Lift.valOf, List.drop_succ_cons, List.drop_zero, List.take_succ_cons, List.take_zero, List.getD_cons_zero, pcall, plen, strL_len, okLen, Int.cast_ofNat_Int, Nat.le_refl, List.take_nil, isNilC, pbinP, pbinI, Int.reduceAdd, ofConst, ofVal, thenQ, isB, tmpOf, asB, inQ, RPost, sres, Tryd.results19, sresL, sres1, Option.some.injEq, Int.reduceEq, Ret_fin, exists_eq_left', true_and]
      exact Inc.to incE
    simp only [wpC, mayStop, stops, isFlt, Specs.has, Specs.hasO, Bool.or_false, Specs.hasH, Bool.not_false, List.any_cons, ty3, List.any_nil, Bool.false_eq_true, ↓reduceIte, wpS, wantedA, okDst, Nat.reduceLT, decide_true, step1, isOwnCall, hxOp, px, pfieldAddr, fieldOf, ty67, fieldIn, List.getElem?_cons_succ, List.getElem?_cons_zero, ty34, Option.map_some, AS.eval, AS.get, Lift.look, Nat.reduceEqDiff, Option.getD_some, ne_eq, Nat.succ_ne_zero, not_false_eq_true, Nat.zero_add, AS.put, dropKey, pload, gr, okOne, TK.isAgg, beq_self_eq_true, Bool.or_true, Nat.reduceAdd, List.length_cons, List.length_nil, Nat.reduceLeDiff, and_self, Lift.valOf, List.drop_succ_cons, List.drop_zero, List.take_succ_cons, List.take_zero, List.getD_cons_zero, pcall, plen, strL_len, okLen, Nat.le_refl, List.take_nil, isNilC, pbinP, pbinI, hw1, ofConst, ofVal, hd0, c1, decide_false, thenQ, isB, tmpOf, asB, true_and]
    refine SW.seq (SW.run [] _ ?_)
    by_cases c2 : e.a < (fr : Int)
    · have hE : R = (10, []) := herr 10 (by decide) (by unfold errP; rw [if_neg c1, if_pos c2])
      subst hE
      simp only [wpC, mayStop, stops, isFlt, Specs.has, Specs.hasO, Bool.or_false, Specs.hasH, Bool.not_false, List.any_cons, List.any_nil, Bool.false_eq_true, ↓reduceIte, wpS, wantedA, okDst, Nat.reduceLT, decide_true, step1, isOwnCall, hxOp, px, pfieldAddr, fieldOf, ty67, fieldIn, List.getElem?_cons_zero, ty3, Option.map_some, AS.eval, AS.get, Lift.look, Nat.reduceEqDiff, Option.getD_some, ne_eq, Nat.succ_ne_zero, not_false_eq_true, Nat.add_zero, AS.put, dropKey, pload, gr, okOne, TK.isAgg, beq_self_eq_true, Bool.or_true, Nat.zero_add, List.length_cons, List.length_nil, Nat.reduceAdd, Nat.reduceLeDiff, and_self, Lift.valOf, List.drop_zero, List.take_succ_cons, List.take_zero, List.getD_cons_zero, isNilC, pbinP, pbinI, c2, thenQ, isB, tmpOf, asB, ofConst, ofVal, inQ, RPost, sres, Tryd.results19, sresL, sres1, Option.some.injEq, Int.reduceEq, Ret_fin, exists_eq_left', true_and]
      exact Inc.to incE
    simp only [wpC, mayStop, stops, isFlt, Specs.has, Specs.hasO, Bool.or_false, Specs.hasH, Bool.not_false, List.any_cons, List.any_nil, Bool.false_eq_true, ↓reduceIte, wpS, wantedA, okDst, Nat.reduceLT, decide_true, step1, isOwnCall, hxOp, px, pfieldAddr, fieldOf, ty67, fieldIn, List.getElem?_cons_zero, ty3, Option.map_some, AS.eval, AS.get, Lift.look, Nat.reduceEqDiff, Option.getD_some, ne_eq, Nat.succ_ne_zero, not_false_eq_true, Nat.add_zero, AS.put, dropKey, pload, gr, okOne, TK.isAgg, beq_self_eq_true, Bool.or_true, Nat.zero_add, List.length_cons, List.length_nil, Nat.reduceAdd, Nat.reduceLeDiff, and_self, Lift.valOf, List.drop_zero, List.take_succ_cons, List.take_zero, List.getD_cons_zero, isNilC, pbinP, pbinI, c2, decide_false, thenQ, isB, tmpOf, asB, true_and]
    obtain ⟨A, hA⟩ : ∃ A : Nat, e.a = (A : Int) := ⟨e.a.toNat, by omega⟩
    have hAn : e.a.toNat = A := by omega
    rw [hA] at gr g1
    refine SW.seq (SW.run [] _ ?_)
    have hnine : ((9 : Nat) : Int) = 9 := rfl
    by_cases c3a : (x.length : Int) < (A : Int)
    · have c3 : (x.length : Int) < e.a + (e.del.length : Int) := by omega
      have hE : R = (11, []) := herr 11 (by decide) (by unfold errP; rw [if_neg c1, if_neg c2, if_pos c3])
      subst hE
      simp only [wpC, mayStop, stops, isFlt, Specs.has, Specs.hasO, Bool.or_false, Specs.hasH, Bool.not_false, List.any_cons, ty3, List.any_nil, Bool.false_eq_true, ↓reduceIte, wpS, wantedA, okDst, Nat.reduceLT, decide_true, step1, isOwnCall, hxOp, px, pfieldAddr, fieldOf, ty67, fieldIn, List.getElem?_cons_zero, Option.map_some, AS.eval, AS.get, Lift.look, Nat.reduceEqDiff, Option.getD_some, ne_eq, Nat.succ_ne_zero, not_false_eq_true, Nat.add_zero, AS.put, dropKey, pload, gr, okOne, TK.isAgg, beq_self_eq_true, Bool.or_true, Nat.zero_add, List.length_cons, List.length_nil, Nat.reduceAdd, Nat.reduceLeDiff, and_self, Lift.valOf, List.drop_zero, List.take_succ_cons, List.take_zero, List.getD_cons_zero, pcall, ty34, plen, strL_len, okLen, isNilC, pbinP, pbinI, c3a, List.getElem?_toArray, List.getElem?_cons_succ, Option.bind_some, beq_tf, Option.some.injEq, ofConst, ofVal, ppick_true, thenQ, isB, tmpOf, asB, inQ, RPost, sres, Tryd.results19, sresL, sres1, Int.reduceEq, Ret_fin, exists_eq_left', true_and]
      exact Inc.to incE
    have hw3 : IntKind.i64.wrap (((x.length : Nat) : Int) - ((A : Nat) : Int)) = ((x.length : Nat) : Int) - ((A : Nat) : Int) := w64 (by omega) (by omega)
    by_cases c3 : (x.length : Int) < e.a + (e.del.length : Int)
    · have hE : R = (11, []) := herr 11 (by decide) (by unfold errP; rw [if_neg c1, if_neg c2, if_pos c3])
      subst hE
      have c3' : ((x.length : Nat) : Int) - ((A : Nat) : Int) < ((e.del.length : Nat) : Int) := by omega
      simp only [wpC, mayStop, stops, isFlt, Specs.has, Specs.hasO, Bool.or_false, Specs.hasH, Bool.not_false, List.any_cons, ty3, List.any_nil, Bool.false_eq_true, ↓reduceIte, wpS, wantedA, okDst, Nat.reduceLT, decide_true, step1, isOwnCall, hxOp, px, pfieldAddr, fieldOf, ty67, fieldIn, List.getElem?_cons_zero, Option.map_some, AS.eval, AS.get, Lift.look, Nat.reduceEqDiff, Option.getD_some, ne_eq, Nat.succ_ne_zero, not_false_eq_true, Nat.add_zero, AS.put, dropKey, pload, gr, okOne, TK.isAgg, beq_self_eq_true, Bool.or_true, Nat.zero_add, List.length_cons, List.length_nil, Nat.reduceAdd, Nat.reduceLeDiff, and_self, Lift.valOf, List.drop_zero, List.take_succ_cons, List.take_zero, List.getD_cons_zero, pcall, ty34, plen, strL_len, okLen, isNilC, pbinP, pbinI, c3a, decide_false, List.getElem?_toArray, List.getElem?_cons_succ, Option.bind_some, List.drop_succ_cons, hw3, c3', ofConst, ofVal, ppick_bool, thenQ, isB, tmpOf, asB, inQ, RPost, sres, Tryd.results19, sresL, sres1, Option.some.injEq, Int.reduceEq, Ret_fin, exists_eq_left', true_and]
      exact Inc.to incE
    have c3' : ¬ ((x.length : Nat) : Int) - ((A : Nat) : Int) < ((e.del.length : Nat) : Int) := by omega
    simp only [wpC, mayStop, stops, isFlt, Specs.has, Specs.hasO, Bool.or_false, Specs.hasH, Bool.not_false, List.any_cons, ty3, List.any_nil, Bool.false_eq_true, ↓reduceIte, wpS, wantedA, okDst, Nat.reduceLT, decide_true, step1, isOwnCall, hxOp, px, pfieldAddr, fieldOf, ty67, fieldIn, List.getElem?_cons_zero, Option.map_some, AS.eval, AS.get, Lift.look, Nat.reduceEqDiff, Option.getD_some, ne_eq, Nat.succ_ne_zero, not_false_eq_true, Nat.add_zero, AS.put, dropKey, pload, gr, okOne, TK.isAgg, beq_self_eq_true, Bool.or_true, Nat.zero_add, List.length_cons, List.length_nil, Nat.reduceAdd, Nat.reduceLeDiff, and_self, Lift.valOf, List.drop_zero, List.take_succ_cons, List.take_zero, List.getD_cons_zero, pcall, ty34, plen, strL_len, okLen, isNilC, pbinP, pbinI, c3a, decide_false, List.getElem?_toArray, List.getElem?_cons_succ, Option.bind_some, List.drop_succ_cons, hw3, c3', ofConst, ofVal, ppick_bool, thenQ, isB, tmpOf, asB, true_and]
    have hAx : A + e.del.length ≤ x.length := by omega
    refine SW.seq (SW.run [] _ ?_)
    simp only [wpC, mayStop, stops, isFlt, Specs.has, Specs.hasO, Bool.or_false, Specs.hasH, Bool.not_false, List.any_cons, List.any_nil, Bool.false_eq_true, ↓reduceIte, wpS, wantedA, okDst, Nat.reduceLT, decide_true, step1, isOwnCall, hxOp, px, AS.eval, ofConst, ofVal, thenQ, AS.put, dropKey, Nat.reduceEqDiff, true_and]
    refine SW.loopK 130 (fun j : Nat => [(1, .list 4 (edL es)), (6, .list 1 (strL x)), (7, v), (8, .int .i64 (fr : Nat)), (9, .int .i64 (i : Nat)), (10, .val (.pointer (some ⟨r, 0, none⟩))), (11, .int .i64 (j : Nat))]) (fun _ => H2) (fun j => j ≤ e.del.length ∧ ∀ k, k < j → (h2 : k < e.del.length) → x[A + k] = e.del[k]) (fun j => e.del.length - j) 0 ⟨Nat.zero_le _, fun j hj => absurd hj (Nat.not_lt_zero _)⟩ ?_ ?_
    · simp only [Has, hasAll, AS.get, Lift.look, Nat.reduceEqDiff, ↓reduceIte, Option.getD_some, Int.cast_ofNat_Int, and_self]
    rintro j ⟨hj, heq⟩
    refine SW.seq (SW.run [] _ ?_)
    by_cases hjl : j < e.del.length
    · have hwj : IntKind.i64.wrap ((j : Int) + 1) = ((j + 1 : Nat) : Int) := by rw [w64 (by omega) (by omega)]; rfl
      have hwa : IntKind.i64.wrap (((A : Nat) : Int) + ((j : Nat) : Int)) = ((A + j : Nat) : Int) := by rw [w64 (by omega) (by omega)]; rfl
      have hlx : A + j < x.length := by omega
      have hgx := strL_at hlx
      have hgd := strL_at hjl
      simp only [wpC, mayStop, stops, isFlt, Specs.has, Specs.hasO, Bool.or_false, Specs.hasH, Bool.not_false, List.any_cons, List.any_nil, Bool.false_eq_true, ↓reduceIte, wpS, wantedA, okDst, Nat.reduceLT, decide_true, step1, isOwnCall, hxOp, px, AS.eval, AS.get, Lift.look, Nat.reduceEqDiff, Option.getD_some, AS.put, dropKey, pfieldAddr, fieldOf, ty67, fieldIn, List.getElem?_cons_succ, List.getElem?_cons_zero, ty34, Option.map_some, ne_eq, Nat.succ_ne_zero, not_false_eq_true, Nat.zero_add, pload, gr, okOne, TK.isAgg, beq_self_eq_true, Bool.or_true, Nat.reduceAdd, List.length_cons, List.length_nil, Nat.reduceLeDiff, and_self, Lift.valOf, List.drop_succ_cons, List.drop_zero, List.take_succ_cons, List.take_zero, List.getD_cons_zero, pcall, plen, strL_len, okLen, isNilC, pbinP, pbinI, Int.ofNat_lt, hjl, thenQ, isB, tmpOf, asB, Has, hasAll, and_true, true_and]
      refine SW.seq (SW.block (SW.seq (SW.regionAny [] [[0, 1, 2, 3, 4, 5, 6, 7, 8, 9, 10, 11, 12]] rfl (by rfl) (by kernel_rfl) ?_)))
      cases c4 : (x[A + j] == e.del[j])
      · have c4' : ¬ (x.drop e.a.toNat).take e.del.length = e.del := by rw [hAn]; exact take_drop_ne hAx hjl (by simpa using c4)
        have hE : R = (14, []) := herr 14 (by decide) (by unfold errP; rw [if_neg c1, if_neg c2, if_neg c3, if_pos c4'])
        subst hE
        simp only [wpOL, wpO, LOp, List.getElem?_toArray, List.getElem?_cons_zero, okDst, Nat.reduceLT, decide_true, wantedA, ↓reduceIte, step1, isOwnCall, Bool.false_eq_true, hxOp, px, AS.eval, AS.get, Lift.look, Nat.reduceEqDiff, Option.getD_some, List.getElem?_cons_succ, AS.put, dropKey, pfieldAddr, fieldOf, ty67, fieldIn, ty3, Option.map_some, ne_eq, Nat.succ_ne_zero, not_false_eq_true, Nat.add_zero, pload, gr, okOne, TK.isAgg, beq_self_eq_true, Bool.or_true, Nat.zero_add, List.length_cons, List.length_nil, Nat.reduceAdd, Nat.reduceLeDiff, and_self, Lift.valOf, List.drop_zero, List.take_succ_cons, List.take_zero, List.getD_cons_zero, isNilC, pbinP, pbinI, hwa, pindexAddr, ty34, ty9, Int.natCast_nonneg, Int.toNat_natCast, strL_len, hlx, hgx, Nat.le_refl, List.take_nil, List.drop_succ_cons, hjl, hgd, pbinS, c4, Bool.not_false, thenQ, Int.reduceEq, true_and]
        refine SW.run [] _ ?_
        simp only [wpC, isB, AS.get, Lift.look, tmpOf, ↓reduceIte, Option.getD_some, asB, mayStop, stops, isFlt, Specs.has, Specs.hasO, Bool.or_false, Specs.hasH, Bool.not_false, List.any_cons, List.any_nil, Bool.false_eq_true, wpS, wantedA, okDst, Nat.reduceLT, decide_true, step1, isOwnCall, hxOp, px, AS.eval, ofConst, ofVal, AS.put, dropKey, Nat.reduceEqDiff, thenQ, inQ, RPost, sres, Tryd.results19, sresL, sres1, Option.some.injEq, Ret_fin, exists_eq_left', true_and]
        exact Inc.to incE
      · simp only [wpOL, wpO, LOp, List.getElem?_toArray, List.getElem?_cons_zero, okDst, Nat.reduceLT, decide_true, wantedA, ↓reduceIte, step1, isOwnCall, Bool.false_eq_true, hxOp, px, AS.eval, AS.get, Lift.look, Nat.reduceEqDiff, Option.getD_some, List.getElem?_cons_succ, AS.put, dropKey, pfieldAddr, fieldOf, ty67, fieldIn, ty3, Option.map_some, ne_eq, Nat.succ_ne_zero, not_false_eq_true, Nat.add_zero, pload, gr, okOne, TK.isAgg, beq_self_eq_true, Bool.or_true, Nat.zero_add, List.length_cons, List.length_nil, Nat.reduceAdd, Nat.reduceLeDiff, and_self, Lift.valOf, List.drop_zero, List.take_succ_cons, List.take_zero, List.getD_cons_zero, isNilC, pbinP, pbinI, hwa, pindexAddr, ty34, ty9, Int.natCast_nonneg, Int.toNat_natCast, strL_len, hlx, hgx, Nat.le_refl, List.take_nil, List.drop_succ_cons, hjl, hgd, pbinS, c4, Bool.not_true, thenQ, true_and]
        refine SW.run [] _ ?_
        simp only [wpC, isB, AS.get, Lift.look, tmpOf, ↓reduceIte, Option.getD_some, asB, Bool.false_eq_true, inQ, thenQ, true_and]
        refine SW.run [] _ ?_
        simp only [wpC, Bool.false_eq_true, ↓reduceIte, wpS, stops, wantedA, okDst, Nat.reduceLT, decide_true, step1, isOwnCall, hxOp, px, AS.eval, AS.get, Lift.look, Nat.reduceEqDiff, Option.getD_some, isFlt, ty3, AS.put, dropKey, isNilC, pbinP, ofConst, ofVal, pbinI, hwj, thenQ, true_and]
        exact ⟨j + 1, ⟨by omega, fun k hk hk2 => by
          rcases Nat.lt_or_ge k j with h1 | h1
          · exact heq k h1 hk2
          · obtain rfl : k = j := by omega
            simpa using c4⟩, by omega, rfl⟩
    · have c4' : (x.drop e.a.toNat).take e.del.length = e.del := by rw [hAn]; exact take_drop_eq hAx fun k hk => heq k (by omega) hk
      simp only [wpC, mayStop, stops, isFlt, Specs.has, Specs.hasO, Bool.or_false, Specs.hasH, Bool.not_false, List.any_cons, List.any_nil, Bool.false_eq_true, ↓reduceIte, wpS, wantedA, okDst, Nat.reduceLT, decide_true, step1, isOwnCall, hxOp, px, AS.eval, AS.get, Lift.look, Nat.reduceEqDiff, Option.getD_some, AS.put, dropKey, pfieldAddr, fieldOf, ty67, fieldIn, List.getElem?_cons_succ, List.getElem?_cons_zero, ty34, Option.map_some, ne_eq, Nat.succ_ne_zero, not_false_eq_true, Nat.zero_add, pload, gr, okOne, TK.isAgg, beq_self_eq_true, Bool.or_true, Nat.reduceAdd, List.length_cons, List.length_nil, Nat.reduceLeDiff, and_self, Lift.valOf, List.drop_succ_cons, List.drop_zero, List.take_succ_cons, List.take_zero, List.getD_cons_zero, pcall, plen, strL_len, okLen, isNilC, pbinP, pbinI, Int.ofNat_lt, hjl, decide_false, thenQ, isB, tmpOf, asB, inQ, true_and]
      have hb3 : ((fr : Nat) : Int) ≤ ((A : Nat) : Int) := by omega
      have hb4 : ((A : Nat) : Int) ≤ ((x.length : Nat) : Int) := by omega
      have hdy : List.drop fr (List.take A (strL x)) = strL ((x.take A).drop fr) := by rw [strL_take, strL_drop]
      have hml : ((x.take A).drop fr).length = A - fr := by rw [List.length_drop, List.length_take]; omega
      have hO2 : outP x fr out e = (out ++ (x.take A).drop fr) ++ e.ins := by unfold outP; rw [hAn, List.append_assoc]
      obtain ⟨M, hM⟩ : ∃ M, M = (x.take A).drop fr := ⟨_, rfl⟩
      rw [← hM] at hml hdy hO2
      have lO : (out ++ M).length = out.length + (A - fr) := by rw [List.length_append, hml]
      refine SW.seq (SW.run [] _ ?_)
      simp only [wpC, Bool.false_eq_true, ↓reduceIte, wpS, stops, wantedA, okDst, Nat.reduceLT, decide_true, step1, isOwnCall, hxOp, px, AS.eval, AS.get, Lift.look, Nat.reduceEqDiff, Option.getD_some, AS.put, dropKey, pfieldAddr, fieldOf, ty67, fieldIn, List.getElem?_cons_zero, ty3, Option.map_some, ne_eq, Nat.succ_ne_zero, not_false_eq_true, Nat.add_zero, pload, gr, okOne, TK.isAgg, beq_self_eq_true, Bool.or_true, Nat.zero_add, List.length_cons, List.length_nil, Nat.reduceAdd, Nat.reduceLeDiff, and_self, Lift.valOf, List.drop_zero, List.take_succ_cons, List.take_zero, List.getD_cons_zero, pslice, ty34, ty9, pB, Int.natCast_nonneg, hb3, strL_len, hb4, Int.toNat_natCast, hdy, true_and]
      refine SWO.append (.tmp 74) (.tmp 79) 34 34 rfl ty34 rfl ty9 (by decide) rfl ty34 rfl ow2 (ys := strL M) rfl (by rw [strL_len, strL_len]; show _ * 16 ≤ _; omega) (by rw [strL_len, strL_len]; simp [maxLen]; omega) rfl rfl ?_
      intro v4 h4 ow4 _ _
      rw [← strL_append] at ow4
      have ow4 : Own h2 9 1 (strL (out ++ M)) v4 h4 := ow4
      have gr4 := ow4.base g1
      obtain ⟨P0, cp0, ev⟩ := ow4.slice
      obtain ⟨N0, eN0⟩ : ∃ N0, N0 = (strL (out ++ M)).length := ⟨_, rfl⟩
      rw [← eN0] at ev
      rw [strL_len] at eN0
      subst ev
      have incG : Lift.Inc h h4 := fun k X ek => ow4.inc k X (inc2 k X ek)
      refine SWO.run [] 1000 ?_
      simp only [wpS, stops, Bool.false_eq_true, ↓reduceIte, wantedA, okDst, AS.put, dropKey, Nat.reduceEqDiff, Nat.reduceLT, decide_true, step1, isOwnCall, hxOp, px, AS.eval, AS.get, Lift.look, Option.getD_some, thenQ, true_and]
      refine SW.enter (n := 130) (l := [(1, .list 4 (edL es)), (6, .list 1 (strL x)), (7, .val (.slice P0 N0 cp0)), (9, .int .i64 (i : Nat)), (10, .val (.pointer (some ⟨r, 0, none⟩)))]) (H := h4) rfl (.refl _ _) (by simp only [hasAll, AS.get, Lift.look, Nat.reduceEqDiff, ↓reduceIte, Option.getD_some, and_self]) ?_
      refine SW.seq (SW.run [] _ ?_)
      cases c5 : (e.b != (N0 : Int))
      case true =>
        have c5' : e.b ≠ (out.length : Int) + (e.a - (fr : Int)) := by
          have : e.b ≠ (N0 : Int) := by simpa using c5
          rw [hA]; omega
        have hE : R = (2, []) := herr 2 (by decide) (by unfold errP; rw [if_neg c1, if_neg c2, if_neg c3, if_neg (fun k => k c4'), if_pos c5'])
        subst hE
        simp only [wpC, mayStop, stops, isFlt, Specs.has, Specs.hasO, Bool.or_false, Specs.hasH, Bool.not_false, List.any_cons, List.any_nil, Bool.false_eq_true, ↓reduceIte, wpS, wantedA, okDst, Nat.reduceLT, decide_true, step1, isOwnCall, hxOp, px, pfieldAddr, fieldOf, ty67, fieldIn, List.getElem?_cons_succ, List.getElem?_cons_zero, ty3, Option.map_some, AS.eval, AS.get, Lift.look, Nat.reduceEqDiff, Option.getD_some, ne_eq, Nat.succ_ne_zero, not_false_eq_true, Nat.zero_add, AS.put, dropKey, pload, gr4, okOne, TK.isAgg, beq_self_eq_true, Bool.or_true, Nat.reduceAdd, List.length_cons, List.length_nil, Nat.reduceLeDiff, and_self, Lift.valOf, List.drop_succ_cons, List.drop_zero, List.take_succ_cons, List.take_zero, List.getD_cons_zero, pcall, ty34, plen, okLen, isNilC, pbinP, pbinI, c5, thenQ, isB, tmpOf, asB, ofConst, ofVal, inQ, RPost, sres, Tryd.results19, sresL, sres1, Option.some.injEq, Int.reduceEq, Ret_fin, exists_eq_left', true_and]
        exact Inc.to incG
      have c5' : e.b = (out.length : Int) + (e.a - (fr : Int)) := by
        have : e.b = (N0 : Int) := by simpa using c5
        rw [hA]; omega
      simp only [wpC, mayStop, stops, isFlt, Specs.has, Specs.hasO, Bool.or_false, Specs.hasH, Bool.not_false, List.any_cons, List.any_nil, Bool.false_eq_true, ↓reduceIte, wpS, wantedA, okDst, Nat.reduceLT, decide_true, step1, isOwnCall, hxOp, px, pfieldAddr, fieldOf, ty67, fieldIn, List.getElem?_cons_succ, List.getElem?_cons_zero, ty3, Option.map_some, AS.eval, AS.get, Lift.look, Nat.reduceEqDiff, Option.getD_some, ne_eq, Nat.succ_ne_zero, not_false_eq_true, Nat.zero_add, AS.put, dropKey, pload, gr4, okOne, TK.isAgg, beq_self_eq_true, Bool.or_true, Nat.reduceAdd, List.length_cons, List.length_nil, Nat.reduceLeDiff, and_self, Lift.valOf, List.drop_succ_cons, List.drop_zero, List.take_succ_cons, List.take_zero, List.getD_cons_zero, pcall, ty34, plen, okLen, isNilC, pbinP, pbinI, c5, thenQ, isB, tmpOf, asB, true_and]
      refine SW.seq (SW.run [] _ ?_)
      simp only [wpC, mayStop, stops, isFlt, Specs.has, Specs.hasO, Bool.or_false, Specs.hasH, Bool.not_false, List.any_cons, List.any_nil, Bool.false_eq_true, ↓reduceIte, wpS, wantedA, okDst, Nat.reduceLT, decide_true, step1, isOwnCall, hxOp, px, AS.eval, ofConst, ofVal, thenQ, AS.put, dropKey, Nat.reduceEqDiff, true_and]
      refine SW.loopK 130 (fun j : Nat => [(1, .list 4 (edL es)), (6, .list 1 (strL x)), (7, .val (.slice P0 N0 cp0)), (9, .int .i64 (i : Nat)), (10, .val (.pointer (some ⟨r, 0, none⟩))), (12, .int .i64 (j : Nat))]) (fun _ => h4) (fun j => j ≤ e.ins.length ∧ (e.ins.take j).all lineB = true) (fun j => e.ins.length - j) 0 ⟨Nat.zero_le _, rfl⟩ ?_ ?_
      · simp only [Has, hasAll, AS.get, Lift.look, Nat.reduceEqDiff, ↓reduceIte, Option.getD_some, Int.cast_ofNat_Int, and_self]
      rintro j ⟨hj, hall⟩
      refine SW.seq (SW.run [] _ ?_)
      by_cases hjl : j < e.ins.length
      · have hwj : IntKind.i64.wrap ((j : Int) + 1) = ((j + 1 : Nat) : Int) := by rw [w64 (by omega) (by omega)]; rfl
        have hgd := strL_at hjl
        have hl9 := hins _ (List.getElem_mem hjl)
        simp only [wpC, mayStop, stops, isFlt, Specs.has, Specs.hasO, Bool.or_false, Specs.hasH, Bool.not_false, List.any_cons, List.any_nil, Bool.false_eq_true, ↓reduceIte, wpS, wantedA, okDst, Nat.reduceLT, decide_true, step1, isOwnCall, hxOp, px, AS.eval, AS.get, Lift.look, Nat.reduceEqDiff, Option.getD_some, AS.put, dropKey, pfieldAddr, fieldOf, ty67, fieldIn, List.getElem?_cons_succ, List.getElem?_cons_zero, ty34, Option.map_some, ne_eq, Nat.succ_ne_zero, not_false_eq_true, Nat.zero_add, pload, gr4, okOne, TK.isAgg, beq_self_eq_true, Bool.or_true, Nat.reduceAdd, List.length_cons, List.length_nil, Nat.le_refl, and_self, Lift.valOf, List.drop_succ_cons, List.drop_zero, List.take_succ_cons, List.take_nil, List.getD_cons_zero, pcall, plen, strL_len, okLen, isNilC, pbinP, pbinI, Int.ofNat_lt, hjl, thenQ, isB, tmpOf, asB, Has, hasAll, and_true, true_and]
        refine SW.seq (SW.block (SW.run [eSingle] _ ?_))
        cases c6 : lineB e.ins[j]
        · have c6' : e.ins.all lineB = false := by rw [List.all_eq_false]; exact ⟨_, List.getElem_mem hjl, by simp [c6]⟩
          have hE : R = (9, []) := herr 9 (by decide) (by unfold errP; rw [if_neg c1, if_neg c2, if_neg c3, if_neg (fun k => k c4'), if_neg (fun k => k c5'), if_neg (by rw [c6']; simp)])
          subst hE
          simp only [wpC, mayStop, stops, isFlt, Specs.has, eSingle, Specs.hasO, Bool.or_false, Specs.hasH, List.any_cons, ↓reduceIte, Bool.not_true, List.any_nil, Bool.false_eq_true, wpS, wantedA, okDst, Nat.reduceLT, decide_true, step1, isOwnCall, hxOp, px, pfieldAddr, fieldOf, ty67, fieldIn, List.getElem?_cons_succ, List.getElem?_cons_zero, ty34, Option.map_some, AS.eval, AS.get, Lift.look, Nat.reduceEqDiff, Option.getD_some, ne_eq, Nat.succ_ne_zero, not_false_eq_true, Nat.zero_add, AS.put, dropKey, pload, gr4, okOne, TK.isAgg, beq_self_eq_true, Bool.or_true, Nat.reduceAdd, List.length_cons, List.length_nil, Nat.le_refl, and_self, Lift.valOf, List.drop_succ_cons, List.drop_zero, List.take_succ_cons, List.take_nil, List.getD_cons_zero, pindexAddr, ty9, Int.natCast_nonneg, Int.toNat_natCast, strL_len, hjl, hgd, pcall, okArg, ofConst, ofVal, List.all_cons, List.all_nil, Bool.and_true, Specs.at, List.map_cons, List.map_nil, sLB, hl9, c6, pun, Bool.not_false, thenQ, isB, tmpOf, asB, inQ, RPost, sres, Tryd.results19, sresL, sres1, Option.some.injEq, Int.reduceEq, Ret_fin, exists_eq_left', true_and]
          exact Inc.to incG
        · simp only [wpC, mayStop, stops, isFlt, Specs.has, eSingle, Specs.hasO, Bool.or_false, Specs.hasH, List.any_cons, ↓reduceIte, Bool.not_true, List.any_nil, Bool.false_eq_true, wpS, wantedA, okDst, Nat.reduceLT, decide_true, step1, isOwnCall, hxOp, px, pfieldAddr, fieldOf, ty67, fieldIn, List.getElem?_cons_succ, List.getElem?_cons_zero, ty34, Option.map_some, AS.eval, AS.get, Lift.look, Nat.reduceEqDiff, Option.getD_some, ne_eq, Nat.succ_ne_zero, not_false_eq_true, Nat.zero_add, AS.put, dropKey, pload, gr4, okOne, TK.isAgg, beq_self_eq_true, Bool.or_true, Nat.reduceAdd, List.length_cons, List.length_nil, Nat.le_refl, and_self, Lift.valOf, List.drop_succ_cons, List.drop_zero, List.take_succ_cons, List.take_nil, List.getD_cons_zero, pindexAddr, ty9, Int.natCast_nonneg, Int.toNat_natCast, strL_len, hjl, hgd, pcall, okArg, ofConst, ofVal, List.all_cons, List.all_nil, Bool.and_true, Specs.at, List.map_cons, List.map_nil, sLB, hl9, c6, pun, thenQ, isB, tmpOf, asB, inQ, true_and]
          refine SW.run [] _ ?_
          simp only [wpC, Bool.false_eq_true, ↓reduceIte, wpS, stops, wantedA, okDst, Nat.reduceLT, decide_true, step1, isOwnCall, hxOp, px, AS.eval, AS.get, Lift.look, Nat.reduceEqDiff, Option.getD_some, isFlt, ty3, AS.put, dropKey, isNilC, pbinP, ofConst, ofVal, pbinI, hwj, thenQ, true_and]
          exact ⟨j + 1, ⟨by omega, by rw [List.take_succ_eq_append_getElem hjl, List.all_append, hall]; simp [c6]⟩, by omega, rfl⟩
      · have c6 : e.ins.all lineB = true := by rw [List.take_of_length_le (by omega)] at hall; exact hall
        have hok : errP x fr out e = 0 := (errP_iff _ _ _ _).2 ⟨c1, by omega, by omega, c4', c5', c6⟩
        rw [patchE_ok _ hok] at hp
        have hF2 : frP e = A + e.del.length := by unfold frP; rw [hAn]
        rw [hO2, hF2] at hp
        have hwd : IntKind.i64.wrap (((A : Nat) : Int) + ((e.del.length : Nat) : Int)) = ((A + e.del.length : Nat) : Int) := by rw [w64 (by omega) (by omega)]; rfl
        have lO2 : (out ++ M ++ e.ins).length = out.length + (A - fr) + e.ins.length := by rw [List.length_append, lO]
        simp only [wpC, mayStop, stops, isFlt, Specs.has, Specs.hasO, Bool.or_false, Specs.hasH, Bool.not_false, List.any_cons, List.any_nil, Bool.false_eq_true, ↓reduceIte, wpS, wantedA, okDst, Nat.reduceLT, decide_true, step1, isOwnCall, hxOp, px, AS.eval, AS.get, Lift.look, Nat.reduceEqDiff, Option.getD_some, AS.put, dropKey, pfieldAddr, fieldOf, ty67, fieldIn, List.getElem?_cons_succ, List.getElem?_cons_zero, ty34, Option.map_some, ne_eq, Nat.succ_ne_zero, not_false_eq_true, Nat.zero_add, pload, gr4, okOne, TK.isAgg, beq_self_eq_true, Bool.or_true, Nat.reduceAdd, List.length_cons, List.length_nil, Nat.le_refl, and_self, Lift.valOf, List.drop_succ_cons, List.drop_zero, List.take_succ_cons, List.take_nil, List.getD_cons_zero, pcall, plen, strL_len, okLen, isNilC, pbinP, pbinI, Int.ofNat_lt, hjl, decide_false, thenQ, isB, tmpOf, asB, inQ, true_and]
        refine SW.seq (SW.run [] _ ?_)
        simp only [wpC, Bool.false_eq_true, ↓reduceIte, wpS, stops, wantedA, okDst, Nat.reduceLT, decide_true, step1, isOwnCall, hxOp, px, AS.eval, AS.get, Lift.look, Nat.reduceEqDiff, Option.getD_some, AS.put, dropKey, pfieldAddr, fieldOf, ty67, fieldIn, List.getElem?_cons_succ, List.getElem?_cons_zero, ty34, Option.map_some, ne_eq, Nat.succ_ne_zero, not_false_eq_true, Nat.zero_add, pload, gr4, okOne, TK.isAgg, beq_self_eq_true, Bool.or_true, Nat.reduceAdd, List.length_cons, List.length_nil, Nat.le_refl, and_self, Lift.valOf, List.drop_succ_cons, List.drop_zero, List.take_succ_cons, List.take_nil, List.getD_cons_zero, true_and]
        refine SWO.append (.tmp 100) (.tmp 102) 34 34 rfl ty34 rfl ty9 (by decide) rfl ty34 rfl ow4 (ys := strL e.ins) rfl (by rw [strL_len, strL_len, lO]; show _ * 16 ≤ _; omega) (by rw [strL_len, strL_len, lO]; simp [maxLen]; omega) rfl rfl ?_
        intro v5 h5 ow5 _ _
        rw [← strL_append] at ow5
        have gr5 := ow5.base g1
        refine SWO.run [] 1000 ?_
        simp only [wpS, stops, Bool.false_eq_true, ↓reduceIte, wantedA, okDst, AS.put, dropKey, Nat.reduceEqDiff, Nat.reduceLT, decide_true, step1, isOwnCall, hxOp, px, AS.eval, AS.get, Lift.look, Option.getD_some, thenQ, true_and]
        refine SW.run [] _ ?_
        simp only [wpC, Bool.false_eq_true, ↓reduceIte, wpS, stops, wantedA, okDst, Nat.reduceLT, decide_true, step1, isOwnCall, hxOp, px, pfieldAddr, fieldOf, ty67, fieldIn, List.getElem?_cons_zero, ty3, Option.map_some, AS.eval, AS.get, Lift.look, Nat.reduceEqDiff, Option.getD_some, ne_eq, Nat.succ_ne_zero, not_false_eq_true, Nat.add_zero, AS.put, dropKey, pload, gr5, okOne, TK.isAgg, beq_self_eq_true, Bool.or_true, Nat.zero_add, List.length_cons, List.length_nil, Nat.reduceAdd, Nat.reduceLeDiff, and_self, Lift.valOf, List.drop_zero, List.take_succ_cons, List.take_zero, List.getD_cons_zero, List.getElem?_cons_succ, ty34, List.drop_succ_cons, pcall, plen, strL_len, okLen, isFlt, isNilC, pbinP, pbinI, hwd, inQ, thenQ, true_and]
        refine SW.run [] _ ?_
        simp only [wpC, Bool.false_eq_true, ↓reduceIte, wpS, stops, wantedA, okDst, Nat.reduceLT, decide_true, step1, isOwnCall, hxOp, px, AS.eval, AS.get, Lift.look, Nat.reduceEqDiff, Option.getD_some, isFlt, ty3, AS.put, dropKey, isNilC, pbinP, ofConst, ofVal, pbinI, hw, thenQ, true_and]
        exact ⟨es.length - (i + 1), by omega, i + 1, A + e.del.length, out ++ M ++ e.ins, v5, h2, by omega, rfl, by omega, by rw [lO2]; omega, hp, inc2, ow5, rfl, rfl, rfl⟩
  · have hie : i = es.length := by omega
    subst hie
    rw [List.drop_length] at hp hol
    have hol : out.length + 0 ≤ fr + insN es := hol
    have hb5 : ((fr : Nat) : Int) ≤ ((x.length : Nat) : Int) := by omega
    have hdz : List.drop fr (strL x) = strL (x.drop fr) := strL_drop _ _
    have hdz2 : List.take x.length (strL x) = strL x := List.take_of_length_le (by rw [strL_len]; exact Nat.le_refl _)
    have lx : (x.drop fr).length = x.length - fr := List.length_drop
    simp only [wpC, mayStop, stops, isFlt, Specs.has, Specs.hasO, Bool.or_false, Specs.hasH, Bool.not_false, List.any_cons, List.any_nil, Bool.false_eq_true, ↓reduceIte, wpS, wantedA, okDst, Nat.reduceLT, decide_true, step1, isOwnCall, hxOp, px, AS.eval, AS.get, Lift.look, Nat.reduceEqDiff, Option.getD_some, AS.put, dropKey, pcall, ty28, plen, edL_len, okLen, and_self, isNilC, pbinP, pbinI, Int.ofNat_lt, hlt, decide_false, thenQ, isB, tmpOf, asB, inQ, true_and]
    refine SW.seq (SW.run [] _ ?_)
    simp only [wpC, Bool.false_eq_true, ↓reduceIte, wpS, stops, wantedA, okDst, Nat.reduceLT, decide_true, step1, isOwnCall, hxOp, px, AS.eval, AS.get, Lift.look, Nat.reduceEqDiff, Option.getD_some, AS.put, dropKey, pslice, ty34, ty9, pB, strL_len, Int.natCast_nonneg, hb5, true_and, Int.toNat_natCast, hdz2, hdz]
    refine ⟨by omega, ?_⟩
    refine SWO.append (.tmp 110) (.tmp 113) 34 34 rfl ty34 rfl ty9 (by decide) rfl ty34 rfl ow (ys := strL (x.drop fr)) rfl (by rw [strL_len, strL_len, lx]; show _ * 16 ≤ _; omega) (by rw [strL_len, strL_len, lx]; simp [maxLen]; omega) rfl rfl ?_
    intro v4 h4 ow4 _ _
    rw [← strL_append] at ow4
    have lo : (out ++ x.drop fr).length ≤ 3000000 := by rw [List.length_append, lx]; omega
    unfold patchE at hp
    generalize out ++ x.drop fr = o at hp ow4 lo
    subst hp
    have hf : o.flatten.length ≤ 1000000000 := hf
    have lo9 : o.length ≤ 1000000000 := by omega
    have hlo : ∀ l ∈ o, l.length ≤ 1000000000 := fun l hm => by
      have := (List.sublist_flatten_of_mem hm).length_le
      omega
    refine SWO.run [] 1000 ?_
    simp only [wpS, stops, Bool.false_eq_true, ↓reduceIte, wantedA, okDst, AS.put, dropKey, Nat.reduceEqDiff, Nat.reduceLT, decide_true, step1, isOwnCall, hxOp, px, AS.eval, AS.get, Lift.look, Option.getD_some, thenQ, true_and]
    refine SW.own_let 7 rfl ow4 ?_
    refine SW.seq (SW.seq (SW.run [] _ ?_))
    simp only [wpC, Bool.false_eq_true, ↓reduceIte, wpS, stops, wantedA, okDst, AS.put, dropKey, Nat.reduceEqDiff, Nat.reduceLT, decide_true, step1, isOwnCall, hxOp, px, AS.eval, ofConst, ofVal, thenQ, true_and]
    refine SW.block (SW.loopK 130 (fun i : Nat => [(7, .list 1 (strL o)), (13, .int .i64 (i : Nat))]) (fun _ => h1) (fun i => (i + 1 ≤ o.length ∨ i = 0) ∧ ∀ j, j < i → (hj : j + 1 < o.length) → endB (o[j]'(by omega)) = true) (fun i => o.length - i) 0 ⟨.inr rfl, fun j hj => absurd hj (Nat.not_lt_zero _)⟩ ?_ ?_)
    · simp only [Has, hasAll, AS.get, Lift.look, Nat.reduceEqDiff, ↓reduceIte, Option.getD_some, Int.cast_ofNat_Int, and_self]
    rintro i ⟨hi, hno⟩
    refine SW.seq (SW.run [] _ ?_)
    have hw : IntKind.i64.wrap ((i : Int) + 1) = ((i + 1 : Nat) : Int) := by rw [w64 (by omega) (by omega)]; rfl
    by_cases hlt : i + 1 < o.length
    · have hlt2 : i < o.length := by omega
      have hgo := strL_at hlt2
      have hl9 := hlo _ (List.getElem_mem hlt2)
      simp only [wpC, mayStop, stops, isFlt, Specs.has, Specs.hasO, Bool.or_false, Specs.hasH, Bool.not_false, List.any_cons, ty3, List.any_nil, Bool.false_eq_true, ↓reduceIte, wpS, wantedA, okDst, Nat.reduceLT, decide_true, step1, isOwnCall, hxOp, px, AS.eval, AS.get, Lift.look, Nat.reduceEqDiff, Option.getD_some, AS.put, dropKey, isNilC, pbinP, ofConst, ofVal, pbinI, hw, pcall, ty34, plen, strL_len, okLen, and_self, Int.ofNat_lt, hlt, thenQ, isB, tmpOf, asB, Has, hasAll, and_true, true_and]
      refine SW.seq (SW.block (SW.run [eEnded] _ ?_))
      cases k2 : endB o[i]
      · have hE : endE o = 9 := endE_bad hlt k2
        simp only [wpC, mayStop, stops, isFlt, Specs.has, eEnded, Specs.hasO, Bool.or_false, Specs.hasH, List.any_cons, ↓reduceIte, Bool.not_true, List.any_nil, Bool.false_eq_true, wpS, wantedA, okDst, Nat.reduceLT, decide_true, step1, isOwnCall, hxOp, px, AS.eval, AS.get, Lift.look, Nat.reduceEqDiff, Option.getD_some, AS.put, dropKey, pindexAddr, ty34, ty9, ne_eq, Nat.succ_ne_zero, not_false_eq_true, Int.natCast_nonneg, Int.toNat_natCast, strL_len, hlt2, and_self, hgo, pload, okOne, TK.isAgg, beq_self_eq_true, Bool.or_true, List.length_cons, List.length_nil, Nat.zero_add, Nat.le_refl, Lift.valOf, List.take_succ_cons, List.take_nil, List.getD_cons_zero, pcall, okArg, ofConst, ofVal, List.all_cons, List.all_nil, Bool.and_true, Specs.at, List.map_cons, List.map_nil, sLB, hl9, k2, pun, Bool.not_false, thenQ, isB, tmpOf, asB, inQ, RPost, sres, Tryd.results19, sresL, sres1, Option.some.injEq, hE, Int.reduceEq, Ret_fin, exists_eq_left', true_and]
        exact Inc.to inc
      · simp only [wpC, mayStop, stops, isFlt, Specs.has, eEnded, Specs.hasO, Bool.or_false, Specs.hasH, List.any_cons, ↓reduceIte, Bool.not_true, List.any_nil, Bool.false_eq_true, wpS, wantedA, okDst, Nat.reduceLT, decide_true, step1, isOwnCall, hxOp, px, AS.eval, AS.get, Lift.look, Nat.reduceEqDiff, Option.getD_some, AS.put, dropKey, pindexAddr, ty34, ty9, ne_eq, Nat.succ_ne_zero, not_false_eq_true, Int.natCast_nonneg, Int.toNat_natCast, strL_len, hlt2, and_self, hgo, pload, okOne, TK.isAgg, beq_self_eq_true, Bool.or_true, List.length_cons, List.length_nil, Nat.zero_add, Nat.le_refl, Lift.valOf, List.take_succ_cons, List.take_nil, List.getD_cons_zero, pcall, okArg, ofConst, ofVal, List.all_cons, List.all_nil, Bool.and_true, Specs.at, List.map_cons, List.map_nil, sLB, hl9, k2, pun, thenQ, isB, tmpOf, asB, inQ, true_and]
        refine SW.run [] _ ?_
        simp only [wpC, Bool.false_eq_true, ↓reduceIte, wpS, stops, wantedA, okDst, Nat.reduceLT, decide_true, step1, isOwnCall, hxOp, px, AS.eval, AS.get, Lift.look, Nat.reduceEqDiff, Option.getD_some, isFlt, ty3, AS.put, dropKey, isNilC, pbinP, ofConst, ofVal, pbinI, hw, thenQ, true_and]
        exact ⟨i + 1, ⟨.inl (by omega), fun j hj hj2 => by
          rcases Nat.lt_or_ge j i with h1 | h1
          · exact hno j h1 hj2
          · obtain rfl : j = i := by omega
            exact k2⟩, by omega, rfl⟩
    · have hE : endE o = 0 := endE_ok fun j hj => hno j (by omega) hj
      simp only [wpC, mayStop, stops, isFlt, Specs.has, Specs.hasO, Bool.or_false, Specs.hasH, Bool.not_false, List.any_cons, ty3, List.any_nil, Bool.false_eq_true, ↓reduceIte, wpS, wantedA, okDst, Nat.reduceLT, decide_true, step1, isOwnCall, hxOp, px, AS.eval, AS.get, Lift.look, Nat.reduceEqDiff, Option.getD_some, AS.put, dropKey, isNilC, pbinP, ofConst, ofVal, pbinI, hw, pcall, ty34, plen, strL_len, okLen, and_self, Int.ofNat_lt, hlt, decide_false, thenQ, isB, tmpOf, asB, inQ, true_and]
      refine SW.run [eWhole] _ ?_
      simp only [wpC, mayStop, stops, isFlt, Specs.has, eWhole, Specs.hasO, Bool.or_false, Specs.hasH, List.any_cons, ↓reduceIte, Bool.not_true, List.any_nil, Bool.false_eq_true, wpS, wantedA, okDst, Nat.reduceLT, decide_true, step1, isOwnCall, hxOp, px, AS.eval, AS.get, Lift.look, Nat.reduceEqDiff, Option.getD_some, AS.put, dropKey, pcall, okArg, ofConst, ofVal, List.all_cons, List.all_nil, Bool.and_true, Specs.at, List.map_cons, List.map_nil, sWhole, unS_el, lo9, hf, and_self, thenQ, RPost, sres, Tryd.results19, sresL, sres1, Option.some.injEq, hE, Ret_fin, exists_eq_left', true_and]
      exact Inc.to inc
def sRPatch (s : List UInt8) (es : List Ed) : List PV → Prop × PV
  | [.str s', .list 4 xs] => (s' = s ∧ xs = edL es ∧ s.length ≤ 1000000 ∧ (∀ e ∈ es, e.small ∧ ∀ l ∈ e.ins, l.length ≤ 1000000000) ∧ es.length ≤ 1000000 ∧ insN es ≤ 1000000 ∧ (patchE (linesOf s) 0 [] es).2.flatten.length ≤ 1000000000, patchR s es)
  | _ => PBad
noncomputable def eRPatch (s : List UInt8) (es : List Ed) : SpecE env := ⟨19, sRPatch s es, fun args h hc => by
  unfold sRPatch at hc ⊢
  split at hc
  · obtain ⟨rfl, rfl, h1, h2, h3, h4, h5⟩ := hc
    exact .inl (RPatch_ok _ es h1 h2 h3 h4 h5 h)
  · exact hc.elim⟩
end Go.Proofs.YtincpomenogppaaDoor
