/- Contracts of functions that the law reaches. -/
import Derived.Test.YtincpomenogppaaDoorWn
import Derived.Test.YtincpomenogppaaDoorLiftH
set_option linter.unusedSimpArgs false
set_option linter.unusedVariables false
namespace Go.Proofs.YtincpomenogppaaDoor
open Go Go.RowKit Go.Proofs.YtincpomenogppaaDoor Go.Proofs.YtincpomenogppaaDoor.Lift
set_option maxRecDepth 100000

/-! tools.Patch -/
def insN (es : List Ed) : Nat := (es.map fun e => e.ins.length).sum
theorem patchE_err {x : List (List UInt8)} {fr : Nat} {out : List (List UInt8)} {e : Ed} (es : List Ed) {k : Int} (h : errP x fr out e = k) (hk : k ≠ 0) : patchE x fr out (e :: es) = (k, []) := by
  unfold patchE
  rw [if_neg (by rw [h]; exact hk), h]
theorem patchE_ok {x : List (List UInt8)} {fr : Nat} {out : List (List UInt8)} {e : Ed} (es : List Ed) (h : errP x fr out e = 0) : patchE x fr out (e :: es) = patchE x (frP e) (outP x fr out e) es := by
  conv => lhs; unfold patchE
  rw [if_pos h]
theorem endE_bad {o : List (List UInt8)} {i : Nat} (h : i + 1 < o.length) (hb : endB (o[i]'(by omega)) = false) : endE o = 9 := by
  unfold endE
  rw [if_neg]
  intro k
  rw [List.all_eq_true] at k
  have hl : i < o.dropLast.length := by rw [List.length_dropLast]; omega
  have := k _ (List.getElem_mem hl)
  rw [List.getElem_dropLast, hb] at this
  cases this
theorem endE_ok {o : List (List UInt8)} (h : ∀ j, (hj : j + 1 < o.length) → endB (o[j]'(by omega)) = true) : endE o = 0 := by
  unfold endE
  rw [if_pos]
  rw [List.all_eq_true]
  intro l hl
  obtain ⟨j, hj, rfl⟩ := List.getElem_of_mem hl
  rw [List.getElem_dropLast]
  exact h j (by rw [List.length_dropLast] at hj; omega)
theorem strs_get {ls : List (List UInt8)} {i : Nat} (h : i < ls.length) : ((List.map PV.str ls).drop (i * 1)).take 1 = [.str ls[i]] := by
  have h2 : i < (List.map PV.str ls).length := by rw [List.length_map]; exact h
  rw [Nat.mul_one, List.drop_eq_getElem_cons h2, List.take_succ_cons, List.take_zero, List.getElem_map]
def patchR (s : List UInt8) (es : List Ed) : PV := .tuple [.str (if (patchE (linesOf s) 0 [] es).1 = 0 then (patchE (linesOf s) 0 [] es).2.flatten else []), .int .i64 (patchE (linesOf s) 0 [] es).1]
theorem Own.rows {h0 H : Heap} {o : List (List UInt8)} {t : TypeId} {P : Option Addr} {N cap : Nat} (ow : Own h0 t 1 (strL o) (.val (.slice P N cap)) H) : N = o.length ∧ ∀ i, i < o.length → ∃ r, P = some ⟨r, 0, none⟩ ∧ H r = some (.cells t (cap * 1) (o.map PV.str)) := by
  rcases ow with ⟨e1, e2, rfl⟩ | ⟨r, c, e1, h2, h3, h4, rfl, h6⟩
  · have hx : o = [] := List.map_eq_nil_iff.1 e2
    subst hx
    injection e1 with e1
    injection e1 with _ e1 _
    exact ⟨e1, fun i hi => absurd hi (Nat.not_lt_zero _)⟩
  · injection e1 with e1
    injection e1 with e1 e3 e4
    subst e1 e3 e4
    rw [strL_len]
    exact ⟨rfl, fun i hi => ⟨r, rfl, by rw [Heap.put_same, strL_flat]⟩⟩
set_option maxHeartbeats 8000000 in
set_option maxRecDepth 100000 in
theorem Patch_ok (s : List UInt8) (es : List Ed) (hs : s.length ≤ 1000000) (he : ∀ e ∈ es, e.small ∧ ∀ l ∈ e.ins, l.length ≤ 1000000000) (hl : es.length ≤ 1000000) (hn : insN es ≤ 1000000) (hf : (patchE (linesOf s) 0 [] es).2.flatten.length ≤ 140737488355328) (h : Heap) :
    SCalls env 18 [.str s, .list 4 (edL es)] h (Ret (patchR s es) h) := by
  refine SCalls.body Tryd.func18 rfl rfl (by simp [Tryd.ntmps18]) ?_
  have hll := linesOf_len s
  refine SW.seq (SW.run [] _ ?_)
  simp only [wpC, Bool.false_eq_true, ↓reduceIte, wpS, stops, wantedA, okDst, Tryd.ntmps18, Nat.reduceLT, decide_true, step1, isOwnCall, hxOp, px, AS.eval, ofConst, ofVal, AS.put, enumA, Nat.zero_add, dropKey, reduceCtorEq, Nat.reduceEqDiff, thenQ, true_and]
  refine SW.seq (SW.run [eLines] _ ?_)
  simp only [wpC, Bool.false_eq_true, ↓reduceIte, wpS, stops, wantedA, okDst, Nat.reduceLT, decide_true, step1, isOwnCall, hxOp, px, AS.eval, AS.get, Lift.look, Nat.succ_ne_zero, Option.getD_some, Specs.has, eLines, Specs.hasO, Bool.or_false, Specs.hasH, Bool.not_true, AS.put, dropKey, Nat.reduceEqDiff, reduceCtorEq, pcall, okArg, ofConst, ofVal, List.all_cons, List.all_nil, Bool.and_true, Specs.at, List.map_cons, List.map_nil, sLines, hs, and_self, thenQ, true_and]
  unfold patchR
  generalize linesOf s = x at *
  obtain ⟨R, hR⟩ : ∃ R, patchE x 0 [] es = R := ⟨_, rfl⟩
  rw [hR] at hf ⊢
  refine SW.seq (SW.run [] _ ?_)
  simp only [wpC, Bool.false_eq_true, ↓reduceIte, wpS, stops, wantedA, okDst, Nat.reduceLT, decide_true, step1, isOwnCall, hxOp, px, AS.eval, ofConst, ofVal, thenQ, AS.put, dropKey, Nat.reduceEqDiff, reduceCtorEq, true_and]
  refine SW.seq (SW.run [] _ ?_)
  simp only [wpC, Bool.false_eq_true, ↓reduceIte, wpS, stops, wantedA, okDst, Nat.reduceLT, decide_true, step1, isOwnCall, hxOp, px, AS.eval, ofConst, ofVal, AS.put, dropKey, Nat.reduceEqDiff, reduceCtorEq, thenQ, true_and]
  refine SW.seq (SW.seq (SW.run [] _ ?_))
  simp only [wpC, Bool.false_eq_true, ↓reduceIte, wpS, stops, wantedA, okDst, Nat.reduceLT, decide_true, step1, isOwnCall, hxOp, px, AS.eval, AS.get, Lift.look, Nat.reduceEqDiff, reduceCtorEq, Option.getD_some, AS.put, dropKey, pcall, ty24, plen, edL_len, okLen, and_self, ofConst, ofVal, thenQ, true_and]
  refine SW.block (SW.loop (fun bb st => ∃ (i fr : Nat) (out : List (List UInt8)) (v : PV) (h1 : Heap), i ≤ es.length ∧ es.length - i = bb ∧ fr ≤ x.length ∧ out.length + insN (es.drop i) ≤ fr + insN es ∧ patchE x fr out (es.drop i) = R ∧ Lift.Inc h h1 ∧ Own h1 9 1 (strL out) v st.h ∧ st.n = 126 ∧ hasAll st [(6, .list 1 (strL x)), (7, v), (8, .int .i64 (fr : Nat)), (9, .int .i64 ((out.length : Int) - (fr : Int))), (16, .list 4 (edL es)), (17, .int .i64 (es.length : Nat)), (18, .int .i64 (i : Nat))]) es.length ⟨0, 0, [], .val (.slice none 0 0), h, Nat.zero_le _, rfl, Nat.zero_le _, by rw [List.drop_zero]; simp, by rw [List.drop_zero]; exact hR, incSelf h, Own.nil _ _ _, rfl, ?_⟩ ?_)
  · simp only [hasAll, AS.get, Lift.look, Nat.reduceEqDiff, ↓reduceIte, Option.getD_some, Int.cast_ofNat_Int, List.length_nil, Int.reduceSub, and_self]
  rintro bb st ⟨i, fr, out, v, h1, hi, hbb, hfr, hol, hp, inc, ow, hn', hs'⟩
  refine SW.norm ⟨hn', rfl, hs'⟩ ?_
  generalize st.h = H at ow
  clear hn' hs'
  refine SW.seq (SW.run [] _ ?_)
  by_cases hlt : i < es.length
  · have hw : IntKind.i64.wrap ((i : Int) + 1) = ((i + 1 : Nat) : Int) := by rw [w64 (by omega) (by omega)]; rfl
    have hg := edL_at hlt
    obtain ⟨⟨sd, si⟩, hins⟩ := he _ (List.getElem_mem hlt)
    rw [List.drop_eq_getElem_cons hlt] at hp hol
    have hol : out.length + (es[i].ins.length + insN (es.drop (i + 1))) ≤ fr + insN es := hol
    simp only [wpC, Bool.false_eq_true, ↓reduceIte, wpS, stops, wantedA, okDst, Nat.reduceLT, decide_true, step1, isOwnCall, hxOp, px, isNilC, pbinP, AS.eval, AS.get, Lift.look, Nat.reduceEqDiff, Option.getD_some, pbinI, Int.ofNat_lt, hlt, thenQ, hasAll, and_true, AS.put, dropKey, true_and]
    refine SW.seq (SW.run [] _ ?_)
    simp only [wpC, isB, AS.get, Lift.look, tmpOf, ↓reduceIte, Option.getD_some, asB, thenQ, true_and]
    refine SW.seq (SW.block (SW.seq (SW.run [] _ ?_)))
    simp only [wpC, Bool.false_eq_true, ↓reduceIte, wpS, stops, wantedA, okDst, Nat.reduceLT, decide_true, step1, isOwnCall, hxOp, px, pindexAddr, ty24, ty45, AS.eval, AS.get, Lift.look, Nat.reduceEqDiff, Option.getD_some, ne_eq, Nat.succ_ne_zero, not_false_eq_true, Int.natCast_nonneg, Int.toNat_natCast, edL_len, hlt, and_self, hg, edV, AS.put, dropKey, pload, okOne, TK.isAgg, Nat.reduceBEq, Bool.or_false, List.length_cons, List.length_nil, Nat.zero_add, Nat.reduceAdd, Nat.le_refl, Lift.valOf, List.take_succ_cons, List.take_nil, okAlloc, okZero, List.all_cons, Value.oneCell', List.all_nil, Bool.and_true, hx, zeroOf, List.map_cons, ofVal, List.map_nil, Heap.get_put, known1, PV.cells, splice, List.take_zero, List.nil_append, List.drop_succ_cons, List.drop_nil, List.append_nil, thenQ, true_and]
    generalize es[i] = e at *
    intro r hr
    rw [Heap.put_put]
    have ow2 := ow.putx hr (.cells 45 4 [.int .i64 e.a, .int .i64 e.b, .list 1 (strL e.del), .list 1 (strL e.ins)])
    have hr1 : h1 r = none := incFresh ow.inc hr
    have inc2 : Lift.Inc h (h1.put r (.cells 45 4 [.int .i64 e.a, .int .i64 e.b, .list 1 (strL e.del), .list 1 (strL e.ins)])) := Inc.over inc (incFresh inc hr1) _
    have g1 : (h1.put r (.cells 45 4 [.int .i64 e.a, .int .i64 e.b, .list 1 (strL e.del), .list 1 (strL e.ins)])) r = some (.cells 45 4 [.int .i64 e.a, .int .i64 e.b, .list 1 (strL e.del), .list 1 (strL e.ins)]) := Heap.put_same _ _ _
    generalize h1.put r (.cells 45 4 [.int .i64 e.a, .int .i64 e.b, .list 1 (strL e.del), .list 1 (strL e.ins)]) = h2 at g1 inc2 ow2
    have gr := ow2.base g1
    generalize H.put r (.cells 45 4 [.int .i64 e.a, .int .i64 e.b, .list 1 (strL e.del), .list 1 (strL e.ins)]) = H2 at gr ow2 ⊢
    have incE : Lift.Inc h H2 := fun k X ek => ow2.inc k X (inc2 k X ek)
    clear ow hr hr1 inc
    have herr : ∀ k : Int, k ≠ 0 → errP x fr out e = k → R = (k, []) := fun k hk ek => by rw [← hp]; exact patchE_err _ ek hk
    refine SW.seq (SW.block ?_)
    have hd0 : (((e.del.length : Nat) : Int) == 0) = decide (e.del = []) := by
      cases e.del <;> simp; omega
    have hi0 : (((e.ins.length : Nat) : Int) == 0) = decide (e.ins = []) := by
      cases e.ins <;> simp; omega
    refine SW.meet1 126 [(6, .list 1 (strL x)), (7, v), (8, .int .i64 (fr : Nat)), (9, .int .i64 ((out.length : Int) - (fr : Int))), (11, .val (.pointer (some ⟨r, 0, none⟩))), (16, .list 4 (edL es)), (17, .int .i64 (es.length : Nat)), (18, .int .i64 (i : Nat)), (22, .bool (decide (e.del = [] ∧ e.ins = [])))] H2 ?_ ?_
    · refine SW.run [] _ ?_
      by_cases c1 : e.del = []
      · by_cases c2 : e.ins = []
        · simp only [wpC, Bool.false_eq_true, ↓reduceIte, wpS, stops, wantedA, okDst, Nat.reduceLT, decide_true, step1, isOwnCall, hxOp, px, pfieldAddr, fieldOf, ty45, fieldIn, List.getElem?_cons_succ, List.getElem?_cons_zero, ty34, Option.map_some, AS.eval, AS.get, Lift.look, Option.getD_some, ne_eq, Nat.succ_ne_zero, not_false_eq_true, Nat.zero_add, AS.put, dropKey, Nat.reduceEqDiff, c1, c2, pload, gr, okOne, TK.isAgg, beq_self_eq_true, Bool.or_true, Nat.reduceAdd, List.length_cons, List.length_nil, Nat.reduceLeDiff, and_self, Lift.valOf, List.drop_succ_cons, List.drop_zero, List.take_succ_cons, List.take_zero, List.getD_cons_zero, pcall, plen, strL_len, okLen, Int.cast_ofNat_Int, isNilC, pbinP, ofConst, ofVal, pbinI, List.getElem?_toArray, Option.bind_some, Nat.le_refl, List.take_nil, ppick_bool, thenQ, Meet, HTo_self, hasAll]
        · simp only [wpC, Bool.false_eq_true, ↓reduceIte, wpS, stops, wantedA, okDst, Nat.reduceLT, decide_true, step1, isOwnCall, hxOp, px, pfieldAddr, fieldOf, ty45, fieldIn, List.getElem?_cons_succ, List.getElem?_cons_zero, ty34, Option.map_some, AS.eval, AS.get, Lift.look, Option.getD_some, ne_eq, Nat.succ_ne_zero, not_false_eq_true, Nat.zero_add, AS.put, dropKey, Nat.reduceEqDiff, c1, pload, gr, okOne, TK.isAgg, beq_self_eq_true, Bool.or_true, Nat.reduceAdd, List.length_cons, List.length_nil, Nat.reduceLeDiff, and_self, Lift.valOf, List.drop_succ_cons, List.drop_zero, List.take_succ_cons, List.take_zero, List.getD_cons_zero, pcall, plen, strL_len, okLen, Int.cast_ofNat_Int, isNilC, pbinP, ofConst, ofVal, pbinI, List.getElem?_toArray, Option.bind_some, Nat.le_refl, List.take_nil, hi0, c2, decide_false, ppick_bool, thenQ, Meet, HTo_self, hasAll, and_false]
      · simp only [wpC, Bool.false_eq_true, ↓reduceIte, wpS, stops, wantedA, okDst, Nat.reduceLT, decide_true, step1, isOwnCall, hxOp, px, pfieldAddr, fieldOf, ty45, fieldIn, List.getElem?_cons_succ, List.getElem?_cons_zero, ty34, Option.map_some, AS.eval, AS.get, Lift.look, Option.getD_some, ne_eq, Nat.succ_ne_zero, not_false_eq_true, Nat.zero_add, AS.put, dropKey, Nat.reduceEqDiff, pload, gr, okOne, TK.isAgg, beq_self_eq_true, Bool.or_true, Nat.reduceAdd, List.length_cons, List.length_nil, Nat.reduceLeDiff, and_self, Lift.valOf, List.drop_succ_cons, List.drop_zero, List.take_succ_cons, List.take_zero, List.getD_cons_zero, pcall, plen, strL_len, okLen, isNilC, pbinP, ofConst, ofVal, pbinI, hd0, c1, decide_false, List.getElem?_toArray, Option.bind_some, beq_ft, Option.some.injEq, ppick_false, thenQ, Meet, HTo_self, hasAll, false_and]
    refine SW.run [] _ ?_
    by_cases c1 : e.del = [] ∧ e.ins = []
    · have hE : R = (12, []) := herr 12 (by decide) (by unfold errP; rw [if_pos c1])
      subst hE
      simp only [wpC, isB, AS.get, Lift.look, tmpOf, Nat.reduceEqDiff, ↓reduceIte, c1, and_self, decide_true, Option.getD_some, asB, mayStop, stops, isFlt, Specs.has, Specs.hasO, Bool.or_false, Specs.hasH, Bool.not_false, List.any_cons, List.any_nil, Bool.false_eq_true, wpS, wantedA, okDst, Nat.reduceLT, step1, isOwnCall, hxOp, px, AS.eval, ofConst, ofVal, AS.put, dropKey, thenQ, inQ, RPost, sres, Tryd.results18, sresL, sres1, Option.some.injEq, Int.reduceEq, Ret_fin, exists_eq_left', true_and]
      exact Inc.to incE
    by_cases c2 : e.a < (fr : Int)
    · have hE : R = (10, []) := herr 10 (by decide) (by unfold errP; rw [if_neg c1, if_pos c2])
      subst hE
      simp only [wpC, isB, AS.get, Lift.look, tmpOf, Nat.reduceEqDiff, ↓reduceIte, c1, decide_false, Option.getD_some, asB, Bool.false_eq_true, mayStop, stops, isFlt, Specs.has, Specs.hasO, Bool.or_false, Specs.hasH, Bool.not_false, List.any_cons, List.any_nil, wpS, wantedA, okDst, Nat.reduceLT, decide_true, step1, isOwnCall, hxOp, px, pfieldAddr, fieldOf, ty45, fieldIn, List.getElem?_cons_zero, ty3, Option.map_some, AS.eval, ne_eq, Nat.succ_ne_zero, not_false_eq_true, Nat.add_zero, AS.put, dropKey, pload, gr, okOne, TK.isAgg, beq_self_eq_true, Bool.or_true, Nat.zero_add, List.length_cons, List.length_nil, Nat.reduceAdd, Nat.reduceLeDiff, and_self, Lift.valOf, List.drop_zero, List.take_succ_cons, List.take_zero, List.getD_cons_zero, isNilC, pbinP, pbinI, c2, thenQ, ofConst, ofVal, inQ, RPost, sres, Tryd.results18, sresL, sres1, Option.some.injEq, Int.reduceEq, Ret_fin, exists_eq_left', true_and]
      exact Inc.to incE
    obtain ⟨A, hA⟩ : ∃ A : Nat, e.a = (A : Int) := ⟨e.a.toNat, by omega⟩
    have hAn : e.a.toNat = A := by omega
    have hw3 : IntKind.i64.wrap (((x.length : Nat) : Int) - ((e.del.length : Nat) : Int)) = ((x.length : Nat) : Int) - ((e.del.length : Nat) : Int) := w64 (by omega) (by omega)
    by_cases c3 : (x.length : Int) < e.a + (e.del.length : Int)
    · have hE : R = (11, []) := herr 11 (by decide) (by unfold errP; rw [if_neg c1, if_neg c2, if_pos c3])
      subst hE
      have c3' : ((x.length : Nat) : Int) - ((e.del.length : Nat) : Int) < e.a := by omega
      simp only [wpC, isB, AS.get, Lift.look, tmpOf, Nat.reduceEqDiff, ↓reduceIte, c1, decide_false, Option.getD_some, asB, Bool.false_eq_true, mayStop, stops, isFlt, Specs.has, Specs.hasO, Bool.or_false, Specs.hasH, Bool.not_false, List.any_cons, List.any_nil, wpS, wantedA, okDst, Nat.reduceLT, decide_true, step1, isOwnCall, hxOp, px, pfieldAddr, fieldOf, ty45, fieldIn, List.getElem?_cons_zero, ty3, Option.map_some, AS.eval, ne_eq, Nat.succ_ne_zero, not_false_eq_true, Nat.add_zero, AS.put, dropKey, pload, gr, okOne, TK.isAgg, beq_self_eq_true, Bool.or_true, Nat.zero_add, List.length_cons, List.length_nil, Nat.reduceAdd, Nat.reduceLeDiff, and_self, Lift.valOf, List.drop_zero, List.take_succ_cons, List.take_zero, List.getD_cons_zero, isNilC, pbinP, pbinI, c2, thenQ, pcall, ty34, plen, strL_len, okLen, List.getElem?_cons_succ, List.drop_succ_cons, hw3, c3', ofConst, ofVal, inQ, RPost, sres, Tryd.results18, sresL, sres1, Option.some.injEq, Int.reduceEq, Ret_fin, exists_eq_left', true_and]
      exact Inc.to incE
    have c3' : ¬ ((x.length : Nat) : Int) - ((e.del.length : Nat) : Int) < e.a := by omega
    simp only [wpC, isB, AS.get, Lift.look, tmpOf, Nat.reduceEqDiff, ↓reduceIte, c1, decide_false, Option.getD_some, asB, Bool.false_eq_true, mayStop, stops, isFlt, Specs.has, Specs.hasO, Bool.or_false, Specs.hasH, Bool.not_false, List.any_cons, List.any_nil, wpS, wantedA, okDst, Nat.reduceLT, decide_true, step1, isOwnCall, hxOp, px, pfieldAddr, fieldOf, ty45, fieldIn, List.getElem?_cons_zero, ty3, Option.map_some, AS.eval, ne_eq, Nat.succ_ne_zero, not_false_eq_true, Nat.add_zero, AS.put, dropKey, pload, gr, okOne, TK.isAgg, beq_self_eq_true, Bool.or_true, Nat.zero_add, List.length_cons, List.length_nil, Nat.reduceAdd, Nat.reduceLeDiff, and_self, Lift.valOf, List.drop_zero, List.take_succ_cons, List.take_zero, List.getD_cons_zero, isNilC, pbinP, pbinI, c2, thenQ, pcall, ty34, plen, strL_len, okLen, List.getElem?_cons_succ, List.drop_succ_cons, hw3, c3', true_and]
    have hdx : List.drop A (List.take (A + e.del.length) (strL x)) = strL ((x.take (A + e.del.length)).drop A) := by rw [strL_take, strL_drop]
    have hdd : (x.drop A).take e.del.length = (x.take (A + e.del.length)).drop A := by
      rw [List.drop_take, show A + e.del.length - A = e.del.length by omega]
    rw [hA] at gr g1
    have hb1 : ((A : Nat) : Int) ≤ ((A + e.del.length : Nat) : Int) := by omega
    have hb2 : ((A + e.del.length : Nat) : Int) ≤ ((x.length : Nat) : Int) := by omega
    have hw4 : IntKind.i64.wrap (((A : Nat) : Int) + ((e.del.length : Nat) : Int)) = ((A + e.del.length : Nat) : Int) := by rw [w64 (by omega) (by omega)]; rfl
    have hd9 : e.del.length ≤ 1000000000 := by omega
    refine SW.regionAny [eEqualL] [[0, 1, 2, 3, 4, 5, 6, 7, 8, 9, 10, 11, 12, 13, 14]] rfl (by rfl) (by kernel_rfl) ?_
    simp only [wpOL, wpO, LOp, List.getElem?_toArray, List.getElem?_cons_zero, okDst, Nat.reduceLT, decide_true, wantedA, ↓reduceIte, step1, isOwnCall, Bool.false_eq_true, hxOp, px, pfieldAddr, fieldOf, ty45, fieldIn, List.getElem?_cons_succ, ty34, Option.map_some, AS.eval, AS.get, Lift.look, Nat.reduceEqDiff, Option.getD_some, ne_eq, Nat.succ_ne_zero, not_false_eq_true, Nat.zero_add, AS.put, dropKey, pload, gr, okOne, TK.isAgg, beq_self_eq_true, Bool.or_true, Nat.reduceAdd, List.length_cons, List.length_nil, Nat.reduceLeDiff, and_self, Lift.valOf, List.drop_succ_cons, List.drop_zero, List.take_succ_cons, List.take_zero, List.getD_cons_zero, ty3, Nat.add_zero, pcall, plen, strL_len, okLen, isNilC, pbinP, pbinI, hw4, pslice, ty9, pB, Int.natCast_nonneg, hb1, hb2, Int.toNat_natCast, hdx, Specs.hasO, Specs.hasH, okArg, ofConst, ofVal, List.all_cons, List.all_nil, Bool.and_true, Specs.at, eEqualL, List.map_cons, List.map_nil, sEqualL, unS_el, hd9, pun, thenQ, true_and]
    refine SW.run [eContW e.ins] _ ?_
    cases c4 : (e.del == (x.take (A + e.del.length)).drop A)
    · have c4' : ¬ (x.drop e.a.toNat).take e.del.length = e.del := by
        rw [hAn, hdd]; intro k; rw [beq_eq_false_iff_ne] at c4; exact c4 k.symm
      have hE : R = (14, []) := herr 14 (by decide) (by unfold errP; rw [if_neg c1, if_neg c2, if_neg c3, if_pos c4'])
      subst hE
      simp only [wpC, isB, AS.get, Lift.look, tmpOf, ↓reduceIte, Bool.not_false, Option.getD_some, asB, mayStop, stops, isFlt, Specs.has, Specs.hasO, Bool.or_false, Specs.hasH, List.any_cons, List.any_nil, Bool.false_eq_true, wpS, wantedA, okDst, Nat.reduceLT, decide_true, step1, isOwnCall, hxOp, px, AS.eval, ofConst, ofVal, AS.put, dropKey, Nat.reduceEqDiff, thenQ, inQ, RPost, sres, Tryd.results18, sresL, sres1, Option.some.injEq, Int.reduceEq, Ret_fin, exists_eq_left', true_and]
      exact Inc.to incE
    have c4' : (x.drop e.a.toNat).take e.del.length = e.del := by
      rw [hAn, hdd]; exact (by simpa using c4 : e.del = _).symm
    have hw5 : IntKind.i64.wrap (((A : Nat) : Int) + ((out.length : Int) - (fr : Int))) = (out.length : Int) + ((A : Int) - (fr : Int)) := by rw [w64 (by omega) (by omega)]; omega
    cases c5 : (e.b != (out.length : Int) + ((A : Int) - (fr : Int)))
    case true =>
      have c5' : e.b ≠ (out.length : Int) + (e.a - (fr : Int)) := by rw [hA]; simpa using c5
      have hE : R = (2, []) := herr 2 (by decide) (by unfold errP; rw [if_neg c1, if_neg c2, if_neg c3, if_neg (fun k => k c4'), if_pos c5'])
      subst hE
      simp only [wpC, isB, AS.get, Lift.look, tmpOf, ↓reduceIte, Bool.not_true, Option.getD_some, asB, Bool.false_eq_true, mayStop, stops, isFlt, Specs.has, Specs.hasO, Bool.or_false, Specs.hasH, List.any_cons, ty3, List.any_nil, wpS, wantedA, okDst, Nat.reduceLT, decide_true, step1, isOwnCall, hxOp, px, pfieldAddr, fieldOf, ty45, fieldIn, List.getElem?_cons_succ, List.getElem?_cons_zero, Option.map_some, AS.eval, Nat.reduceEqDiff, ne_eq, Nat.succ_ne_zero, not_false_eq_true, Nat.zero_add, AS.put, dropKey, pload, gr, okOne, TK.isAgg, beq_self_eq_true, Bool.or_true, Nat.reduceAdd, List.length_cons, List.length_nil, Nat.reduceLeDiff, and_self, Lift.valOf, List.drop_succ_cons, List.drop_zero, List.take_succ_cons, List.take_zero, List.getD_cons_zero, Nat.add_zero, isNilC, pbinP, pbinI, hw5, c5, thenQ, ofConst, ofVal, inQ, RPost, sres, Tryd.results18, sresL, sres1, Option.some.injEq, Int.reduceEq, Ret_fin, exists_eq_left', true_and]
      exact Inc.to incE
    have c5' : e.b = (out.length : Int) + (e.a - (fr : Int)) := by rw [hA]; simpa using c5
    cases c6 : e.ins.all lineB
    · have hE : R = (9, []) := herr 9 (by decide) (by unfold errP; rw [if_neg c1, if_neg c2, if_neg c3, if_neg (fun k => k c4'), if_neg (fun k => k c5'), if_neg (by rw [c6]; simp)])
      subst hE
      simp only [wpC, isB, AS.get, Lift.look, tmpOf, ↓reduceIte, Bool.not_true, Option.getD_some, asB, Bool.false_eq_true, mayStop, stops, isFlt, Specs.has, eContW, Specs.hasO, Bool.or_false, Specs.hasH, List.any_cons, ty3, List.any_nil, wpS, wantedA, okDst, Nat.reduceLT, decide_true, step1, isOwnCall, hxOp, px, pfieldAddr, fieldOf, ty45, fieldIn, List.getElem?_cons_succ, List.getElem?_cons_zero, Option.map_some, AS.eval, Nat.reduceEqDiff, ne_eq, Nat.succ_ne_zero, not_false_eq_true, Nat.zero_add, AS.put, dropKey, pload, gr, okOne, TK.isAgg, beq_self_eq_true, Bool.or_true, Nat.reduceAdd, List.length_cons, List.length_nil, Nat.reduceLeDiff, and_self, Lift.valOf, List.drop_succ_cons, List.drop_zero, List.take_succ_cons, List.take_zero, List.getD_cons_zero, Nat.add_zero, isNilC, pbinP, pbinI, hw5, c5, thenQ, ty34, Nat.le_refl, List.take_nil, pcall, okArg, ofConst, ofVal, List.all_cons, List.all_nil, Bool.and_true, Specs.at, List.map_cons, List.map_nil, sContW, si, true_and, c6, Bool.not_false, inQ, RPost, sres, Tryd.results18, sresL, sres1, Option.some.injEq, Int.reduceEq, Ret_fin, exists_eq_left']
      exact ⟨hins, Inc.to incE⟩
    have hok : errP x fr out e = 0 := (errP_iff _ _ _ _).2 ⟨c1, by omega, by omega, c4', c5', c6⟩
    rw [patchE_ok _ hok] at hp
    have hO2 : outP x fr out e = (out ++ (x.take A).drop fr) ++ e.ins := by unfold outP; rw [hAn, List.append_assoc]
    have hF2 : frP e = A + e.del.length := by unfold frP; rw [hAn]
    rw [hO2, hF2] at hp
    have hfA : fr ≤ A := by omega
    have hml : ((x.take A).drop fr).length = A - fr := by rw [List.length_drop, List.length_take]; omega
    simp only [wpC, isB, AS.get, Lift.look, tmpOf, ↓reduceIte, Bool.not_true, Option.getD_some, asB, Bool.false_eq_true, mayStop, stops, isFlt, Specs.has, eContW, Specs.hasO, Bool.or_false, Specs.hasH, List.any_cons, ty3, List.any_nil, wpS, wantedA, okDst, Nat.reduceLT, decide_true, step1, isOwnCall, hxOp, px, pfieldAddr, fieldOf, ty45, fieldIn, List.getElem?_cons_succ, List.getElem?_cons_zero, Option.map_some, AS.eval, Nat.reduceEqDiff, ne_eq, Nat.succ_ne_zero, not_false_eq_true, Nat.zero_add, AS.put, dropKey, pload, gr, okOne, TK.isAgg, beq_self_eq_true, Bool.or_true, Nat.reduceAdd, List.length_cons, List.length_nil, Nat.reduceLeDiff, and_self, Lift.valOf, List.drop_succ_cons, List.drop_zero, List.take_succ_cons, List.take_zero, List.getD_cons_zero, Nat.add_zero, isNilC, pbinP, pbinI, hw5, c5, thenQ, ty34, Nat.le_refl, List.take_nil, pcall, okArg, ofConst, ofVal, List.all_cons, List.all_nil, Bool.and_true, Specs.at, List.map_cons, List.map_nil, sContW, si, true_and, c6, inQ]
    refine ⟨hins, ?_⟩
    have hb3 : ((fr : Nat) : Int) ≤ ((A : Nat) : Int) := by omega
    have hb4 : ((A : Nat) : Int) ≤ ((x.length : Nat) : Int) := by omega
    have hdy : List.drop fr (List.take A (strL x)) = strL ((x.take A).drop fr) := by rw [strL_take, strL_drop]
    obtain ⟨M, hM⟩ : ∃ M, M = (x.take A).drop fr := ⟨_, rfl⟩
    rw [← hM] at hml hdy hp
    have hk2 : ¬ h2 r = none := by rw [g1]; simp
    have lb1 : ((strL out).length + (strL M).length) * 16 ≤ 140737488355328 := by rw [strL_len, strL_len]; omega
    have lb2 : (strL out).length + (strL M).length ≤ maxLen := by rw [strL_len, strL_len]; simp [maxLen]; omega
    obtain ⟨P0, cp0, ev⟩ := ow2.slice
    obtain ⟨N0, eN0⟩ : ∃ N0, N0 = (strL out).length := ⟨_, rfl⟩
    rw [← eN0] at ev
    subst ev
    refine SW.seq (SW.regionCut [] rfl (RestC.cutG [] (HandG.appO 6 _ (.tmp 75) (.tmp 80) 34 34 (.val (.slice P0 N0 cp0)) (.list 1 (strL M)) (strL out) (strL M) h2 H2 rfl rfl ty34 rfl ty9 (by decide) rfl ty34 rfl ow2 rfl lb1 lb2) (fun r => ¬ h2 r = none) (HandG.appO_kept ow2) [(0, false), (1, false), (2, false), (3, false), (4, false), (5, false), (7, false), (8, true)] 9 (k := 2) rfl (by kernel_rfl) ?_))
    simp only [wpP, Bool.false_eq_true, keptP, AS.get, Lift.look, ptrAt, List.getElem?_toArray, List.getElem?_cons_zero, ptrT, Nat.succ_ne_zero, ↓reduceIte, Option.getD_none, false_implies, LOp, okDst, Nat.reduceLT, decide_true, wantedA, step1, isOwnCall, hxOp, px, AS.eval, Nat.reduceEqDiff, Option.getD_some, AS.put, dropKey, List.getElem?_cons_succ, pfieldAddr, fieldOf, ty45, fieldIn, ty3, Option.map_some, ne_eq, not_false_eq_true, Nat.add_zero, hk2, implies_true, pload, gr, okOne, TK.isAgg, beq_self_eq_true, Bool.or_true, Nat.zero_add, List.length_cons, List.length_nil, Nat.reduceAdd, Nat.reduceLeDiff, and_self, Lift.valOf, List.drop_zero, List.take_succ_cons, List.take_zero, List.getD_cons_zero, pslice, ty34, ty9, pB, Int.natCast_nonneg, hb3, strL_len, hb4, Int.toNat_natCast, hdy, forall_const, Nat.le_refl, List.drop_succ_cons, List.take_nil, HandOK, HandG.appO, List.getElem_toArray, List.getElem_cons_succ, List.getElem_cons_zero, okArg, ofConst, ofVal, List.all_cons, List.all_nil, Bool.and_true, List.map_cons, List.map_nil, true_and]
    intro p1 h3 ow3
    have ow3 : Own h2 9 1 (strL out ++ strL M) p1 h3 := ow3
    rw [← strL_append] at ow3
    have lO : (out ++ M).length = out.length + (A - fr) := by rw [List.length_append, hml]
    refine RestC.cut [] [] 9 (k := 1) rfl (by kernel_rfl) ?_
    simp only [wpO, List.getElem?_toArray, List.getElem?_cons_succ, List.getElem?_cons_zero, Option.toList_some]
    refine SWO.append (.tmp 81) (.tmp 83) 34 34 rfl ty34 rfl ty9 (by decide) rfl ty34 rfl ow3 (ys := strL e.ins) rfl (by rw [strL_len, strL_len, lO]; show _ * 16 ≤ _; omega) (by rw [strL_len, strL_len, lO]; simp [maxLen]; omega) rfl rfl ?_
    intro v4 h4 ow4 _ _
    rw [← strL_append] at ow4
    have gr4 := ow4.base g1
    refine SWO.run [] 1000 ?_
    simp only [wpS, thenQ, AS.put, dropKey, Nat.reduceEqDiff, ↓reduceIte]
    refine RestC.last [] [10] rfl (by kernel_rfl) ?_
    simp only [wpO, LOp, List.getElem?_toArray, List.getElem?_cons_succ, List.getElem?_cons_zero, okDst, Nat.reduceLT, decide_true, wantedA, ↓reduceIte, step1, isOwnCall, Bool.false_eq_true, hxOp, px, AS.eval, AS.get, Lift.look, Option.getD_some, thenQ, AS.put, dropKey, Nat.reduceEqDiff, true_and]
    have hw6 : IntKind.i64.wrap (((e.ins.length : Nat) : Int) - ((e.del.length : Nat) : Int)) = ((e.ins.length : Nat) : Int) - ((e.del.length : Nat) : Int) := w64 (by omega) (by omega)
    have lO2 : (out ++ M ++ e.ins).length = out.length + (A - fr) + e.ins.length := by rw [List.length_append, lO]
    have hw7 : IntKind.i64.wrap (((out.length : Int) - (fr : Int)) + (((e.ins.length : Nat) : Int) - ((e.del.length : Nat) : Int))) = ((out ++ M ++ e.ins).length : Int) - ((A + e.del.length : Nat) : Int) := by rw [w64 (by omega) (by omega), lO2]; omega
    refine SW.seq (SW.run [] _ ?_)
    simp only [wpC, Bool.false_eq_true, ↓reduceIte, wpS, stops, wantedA, okDst, Nat.reduceLT, decide_true, step1, isOwnCall, hxOp, px, pfieldAddr, fieldOf, ty45, fieldIn, List.getElem?_cons_zero, ty3, Option.map_some, AS.eval, AS.get, Lift.look, Nat.reduceEqDiff, Option.getD_some, ne_eq, Nat.succ_ne_zero, not_false_eq_true, Nat.add_zero, AS.put, dropKey, pload, gr4, okOne, TK.isAgg, beq_self_eq_true, Bool.or_true, Nat.zero_add, List.length_cons, List.length_nil, Nat.reduceAdd, Nat.reduceLeDiff, and_self, Lift.valOf, List.drop_zero, List.take_succ_cons, List.take_zero, List.getD_cons_zero, List.getElem?_cons_succ, ty34, List.drop_succ_cons, pcall, plen, strL_len, okLen, isFlt, isNilC, pbinP, pbinI, hw4, thenQ, true_and]
    refine SW.run [] _ ?_
    simp only [wpC, Bool.false_eq_true, ↓reduceIte, wpS, stops, wantedA, okDst, Nat.reduceLT, decide_true, step1, isOwnCall, hxOp, px, AS.eval, AS.get, Lift.look, Nat.reduceEqDiff, Option.getD_some, AS.put, dropKey, pfieldAddr, fieldOf, ty45, fieldIn, List.getElem?_cons_succ, List.getElem?_cons_zero, ty34, Option.map_some, ne_eq, Nat.succ_ne_zero, not_false_eq_true, Nat.zero_add, pload, gr4, okOne, TK.isAgg, beq_self_eq_true, Bool.or_true, Nat.reduceAdd, List.length_cons, List.length_nil, Nat.le_refl, and_self, Lift.valOf, List.drop_succ_cons, List.drop_zero, List.take_succ_cons, List.take_nil, List.getD_cons_zero, pcall, plen, strL_len, okLen, Nat.reduceLeDiff, List.take_zero, isFlt, ty3, isNilC, pbinP, pbinI, hw6, hw7, inQ, thenQ, true_and]
    refine SW.run [] _ ?_
    simp only [wpC, Bool.false_eq_true, ↓reduceIte, wpS, stops, isFlt, ty3, wantedA, okDst, Nat.reduceLT, decide_true, step1, isOwnCall, hxOp, px, isNilC, pbinP, AS.eval, AS.get, Lift.look, Nat.reduceEqDiff, Option.getD_some, ofConst, ofVal, pbinI, hw, AS.put, dropKey, thenQ, true_and]
    exact ⟨es.length - (i + 1), by omega, i + 1, A + e.del.length, out ++ M ++ e.ins, v4, h2, by omega, rfl, by omega, by rw [lO2]; omega, hp, inc2, ow4, rfl, rfl, rfl, rfl⟩
  · have hie : i = es.length := by omega
    subst hie
    rw [List.drop_length] at hp hol
    have hol : out.length + 0 ≤ fr + insN es := hol
    have hb5 : ((fr : Nat) : Int) ≤ ((x.length : Nat) : Int) := by omega
    have hdz : List.drop fr (strL x) = strL (x.drop fr) := strL_drop _ _
    have hdz2 : List.take x.length (strL x) = strL x := List.take_of_length_le (by rw [strL_len]; exact Nat.le_refl _)
    have lx : (x.drop fr).length = x.length - fr := List.length_drop
    simp only [wpC, Bool.false_eq_true, ↓reduceIte, wpS, stops, wantedA, okDst, Nat.reduceLT, decide_true, step1, isOwnCall, hxOp, px, isNilC, pbinP, AS.eval, AS.get, Lift.look, Nat.reduceEqDiff, Option.getD_some, pbinI, Int.ofNat_lt, hlt, decide_false, thenQ, hasAll, and_true, AS.put, dropKey, true_and]
    refine SW.seq (SW.run [] _ ?_)
    simp only [wpC, isB, AS.get, Lift.look, tmpOf, ↓reduceIte, Option.getD_some, asB, Bool.false_eq_true, thenQ, inQ, true_and]
    refine SW.seq (SW.run [] _ ?_)
    simp only [wpC, Bool.false_eq_true, ↓reduceIte, wpS, stops, wantedA, okDst, Nat.reduceLT, decide_true, step1, isOwnCall, hxOp, px, AS.eval, AS.get, Lift.look, Nat.reduceEqDiff, Option.getD_some, AS.put, dropKey, pslice, ty34, ty9, pB, strL_len, Int.natCast_nonneg, hb5, true_and, Int.toNat_natCast, hdz2, hdz]
    refine ⟨by omega, ?_⟩
    refine SWO.append (.tmp 101) (.tmp 104) 34 34 rfl ty34 rfl ty9 (by decide) rfl ty34 rfl ow (ys := strL (x.drop fr)) rfl (by rw [strL_len, strL_len, lx]; show _ * 16 ≤ _; omega) (by rw [strL_len, strL_len, lx]; simp [maxLen]; omega) rfl rfl ?_
    intro v4 h4 ow4 _ _
    rw [← strL_append] at ow4
    have lo : (out ++ x.drop fr).length ≤ 3000000 := by rw [List.length_append, lx]; omega
    unfold patchE at hp
    generalize out ++ x.drop fr = o at hp ow4 lo
    subst hp
    have hf : o.flatten.length ≤ 140737488355328 := hf
    have hlo : ∀ l ∈ o, l.length ≤ 9000000000000000000 := fun l hm => by
      have := (List.sublist_flatten_of_mem hm).length_le
      omega
    refine SWO.run [] 1000 ?_
    simp only [wpS, stops, Bool.false_eq_true, ↓reduceIte, wantedA, okDst, AS.put, dropKey, Nat.reduceEqDiff, Nat.reduceLT, decide_true, step1, isOwnCall, hxOp, px, AS.eval, AS.get, Lift.look, Option.getD_some, thenQ, true_and]
    obtain ⟨P, cp, ev⟩ := ow4.slice
    obtain ⟨N, eN⟩ : ∃ N, N = (strL o).length := ⟨_, rfl⟩
    rw [← eN] at ev
    subst ev
    have ow4 : Own h1 9 1 (strL o) (.val (.slice P N cp)) h4 := ow4
    obtain ⟨hN, hB⟩ := Own.rows ow4
    subst hN
    clear eN
    have incF : Lift.Inc h h4 := fun k X ek => ow4.inc k X (inc k X ek)
    refine SW.seq (SW.seq (SW.run [] _ ?_))
    simp only [wpC, Bool.false_eq_true, ↓reduceIte, wpS, stops, wantedA, okDst, Nat.reduceLT, decide_true, step1, isOwnCall, hxOp, px, AS.eval, AS.get, Lift.look, Option.getD_some, AS.put, dropKey, Nat.reduceEqDiff, pcall, ty34, plen, okLen, and_self, ofConst, ofVal, thenQ, true_and]
    refine SW.block (SW.loopK 126 (fun i : Nat => [(7, .val (.slice P o.length cp)), (106, .val (.slice P o.length cp)), (107, .int .i64 (o.length : Nat)), (108, .int .i64 (i : Nat))]) (fun _ => h4) (fun i => i ≤ o.length ∧ ∀ j, j < i → (hj : j + 1 < o.length) → endB (o[j]'(by omega)) = true) (fun i => o.length - i) 0 ⟨Nat.zero_le _, fun j hj => absurd hj (Nat.not_lt_zero _)⟩ ?_ ?_)
    · simp only [Has, hasAll, AS.get, Lift.look, Nat.reduceEqDiff, ↓reduceIte, Option.getD_some, Int.cast_ofNat_Int, and_self]
    rintro i ⟨hi, hno⟩
    refine SW.seq (SW.run [] _ ?_)
    by_cases hlt : i < o.length
    · have hw : IntKind.i64.wrap ((i : Int) + 1) = ((i + 1 : Nat) : Int) := by rw [w64 (by omega) (by omega)]; rfl
      have hw8 : IntKind.i64.wrap (((o.length : Nat) : Int) - 1) = ((o.length : Nat) : Int) - 1 := w64 (by omega) (by omega)
      obtain ⟨r, hP, gO⟩ := hB i hlt
      subst hP
      have hget := strs_get hlt
      have hle : i * 1 + 1 ≤ o.length := by omega
      have hl9 := hlo _ (List.getElem_mem hlt)
      simp only [wpC, Bool.false_eq_true, ↓reduceIte, wpS, stops, wantedA, okDst, Nat.reduceLT, decide_true, step1, isOwnCall, hxOp, px, isNilC, pbinP, AS.eval, AS.get, Lift.look, Nat.reduceEqDiff, Option.getD_some, pbinI, Int.ofNat_lt, hlt, thenQ, Has, hasAll, and_true, AS.put, dropKey, true_and]
      refine SW.seq (SW.run [] _ ?_)
      simp only [wpC, isB, AS.get, Lift.look, tmpOf, ↓reduceIte, Option.getD_some, asB, thenQ, true_and]
      refine SW.seq (SW.block (SW.seq (SW.run [] _ ?_)))
      simp only [wpC, Bool.false_eq_true, ↓reduceIte, wpS, stops, wantedA, okDst, Nat.reduceLT, decide_true, step1, isOwnCall, hxOp, px, AS.eval, AS.get, Lift.look, Nat.reduceEqDiff, Option.getD_some, AS.put, dropKey, pindexAddr, ty34, ty9, Int.natCast_nonneg, Int.ofNat_lt, hlt, and_self, Int.toNat_natCast, Nat.zero_add, pload, gO, okOne, TK.isAgg, beq_self_eq_true, Bool.or_true, List.length_map, hle, Lift.valOf, hget, List.getD_cons_zero, thenQ, true_and]
      refine SW.run [eHasSuffix] _ ?_
      by_cases k1 : (i : Int) < ((o.length : Nat) : Int) - 1
      · cases k2 : endB o[i]
        · have hE : endE o = 9 := endE_bad (by omega) k2
          simp only [wpC, mayStop, stops, isFlt, Specs.has, eHasSuffix, Specs.hasO, Bool.or_false, Specs.hasH, List.any_cons, ty3, ↓reduceIte, Bool.not_true, List.any_nil, Bool.false_eq_true, wpS, wantedA, okDst, Nat.reduceLT, decide_true, step1, isOwnCall, hxOp, px, AS.eval, AS.get, Lift.look, Nat.reduceEqDiff, Option.getD_some, AS.put, dropKey, pcall, ty34, plen, okLen, and_self, isNilC, pbinP, ofConst, ofVal, pbinI, hw8, k1, List.getElem?_toArray, List.getElem?_cons_succ, List.getElem?_cons_zero, Option.bind_some, beq_self_eq_true, okArg, List.all_cons, List.all_nil, Bool.and_true, Specs.at, List.map_cons, List.map_nil, sSuffix, hl9, suffix_10, k2, pun, Bool.not_false, ppick_bool, thenQ, isB, tmpOf, asB, inQ, RPost, sres, Tryd.results18, sresL, sres1, Option.some.injEq, hE, Int.reduceEq, Ret_fin, exists_eq_left', true_and]
          exact Inc.to incF
        · simp only [wpC, mayStop, stops, isFlt, Specs.has, eHasSuffix, Specs.hasO, Bool.or_false, Specs.hasH, List.any_cons, ty3, ↓reduceIte, Bool.not_true, List.any_nil, Bool.false_eq_true, wpS, wantedA, okDst, Nat.reduceLT, decide_true, step1, isOwnCall, hxOp, px, AS.eval, AS.get, Lift.look, Nat.reduceEqDiff, Option.getD_some, AS.put, dropKey, pcall, ty34, plen, okLen, and_self, isNilC, pbinP, ofConst, ofVal, pbinI, hw8, k1, List.getElem?_toArray, List.getElem?_cons_succ, List.getElem?_cons_zero, Option.bind_some, beq_self_eq_true, okArg, List.all_cons, List.all_nil, Bool.and_true, Specs.at, List.map_cons, List.map_nil, sSuffix, hl9, suffix_10, k2, pun, ppick_bool, thenQ, isB, tmpOf, asB, inQ, true_and]
          refine SW.run [] _ ?_
          simp only [wpC, Bool.false_eq_true, ↓reduceIte, wpS, stops, isFlt, ty3, wantedA, okDst, Nat.reduceLT, decide_true, step1, isOwnCall, hxOp, px, isNilC, pbinP, AS.eval, AS.get, Lift.look, Nat.reduceEqDiff, Option.getD_some, ofConst, ofVal, pbinI, hw, AS.put, dropKey, thenQ, true_and]
          exact ⟨i + 1, ⟨by omega, fun j hj hj2 => by
            rcases Nat.lt_or_ge j i with h1 | h1
            · exact hno j h1 hj2
            · obtain rfl : j = i := by omega
              exact k2⟩, by omega, rfl⟩
      · simp only [wpC, mayStop, stops, isFlt, Specs.has, Specs.hasO, Bool.or_false, Specs.hasH, List.any_cons, ty3, List.any_nil, Bool.false_or, Bool.false_eq_true, ↓reduceIte, wpS, wantedA, okDst, Nat.reduceLT, decide_true, step1, isOwnCall, hxOp, px, AS.eval, AS.get, Lift.look, Nat.reduceEqDiff, Option.getD_some, AS.put, dropKey, pcall, ty34, plen, okLen, and_self, isNilC, pbinP, ofConst, ofVal, pbinI, hw8, k1, decide_false, List.getElem?_toArray, List.getElem?_cons_succ, List.getElem?_cons_zero, Option.bind_some, beq_ft, Option.some.injEq, ppick_false, thenQ, true_and, isB, tmpOf, asB, decide_eq_true_eq, inQ, RPost, sres, Ret_fin]
        refine SW.run [] _ ?_
        simp only [wpC, Bool.false_eq_true, ↓reduceIte, wpS, stops, isFlt, ty3, wantedA, okDst, Nat.reduceLT, decide_true, step1, isOwnCall, hxOp, px, isNilC, pbinP, AS.eval, AS.get, Lift.look, Nat.reduceEqDiff, Option.getD_some, ofConst, ofVal, pbinI, hw, AS.put, dropKey, thenQ, true_and]
        exact ⟨i + 1, ⟨by omega, fun j hj hj2 => by
          rcases Nat.lt_or_ge j i with h1 | h1
          · exact hno j h1 hj2
          · omega⟩, by omega, rfl⟩
    · have hE : endE o = 0 := endE_ok fun j hj => hno j (by omega) hj
      simp only [wpC, Bool.false_eq_true, ↓reduceIte, wpS, stops, wantedA, okDst, Nat.reduceLT, decide_true, step1, isOwnCall, hxOp, px, isNilC, pbinP, AS.eval, AS.get, Lift.look, Nat.reduceEqDiff, Option.getD_some, pbinI, Int.ofNat_lt, hlt, decide_false, thenQ, Has, hasAll, and_true, AS.put, dropKey, true_and]
      refine SW.seq (SW.run [] _ ?_)
      simp only [wpC, isB, AS.get, Lift.look, tmpOf, ↓reduceIte, Option.getD_some, asB, Bool.false_eq_true, thenQ, inQ, true_and]
      refine SW.seq (SW.run [] _ ?_)
      simp only [wpC, Bool.false_eq_true, ↓reduceIte, wpS, stops, wantedA, okDst, Nat.reduceLT, decide_true, step1, isOwnCall, hxOp, px, AS.eval, AS.get, Lift.look, Nat.reduceEqDiff, Option.getD_some, Specs.has, Specs.hasO, Bool.or_false, Specs.hasH, Bool.not_false, AS.put, dropKey, true_and]
      refine SWO.call (.func 16) #[.tmp 124, .const (.string ⟨#[]⟩)] _ 16 #[] #[] rfl rfl rfl rfl rfl rfl (JoinO_ok ow4 hf (by omega)) rfl rfl ?_ (fun c h' hc => by cases hc.1)
      rintro p' h' ⟨hp', rfl⟩
      injection hp' with hp'
      subst hp'
      refine SWO.run [] 1000 ?_
      simp only [wpS, stops, Bool.false_eq_true, ↓reduceIte, wantedA, okDst, AS.put, dropKey, Nat.reduceEqDiff, Nat.reduceLT, decide_true, step1, isOwnCall, hxOp, px, AS.eval, AS.get, Lift.look, Option.getD_some, ofConst, ofVal, thenQ, hE, true_and]
      refine SW.run [] _ ?_
      simp only [wpC, RPost, sres, Tryd.results18, sresL, sres1, AS.get, Lift.look, Nat.reduceEqDiff, ↓reduceIte, Option.getD_some, Option.some.injEq, Ret_fin, exists_eq_left', true_and]
      exact Inc.to incF
def sPatch (s : List UInt8) (es : List Ed) : List PV → Prop × PV
  | [.str s', .list 4 xs] => (s' = s ∧ xs = edL es ∧ s.length ≤ 1000000 ∧ (∀ e ∈ es, e.small ∧ ∀ l ∈ e.ins, l.length ≤ 1000000000) ∧ es.length ≤ 1000000 ∧ insN es ≤ 1000000 ∧ (patchE (linesOf s) 0 [] es).2.flatten.length ≤ 140737488355328, patchR s es)
  | _ => PBad
noncomputable def ePatch (s : List UInt8) (es : List Ed) : SpecE env := ⟨18, sPatch s es, fun args h hc => by
  unfold sPatch at hc ⊢
  split at hc
  · obtain ⟨rfl, rfl, h1, h2, h3, h4, h5⟩ := hc
    exact .inl (Patch_ok _ es h1 h2 h3 h4 h5 h)
  · exact hc.elim⟩
end Go.Proofs.YtincpomenogppaaDoor
