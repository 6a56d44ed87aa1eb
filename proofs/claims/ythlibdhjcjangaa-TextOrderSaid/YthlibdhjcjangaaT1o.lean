/- Contracts of functions that the law reaches. -/
import Derived.Test.YthlibdhjcjangaaT1f
set_option linter.unusedSimpArgs false
set_option linter.unusedVariables false
namespace Go.Proofs.Ythlibdhjcjangaa
open Go Go.RowKit Go.Proofs.Ythlibdhjcjangaa Go.Proofs.Ythlibdhjcjangaa.Lift

/-! TextOrder -/
theorem cmp_packed (ns ms : List Int) (h1 : okChars ns) (h2 : okChars ms) : cmpS (packL ns) (anyWide ns) (packL ms) (anyWide ms) = cmpI ns ms := cmpS_packed ns ms h1 h2
/-- Where a part of a whole is found. -/
theorem find_mid (a b c : List Int) : ∃ i : Nat, findI (a ++ b ++ c) b = i ∧ i ≤ a.length ∧ ((a ++ b ++ c).take (i + b.length)).drop i = b := by
  rcases findI_spec (a ++ b ++ c) b with ⟨_, hn⟩ | ⟨i, hi, hl, hp, hn⟩
  · exact absurd ⟨c, by rw [List.append_assoc, List.drop_left]⟩ (hn a.length (by simp))
  · refine ⟨i, hi, ?_, ?_⟩
    · refine Nat.le_of_not_lt fun h => hn a.length h ⟨c, by rw [List.append_assoc, List.drop_left]⟩
    · refine (part_is ?_).2 hp
      have := hp.length_le
      rw [List.length_drop] at this
      omega
theorem norm3 {h : Heap} {r q p : Nat} {x0 y0 z0 x y z : AObj} (hqr : ¬ q = r) (hpq : ¬ p = q) (hpr : ¬ p = r) : (((((h.put r x0).put q y0).put p z0).put r x).put q y).put p z = ((h.put r x).put q y).put p z := by
  funext k
  by_cases e1 : k = p
  · subst e1; rw [Heap.put_same, Heap.put_same]
  · rw [Heap.put_ne _ _ e1, Heap.put_ne _ _ e1]
    by_cases e2 : k = q
    · subst e2; rw [Heap.put_same, Heap.put_same]
    · rw [Heap.put_ne _ _ e2, Heap.put_ne _ _ e2]
      by_cases e3 : k = r
      · subst e3; rw [Heap.put_same, Heap.put_same]
      · rw [Heap.put_ne _ _ e3, Heap.put_ne _ _ e3, Heap.put_ne _ _ e1, Heap.put_ne _ _ e2, Heap.put_ne _ _ e3]
theorem HTo_of_eq {E : Env} {h h' : Heap} (e : h = h') : HTo E h h' := by subst e; exact .refl _ _
set_option maxRecDepth 100000 in
theorem TextOrder_ok (m : Int) (a b c : List UInt8) (h : Heap) : SCalls (envM m) 7 [.str a, .str b, .str c] h (Ret (.bool true) h) := by
  refine SCalls.body Try.func7 rfl rfl (by simp [Try.ntmps7]) ?_
  refine SW.seq (SW.run [] _ ?_)
  simp only [wpC, Bool.false_eq_true, ↓reduceIte, wpS, stops, wantedA, okDst, Try.ntmps7, Nat.reduceLT, decide_true, step1, hxOp, px, AS.eval, ofConst, ofVal, thenQ, AS.put, enumA, Nat.zero_add, Nat.reduceAdd, dropKey, reduceCtorEq, Nat.reduceEqDiff, true_and]
  by_cases hlen : 500 < (a.length : Int)
  · refine SW.run [upM m eAwake] _ ?_
    simp only [wpC, mayStop, stops, Specs.has, envM, upM, SpecE.up, eAwake, List.any_cons, ↓reduceIte, Bool.not_true, List.any_nil, Bool.or_false, Bool.false_eq_true, wpS, wantedA, okDst, Nat.reduceLT, decide_true, step1, hxOp, px, pcall, okArg, AS.eval, AS.get, Lift.look, ofConst, ofVal, glob_gl, List.all_nil, Specs.at, List.map_nil, sAwake, and_self, AS.put, dropKey, Nat.reduceEqDiff, reduceCtorEq, pun, Option.getD_some, thenQ, isB, tmpOf, asB, Nat.succ_ne_zero, glob_ty, ty9, plen, okLen, pbinP, pbinI, hlen, List.getElem?_toArray, List.getElem?_cons_succ, List.getElem?_cons_zero, Option.bind_some, beq_tf, Option.some.injEq, ppick_true, RPost, sres, Try.results7, sresL, sres1, Ret_fin, HTo_self, and_true, exists_eq_left']
  by_cases hlen2 : 500 < (b.length : Int)
  · refine SW.run [upM m eAwake] _ ?_
    simp only [wpC, mayStop, stops, Specs.has, envM, upM, SpecE.up, eAwake, List.any_cons, ↓reduceIte, Bool.not_true, List.any_nil, Bool.or_false, Bool.false_eq_true, wpS, wantedA, okDst, Nat.reduceLT, decide_true, step1, hxOp, px, pcall, okArg, AS.eval, AS.get, Lift.look, ofConst, ofVal, glob_gl, List.all_nil, Specs.at, List.map_nil, sAwake, and_self, AS.put, dropKey, Nat.reduceEqDiff, reduceCtorEq, pun, Option.getD_some, thenQ, isB, tmpOf, asB, Nat.succ_ne_zero, glob_ty, ty9, plen, okLen, pbinP, pbinI, hlen, decide_false, List.getElem?_toArray, List.getElem?_cons_succ, List.getElem?_cons_zero, Option.bind_some, beq_self_eq_true, hlen2, ppick_bool, beq_tf, Option.some.injEq, ppick_true, RPost, sres, Try.results7, sresL, sres1, Ret_fin, HTo_self, and_true, exists_eq_left']
  by_cases hlen3 : 500 < (c.length : Int)
  · refine SW.run [upM m eAwake] _ ?_
    simp only [wpC, mayStop, stops, Specs.has, envM, upM, SpecE.up, eAwake, List.any_cons, ↓reduceIte, Bool.not_true, List.any_nil, Bool.or_false, Bool.false_eq_true, wpS, wantedA, okDst, Nat.reduceLT, decide_true, step1, hxOp, px, pcall, okArg, AS.eval, AS.get, Lift.look, ofConst, ofVal, glob_gl, List.all_nil, Specs.at, List.map_nil, sAwake, and_self, AS.put, dropKey, Nat.reduceEqDiff, reduceCtorEq, pun, Option.getD_some, thenQ, isB, tmpOf, asB, Nat.succ_ne_zero, glob_ty, ty9, plen, okLen, pbinP, pbinI, hlen, decide_false, List.getElem?_toArray, List.getElem?_cons_succ, List.getElem?_cons_zero, Option.bind_some, beq_self_eq_true, hlen2, ppick_bool, hlen3, RPost, sres, Try.results7, sresL, sres1, Option.some.injEq, Ret_fin, HTo_self, and_true, exists_eq_left']
  have a1 : a.length ≤ 70368744177664 := by omega
  have b1 : b.length ≤ 70368744177664 := by omega
  have c1 : c.length ≤ 70368744177664 := by omega
  have a2 : a.length ≤ 1000000000 := by omega
  have b2 : b.length ≤ 1000000000 := by omega
  have ra := runesOf_len a
  have rb := runesOf_len b
  have rc := runesOf_len c
  have va := runes_ok a
  have vb := runes_ok b
  have vc := runes_ok c
  generalize hA : runesOf a = A at *
  generalize hB : runesOf b = B at *
  generalize hC : runesOf c = C at *
  have ra2 : A.length ≤ 65536 := by omega
  have rb2 : B.length ≤ 65536 := by omega
  have rc2 : C.length ≤ 65536 := by omega
  refine SW.seq (SW.run [upM m eAwake] _ ?_)
  simp only [wpC, mayStop, stops, Specs.has, envM, upM, SpecE.up, eAwake, List.any_cons, ↓reduceIte, Bool.not_true, List.any_nil, Bool.or_false, Bool.false_eq_true, wpS, wantedA, okDst, Nat.reduceLT, decide_true, step1, hxOp, px, pcall, okArg, AS.eval, AS.get, Lift.look, ofConst, ofVal, glob_gl, List.all_nil, Specs.at, List.map_nil, sAwake, and_self, AS.put, dropKey, Nat.reduceEqDiff, reduceCtorEq, pun, Option.getD_some, thenQ, isB, tmpOf, asB, true_and]
  refine SW.seq (SW.run [] _ ?_)
  simp only [wpC, mayStop, stops, Specs.has, Bool.not_false, List.any_cons, List.any_nil, Bool.or_false, Bool.false_eq_true, ↓reduceIte, wpS, wantedA, okDst, Nat.reduceLT, decide_true, step1, hxOp, px, AS.eval, AS.get, Lift.look, Nat.succ_ne_zero, Option.getD_some, AS.put, dropKey, Nat.reduceEqDiff, reduceCtorEq, pcall, glob_ty, ty9, plen, okLen, and_self, pbinP, ofConst, ofVal, pbinI, hlen, decide_false, List.getElem?_toArray, List.getElem?_cons_succ, List.getElem?_cons_zero, Option.bind_some, beq_self_eq_true, hlen2, ppick_bool, hlen3, thenQ, isB, tmpOf, asB, true_and]
  refine SW.seq (SW.run [upM m eOfL] _ ?_)
  simp only [wpC, Bool.false_eq_true, ↓reduceIte, wpS, stops, wantedA, okDst, Nat.reduceLT, decide_true, step1, hxOp, px, AS.eval, AS.get, Lift.look, Nat.succ_ne_zero, Option.getD_some, Specs.has, envM, upM, SpecE.up, eOfL, Bool.not_true, AS.put, dropKey, Nat.reduceEqDiff, reduceCtorEq, pcall, okArg, ofConst, ofVal, glob_gl, List.all_cons, List.all_nil, Bool.and_true, Specs.at, List.map_cons, List.map_nil, sOfL, a1, hA, ra2, and_self, strV, b1, hB, rb2, c1, hC, rc2, okAlloc, glob_ty, ty24, okZero, Value.oneCell', zeroOf, List.length_cons, List.length_nil, Nat.zero_add, Nat.reduceAdd, Heap.get_put, some_none, hx, known1, PV.cells, true_and, splice, List.take_zero, List.nil_append, List.cons_append, HBad, thenQ]
  rintro r hr q ⟨hqr, hq⟩ p hp0
  have hrq : ¬ r = q := fun e => hqr e.symm
  obtain ⟨hpq, hpr, hp⟩ := hp0
  have hqp : ¬ q = p := fun e => hpq e.symm
  have hrp : ¬ r = p := fun e => hpr e.symm
  simp only [hrp, ↓reduceIte, hrq, List.length_cons, List.length_nil, Nat.zero_add, Nat.reduceAdd, Nat.le_refl, List.drop_succ_cons, List.drop_nil, Heap.get_put, hqr, hqp, hpq, hpr, true_and]
  have la : (packL A).length ≤ 1000000000 := by have := packL_le A; omega
  have lb : (packL B).length ≤ 1000000000 := by have := packL_le B; omega
  have lc : (packL C).length ≤ 1000000000 := by have := packL_le C; omega
  have ra3 : A.length ≤ 100000 := by omega
  have rb3 : B.length ≤ 100000 := by omega
  have ra4 : A.length ≤ 1000000000 := by omega
  have rb4 : B.length ≤ 1000000000 := by omega
  have dA := decode_law a
  have dB := decode_law b
  rw [hA] at dA
  rw [hB] at dB
  refine SW.enter (n := 122) (l := [(0, .str a), (1, .str b), (7, .val (.pointer (some ⟨r, 0, none⟩))), (8, .val (.pointer (some ⟨q, 0, none⟩))), (9, .val (.pointer (some ⟨p, 0, none⟩)))]) (H := ((h.put r (.cells 24 2 [.str (packL A), .bool (anyWide A)])).put q (.cells 24 2 [.str (packL B), .bool (anyWide B)])).put p (.cells 24 2 [.str (packL C), .bool (anyWide C)])) rfl (HTo_of_eq (norm3 hqr hpq hpr)) ⟨rfl, rfl, rfl, rfl, rfl, trivial⟩ ?_
  refine SW.seq (SW.run [upM m eDecode] _ ?_)
  simp only [wpC, Bool.false_eq_true, ↓reduceIte, wpS, stops, wantedA, okDst, Nat.reduceLT, decide_true, step1, hxOp, px, AS.eval, AS.get, Lift.look, Option.getD_some, Specs.has, envM, upM, SpecE.up, eDecode, Bool.not_true, AS.put, dropKey, reduceCtorEq, Nat.reduceEqDiff, pcall, okArg, ofConst, ofVal, glob_gl, List.all_cons, List.all_nil, Bool.and_true, Specs.at, List.map_cons, List.map_nil, sDecode, a2, dA, and_self, b2, dB, thenQ, true_and]
  refine SW.seq (SW.run [upM m eCompare, upM m eCompareR, eFind m, upM m eFindR] _ ?_)
  simp only [wpC, mayStop, stops, Specs.has, envM, upM, SpecE.up, eCompare, eCompareR, eFind, eFindR, List.any_cons, ↓reduceIte, Bool.not_true, Nat.reduceEqDiff, List.any_nil, Bool.or_false, Bool.false_eq_true, wpS, wantedA, okDst, Nat.reduceLT, decide_true, step1, hxOp, px, pload, glob_ty, ty24, AS.eval, AS.get, Lift.look, reduceCtorEq, Option.getD_some, Heap.get_put, hrp, hrq, okOne, TK.isAgg, Nat.reduceBEq, Nat.zero_add, List.length_cons, List.length_nil, Nat.reduceAdd, Nat.le_refl, and_self, Lift.valOf, List.drop_zero, List.take_succ_cons, List.take_nil, AS.put, dropKey, hqp, pcall, okArg, ofConst, ofVal, glob_gl, List.all_cons, List.all_nil, Bool.and_true, Specs.at, List.map_cons, List.map_nil, sCompare, la, lb, cmp_packed A B va vb, sCompareR, unI_elI, ra4, rb4, pbinP, pbinI, bne_self_eq_false, List.getElem?_toArray, List.getElem?_cons_succ, List.getElem?_cons_zero, Option.bind_some, beq_self_eq_true, sFind, packed_chars A va, va, packed_chars B vb, vb, ra3, rb3, sFindR, ppick_bool, thenQ, isB, tmpOf, asB, true_and]
  have hps : ∀ x ∈ [C, B, A], okChars x := by
    intro x hx
    simp only [List.mem_cons, List.not_mem_nil, or_false] at hx
    rcases hx with rfl | rfl | rfl <;> assumption
  have hfl : [C, B, A].flatten = C ++ B ++ A := by simp
  have hj1 := joinL_packs [C, B, A] hps
  have hj2 := anyS_packs [C, B, A]
  have hj3 := sumS_packs [C, B, A]
  rw [hfl] at hj1 hj2 hj3
  have hJl : (C ++ B ++ A).length ≤ 1500 := by simp; omega
  have hj4 : sumS (packs [C, B, A]) ≤ 65536 := by rw [hj3]; omega
  have hj5 : (packL (C ++ B ++ A)).length ≤ 1000000000 := by have := packL_le (C ++ B ++ A); omega
  have hj6 : ∀ p ∈ packs [C, B, A], p.1.length ≤ 1000000000 := by
    intro p hp
    obtain ⟨m, hm, rfl⟩ := List.mem_map.1 hp
    simp only [List.mem_cons, List.not_mem_nil, or_false] at hm
    rcases hm with rfl | rfl | rfl <;> assumption
  have hj7 : (packs [C, B, A]).length ≤ 1000000000 := by show 3 ≤ _; decide
  have hun : unS [[.str (packL C), .bool (anyWide C)], [.str (packL B), .bool (anyWide B)], [.str (packL A), .bool (anyWide A)]] = some (packs [C, B, A]) := rfl
  have vJ : okChars (C ++ B ++ A) := by
    intro x hx
    simp only [List.mem_append] at hx
    rcases hx with (hx | hx) | hx
    · exact vc x hx
    · exact vb x hx
    · exact va x hx
  obtain ⟨i, hfi, hil, htk⟩ := find_mid C B A
  generalize hJ : C ++ B ++ A = J at *
  have lJ : J.length ≤ 100000 := by omega
  have hJlen : J.length = C.length + B.length + A.length := by rw [← hJ]; simp; omega
  refine SW.seq (SW.run [upM m eJoin] _ ?_)
  simp only [wpC, Bool.false_eq_true, ↓reduceIte, wpS, stops, wantedA, okDst, Nat.reduceLT, decide_true, step1, hxOp, px, pload, envM, glob_ty, ty24, AS.eval, AS.get, Lift.look, Nat.reduceEqDiff, reduceCtorEq, Option.getD_some, Heap.get_put, okOne, TK.isAgg, Nat.reduceBEq, Bool.or_false, Nat.zero_add, List.length_cons, List.length_nil, Nat.reduceAdd, Nat.le_refl, and_self, Lift.valOf, List.drop_zero, List.take_succ_cons, List.take_nil, AS.put, dropKey, hqp, hrp, hrq, pbuildSlice, ty65, List.replicate, List.map_cons, ofVal, List.map_nil, List.flatten_cons, List.flatten_nil, List.append_nil, List.cons_append, List.nil_append, ofConst, glob_gl, pfill, PV.cells, Nat.reduceMul, Nat.reduceLeDiff, splice, List.take_zero, List.drop_succ_cons, List.drop_nil, okZero, List.all_cons, Value.oneCell', List.all_nil, Bool.and_true, known, chunk, Specs.has, upM, SpecE.up, eJoin, Bool.not_true, pcall, okArg, Specs.at, sJoin, hun, hj4, hj1, hj5, hj7, and_true, true_and, hj2, List.getElem?_cons_zero, List.getElem?_cons_succ, okAlloc, some_none, hx, zeroOf, known1, thenQ]
  refine ⟨hj6, ?_⟩
  rintro s ⟨hsp, hsq, hsr, hs⟩
  have hps' : ¬ p = s := fun e => hsp e.symm
  have hqs : ¬ q = s := fun e => hsq e.symm
  have hrs : ¬ r = s := fun e => hsr e.symm
  refine SW.enter (n := 122) (l := [(7, .val (.pointer (some ⟨r, 0, none⟩))), (8, .val (.pointer (some ⟨q, 0, none⟩))), (9, .val (.pointer (some ⟨p, 0, none⟩))), (12, .val (.pointer (some ⟨s, 0, none⟩))), (13, .int .i64 0)]) (H := (((h.put r (.cells 24 2 [.str (packL A), .bool (anyWide A)])).put q (.cells 24 2 [.str (packL B), .bool (anyWide B)])).put p (.cells 24 2 [.str (packL C), .bool (anyWide C)])).put s (.cells 24 2 [.str (packL J), .bool (anyWide J)])) rfl (HTo_of_eq (by rw [Heap.put_put])) ⟨rfl, rfl, rfl, rfl, rfl, trivial⟩ ?_
  refine SW.seq (SW.run [eFind m] _ ?_)
  simp only [wpC, Bool.false_eq_true, ↓reduceIte, wpS, stops, wantedA, okDst, Nat.reduceLT, decide_true, step1, hxOp, px, pload, envM, glob_ty, ty24, AS.eval, AS.get, Lift.look, Nat.reduceEqDiff, Option.getD_some, Heap.get_put, okOne, TK.isAgg, Nat.reduceBEq, Bool.or_false, Nat.zero_add, List.length_cons, List.length_nil, Nat.reduceAdd, Nat.le_refl, and_self, Lift.valOf, List.drop_zero, List.take_succ_cons, List.take_nil, AS.put, dropKey, hqs, hqp, Specs.has, eFind, Bool.not_true, pcall, okArg, ofConst, ofVal, glob_gl, List.all_cons, List.all_nil, Bool.and_true, Specs.at, List.map_cons, List.map_nil, sFind, packed_chars J vJ, vJ, packed_chars B vb, vb, lJ, rb3, hfi, thenQ, true_and]
  have hcl : ¬ ((C.length : Nat) : Int) < ((i : Nat) : Int) := by omega
  have hi0 : ¬ ((i : Nat) : Int) < 0 := by omega
  refine SW.seq (SW.run [upM m eLen] _ ?_)
  simp only [wpC, mayStop, stops, Specs.has, envM, upM, SpecE.up, eLen, List.any_cons, ↓reduceIte, Bool.not_true, List.any_nil, Bool.or_false, Bool.false_eq_true, wpS, wantedA, okDst, Nat.reduceLT, decide_true, step1, hxOp, px, AS.eval, AS.get, Lift.look, Nat.reduceEqDiff, Option.getD_some, AS.put, dropKey, pbinP, ofConst, ofVal, pbinI, Int.reduceBNe, List.getElem?_toArray, List.getElem?_cons_succ, List.getElem?_cons_zero, Option.bind_some, beq_self_eq_true, hi0, decide_false, ppick_bool, pload, glob_ty, ty24, Heap.get_put, hps', okOne, TK.isAgg, Nat.reduceBEq, Nat.zero_add, List.length_cons, List.length_nil, Nat.reduceAdd, Nat.le_refl, and_self, Lift.valOf, List.drop_zero, List.take_succ_cons, List.take_nil, pcall, okArg, glob_gl, List.all_cons, List.all_nil, Bool.and_true, Specs.at, List.map_cons, List.map_nil, sLen, lc, packL_len, hcl, thenQ, isB, tmpOf, asB, true_and]
  have hw : IntKind.i64.wrap (((i : Nat) : Int) + ((B.length : Nat) : Int)) = ((i + B.length : Nat) : Int) := by rw [w64 (by omega) (by omega)]; omega
  have hsl := slice_pack J (i : Int) ((i + B.length : Nat) : Int) vJ (by omega) (by omega) (by omega)
  rw [Int.toNat_natCast, Int.toNat_natCast, htk] at hsl
  refine SW.seq (SW.regionAny [upM m eLen, upM m eSlice] [[0, 1, 2, 3, 4, 5, 6, 7, 8, 9, 10, 11, 12]] rfl (by rfl) (by kernel_rfl) ?_)
  simp only [wpOL, wpO, LOp, List.getElem?_toArray, List.getElem?_cons_zero, okDst, Nat.reduceLT, decide_true, wantedA, ↓reduceIte, step1, hxOp, Bool.false_eq_true, px, pload, envM, glob_ty, ty24, AS.eval, AS.get, Lift.look, Nat.reduceEqDiff, Option.getD_some, Heap.get_put, okOne, TK.isAgg, Nat.reduceBEq, Bool.or_false, Nat.zero_add, List.length_cons, List.length_nil, Nat.reduceAdd, Nat.le_refl, and_self, Lift.valOf, List.drop_zero, List.take_succ_cons, List.take_nil, List.getElem?_cons_succ, AS.put, dropKey, hqs, hqp, pcall, okArg, ofConst, ofVal, glob_gl, List.all_cons, List.all_nil, Bool.and_true, Specs.at, upM, SpecE.up, eLen, List.map_cons, List.map_nil, sLen, lb, packL_len, pbinP, pbinI, hw, eSlice, sSliceT, hj5, hsl, strV, okAlloc, okZero, Value.oneCell', some_none, hx, zeroOf, known1, PV.cells, splice, List.take_zero, List.nil_append, List.drop_succ_cons, List.drop_nil, List.append_nil, thenQ, true_and]
  rintro t ⟨hts, htp, htq, htr, ht⟩
  have hqt : ¬ q = t := fun e => htq e.symm
  refine SW.seq (SW.run [upM m eCompare] _ ?_)
  simp only [wpC, mayStop, stops, Specs.has, envM, upM, SpecE.up, eCompare, List.any_cons, ↓reduceIte, Bool.not_true, List.any_nil, Bool.or_false, Bool.false_eq_true, wpS, wantedA, okDst, Nat.reduceLT, decide_true, step1, hxOp, px, AS.eval, AS.get, Lift.look, Option.getD_some, AS.put, dropKey, Nat.reduceEqDiff, pbinP, ofConst, ofVal, pbinI, bne_self_eq_false, List.getElem?_toArray, List.getElem?_cons_succ, List.getElem?_cons_zero, Option.bind_some, beq_self_eq_true, pload, glob_ty, ty24, Heap.get_put, okOne, TK.isAgg, Nat.reduceBEq, Nat.zero_add, List.length_cons, List.length_nil, Nat.reduceAdd, Nat.le_refl, and_self, Lift.valOf, List.drop_zero, List.take_succ_cons, List.take_nil, hqt, hqs, hqp, pcall, okArg, glob_gl, List.all_cons, List.all_nil, Bool.and_true, Specs.at, List.map_cons, List.map_nil, sCompare, lb, cmpS_self, ppick_bool, thenQ, isB, tmpOf, asB, true_and]
  refine SW.enter (n := 122) (l := [(7, .val (.pointer (some ⟨r, 0, none⟩))), (8, .val (.pointer (some ⟨q, 0, none⟩))), (9, .val (.pointer (some ⟨p, 0, none⟩)))]) (H := (((h.put r (.cells 24 2 [.str (packL A), .bool (anyWide A)])).put q (.cells 24 2 [.str (packL B), .bool (anyWide B)])).put p (.cells 24 2 [.str (packL C), .bool (anyWide C)]))) rfl ?_ ⟨rfl, rfl, rfl, trivial⟩ ?_
  · dsimp only
    rw [Heap.put_put]
    exact HTo.put2 _ _ (by rw [Heap.put_ne _ _ hsp, Heap.put_ne _ _ hsq, Heap.put_ne _ _ hsr]; exact hs) (by rw [Heap.put_ne _ _ htp, Heap.put_ne _ _ htq, Heap.put_ne _ _ htr]; exact ht)
  have han := cmpI_anti A B
  have hrg := cmpI_range B A
  have hneg : IntKind.i64.wrap (0 - cmpI B A) = cmpI A B := by rw [w64 (by omega) (by omega)]; omega
  refine SW.seq (SW.seq (SW.regionAny [upM m eCompare] [[0, 1, 2, 3, 4, 5, 6, 7]] rfl (by rfl) (by kernel_rfl) ?_))
  simp only [wpOL, wpO, LOp, List.getElem?_toArray, List.getElem?_cons_zero, okDst, Nat.reduceLT, decide_true, wantedA, ↓reduceIte, step1, hxOp, Bool.false_eq_true, px, pload, envM, glob_ty, ty24, AS.eval, AS.get, Lift.look, Option.getD_some, Heap.get_put, hrp, hrq, okOne, TK.isAgg, Nat.reduceBEq, Bool.or_false, Nat.zero_add, List.length_cons, List.length_nil, Nat.reduceAdd, Nat.le_refl, and_self, Lift.valOf, List.drop_zero, List.take_succ_cons, List.take_nil, List.getElem?_cons_succ, AS.put, dropKey, Nat.reduceEqDiff, hqp, pcall, okArg, ofConst, ofVal, glob_gl, List.all_cons, List.all_nil, Bool.and_true, Specs.at, upM, SpecE.up, eCompare, List.map_cons, List.map_nil, sCompare, la, lb, cmp_packed A B va vb, cmp_packed B A vb va, pun, hneg, pbinP, pbinI, bne_self_eq_false, thenQ, true_and]
  refine SW.run [] _ ?_
  simp only [wpC, isB, AS.get, Lift.look, tmpOf, ↓reduceIte, Option.getD_some, asB, Bool.false_eq_true, thenQ, true_and]
  refine SW.run [upM m eCompare] _ ?_
  by_cases g1 : 0 < cmpI A B
  · simp only [wpC, mayStop, stops, Specs.has, envM, upM, SpecE.up, eCompare, List.any_cons, ↓reduceIte, Bool.not_true, List.any_nil, Bool.or_false, Bool.false_eq_true, wpS, wantedA, okDst, Nat.reduceLT, decide_true, step1, hxOp, px, pload, glob_ty, ty24, AS.eval, AS.get, Lift.look, Nat.reduceEqDiff, Option.getD_some, Heap.get_put, hrp, hrq, okOne, TK.isAgg, Nat.reduceBEq, Nat.zero_add, List.length_cons, List.length_nil, Nat.reduceAdd, Nat.le_refl, and_self, Lift.valOf, List.drop_zero, List.take_succ_cons, List.take_nil, AS.put, dropKey, hqp, pcall, okArg, ofConst, ofVal, glob_gl, List.all_cons, List.all_nil, Bool.and_true, Specs.at, List.map_cons, List.map_nil, sCompare, la, lb, cmp_packed A B va vb, pbinP, pbinI, g1, List.getElem?_toArray, List.getElem?_cons_succ, List.getElem?_cons_zero, Option.bind_some, beq_tf, Option.some.injEq, ppick_true, thenQ, RPost, sres, Try.results7, sresL, sres1, Ret_fin, exists_eq_left', true_and]
    exact HTo.put3 _ _ _ hr hq hp
  · by_cases g2 : 0 < cmpI B C
    · simp only [wpC, mayStop, stops, Specs.has, envM, upM, SpecE.up, eCompare, List.any_cons, ↓reduceIte, Bool.not_true, List.any_nil, Bool.or_false, Bool.false_eq_true, wpS, wantedA, okDst, Nat.reduceLT, decide_true, step1, hxOp, px, pload, glob_ty, ty24, AS.eval, AS.get, Lift.look, Nat.reduceEqDiff, Option.getD_some, Heap.get_put, hrp, hrq, okOne, TK.isAgg, Nat.reduceBEq, Nat.zero_add, List.length_cons, List.length_nil, Nat.reduceAdd, Nat.le_refl, and_self, Lift.valOf, List.drop_zero, List.take_succ_cons, List.take_nil, AS.put, dropKey, hqp, pcall, okArg, ofConst, ofVal, glob_gl, List.all_cons, List.all_nil, Bool.and_true, Specs.at, List.map_cons, List.map_nil, sCompare, la, lb, cmp_packed A B va vb, pbinP, pbinI, g1, decide_false, List.getElem?_toArray, List.getElem?_cons_succ, List.getElem?_cons_zero, Option.bind_some, beq_self_eq_true, lc, cmp_packed B C vb vc, g2, ppick_bool, beq_tf, Option.some.injEq, ppick_true, thenQ, RPost, sres, Try.results7, sresL, sres1, Ret_fin, exists_eq_left', true_and]
      exact HTo.put3 _ _ _ hr hq hp
    · have g3 : cmpI A C ≤ 0 := cmpI_trans A B C (by omega) (by omega)
      simp only [wpC, mayStop, stops, Specs.has, envM, upM, SpecE.up, eCompare, List.any_cons, ↓reduceIte, Bool.not_true, List.any_nil, Bool.or_false, Bool.false_eq_true, wpS, wantedA, okDst, Nat.reduceLT, decide_true, step1, hxOp, px, pload, glob_ty, ty24, AS.eval, AS.get, Lift.look, Nat.reduceEqDiff, Option.getD_some, Heap.get_put, hrp, hrq, okOne, TK.isAgg, Nat.reduceBEq, Nat.zero_add, List.length_cons, List.length_nil, Nat.reduceAdd, Nat.le_refl, and_self, Lift.valOf, List.drop_zero, List.take_succ_cons, List.take_nil, AS.put, dropKey, hqp, pcall, okArg, ofConst, ofVal, glob_gl, List.all_cons, List.all_nil, Bool.and_true, Specs.at, List.map_cons, List.map_nil, sCompare, la, lb, cmp_packed A B va vb, pbinP, pbinI, g1, decide_false, List.getElem?_toArray, List.getElem?_cons_succ, List.getElem?_cons_zero, Option.bind_some, beq_self_eq_true, lc, cmp_packed B C vb vc, g2, ppick_bool, cmp_packed A C va vc, g3, thenQ, RPost, sres, Try.results7, sresL, sres1, Option.some.injEq, Ret_fin, exists_eq_left', true_and]
      exact HTo.put3 _ _ _ hr hq hp
end Go.Proofs.Ythlibdhjcjangaa
