/- Contracts of functions that the law reaches. -/
import Derived.Test.YthlibdhjcjangaaTz
set_option linter.unusedSimpArgs false
set_option linter.unusedVariables false
namespace Go.Proofs.Ythlibdhjcjangaa
open Go Go.RowKit Go.Proofs.Ythlibdhjcjangaa Go.Proofs.Ythlibdhjcjangaa.Lift

/-! text.Find -/
def sFind : List PV → Prop × PV
  | [.agg [.str l, .bool w], .agg [.str l2, .bool w2]] => (okChars (charsS l w) ∧ okChars (charsS l2 w2) ∧ l = packL (charsS l w) ∧ w = anyWide (charsS l w) ∧ l2 = packL (charsS l2 w2) ∧ w2 = anyWide (charsS l2 w2) ∧ (charsS l w).length ≤ 100000 ∧ (charsS l2 w2).length ≤ 100000, .int .i64 (findI (charsS l w) (charsS l2 w2)))
  | _ => PBad
theorem Find_ok (m : Int) (ns ms : List Int) (h : Heap) (hv : okChars ns) (hv2 : okChars ms) (hn : ns.length ≤ 100000) (hm : ms.length ≤ 100000) :
    SCalls (envM m) 26 [.agg [.str (packL ns), .bool (anyWide ns)], .agg [.str (packL ms), .bool (anyWide ms)]] h (Ret (.int .i64 (findI ns ms)) h) := by
  refine SCalls.body Try.func26 rfl rfl (by simp [Try.ntmps26]) ?_
  refine SW.seq (SW.run [] _ ?_)
  simp only [wpC, Bool.false_eq_true, ↓reduceIte, wpS, stops, wantedA, okDst, Try.ntmps26, Nat.reduceLT, decide_true, step1, known1, AS.eval, AS.get, enumA, Nat.zero_add, Lift.look, Option.getD_some, AS.put, dropKey, reduceCtorEq, Nat.reduceEqDiff, PV.cells, List.length_cons, List.length_nil, Nat.reduceAdd, Heap.get_put, some_none, hxOp, px, ofConst, ofVal, thenQ, envM, true_and]
  rintro r hr q ⟨hqr, hq⟩
  have hrq : ¬ r = q := fun e => hqr e.symm
  have hpl : (packL ns).length ≤ 1000000000 := by have := packL_le ns; omega
  have hpl2 : (packL ms).length ≤ 1000000000 := by have := packL_le ms; omega
  cases hw : anyWide ns with
  | false =>
    cases hw2 : anyWide ms with
    | true =>
      refine SW.run [eIndex m] _ ?_
      simp only [wpC, mayStop, stops, Specs.has, envM, eIndex, List.any_cons, List.any_nil, Bool.or_false, ↓reduceIte, Bool.not_true, Bool.false_eq_true, wpS, wantedA, okDst, Nat.reduceLT, decide_true, step1, hxOp, px, pfieldAddr, fieldOf, glob_ty, ty24, fieldIn, List.getElem?_cons_succ, List.getElem?_cons_zero, ty4, Option.map_some, AS.eval, AS.get, Lift.look, Nat.reduceEqDiff, Option.getD_some, ne_eq, Nat.succ_ne_zero, not_false_eq_true, Nat.zero_add, AS.put, dropKey, reduceCtorEq, pload, Heap.get_put, hrq, okOne, TK.isAgg, beq_self_eq_true, Bool.or_true, Nat.reduceAdd, List.length_cons, List.length_nil, Nat.le_refl, and_self, Lift.valOf, List.drop_succ_cons, List.drop_zero, List.take_succ_cons, List.take_nil, List.getD_cons_zero, pun, Bool.not_false, thenQ, isB, tmpOf, asB, ofConst, ofVal, RPost, sres, Try.results26, sresL, sres1, Option.some.injEq, find_nw ns ms hw hw2, Ret_fin, exists_eq_left', true_and]
      exact HTo.put2 _ _ hr hq
    | false =>
      refine SW.run [eIndex m] _ ?_
      simp only [wpC, mayStop, stops, Specs.has, envM, eIndex, List.any_cons, List.any_nil, Bool.or_false, ↓reduceIte, Bool.not_true, Bool.false_eq_true, wpS, wantedA, okDst, Nat.reduceLT, decide_true, step1, hxOp, px, pfieldAddr, fieldOf, glob_ty, ty24, fieldIn, List.getElem?_cons_succ, List.getElem?_cons_zero, ty4, Option.map_some, AS.eval, AS.get, Lift.look, Nat.reduceEqDiff, Option.getD_some, ne_eq, Nat.succ_ne_zero, not_false_eq_true, Nat.zero_add, AS.put, dropKey, reduceCtorEq, pload, Heap.get_put, hrq, okOne, TK.isAgg, beq_self_eq_true, Bool.or_true, Nat.reduceAdd, List.length_cons, List.length_nil, Nat.le_refl, and_self, Lift.valOf, List.drop_succ_cons, List.drop_zero, List.take_succ_cons, List.take_nil, List.getD_cons_zero, pun, Bool.not_false, thenQ, isB, tmpOf, asB, ty9, Nat.add_zero, Nat.reduceLeDiff, List.take_zero, pcall, okArg, ofConst, ofVal, glob_gl, List.all_cons, List.all_nil, Bool.and_true, Specs.at, List.map_cons, List.map_nil, sIndex, hpl, index_narrow ns ms hv hv2 hw hw2, RPost, sres, Try.results26, sresL, sres1, Option.some.injEq, Ret_fin, exists_eq_left', true_and]
      exact HTo.put2 _ _ hr hq
  | true =>
    refine SW.seq (SW.run [eIndex m] _ ?_)
    simp only [wpC, mayStop, stops, Specs.has, envM, eIndex, List.any_cons, List.any_nil, Bool.or_false, Bool.false_eq_true, ↓reduceIte, wpS, wantedA, okDst, Nat.reduceLT, decide_true, step1, hxOp, px, pfieldAddr, fieldOf, glob_ty, ty24, fieldIn, List.getElem?_cons_succ, List.getElem?_cons_zero, ty4, Option.map_some, AS.eval, AS.get, Lift.look, Nat.reduceEqDiff, Option.getD_some, ne_eq, Nat.succ_ne_zero, not_false_eq_true, Nat.zero_add, AS.put, dropKey, reduceCtorEq, pload, Heap.get_put, hrq, okOne, TK.isAgg, beq_self_eq_true, Bool.or_true, Nat.reduceAdd, List.length_cons, List.length_nil, Nat.le_refl, and_self, Lift.valOf, List.drop_succ_cons, List.drop_zero, List.take_succ_cons, List.take_nil, List.getD_cons_zero, pun, Bool.not_true, thenQ, isB, tmpOf, asB, true_and]
    rw [packL_wide hw] at *
    have hX : (ns.flatMap be4).length = 4 * ns.length := flat_len be4 4 be4_len ns
    have hcl : ms.length ≤ 1000000000 := by omega
    refine SW.meet2 48 [(2, .val (.pointer (some ⟨r, 0, none⟩))), (5, .str (ms.flatMap be4))] ((h.put r (.cells 24 2 [.str (ns.flatMap be4), .bool true])).put q (.cells 24 2 [.str (packL ms), .bool (anyWide ms)])) ?_ ?_
    · cases hw2 : anyWide ms with
      | true =>
        refine SW.run [] _ ?_
        simp only [wpC, Bool.false_eq_true, ↓reduceIte, wpS, stops, wantedA, okDst, Nat.reduceLT, decide_true, step1, hxOp, px, pfieldAddr, fieldOf, glob_ty, ty24, fieldIn, List.getElem?_cons_zero, ty9, Option.map_some, AS.eval, AS.get, Lift.look, Nat.reduceEqDiff, Option.getD_some, ne_eq, Nat.succ_ne_zero, not_false_eq_true, Nat.add_zero, AS.put, dropKey, reduceCtorEq, pload, Heap.get_put, okOne, TK.isAgg, beq_self_eq_true, Bool.or_true, Nat.zero_add, List.length_cons, List.length_nil, Nat.reduceAdd, Nat.reduceLeDiff, and_self, Lift.valOf, List.drop_zero, List.take_succ_cons, List.take_zero, List.getD_cons_zero, thenQ, true_and]
        refine SW.run [upM m eRunes, upM m ePackWide] _ ?_
        simp only [wpC, mayStop, stops, Specs.has, envM, upM, SpecE.up, eRunes, ePackWide, List.any_cons, List.any_nil, Bool.or_false, Bool.false_eq_true, ↓reduceIte, wpS, wantedA, okDst, Nat.reduceLT, decide_true, step1, hxOp, px, pfieldAddr, fieldOf, glob_ty, ty24, fieldIn, List.getElem?_cons_succ, List.getElem?_cons_zero, ty4, Option.map_some, AS.eval, AS.get, Lift.look, Nat.reduceEqDiff, Option.getD_some, ne_eq, Nat.succ_ne_zero, not_false_eq_true, Nat.zero_add, AS.put, dropKey, packL_wide hw2, reduceCtorEq, pload, Heap.get_put, okOne, TK.isAgg, beq_self_eq_true, Bool.or_true, Nat.reduceAdd, List.length_cons, List.length_nil, Nat.le_refl, and_self, Lift.valOf, List.drop_succ_cons, List.drop_zero, List.take_succ_cons, List.take_nil, List.getD_cons_zero, pun, Bool.not_true, thenQ, isB, tmpOf, asB, Meet, HTo_self, hasAll]
      | false =>
        have hpc := packed_chars ms hv2
        rw [hw2] at hpc
        refine SW.run [] _ ?_
        simp only [wpC, Bool.false_eq_true, ↓reduceIte, wpS, stops, wantedA, okDst, Nat.reduceLT, decide_true, step1, hxOp, px, pfieldAddr, fieldOf, glob_ty, ty24, fieldIn, List.getElem?_cons_zero, ty9, Option.map_some, AS.eval, AS.get, Lift.look, Nat.reduceEqDiff, Option.getD_some, ne_eq, Nat.succ_ne_zero, not_false_eq_true, Nat.add_zero, AS.put, dropKey, reduceCtorEq, pload, Heap.get_put, okOne, TK.isAgg, beq_self_eq_true, Bool.or_true, Nat.zero_add, List.length_cons, List.length_nil, Nat.reduceAdd, Nat.reduceLeDiff, and_self, Lift.valOf, List.drop_zero, List.take_succ_cons, List.take_zero, List.getD_cons_zero, thenQ, true_and]
        refine SW.run [upM m eRunes, upM m ePackWide] _ ?_
        simp only [wpC, mayStop, stops, Specs.has, envM, upM, SpecE.up, eRunes, ePackWide, List.any_cons, List.any_nil, Bool.or_false, Bool.false_eq_true, ↓reduceIte, wpS, wantedA, okDst, Nat.reduceLT, decide_true, step1, hxOp, px, pfieldAddr, fieldOf, glob_ty, ty24, fieldIn, List.getElem?_cons_succ, List.getElem?_cons_zero, ty4, Option.map_some, AS.eval, AS.get, Lift.look, Nat.reduceEqDiff, Option.getD_some, ne_eq, Nat.succ_ne_zero, not_false_eq_true, Nat.zero_add, AS.put, dropKey, reduceCtorEq, pload, Heap.get_put, okOne, TK.isAgg, beq_self_eq_true, Bool.or_true, Nat.reduceAdd, List.length_cons, List.length_nil, Nat.le_refl, and_self, Lift.valOf, List.drop_succ_cons, List.drop_zero, List.take_succ_cons, List.take_nil, List.getD_cons_zero, pun, Bool.not_false, thenQ, isB, tmpOf, asB, Nat.reduceBEq, Bool.not_true, pcall, okArg, ofConst, ofVal, glob_gl, List.all_cons, List.all_nil, Bool.and_true, Specs.at, List.map_cons, List.map_nil, sRunes, hpl2, hpc, sPackWide, unR_elR, hcl, Meet, HTo_self, hasAll]
    refine SW.seq (SW.run [] _ ?_)
    simp only [wpC, Bool.false_eq_true, ↓reduceIte, wpS, stops, wantedA, okDst, Nat.reduceLT, decide_true, step1, hxOp, px, AS.eval, ofConst, ofVal, thenQ, AS.put, dropKey, Nat.reduceEqDiff, true_and]
    refine SW.block (SW.loopK 48 (fun k : Nat => [(2, .val (.pointer (some ⟨r, 0, none⟩))), (5, .str (ms.flatMap be4)), (6, .int .i64 ((4 * k : Nat) : Int))]) (fun _ => (h.put r (.cells 24 2 [.str (ns.flatMap be4), .bool true])).put q (.cells 24 2 [.str (packL ms), .bool (anyWide ms)])) (fun k => k ≤ ns.length ∧ ∀ j, j < k → ¬ ms <+: ns.drop j) (fun k => ns.length - k) 0 ⟨Nat.zero_le _, fun j hj => absurd hj (Nat.not_lt_zero j)⟩ ?_ ?_)
    · simp only [Has, hasAll, AS.get, Lift.look, Nat.reduceEqDiff, ↓reduceIte, Option.getD_some, Nat.reduceMul, Int.cast_ofNat_Int, and_self]
    rintro k ⟨hk, hno⟩
    have k1 : (0 : Int) ≤ ((4 * k : Nat) : Int) := by omega
    have k2 : ((4 * k : Nat) : Int) ≤ (((ns.flatMap be4).length : Nat) : Int) := by rw [hX]; omega
    have k3 : ((ns.flatMap be4).drop (4 * k)).length ≤ 1000000000 := by rw [List.length_drop, hX]; omega
    rcases round4 ns ms hv hv2 k hk hno with ⟨hi, hf⟩ | ⟨i, hi, hle, hcase⟩
    · refine SW.run [eIndex m] _ ?_
      simp only [wpC, mayStop, stops, Specs.has, envM, eIndex, List.any_cons, ↓reduceIte, Bool.not_true, List.any_nil, Bool.or_false, Bool.false_eq_true, wpS, wantedA, okDst, Nat.reduceLT, decide_true, step1, hxOp, px, pfieldAddr, fieldOf, glob_ty, ty24, fieldIn, List.getElem?_cons_zero, ty9, Option.map_some, AS.eval, AS.get, Lift.look, Option.getD_some, ne_eq, Nat.succ_ne_zero, not_false_eq_true, Nat.add_zero, AS.put, dropKey, Nat.reduceEqDiff, pload, Heap.get_put, hrq, okOne, TK.isAgg, beq_self_eq_true, Bool.or_true, Nat.zero_add, List.length_cons, List.length_nil, Nat.reduceAdd, Nat.reduceLeDiff, and_self, Lift.valOf, List.drop_zero, List.take_succ_cons, List.take_zero, List.getD_cons_zero, pslice, pB, k1, k2, true_and, Int.toNat_natCast, List.take_length, pcall, okArg, ofConst, ofVal, glob_gl, List.all_cons, List.all_nil, Bool.and_true, Specs.at, List.map_cons, List.map_nil, sIndex, List.length_drop, hi, thenQ, pbinP, pbinI, Int.reduceLT, isB, tmpOf, asB, inQ, RPost, sres, Try.results26, sresL, sres1, Option.some.injEq, hf, Ret_fin, exists_eq_left']
      exact ⟨Int.le_refl _, by rw [hX]; omega, HTo.put2 _ _ hr hq⟩
    · have hneg : ¬ ((i : Nat) : Int) < 0 := by omega
      have hd : ((i : Nat) : Int).tdiv 4 = ((i / 4 : Nat) : Int) := tdiv_nat i 4
      have hmod : ((i : Nat) : Int).tmod 4 = ((i % 4 : Nat) : Int) := by rw [Int.tmod_eq_emod_of_nonneg (by omega)]; omega
      rcases hcase with ⟨hm, hf⟩ | ⟨hm, hle2, hno2⟩
      · have hb : (((i % 4 : Nat) : Int) == 0) = true := by rw [hm]; rfl
        have hw1 : IntKind.i64.wrap (((4 * k : Nat) : Int) + ((i : Nat) : Int)) = ((4 * k + i : Nat) : Int) := by rw [w64 (by omega) (by omega)]; omega
        have hd2 : ((4 * k + i : Nat) : Int).tdiv 4 = ((k + i / 4 : Nat) : Int) := by rw [show ((4 * k + i : Nat) : Int).tdiv 4 = (((4 * k + i) / 4 : Nat) : Int) from tdiv_nat _ 4]; omega
        have hw2 : IntKind.i64.wrap ((k + i / 4 : Nat) : Int) = ((k + i / 4 : Nat) : Int) := w64 (by omega) (by omega)
        refine SW.run [eIndex m] _ ?_
        simp only [wpC, mayStop, stops, Specs.has, envM, eIndex, List.any_cons, ↓reduceIte, Bool.not_true, List.any_nil, Bool.or_false, Bool.false_eq_true, wpS, wantedA, okDst, Nat.reduceLT, decide_true, step1, hxOp, px, pfieldAddr, fieldOf, glob_ty, ty24, fieldIn, List.getElem?_cons_zero, ty9, Option.map_some, AS.eval, AS.get, Lift.look, Option.getD_some, ne_eq, Nat.succ_ne_zero, not_false_eq_true, Nat.add_zero, AS.put, dropKey, Nat.reduceEqDiff, pload, Heap.get_put, hrq, okOne, TK.isAgg, beq_self_eq_true, Bool.or_true, Nat.zero_add, List.length_cons, List.length_nil, Nat.reduceAdd, Nat.reduceLeDiff, and_self, Lift.valOf, List.drop_zero, List.take_succ_cons, List.take_zero, List.getD_cons_zero, pslice, pB, k1, k2, Int.le_refl, Int.toNat_natCast, List.take_length, pcall, okArg, ofConst, ofVal, glob_gl, List.all_cons, List.all_nil, Bool.and_true, Specs.at, List.map_cons, List.map_nil, sIndex, List.length_drop, hi, true_and, thenQ, pbinP, pbinI, hneg, decide_false, isB, tmpOf, asB, Int.reduceEq, hmod, hb, hw1, hd2, hw2, inQ, RPost, sres, Try.results26, sresL, sres1, Option.some.injEq, hf, Ret_fin, exists_eq_left']
        exact ⟨by rw [hX]; omega, HTo.put2 _ _ hr hq⟩
      · have hb : (((i % 4 : Nat) : Int) == 0) = false := by rw [beq_eq_false_iff_ne]; omega
        have hw0 : IntKind.i64.wrap ((i / 4 : Nat) : Int) = ((i / 4 : Nat) : Int) := w64 (by omega) (by omega)
        have hw1 : IntKind.i64.wrap (((i / 4 : Nat) : Int) * 4) = ((i / 4 : Nat) : Int) * 4 := w64 (by omega) (by omega)
        have hw2 : IntKind.i64.wrap (((4 * k : Nat) : Int) + ((i / 4 : Nat) : Int) * 4) = ((4 * k : Nat) : Int) + ((i / 4 : Nat) : Int) * 4 := w64 (by omega) (by omega)
        have hw3 : IntKind.i64.wrap (((4 * k : Nat) : Int) + ((i / 4 : Nat) : Int) * 4 + 4) = ((4 * (k + i / 4 + 1) : Nat) : Int) := by rw [w64 (by omega) (by omega)]; omega
        refine SW.run [eIndex m] _ ?_
        simp only [wpC, mayStop, stops, Specs.has, envM, eIndex, List.any_cons, ↓reduceIte, Bool.not_true, List.any_nil, Bool.or_false, Bool.false_eq_true, wpS, wantedA, okDst, Nat.reduceLT, decide_true, step1, hxOp, px, pfieldAddr, fieldOf, glob_ty, ty24, fieldIn, List.getElem?_cons_zero, ty9, Option.map_some, AS.eval, AS.get, Lift.look, Option.getD_some, ne_eq, Nat.succ_ne_zero, not_false_eq_true, Nat.add_zero, AS.put, dropKey, Nat.reduceEqDiff, pload, Heap.get_put, hrq, okOne, TK.isAgg, beq_self_eq_true, Bool.or_true, Nat.zero_add, List.length_cons, List.length_nil, Nat.reduceAdd, Nat.reduceLeDiff, and_self, Lift.valOf, List.drop_zero, List.take_succ_cons, List.take_zero, List.getD_cons_zero, pslice, pB, k1, k2, Int.le_refl, Int.toNat_natCast, List.take_length, pcall, okArg, ofConst, ofVal, glob_gl, List.all_cons, List.all_nil, Bool.and_true, Specs.at, List.map_cons, List.map_nil, sIndex, List.length_drop, hi, true_and, thenQ, pbinP, pbinI, hneg, decide_false, isB, tmpOf, asB, Int.reduceEq, hmod, hb, hd, hw0, hw1, hw2, inQ, hw3, Has, hasAll, and_true]
        exact ⟨by rw [hX]; omega, k + i / 4 + 1, ⟨hle2, hno2⟩, by omega, rfl⟩
noncomputable def eFind (m : Int) : SpecE (envM m) := ⟨26, sFind, fun args h hc => by
  unfold sFind at hc ⊢
  split at hc
  · rename_i l w l2 w2
    obtain ⟨h1, h2, e1, e2, e3, e4, h3, h4⟩ := hc
    refine .inl ?_
    dsimp only
    generalize charsS l w = ns at *
    generalize charsS l2 w2 = ms at *
    subst e1; subst e2; subst e3; subst e4
    exact Find_ok m ns ms h h1 h2 h3 h4
  · exact hc.elim⟩
end Go.Proofs.Ythlibdhjcjangaa
