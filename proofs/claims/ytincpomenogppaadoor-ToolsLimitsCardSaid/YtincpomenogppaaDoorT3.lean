/- Contracts of functions that the law reaches. -/
import Derived.Test.YtincpomenogppaaDoorT2
set_option linter.unusedSimpArgs false
set_option linter.unusedVariables false
namespace Go.Proofs.YtincpomenogppaaDoor
open Go Go.RowKit Go.Proofs.YtincpomenogppaaDoor Go.Proofs.YtincpomenogppaaDoor.Lift
set_option maxRecDepth 100000

theorem take_bytePVs (bs : List UInt8) : (bytePVs bs).take bs.length = bytePVs bs := by
  have : (bytePVs bs).length = bs.length := by simp [bytePVs]
  rw [← this, List.take_length]
theorem unBs_bytePVs (bs : List UInt8) : unBs (bytePVs bs) = some bs := unBs_map bs
theorem String_ok {r : Nat} {bs : List UInt8} {h : Heap} (hr : h r = some (.bld 75 5 bs)) (hlen : bs.length ≤ 140737488355328) :
    SCalls env 38 [.val (.pointer (some ⟨r, 0, none⟩))] h (Ret (.str bs) (h.del r)) := by
  refine SCalls.body Tryd.func38 rfl rfl (by simp [Tryd.ntmps38]) ?_
  have hsub : HSub (h.del r) h := fun k => by
    by_cases e : k = r
    · subst e; exact .inl (Heap.del_same _ _)
    · exact .inr (Heap.del_ne _ e)
  refine SW.unfold hr (fun hb p hp => ?_) (fun k cap h1 h2 h3 h4 h5 => ?_)
  · subst hb
    refine SW.seq (SW.run [] _ ?_)
    simp only [wpC, Bool.false_eq_true, ↓reduceIte, wpS, stops, wantedA, okDst, Tryd.ntmps38, Nat.reduceLT, decide_true, step1, isOwnCall, hxOp, px, AS.eval, ofConst, ofVal, thenQ, Tryd.results38, AS.put, enumA, dropKey, reduceCtorEq, true_and]
    refine SW.seq (SW.regionAny [] [[0, 1, 2, 3, 4, 5, 6, 7, 8, 9, 10, 11]] rfl (by rfl) (by kernel_rfl) ?_)
    simp only [wpOL, wpO, LOp, List.getElem?_toArray, List.getElem?_cons_zero, okDst, Nat.reduceLT, decide_true, wantedA, ↓reduceIte, step1, isOwnCall, Bool.false_eq_true, hxOp, px, AS.eval, AS.get, Lift.look, Nat.succ_ne_zero, Option.getD_some, List.getElem?_cons_succ, AS.put, dropKey, Nat.reduceEqDiff, reduceCtorEq, pfieldAddr, fieldOf, ty75, fieldIn, ty73, Option.map_some, ne_eq, not_false_eq_true, Nat.zero_add, pload, Heap.get_put, okOne, TK.isAgg, beq_self_eq_true, Bool.or_true, Nat.reduceAdd, List.length_cons, List.length_nil, Nat.le_refl, and_self, Lift.valOf, List.drop_succ_cons, List.drop_zero, List.take_succ_cons, List.take_nil, List.getD_cons_zero, pcall, plen, okLen, Int.cast_ofNat_Int, hx, hxUS, thenQ, true_and]
    refine SW.run [] _ ?_
    simp only [wpC, RPost, sres, sresL, sres1, AS.get, Lift.look, ↓reduceIte, Option.getD_some, Option.some.injEq, Ret_fin, exists_eq_left', true_and]
    have e : h.del r = (h.put r (.cells 75 2 [.val (.pointer p), .val (.slice none 0 0)])).del r := by
      funext k
      by_cases e : k = r
      · subst e; rw [Heap.del_same, Heap.del_same]
      · rw [Heap.del_ne _ e, Heap.del_ne _ e, Heap.put_ne _ _ e]
    rw [e]
    exact HTo.del _ _
  · refine SW.seq (SW.run [] _ ?_)
    simp only [wpC, Bool.false_eq_true, ↓reduceIte, wpS, stops, wantedA, okDst, Tryd.ntmps38, Nat.reduceLT, decide_true, step1, isOwnCall, hxOp, px, AS.eval, ofConst, ofVal, thenQ, Tryd.results38, AS.put, enumA, dropKey, reduceCtorEq, true_and]
    refine SW.seq (SW.regionAny [] [[0, 1, 2, 3, 4, 5, 6, 7, 8, 9, 10, 11]] rfl (by rfl) (by kernel_rfl) ?_)
    have h2' := Ne.symm h2
    have hc : ¬ cap = 0 := by omega
    have hfin : ∀ o o' : AObj, HTo env ((h.put r o).put k o') (h.del r) := fun o o' => HSub.to fun j => by
      by_cases e : j = r
      · subst e; exact .inl (Heap.del_same _ _)
      · rw [Heap.del_ne _ e]
        by_cases e2 : j = k
        · subst e2; exact .inl h1
        · exact .inr (by rw [Heap.put_ne _ _ e2, Heap.put_ne _ _ e])
    cases bs with
    | nil =>
      simp only [wpOL, wpO, LOp, List.getElem?_toArray, List.getElem?_cons_zero, okDst, Nat.reduceLT, decide_true, wantedA, ↓reduceIte, step1, isOwnCall, Bool.false_eq_true, hxOp, px, AS.eval, AS.get, Lift.look, Nat.succ_ne_zero, Option.getD_some, List.getElem?_cons_succ, AS.put, dropKey, Nat.reduceEqDiff, reduceCtorEq, List.length_nil, pfieldAddr, fieldOf, ty75, fieldIn, ty73, Option.map_some, ne_eq, not_false_eq_true, Nat.zero_add, pload, Heap.get_put, h2', okOne, TK.isAgg, beq_self_eq_true, Bool.or_true, Nat.reduceAdd, List.length_cons, Nat.le_refl, and_self, Lift.valOf, List.drop_succ_cons, List.drop_zero, List.take_succ_cons, List.take_nil, List.getD_cons_zero, pcall, hc, plen, okLen, Int.cast_ofNat_Int, hx, hxUS, thenQ, true_and]
      refine SW.run [] _ ?_
      simp only [wpC, RPost, sres, sresL, sres1, AS.get, Lift.look, ↓reduceIte, Option.getD_some, Option.some.injEq, Ret_fin, exists_eq_left', true_and]
      exact hfin _ _
    | cons b bs =>
      have ht : List.take (bs.length + 1) (bytePVs (b :: bs)) = bytePVs (b :: bs) := take_bytePVs (b :: bs)
      simp only [wpOL, wpO, LOp, List.getElem?_toArray, List.getElem?_cons_zero, okDst, Nat.reduceLT, decide_true, wantedA, ↓reduceIte, step1, isOwnCall, Bool.false_eq_true, hxOp, px, AS.eval, AS.get, Lift.look, Nat.succ_ne_zero, Option.getD_some, List.getElem?_cons_succ, AS.put, dropKey, Nat.reduceEqDiff, reduceCtorEq, List.length_cons, pfieldAddr, fieldOf, ty75, fieldIn, ty73, Option.map_some, ne_eq, not_false_eq_true, Nat.zero_add, pload, Heap.get_put, h2', okOne, TK.isAgg, beq_self_eq_true, Bool.or_true, Nat.reduceAdd, List.length_nil, Nat.le_refl, and_self, Lift.valOf, List.drop_succ_cons, List.drop_zero, List.take_succ_cons, List.take_nil, List.getD_cons_zero, pcall, hc, plen, okLen, hx, hxUS, ty100, ty5, ht, unBs_bytePVs, Nat.reduceLeDiff, true_and, and_true, thenQ]
      refine ⟨by simp only [List.length_cons] at hlen; omega, SW.run [] _ ?_⟩
      simp only [wpC, RPost, sres, sresL, sres1, AS.get, Lift.look, ↓reduceIte, Option.getD_some, Option.some.injEq, Ret_fin, exists_eq_left', true_and]
      rw [Heap.del_put _ _ _ (by rw [Heap.put_none]; exact ⟨h2, h1⟩)]
      refine HSub.to fun j => ?_
      by_cases e : j = r
      · subst e; exact .inl (Heap.del_same _ _)
      · exact .inr (by rw [Heap.del_ne _ e, Heap.put_ne _ _ e])
end Go.Proofs.YtincpomenogppaaDoor
