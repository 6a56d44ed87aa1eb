/- Contracts of functions that the law reaches. -/
import Derived.Test.YthlibdhjcjangaaT2
set_option linter.unusedSimpArgs false
set_option linter.unusedVariables false
namespace Go.Proofs.Ythlibdhjcjangaa
open Go Go.RowKit Go.Proofs.Ythlibdhjcjangaa Go.Proofs.Ythlibdhjcjangaa.Lift

theorem take_bytePVs (bs : List UInt8) : (bytePVs bs).take bs.length = bytePVs bs := by
  have : (bytePVs bs).length = bs.length := by simp [bytePVs]
  rw [← this, List.take_length]
theorem unBs_bytePVs (bs : List UInt8) : unBs (bytePVs bs) = some bs := unBs_map bs
theorem String_ok {r : Nat} {bs : List UInt8} {h : Heap} (hr : h r = some (.bld 68 5 bs)) (hlen : bs.length ≤ 140737488355328) :
    SCalls env 43 [.val (.pointer (some ⟨r, 0, none⟩))] h (Ret (.str bs) (h.del r)) := by
  refine SCalls.body Try.func43 rfl rfl (by simp [Try.ntmps43]) ?_
  have hsub : HSub (h.del r) h := fun k => by
    by_cases e : k = r
    · subst e; exact .inl (Heap.del_same _ _)
    · exact .inr (Heap.del_ne _ e)
  refine SW.unfold hr (fun hb p hp => ?_) (fun k cap h1 h2 h3 h4 h5 => ?_)
  · subst hb
    refine SW.seq (SW.run [] _ ?_)
    simp only [wpC, wpS, hxOp, stops, step1, wantedA, thenQ, px, enumA, AS.eval, AS.put, dropKey, okDst, ofConst, ofVal, Nat.reduceLT, ↓reduceIte, true_and, Bool.false_eq_true, decide_true, reduceCtorEq, Try.ntmps43, Try.results43]
    refine SW.seq (SW.regionAny [] [[0, 1, 2, 3, 4, 5, 6, 7, 8, 9, 10, 11]] rfl (by rfl) (by kernel_rfl) ?_)
    simp only [hxOp, Lift.hx, hxUS, step1, wantedA, thenQ, px, pfieldAddr, pload, pcall, plen, okLen, okOne, Lift.valOf, fieldOf, fieldIn, TK.isAgg, AS.eval, AS.get, AS.put, dropKey, Lift.look, okDst, LOp, wpO, wpOL, Heap.get_put, Int.cast_ofNat_Int, Nat.reduceEqDiff, Nat.reduceLT, Nat.reduceAdd, ↓reduceIte, Option.getD_some, Option.map_some, List.length_cons, List.length_nil, List.drop_zero, List.drop_succ_cons, List.take_succ_cons, List.take_nil, List.getD_cons_zero, List.getElem?_cons_zero, List.getElem?_cons_succ, List.getElem?_toArray, true_and, and_self, Bool.or_true, Bool.false_eq_true, beq_self_eq_true, decide_true, ne_eq, Nat.succ_ne_zero, not_false_eq_true, reduceCtorEq, Nat.le_refl, Nat.zero_add, ty39, ty68]
    refine SW.run [] _ ?_
    simp only [wpC, AS.get, Lift.look, RPost, sres, sresL, sres1, Ret_fin, ↓reduceIte, Option.getD_some, true_and, Option.some.injEq, exists_eq_left']
    have e : h.del r = (h.put r (.cells 68 2 [.val (.pointer p), .val (.slice none 0 0)])).del r := by
      funext k
      by_cases e : k = r
      · subst e; rw [Heap.del_same, Heap.del_same]
      · rw [Heap.del_ne _ e, Heap.del_ne _ e, Heap.put_ne _ _ e]
    rw [e]
    exact HTo.del _ _
  · refine SW.seq (SW.run [] _ ?_)
    simp only [wpC, wpS, hxOp, stops, step1, wantedA, thenQ, px, enumA, AS.eval, AS.put, dropKey, okDst, ofConst, ofVal, Nat.reduceLT, ↓reduceIte, true_and, Bool.false_eq_true, decide_true, reduceCtorEq, Try.ntmps43, Try.results43]
    refine SW.seq (SW.regionAny [] [[0, 1, 2, 3, 4, 5, 6, 7, 8, 9, 10, 11]] rfl (by rfl) (by kernel_rfl) ?_)
    have h2' := Ne.symm h2
    have hc : ¬ cap = 0 := by omega
    have hfin : ∀ o o' : AObj, HTo env ((h.put r o).put k o') (h.del r) := fun o o' => HSub.to fun j => by
      by_cases e : j = r
      · subst e; exact .inl (Heap.del_same _ _)
      · rw [Heap.del_ne _ e]
        by_cases e2 : j = k
        · subst e2; exact .inl h1
        · exact .inr (by rw [Heap.put_ne _ _ e2, Heap.put_ne _ _ e])
    cases bs with
    | nil =>
      simp only [hxOp, Lift.hx, hxUS, step1, wantedA, thenQ, px, pfieldAddr, pload, pcall, plen, okLen, okOne, Lift.valOf, fieldOf, fieldIn, TK.isAgg, AS.eval, AS.get, AS.put, dropKey, Lift.look, okDst, LOp, wpO, wpOL, Heap.get_put, Int.cast_ofNat_Int, Nat.reduceEqDiff, Nat.reduceLT, Nat.reduceAdd, ↓reduceIte, Option.getD_some, Option.map_some, List.length_cons, List.length_nil, List.drop_zero, List.drop_succ_cons, List.take_succ_cons, List.take_nil, List.getD_cons_zero, List.getElem?_cons_zero, List.getElem?_cons_succ, List.getElem?_toArray, true_and, and_self, Bool.or_true, Bool.false_eq_true, beq_self_eq_true, decide_true, ne_eq, Nat.succ_ne_zero, not_false_eq_true, reduceCtorEq, Nat.le_refl, Nat.zero_add, ty39, ty68, h2', hc]
      refine SW.run [] _ ?_
      simp only [wpC, AS.get, Lift.look, RPost, sres, sresL, sres1, Ret_fin, ↓reduceIte, Option.getD_some, true_and, Option.some.injEq, exists_eq_left']
      exact hfin _ _
    | cons b bs =>
      have ht : List.take (bs.length + 1) (bytePVs (b :: bs)) = bytePVs (b :: bs) := take_bytePVs (b :: bs)
      simp only [hxOp, Lift.hx, hxUS, step1, wantedA, thenQ, px, pfieldAddr, pload, pcall, plen, okLen, okOne, Lift.valOf, fieldOf, fieldIn, TK.isAgg, AS.eval, AS.get, AS.put, dropKey, Lift.look, okDst, LOp, wpO, wpOL, Heap.get_put, Nat.reduceEqDiff, Nat.reduceLT, Nat.reduceLeDiff, Nat.reduceAdd, ↓reduceIte, Option.getD_some, Option.map_some, List.length_cons, List.length_nil, List.drop_zero, List.drop_succ_cons, List.take_succ_cons, List.take_nil, List.getD_cons_zero, List.getElem?_cons_zero, List.getElem?_cons_succ, List.getElem?_toArray, true_and, and_true, and_self, Bool.or_true, Bool.false_eq_true, beq_self_eq_true, decide_true, ne_eq, Nat.succ_ne_zero, not_false_eq_true, reduceCtorEq, Nat.le_refl, Nat.zero_add, ty5, ty39, ty68, ty79, h2', hc, ht, unBs_bytePVs]
      refine ⟨by simp only [List.length_cons] at hlen; omega, SW.run [] _ ?_⟩
      simp only [wpC, AS.get, Lift.look, RPost, sres, sresL, sres1, Ret_fin, ↓reduceIte, Option.getD_some, true_and, Option.some.injEq, exists_eq_left']
      rw [Heap.del_put _ _ _ (by rw [Heap.put_none]; exact ⟨h2, h1⟩)]
      refine HSub.to fun j => ?_
      by_cases e : j = r
      · subst e; exact .inl (Heap.del_same _ _)
      · exact .inr (by rw [Heap.del_ne _ e, Heap.put_ne _ _ e])
end Go.Proofs.Ythlibdhjcjangaa
