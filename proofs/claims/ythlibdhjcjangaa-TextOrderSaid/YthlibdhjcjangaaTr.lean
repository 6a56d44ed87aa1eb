/- Contracts of functions that the law reaches. -/
import Derived.Test.YthlibdhjcjangaaTq
set_option linter.unusedSimpArgs false
set_option linter.unusedVariables false
namespace Go.Proofs.Ythlibdhjcjangaa
open Go Go.RowKit Go.Proofs.Ythlibdhjcjangaa Go.Proofs.Ythlibdhjcjangaa.Lift

def sSet : List PV → Prop × PV
  | [.agg [.str l, .bool w], .int .i64 i, .int .i64 c] => (l.length ≤ 100000000, setS l w i c)
  | _ => PBad
noncomputable def eSet : SpecE env := ⟨22, sSet, fun args h hc => by
  unfold sSet at hc ⊢
  split at hc
  · rename_i l w i c; exact .inl (Set_ok l w i c h hc)
  · exact hc.elim⟩
/-! acheronref01.Compare -/
def sCompareR : List PV → Prop × PV
  | [.list 1 xs, .list 1 ys] => match unI xs, unI ys with
    | some a, some b => (a.length ≤ 1000000000 ∧ b.length ≤ 1000000000, .int .i64 (cmpI a b))
    | _, _ => PBad
  | _ => PBad
theorem CompareR_ok (a b : List Int) (h : Heap) (ha : a.length ≤ 1000000000) (hb : b.length ≤ 1000000000) : SCalls env 25 [.list 1 (elI a), .list 1 (elI b)] h (Ret (.int .i64 (cmpI a b)) h) := by
  refine SCalls.body Try.func25 rfl rfl (by simp [Try.ntmps25]) ?_
  refine SW.seq (SW.run [] _ ?_)
  simp only [wpC, Bool.false_eq_true, ↓reduceIte, wpS, stops, wantedA, okDst, Try.ntmps25, Nat.reduceLT, decide_true, step1, hxOp, px, AS.eval, ofConst, ofVal, thenQ, AS.put, enumA, Nat.zero_add, dropKey, reduceCtorEq, Nat.reduceEqDiff, true_and]
  refine SW.seq (SW.seq (SW.run [] _ ?_))
  simp only [wpC, Bool.false_eq_true, ↓reduceIte, wpS, stops, wantedA, okDst, Nat.reduceLT, decide_true, step1, hxOp, px, AS.eval, ofConst, ofVal, thenQ, AS.put, dropKey, Nat.reduceEqDiff, reduceCtorEq, true_and]
  refine SW.block (SW.loopK 46 (fun i : Nat => [(0, .list 1 (elI a)), (1, .list 1 (elI b)), (5, .int .i64 (i : Nat))]) (fun _ => h) (fun i => i ≤ min a.length b.length ∧ cmpI a b = cmpI (a.drop i) (b.drop i)) (fun i => a.length - i) 0 ⟨Nat.zero_le _, rfl⟩ ?_ ?_)
  · simp only [Has, hasAll, AS.get, Lift.look, Nat.succ_ne_zero, ↓reduceIte, Option.getD_some, Nat.reduceEqDiff, reduceCtorEq, Int.cast_ofNat_Int, and_self]
  rintro i ⟨hi, hc⟩
  refine SW.run [] _ ?_
  by_cases k1 : i < a.length
  · by_cases k2 : i < b.length
    · simp only [wpC, mayStop, stops, Specs.has, Bool.not_false, List.any_cons, List.any_nil, Bool.or_false, Bool.false_eq_true, ↓reduceIte, wpS, wantedA, okDst, Nat.reduceLT, decide_true, step1, hxOp, px, AS.eval, AS.get, Lift.look, reduceCtorEq, Nat.reduceEqDiff, Option.getD_some, AS.put, dropKey, Nat.succ_ne_zero, pcall, ty28, plen, elI_len, okLen, and_self, pbinP, pbinI, Int.ofNat_lt, k1, List.getElem?_toArray, List.getElem?_cons_succ, List.getElem?_cons_zero, Option.bind_some, beq_self_eq_true, k2, ofConst, ofVal, ppick_bool, thenQ, isB, tmpOf, asB, Bool.or_true, Has, hasAll, and_true, true_and]
      refine SW.regionAny [] [[0, 1, 2, 3, 4, 5, 6, 7, 8]] rfl (by rfl) (by kernel_rfl) ?_
      have e1 := cmpI_here a b i k1 k2
      have e2 := cmpI_step a b i k1 k2
      unfold cmp1 at e1
      by_cases h1 : a.getD i 0 < b.getD i 0
      · simp only [wpOL, wpO, LOp, List.getElem?_toArray, List.getElem?_cons_zero, okDst, Nat.reduceLT, decide_true, wantedA, ↓reduceIte, step1, hxOp, Bool.false_eq_true, px, AS.eval, AS.get, Lift.look, Nat.succ_ne_zero, Option.getD_some, List.getElem?_cons_succ, AS.put, dropKey, Nat.reduceEqDiff, reduceCtorEq, pindexAddr, ty28, ty3, ne_eq, not_false_eq_true, Int.natCast_nonneg, Int.toNat_natCast, elI_len, k1, and_self, elI_getD k1, pload, okOne, TK.isAgg, beq_self_eq_true, Bool.or_true, List.length_cons, List.length_nil, Nat.zero_add, Nat.le_refl, Lift.valOf, List.take_succ_cons, List.take_nil, List.getD_cons_zero, k2, elI_getD k2, pbinP, pbinI, h1, thenQ, true_and]
        refine SW.run [] _ ?_
        simp only [wpC, isB, AS.get, Lift.look, tmpOf, ↓reduceIte, Option.getD_some, asB, mayStop, stops, Specs.has, Bool.not_false, List.any_cons, List.any_nil, Bool.or_false, Bool.false_eq_true, wpS, wantedA, okDst, Nat.reduceLT, decide_true, step1, hxOp, px, AS.eval, ofConst, ofVal, thenQ, inQ, RPost, sres, AS.put, dropKey, Nat.reduceEqDiff, reduceCtorEq, Try.results25, sresL, sres1, Option.some.injEq, Ret_fin, HTo_self, and_true, exists_eq_left', true_and]
        rw [if_pos h1] at e1
        rw [hc, e1 (by decide)]
      · simp only [wpOL, wpO, LOp, List.getElem?_toArray, List.getElem?_cons_zero, okDst, Nat.reduceLT, decide_true, wantedA, ↓reduceIte, step1, hxOp, Bool.false_eq_true, px, AS.eval, AS.get, Lift.look, Nat.succ_ne_zero, Option.getD_some, List.getElem?_cons_succ, AS.put, dropKey, Nat.reduceEqDiff, reduceCtorEq, pindexAddr, ty28, ty3, ne_eq, not_false_eq_true, Int.natCast_nonneg, Int.toNat_natCast, elI_len, k1, and_self, elI_getD k1, pload, okOne, TK.isAgg, beq_self_eq_true, Bool.or_true, List.length_cons, List.length_nil, Nat.zero_add, Nat.le_refl, Lift.valOf, List.take_succ_cons, List.take_nil, List.getD_cons_zero, k2, elI_getD k2, pbinP, pbinI, h1, decide_false, thenQ, true_and]
        refine SW.run [] _ ?_
        simp only [wpC, isB, AS.get, Lift.look, tmpOf, ↓reduceIte, Option.getD_some, asB, Bool.false_eq_true, thenQ, true_and]
        refine SW.seq (SW.regionAny [] [[0, 1, 2, 3, 4, 5, 6, 7, 8]] rfl (by rfl) (by kernel_rfl) ?_)
        by_cases h2 : b.getD i 0 < a.getD i 0
        · simp only [wpOL, wpO, LOp, List.getElem?_toArray, List.getElem?_cons_zero, okDst, Nat.reduceLT, decide_true, wantedA, ↓reduceIte, step1, hxOp, Bool.false_eq_true, px, AS.eval, AS.get, Lift.look, Nat.succ_ne_zero, Option.getD_some, List.getElem?_cons_succ, AS.put, dropKey, Nat.reduceEqDiff, reduceCtorEq, pindexAddr, ty28, ty3, ne_eq, not_false_eq_true, Int.natCast_nonneg, Int.toNat_natCast, elI_len, k1, and_self, elI_getD k1, pload, okOne, TK.isAgg, beq_self_eq_true, Bool.or_true, List.length_cons, List.length_nil, Nat.zero_add, Nat.le_refl, Lift.valOf, List.take_succ_cons, List.take_nil, List.getD_cons_zero, k2, elI_getD k2, pbinP, pbinI, h2, thenQ, true_and]
          refine SW.run [] _ ?_
          simp only [wpC, isB, AS.get, Lift.look, tmpOf, ↓reduceIte, Option.getD_some, asB, mayStop, stops, Specs.has, Bool.not_false, List.any_cons, List.any_nil, Bool.or_false, Bool.false_eq_true, wpS, wantedA, okDst, Nat.reduceLT, decide_true, step1, hxOp, px, AS.eval, ofConst, ofVal, thenQ, inQ, RPost, sres, AS.put, dropKey, Nat.reduceEqDiff, reduceCtorEq, Try.results25, sresL, sres1, Option.some.injEq, Ret_fin, HTo_self, and_true, exists_eq_left', true_and]
          rw [if_neg h1, if_pos h2] at e1
          rw [hc, e1 (by decide)]
        · simp only [wpOL, wpO, LOp, List.getElem?_toArray, List.getElem?_cons_zero, okDst, Nat.reduceLT, decide_true, wantedA, ↓reduceIte, step1, hxOp, Bool.false_eq_true, px, AS.eval, AS.get, Lift.look, Nat.succ_ne_zero, Option.getD_some, List.getElem?_cons_succ, AS.put, dropKey, Nat.reduceEqDiff, reduceCtorEq, pindexAddr, ty28, ty3, ne_eq, not_false_eq_true, Int.natCast_nonneg, Int.toNat_natCast, elI_len, k1, and_self, elI_getD k1, pload, okOne, TK.isAgg, beq_self_eq_true, Bool.or_true, List.length_cons, List.length_nil, Nat.zero_add, Nat.le_refl, Lift.valOf, List.take_succ_cons, List.take_nil, List.getD_cons_zero, k2, elI_getD k2, pbinP, pbinI, h2, decide_false, thenQ, true_and]
          refine SW.run [] _ ?_
          simp only [wpC, isB, AS.get, Lift.look, tmpOf, ↓reduceIte, Option.getD_some, asB, Bool.false_eq_true, inQ, thenQ, true_and]
          refine SW.run [] _ ?_
          simp only [wpC, Bool.false_eq_true, ↓reduceIte, wpS, stops, wantedA, okDst, Nat.reduceLT, decide_true, step1, hxOp, px, AS.eval, AS.get, Lift.look, Nat.reduceEqDiff, reduceCtorEq, Option.getD_some, AS.put, dropKey, pbinP, ofConst, ofVal, pbinI, thenQ, Nat.succ_ne_zero, true_and]
          exact ⟨i + 1, ⟨by omega, by rw [hc, e2 (by omega)]⟩, by omega, by rw [w64 (by omega) (by omega)]; rfl⟩
    · simp only [wpC, mayStop, stops, Specs.has, Bool.not_false, List.any_cons, List.any_nil, Bool.or_false, Bool.false_eq_true, ↓reduceIte, wpS, wantedA, okDst, Nat.reduceLT, decide_true, step1, hxOp, px, AS.eval, AS.get, Lift.look, reduceCtorEq, Nat.reduceEqDiff, Option.getD_some, AS.put, dropKey, Nat.succ_ne_zero, pcall, ty28, plen, elI_len, okLen, and_self, pbinP, pbinI, Int.ofNat_lt, k1, List.getElem?_toArray, List.getElem?_cons_succ, List.getElem?_cons_zero, Option.bind_some, beq_self_eq_true, k2, decide_false, ofConst, ofVal, ppick_bool, thenQ, isB, tmpOf, asB, inQ, true_and]
      have e3 := cmpI_end a b i (by omega)
      unfold cmp1 at e3
      have n1 : ¬ (a.length : Int) < (b.length : Int) := by omega
      have n2 : (b.length : Int) < (a.length : Int) := by omega
      refine SW.run [] _ ?_
      simp only [wpC, mayStop, stops, Specs.has, Bool.not_false, List.any_cons, List.any_nil, Bool.or_false, Bool.false_eq_true, ↓reduceIte, wpS, wantedA, okDst, Nat.reduceLT, decide_true, step1, hxOp, px, AS.eval, AS.get, Lift.look, Nat.succ_ne_zero, Option.getD_some, AS.put, dropKey, Nat.reduceEqDiff, reduceCtorEq, pcall, ty28, plen, elI_len, okLen, and_self, pbinP, pbinI, n1, decide_false, thenQ, isB, tmpOf, asB, n2, ofConst, ofVal, RPost, sres, Try.results25, sresL, sres1, Option.some.injEq, Ret_fin, HTo_self, and_true, exists_eq_left', true_and]
      rw [if_neg n1, if_pos n2] at e3
      rw [hc, e3]
  · simp only [wpC, mayStop, stops, Specs.has, Bool.not_false, List.any_cons, List.any_nil, Bool.or_false, Bool.false_eq_true, ↓reduceIte, wpS, wantedA, okDst, Nat.reduceLT, decide_true, step1, hxOp, px, AS.eval, AS.get, Lift.look, reduceCtorEq, Nat.reduceEqDiff, Option.getD_some, AS.put, dropKey, Nat.succ_ne_zero, pcall, ty28, plen, elI_len, okLen, and_self, pbinP, pbinI, Int.ofNat_lt, k1, decide_false, List.getElem?_toArray, List.getElem?_cons_succ, List.getElem?_cons_zero, Option.bind_some, beq_ft, Option.some.injEq, ofConst, ofVal, ppick_false, thenQ, isB, tmpOf, asB, inQ, true_and]
    have e3 := cmpI_end a b i (by omega)
    unfold cmp1 at e3
    by_cases n1 : (a.length : Int) < (b.length : Int)
    · refine SW.run [] _ ?_
      simp only [wpC, mayStop, stops, Specs.has, Bool.not_false, List.any_cons, List.any_nil, Bool.or_false, Bool.false_eq_true, ↓reduceIte, wpS, wantedA, okDst, Nat.reduceLT, decide_true, step1, hxOp, px, AS.eval, AS.get, Lift.look, Nat.succ_ne_zero, Option.getD_some, AS.put, dropKey, Nat.reduceEqDiff, reduceCtorEq, pcall, ty28, plen, elI_len, okLen, and_self, pbinP, pbinI, n1, thenQ, isB, tmpOf, asB, ofConst, ofVal, RPost, sres, Try.results25, sresL, sres1, Option.some.injEq, Ret_fin, HTo_self, and_true, exists_eq_left', true_and]
      rw [if_pos n1] at e3
      rw [hc, e3]
    · have n2 : ¬ (b.length : Int) < (a.length : Int) := by omega
      refine SW.run [] _ ?_
      simp only [wpC, mayStop, stops, Specs.has, Bool.not_false, List.any_cons, List.any_nil, Bool.or_false, Bool.false_eq_true, ↓reduceIte, wpS, wantedA, okDst, Nat.reduceLT, decide_true, step1, hxOp, px, AS.eval, AS.get, Lift.look, Nat.succ_ne_zero, Option.getD_some, AS.put, dropKey, Nat.reduceEqDiff, reduceCtorEq, pcall, ty28, plen, elI_len, okLen, and_self, pbinP, pbinI, n1, decide_false, thenQ, isB, tmpOf, asB, n2, ofConst, ofVal, RPost, sres, Try.results25, sresL, sres1, Option.some.injEq, Ret_fin, HTo_self, and_true, exists_eq_left', true_and]
      rw [if_neg n1, if_neg n2] at e3
      rw [hc, e3]
noncomputable def eCompareR : SpecE env := ⟨25, sCompareR, fun args h hc => by
  unfold sCompareR at hc ⊢
  split at hc
  · rename_i xs ys
    split at hc
    · rename_i a b ha hb
      rw [unI_spec ha, unI_spec hb]
      exact .inl (CompareR_ok a b h hc.1 hc.2)
    · exact hc.elim
  · exact hc.elim⟩
end Go.Proofs.Ythlibdhjcjangaa
