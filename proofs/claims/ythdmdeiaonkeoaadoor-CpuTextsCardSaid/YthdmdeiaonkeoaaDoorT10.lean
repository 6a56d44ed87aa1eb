/- Contracts of functions that the law reaches. -/
import Derived.Test.YthdmdeiaonkeoaaDoorT9
import Derived.Lib.ItoaLen
set_option linter.unusedSimpArgs false
set_option linter.unusedVariables false
namespace Go.Proofs.YthdmdeiaonkeoaaDoor
open Go Go.RowKit Go.Proofs.YthdmdeiaonkeoaaDoor Go.Proofs.YthdmdeiaonkeoaaDoor.Lift

/-! cpu.Text -/
/-- A field that is used, as text. -/
def fieldT (x : Bool × Int) : List UInt8 := if x.1 = true then [32] ++ Lib.itoa x.2 else []
def textS (o a b c i : Int) : List UInt8 := if checkS o a b c i = 0 then nameS o ++ (fieldL o a b c i).flatMap fieldT else []
theorem Check_range {o a b c i : Int} (h : checkS o a b c i = 0) : 0 ≤ a ∧ a ≤ 15 ∧ 0 ≤ b ∧ b ≤ 15 ∧ 0 ≤ c ∧ c ≤ 15 ∧ -2147483648 ≤ i ∧ i ≤ 2147483647 := by
  unfold checkS at h
  by_cases hk : knownS o = false
  · rw [if_pos hk] at h; omega
  rw [if_neg hk] at h
  by_cases ho : outS o a b c i
  · rw [if_pos ho] at h; omega
  have hm : mostS o ≤ 15 := by unfold mostS; split <;> omega
  unfold outS at ho
  omega
theorem nameS_len (o : Int) : (nameS o).length ≤ 8 := by
  unfold nameS
  split
  · have hr : 0 ≤ o ∧ o < 32 := by simpa [knownS] using ‹knownS o = true›
    have key : ∀ n : Fin 32, (namesT.getD n.val []).length ≤ 8 := by decide
    exact key ⟨o.toNat, by omega⟩
  · exact Nat.zero_le _
theorem fieldT_len (u : Bool) (v : Int) (h0 : -9223372036854775808 ≤ v) (h1 : v ≤ 9223372036854775807) : (fieldT (u, v)).length ≤ 22 := by
  unfold fieldT
  split
  · have := Lib.itoa_length_le v h0 h1
    simp only [List.length_append, List.length_cons, List.length_nil]; omega
  · exact Nat.zero_le _
theorem fieldsT_len (o : Int) {a b c i : Int} (h : 0 ≤ a ∧ a ≤ 15 ∧ 0 ≤ b ∧ b ≤ 15 ∧ 0 ≤ c ∧ c ≤ 15 ∧ -2147483648 ≤ i ∧ i ≤ 2147483647) (k : Nat) : (((fieldL o a b c i).take k).flatMap fieldT).length ≤ 88 := by
  have ha := fieldT_len (hasB (usesS o) 97) a (by omega) (by omega)
  have hb := fieldT_len (hasB (usesS o) 98) b (by omega) (by omega)
  have hc := fieldT_len (hasB (usesS o) 99) c (by omega) (by omega)
  have hi := fieldT_len (hasB (usesS o) 105) i (by omega) (by omega)
  have key : ∀ (l : List (Bool × Int)) (k : Nat), ((l.take k).flatMap fieldT).length ≤ (l.flatMap fieldT).length := by
    intro l
    induction l with
    | nil => intro k; simp
    | cons x l ih => intro k; cases k with
      | zero => simp
      | succ k => have := ih k; simp only [List.take_succ_cons, List.flatMap_cons, List.length_append]; omega
  refine Nat.le_trans (key _ k) ?_
  simp only [fieldL, List.flatMap_cons, List.flatMap_nil, List.length_append, List.length_nil]
  omega
set_option maxRecDepth 100000 in
theorem Text_ok (o a b c i : Int) (h : Heap) : SCalls env 25 [.agg [.int .i64 o, .int .i64 a, .int .i64 b, .int .i64 c, .int .i64 i]] h (Ret (.str (textS o a b c i)) h) := by
  refine SCalls.body Tryd.func25 rfl rfl (by simp [Tryd.ntmps25]) ?_
  refine SW.seq (SW.run [] _ ?_)
  simp only [wpC, Bool.false_eq_true, ↓reduceIte, wpS, stops, wantedA, okDst, Tryd.ntmps25, Nat.reduceLT, decide_true, step1, known1, AS.eval, AS.get, enumA, Lift.look, Option.getD_some, AS.put, dropKey, reduceCtorEq, isOwnCall, hxOp, px, ofConst, ofVal, thenQ, Nat.reduceEqDiff, PV.cells, List.length_cons, List.length_nil, Nat.zero_add, Nat.reduceAdd, true_and]
  intro r hr
  by_cases hc : checkS o a b c i = 0
  rotate_left
  · have hc' : (checkS o a b c i != 0) = true := by simpa using hc
    refine SW.run [eCheck] _ ?_
    simp only [wpC, mayStop, stops, isFlt, Specs.has, eCheck, Specs.hasO, Nat.reduceLeDiff, Nat.reduceSub, false_and, ↓reduceIte, Bool.or_false, List.any_cons, Bool.not_true, List.any_nil, Bool.false_eq_true, wpS, wantedA, okDst, Nat.reduceLT, decide_true, step1, isOwnCall, hxOp, px, pload, ty23, AS.eval, AS.get, Lift.look, Nat.reduceEqDiff, Option.getD_some, Heap.get_put, okOne, TK.isAgg, Nat.reduceBEq, Nat.zero_add, List.length_cons, List.length_nil, Nat.reduceAdd, Nat.le_refl, and_self, Lift.valOf, List.drop_zero, List.take_succ_cons, List.take_nil, reduceCtorEq, AS.put, dropKey, pcall, okArg, ofConst, ofVal, List.all_cons, List.all_nil, Bool.and_true, Specs.at, List.map_cons, List.map_nil, sCheck, pbinP, pbinI, hc', thenQ, isB, tmpOf, asB, RPost, sres, Tryd.results25, sresL, sres1, Option.some.injEq, textS, hc, Ret_fin, exists_eq_left', true_and]
    exact HTo.put (.refl _ _) hr _
  have hrg := Check_range hc
  have hnl := nameS_len o
  obtain ⟨ha0, ha1, hb0, hb1, hc0, hc1, hi0, hi1⟩ := Check_range hc
  refine SW.seq (SW.run [eCheck] _ ?_)
  simp only [wpC, mayStop, stops, isFlt, Specs.has, eCheck, Specs.hasO, Nat.reduceLeDiff, Nat.reduceSub, false_and, ↓reduceIte, Bool.or_false, List.any_cons, Bool.not_true, List.any_nil, Bool.false_eq_true, wpS, wantedA, okDst, Nat.reduceLT, decide_true, step1, isOwnCall, hxOp, px, pload, ty23, AS.eval, AS.get, Lift.look, Nat.reduceEqDiff, Option.getD_some, Heap.get_put, okOne, TK.isAgg, Nat.reduceBEq, Nat.zero_add, List.length_cons, List.length_nil, Nat.reduceAdd, Nat.le_refl, and_self, Lift.valOf, List.drop_zero, List.take_succ_cons, List.take_nil, reduceCtorEq, AS.put, dropKey, pcall, okArg, ofConst, ofVal, List.all_cons, List.all_nil, Bool.and_true, Specs.at, List.map_cons, List.map_nil, sCheck, hc, pbinP, pbinI, Int.reduceBNe, thenQ, isB, tmpOf, asB, true_and]
  refine SW.seq (SW.run [eName] _ ?_)
  simp only [wpC, Bool.false_eq_true, ↓reduceIte, wpS, stops, wantedA, okDst, Nat.reduceLT, decide_true, step1, isOwnCall, hxOp, px, pfieldAddr, fieldOf, ty23, fieldIn, List.getElem?_cons_zero, ty3, Option.map_some, AS.eval, AS.get, Lift.look, Nat.reduceEqDiff, Option.getD_some, ne_eq, Nat.succ_ne_zero, not_false_eq_true, Nat.add_zero, AS.put, dropKey, reduceCtorEq, pload, Heap.get_put, okOne, TK.isAgg, beq_self_eq_true, Bool.or_true, Nat.zero_add, List.length_cons, List.length_nil, Nat.reduceAdd, Nat.reduceLeDiff, and_self, Lift.valOf, List.drop_zero, List.take_succ_cons, List.take_zero, List.getD_cons_zero, Specs.has, eName, Specs.hasO, Nat.reduceSub, Bool.or_false, Bool.not_true, pcall, okArg, ofConst, ofVal, List.all_cons, List.all_nil, Bool.and_true, Specs.at, List.map_cons, List.map_nil, sName, thenQ, true_and]
  refine SW.seq (SW.seq (SW.run [] _ ?_))
  simp only [wpC, Bool.false_eq_true, ↓reduceIte, wpS, stops, Specs.has, Specs.hasO, Bool.or_false, Bool.not_false]
  refine SWO.call (.func 32) _ _ 32 #[] #[] rfl rfl rfl rfl rfl rfl (Fields_ok (r := r) (o := o) (a := a) (b := b) (c := c) (i := i) (Heap.put_same _ _ _)) rfl rfl ?_ (by rintro c h' ⟨e1, _⟩; cases e1)
  rintro u h' ⟨e1, rfl⟩
  injection e1 with e1
  subst e1
  refine SWO.run [] 1000 ?_
  simp only [wpS, stops, Bool.false_eq_true, ↓reduceIte, wantedA, okDst, AS.put, dropKey, Nat.reduceEqDiff, reduceCtorEq, Nat.reduceLT, decide_true, step1, isOwnCall, hxOp, px, AS.eval, ofConst, ofVal, thenQ, true_and]
  refine SW.block (SW.loopH 28 (fun k : Nat => [(1, .val (.pointer (some ⟨r, 0, none⟩))), (3, .str (nameS o ++ ((fieldL o a b c i).take k).flatMap fieldT)), (12, fieldsV r o), (13, .int .i64 (k : Nat))]) (fun _ => h.put r (instO o a b c i)) (fun k => k ≤ 4) (fun k => 4 - k) 0 (by omega) ?_ ?_)
  · simp only [hasAll, AS.get, Lift.look, Nat.reduceEqDiff, ↓reduceIte, Option.getD_some, List.take_zero, Int.cast_ofNat_Int, and_self, and_true, true_and]
    exact ⟨HTo.refl _ _, by simp⟩
  rintro k hk4
  have hcase : k = 0 ∨ k = 1 ∨ k = 2 ∨ k = 3 ∨ k = 4 := by omega
  rcases hcase with rfl | rfl | rfl | rfl | rfl
  · have hnx : ((fieldL o a b c i).take 1).flatMap fieldT = ((fieldL o a b c i).take 0).flatMap fieldT ++ fieldT (hasB (usesS o) 97, a) := by simp [fieldL]
    have hfl := fieldsT_len o hrg 0
    have hil := Lib.itoa_length_le a (by omega) (by omega)
    cases hu : hasB (usesS o) 97 with
    | true =>
      have hf : fieldT (hasB (usesS o) 97, a) = [32] ++ Lib.itoa a := by rw [hu]; rfl
      refine SW.run [eItoa] _ ?_
      simp only [wpC, mayStop, stops, isFlt, Specs.has, eItoa, Specs.hasO, Nat.reduceLeDiff, Nat.reduceSub, false_and, ↓reduceIte, Bool.or_false, List.any_cons, List.any_nil, Bool.false_eq_true, wpS, wantedA, okDst, Nat.reduceLT, decide_true, step1, isOwnCall, hxOp, px, pbinP, AS.eval, AS.get, Lift.look, Nat.reduceEqDiff, Int.cast_ofNat_Int, Option.getD_some, ofConst, ofVal, pbinI, Int.reduceLT, thenQ, isB, AS.put, dropKey, List.take_zero, fieldsV, ptrV, hu, instO, tmpOf, asB, Bool.not_true, ty9, pindex, ty72, ty71, okOne, TK.isAgg, Nat.reduceBEq, Int.reduceLE, Int.reduceToNat, Nat.reduceMul, Nat.zero_add, List.length_cons, List.length_nil, Nat.reduceAdd, and_self, Lift.valOf, List.drop_zero, List.take_succ_cons, okAlloc, okZero, List.all_cons, Value.oneCell', List.all_nil, Bool.and_true, Heap.get_put, some_none, hx, zeroOf, List.map_cons, List.map_nil, known1, PV.cells, Nat.le_refl, splice, List.nil_append, List.drop_succ_cons, List.drop_nil, List.append_nil, pfieldAddr, fieldOf, fieldIn, List.getElem?_cons_succ, List.getElem?_cons_zero, ty4, Option.map_some, ne_eq, Nat.succ_ne_zero, not_false_eq_true, pload, beq_self_eq_true, Bool.or_true, List.take_nil, List.getD_cons_zero, ty69, Nat.add_zero, ty3, true_and, PBad, reduceCtorEq, pcall, okArg, Specs.at, sItoa, pbinS, List.cons_append, inQ, Int.reduceAdd, hasAll, and_true]
      rintro q ⟨hqr, hq⟩
      have hrq : ¬ r = q := fun e => hqr e.symm
      simp only [hrq, ↓reduceIte, List.length_cons, List.length_nil, Nat.zero_add, Nat.reduceAdd, Nat.reduceLeDiff, List.drop_succ_cons, List.drop_zero, List.take_succ_cons, List.take_zero, List.getD_cons_zero, true_and]
      refine ⟨by omega, by omega, by simp only [List.length_append, List.length_cons, List.flatMap_nil, List.length_nil] at hfl ⊢; omega, 1, by omega, by omega, by rw [Heap.put_put]; exact HTo_two hqr hq, by rw [hnx, hf, List.append_assoc]; rfl, by rw [w64 (by omega) (by omega)]; rfl⟩
    | false =>
      have hf : fieldT (hasB (usesS o) 97, a) = [] := by rw [hu]; rfl
      refine SW.run [eItoa] _ ?_
      simp only [wpC, mayStop, stops, isFlt, Specs.has, eItoa, Specs.hasO, Nat.reduceLeDiff, Nat.reduceSub, false_and, ↓reduceIte, Bool.or_false, List.any_cons, List.any_nil, Bool.false_eq_true, wpS, wantedA, okDst, Nat.reduceLT, decide_true, step1, isOwnCall, hxOp, px, pbinP, AS.eval, AS.get, Lift.look, Nat.reduceEqDiff, Int.cast_ofNat_Int, Option.getD_some, ofConst, ofVal, pbinI, Int.reduceLT, thenQ, isB, AS.put, dropKey, List.take_zero, fieldsV, ptrV, hu, instO, tmpOf, asB, Bool.not_true, ty9, pindex, ty72, ty71, okOne, TK.isAgg, Nat.reduceBEq, Int.reduceLE, Int.reduceToNat, Nat.reduceMul, Nat.zero_add, List.length_cons, List.length_nil, Nat.reduceAdd, and_self, Lift.valOf, List.drop_zero, List.take_succ_cons, okAlloc, okZero, List.all_cons, Value.oneCell', List.all_nil, Bool.and_true, Heap.get_put, some_none, hx, zeroOf, List.map_cons, List.map_nil, known1, PV.cells, Nat.le_refl, splice, List.nil_append, List.drop_succ_cons, List.drop_nil, List.append_nil, pfieldAddr, fieldOf, fieldIn, List.getElem?_cons_succ, List.getElem?_cons_zero, ty4, Option.map_some, ne_eq, Nat.succ_ne_zero, not_false_eq_true, pload, beq_self_eq_true, Bool.or_true, List.take_nil, List.getD_cons_zero, inQ, ty3, Int.reduceAdd, hasAll, and_true, true_and]
      rintro q ⟨hqr, hq⟩
      have hrq : ¬ r = q := fun e => hqr e.symm
      refine ⟨1, by omega, by omega, by rw [Heap.put_put]; exact HTo_two hqr hq, by rw [hnx, hf, List.append_nil]; rfl, by rw [w64 (by omega) (by omega)]; rfl⟩
  · have hnx : ((fieldL o a b c i).take 2).flatMap fieldT = ((fieldL o a b c i).take 1).flatMap fieldT ++ fieldT (hasB (usesS o) 98, b) := by simp [fieldL]
    have hfl := fieldsT_len o hrg 1
    have hil := Lib.itoa_length_le b (by omega) (by omega)
    cases hu : hasB (usesS o) 98 with
    | true =>
      have hf : fieldT (hasB (usesS o) 98, b) = [32] ++ Lib.itoa b := by rw [hu]; rfl
      refine SW.run [eItoa] _ ?_
      simp only [wpC, mayStop, stops, isFlt, Specs.has, eItoa, Specs.hasO, Nat.reduceLeDiff, Nat.reduceSub, false_and, ↓reduceIte, Bool.or_false, List.any_cons, List.any_nil, Bool.false_eq_true, wpS, wantedA, okDst, Nat.reduceLT, decide_true, step1, isOwnCall, hxOp, px, pbinP, AS.eval, AS.get, Lift.look, Nat.reduceEqDiff, Int.cast_ofNat_Int, Option.getD_some, ofConst, ofVal, pbinI, Int.reduceLT, thenQ, isB, AS.put, dropKey, fieldsV, ptrV, hu, instO, tmpOf, asB, Bool.not_true, ty9, pindex, ty72, ty71, okOne, TK.isAgg, Nat.reduceBEq, Int.reduceLE, Int.reduceToNat, Nat.reduceMul, Nat.reduceAdd, List.length_cons, List.length_nil, Nat.zero_add, and_self, Lift.valOf, List.drop_succ_cons, List.drop_zero, List.take_succ_cons, List.take_zero, okAlloc, okZero, List.all_cons, Value.oneCell', List.all_nil, Bool.and_true, Heap.get_put, some_none, hx, zeroOf, List.map_cons, List.map_nil, known1, PV.cells, Nat.le_refl, splice, List.nil_append, List.drop_nil, List.append_nil, pfieldAddr, fieldOf, fieldIn, List.getElem?_cons_succ, List.getElem?_cons_zero, ty4, Option.map_some, ne_eq, Nat.succ_ne_zero, not_false_eq_true, pload, beq_self_eq_true, Bool.or_true, List.take_nil, List.getD_cons_zero, ty69, Nat.add_zero, ty3, true_and, PBad, reduceCtorEq, pcall, okArg, Specs.at, sItoa, pbinS, List.cons_append, inQ, Int.reduceAdd, hasAll, and_true]
      rintro q ⟨hqr, hq⟩
      have hrq : ¬ r = q := fun e => hqr e.symm
      simp only [hrq, ↓reduceIte, List.length_cons, List.length_nil, Nat.zero_add, Nat.reduceAdd, Nat.reduceLeDiff, List.drop_succ_cons, List.drop_zero, List.take_succ_cons, List.take_zero, List.getD_cons_zero, true_and]
      refine ⟨by omega, by omega, by simp only [List.length_append, List.length_cons, List.flatMap_nil, List.length_nil] at hfl ⊢; omega, 2, by omega, by omega, by rw [Heap.put_put]; exact HTo_two hqr hq, by rw [hnx, hf, List.append_assoc]; rfl, by rw [w64 (by omega) (by omega)]; rfl⟩
    | false =>
      have hf : fieldT (hasB (usesS o) 98, b) = [] := by rw [hu]; rfl
      refine SW.run [eItoa] _ ?_
      simp only [wpC, mayStop, stops, isFlt, Specs.has, eItoa, Specs.hasO, Nat.reduceLeDiff, Nat.reduceSub, false_and, ↓reduceIte, Bool.or_false, List.any_cons, List.any_nil, Bool.false_eq_true, wpS, wantedA, okDst, Nat.reduceLT, decide_true, step1, isOwnCall, hxOp, px, pbinP, AS.eval, AS.get, Lift.look, Nat.reduceEqDiff, Int.cast_ofNat_Int, Option.getD_some, ofConst, ofVal, pbinI, Int.reduceLT, thenQ, isB, AS.put, dropKey, fieldsV, ptrV, hu, instO, tmpOf, asB, Bool.not_true, ty9, pindex, ty72, ty71, okOne, TK.isAgg, Nat.reduceBEq, Int.reduceLE, Int.reduceToNat, Nat.reduceMul, Nat.reduceAdd, List.length_cons, List.length_nil, Nat.zero_add, and_self, Lift.valOf, List.drop_succ_cons, List.drop_zero, List.take_succ_cons, List.take_zero, okAlloc, okZero, List.all_cons, Value.oneCell', List.all_nil, Bool.and_true, Heap.get_put, some_none, hx, zeroOf, List.map_cons, List.map_nil, known1, PV.cells, Nat.le_refl, splice, List.nil_append, List.drop_nil, List.append_nil, pfieldAddr, fieldOf, fieldIn, List.getElem?_cons_succ, List.getElem?_cons_zero, ty4, Option.map_some, ne_eq, Nat.succ_ne_zero, not_false_eq_true, pload, beq_self_eq_true, Bool.or_true, List.take_nil, List.getD_cons_zero, inQ, ty3, Int.reduceAdd, hasAll, and_true, true_and]
      rintro q ⟨hqr, hq⟩
      have hrq : ¬ r = q := fun e => hqr e.symm
      refine ⟨2, by omega, by omega, by rw [Heap.put_put]; exact HTo_two hqr hq, by rw [hnx, hf, List.append_nil], by rw [w64 (by omega) (by omega)]; rfl⟩
  · have hnx : ((fieldL o a b c i).take 3).flatMap fieldT = ((fieldL o a b c i).take 2).flatMap fieldT ++ fieldT (hasB (usesS o) 99, c) := by simp [fieldL]
    have hfl := fieldsT_len o hrg 2
    have hil := Lib.itoa_length_le c (by omega) (by omega)
    cases hu : hasB (usesS o) 99 with
    | true =>
      have hf : fieldT (hasB (usesS o) 99, c) = [32] ++ Lib.itoa c := by rw [hu]; rfl
      refine SW.run [eItoa] _ ?_
      simp only [wpC, mayStop, stops, isFlt, Specs.has, eItoa, Specs.hasO, Nat.reduceLeDiff, Nat.reduceSub, false_and, ↓reduceIte, Bool.or_false, List.any_cons, List.any_nil, Bool.false_eq_true, wpS, wantedA, okDst, Nat.reduceLT, decide_true, step1, isOwnCall, hxOp, px, pbinP, AS.eval, AS.get, Lift.look, Nat.reduceEqDiff, Int.cast_ofNat_Int, Option.getD_some, ofConst, ofVal, pbinI, Int.reduceLT, thenQ, isB, AS.put, dropKey, fieldsV, ptrV, hu, instO, tmpOf, asB, Bool.not_true, ty9, pindex, ty72, ty71, okOne, TK.isAgg, Nat.reduceBEq, Int.reduceLE, Int.reduceToNat, Nat.reduceMul, Nat.reduceAdd, List.length_cons, List.length_nil, Nat.zero_add, and_self, Lift.valOf, List.drop_succ_cons, List.drop_zero, List.take_succ_cons, List.take_zero, okAlloc, okZero, List.all_cons, Value.oneCell', List.all_nil, Bool.and_true, Heap.get_put, some_none, hx, zeroOf, List.map_cons, List.map_nil, known1, PV.cells, Nat.le_refl, splice, List.nil_append, List.drop_nil, List.append_nil, pfieldAddr, fieldOf, fieldIn, List.getElem?_cons_succ, List.getElem?_cons_zero, ty4, Option.map_some, ne_eq, Nat.succ_ne_zero, not_false_eq_true, pload, beq_self_eq_true, Bool.or_true, List.take_nil, List.getD_cons_zero, ty69, Nat.add_zero, ty3, true_and, PBad, reduceCtorEq, pcall, okArg, Specs.at, sItoa, pbinS, List.cons_append, inQ, Int.reduceAdd, hasAll, and_true]
      rintro q ⟨hqr, hq⟩
      have hrq : ¬ r = q := fun e => hqr e.symm
      simp only [hrq, ↓reduceIte, List.length_cons, List.length_nil, Nat.zero_add, Nat.reduceAdd, Nat.reduceLeDiff, List.drop_succ_cons, List.drop_zero, List.take_succ_cons, List.take_zero, List.getD_cons_zero, true_and]
      refine ⟨by omega, by omega, by simp only [List.length_append, List.length_cons, List.flatMap_nil, List.length_nil] at hfl ⊢; omega, 3, by omega, by omega, by rw [Heap.put_put]; exact HTo_two hqr hq, by rw [hnx, hf, List.append_assoc]; rfl, by rw [w64 (by omega) (by omega)]; rfl⟩
    | false =>
      have hf : fieldT (hasB (usesS o) 99, c) = [] := by rw [hu]; rfl
      refine SW.run [eItoa] _ ?_
      simp only [wpC, mayStop, stops, isFlt, Specs.has, eItoa, Specs.hasO, Nat.reduceLeDiff, Nat.reduceSub, false_and, ↓reduceIte, Bool.or_false, List.any_cons, List.any_nil, Bool.false_eq_true, wpS, wantedA, okDst, Nat.reduceLT, decide_true, step1, isOwnCall, hxOp, px, pbinP, AS.eval, AS.get, Lift.look, Nat.reduceEqDiff, Int.cast_ofNat_Int, Option.getD_some, ofConst, ofVal, pbinI, Int.reduceLT, thenQ, isB, AS.put, dropKey, fieldsV, ptrV, hu, instO, tmpOf, asB, Bool.not_true, ty9, pindex, ty72, ty71, okOne, TK.isAgg, Nat.reduceBEq, Int.reduceLE, Int.reduceToNat, Nat.reduceMul, Nat.reduceAdd, List.length_cons, List.length_nil, Nat.zero_add, and_self, Lift.valOf, List.drop_succ_cons, List.drop_zero, List.take_succ_cons, List.take_zero, okAlloc, okZero, List.all_cons, Value.oneCell', List.all_nil, Bool.and_true, Heap.get_put, some_none, hx, zeroOf, List.map_cons, List.map_nil, known1, PV.cells, Nat.le_refl, splice, List.nil_append, List.drop_nil, List.append_nil, pfieldAddr, fieldOf, fieldIn, List.getElem?_cons_succ, List.getElem?_cons_zero, ty4, Option.map_some, ne_eq, Nat.succ_ne_zero, not_false_eq_true, pload, beq_self_eq_true, Bool.or_true, List.take_nil, List.getD_cons_zero, inQ, ty3, Int.reduceAdd, hasAll, and_true, true_and]
      rintro q ⟨hqr, hq⟩
      have hrq : ¬ r = q := fun e => hqr e.symm
      refine ⟨3, by omega, by omega, by rw [Heap.put_put]; exact HTo_two hqr hq, by rw [hnx, hf, List.append_nil], by rw [w64 (by omega) (by omega)]; rfl⟩
  · have hnx : ((fieldL o a b c i).take 4).flatMap fieldT = ((fieldL o a b c i).take 3).flatMap fieldT ++ fieldT (hasB (usesS o) 105, i) := by simp [fieldL]
    have hfl := fieldsT_len o hrg 3
    have hil := Lib.itoa_length_le i (by omega) (by omega)
    cases hu : hasB (usesS o) 105 with
    | true =>
      have hf : fieldT (hasB (usesS o) 105, i) = [32] ++ Lib.itoa i := by rw [hu]; rfl
      refine SW.run [eItoa] _ ?_
      simp only [wpC, mayStop, stops, isFlt, Specs.has, eItoa, Specs.hasO, Nat.reduceLeDiff, Nat.reduceSub, false_and, ↓reduceIte, Bool.or_false, List.any_cons, List.any_nil, Bool.false_eq_true, wpS, wantedA, okDst, Nat.reduceLT, decide_true, step1, isOwnCall, hxOp, px, pbinP, AS.eval, AS.get, Lift.look, Nat.reduceEqDiff, Int.cast_ofNat_Int, Option.getD_some, ofConst, ofVal, pbinI, Int.reduceLT, thenQ, isB, AS.put, dropKey, fieldsV, ptrV, hu, instO, tmpOf, asB, Bool.not_true, ty9, pindex, ty72, ty71, okOne, TK.isAgg, Nat.reduceBEq, Int.reduceLE, Int.reduceToNat, Nat.reduceMul, Nat.reduceAdd, List.length_cons, List.length_nil, Nat.zero_add, Nat.le_refl, and_self, Lift.valOf, List.drop_succ_cons, List.drop_zero, List.take_succ_cons, List.take_nil, okAlloc, okZero, List.all_cons, Value.oneCell', List.all_nil, Bool.and_true, Heap.get_put, some_none, hx, zeroOf, List.map_cons, List.map_nil, known1, PV.cells, splice, List.take_zero, List.nil_append, List.drop_nil, List.append_nil, pfieldAddr, fieldOf, fieldIn, List.getElem?_cons_succ, List.getElem?_cons_zero, ty4, Option.map_some, ne_eq, Nat.succ_ne_zero, not_false_eq_true, pload, beq_self_eq_true, Bool.or_true, List.getD_cons_zero, ty69, Nat.add_zero, ty3, true_and, PBad, reduceCtorEq, pcall, okArg, Specs.at, sItoa, pbinS, List.cons_append, inQ, Int.reduceAdd, hasAll, and_true]
      rintro q ⟨hqr, hq⟩
      have hrq : ¬ r = q := fun e => hqr e.symm
      simp only [hrq, ↓reduceIte, List.length_cons, List.length_nil, Nat.zero_add, Nat.reduceAdd, Nat.le_refl, List.drop_succ_cons, List.drop_zero, List.take_succ_cons, List.take_nil, List.getD_cons_zero, true_and]
      refine ⟨by omega, by omega, by simp only [List.length_append, List.length_cons, List.flatMap_nil, List.length_nil] at hfl ⊢; omega, 4, by omega, by omega, by rw [Heap.put_put]; exact HTo_two hqr hq, by rw [hnx, hf, List.append_assoc]; rfl, by rw [w64 (by omega) (by omega)]; rfl⟩
    | false =>
      have hf : fieldT (hasB (usesS o) 105, i) = [] := by rw [hu]; rfl
      refine SW.run [eItoa] _ ?_
      simp only [wpC, mayStop, stops, isFlt, Specs.has, eItoa, Specs.hasO, Nat.reduceLeDiff, Nat.reduceSub, false_and, ↓reduceIte, Bool.or_false, List.any_cons, List.any_nil, Bool.false_eq_true, wpS, wantedA, okDst, Nat.reduceLT, decide_true, step1, isOwnCall, hxOp, px, pbinP, AS.eval, AS.get, Lift.look, Nat.reduceEqDiff, Int.cast_ofNat_Int, Option.getD_some, ofConst, ofVal, pbinI, Int.reduceLT, thenQ, isB, AS.put, dropKey, fieldsV, ptrV, hu, instO, tmpOf, asB, Bool.not_true, ty9, pindex, ty72, ty71, okOne, TK.isAgg, Nat.reduceBEq, Int.reduceLE, Int.reduceToNat, Nat.reduceMul, Nat.reduceAdd, List.length_cons, List.length_nil, Nat.zero_add, Nat.le_refl, and_self, Lift.valOf, List.drop_succ_cons, List.drop_zero, List.take_succ_cons, List.take_nil, okAlloc, okZero, List.all_cons, Value.oneCell', List.all_nil, Bool.and_true, Heap.get_put, some_none, hx, zeroOf, List.map_cons, List.map_nil, known1, PV.cells, splice, List.take_zero, List.nil_append, List.drop_nil, List.append_nil, pfieldAddr, fieldOf, fieldIn, List.getElem?_cons_succ, List.getElem?_cons_zero, ty4, Option.map_some, ne_eq, Nat.succ_ne_zero, not_false_eq_true, pload, beq_self_eq_true, Bool.or_true, List.getD_cons_zero, inQ, ty3, Int.reduceAdd, hasAll, and_true, true_and]
      rintro q ⟨hqr, hq⟩
      have hrq : ¬ r = q := fun e => hqr e.symm
      refine ⟨4, by omega, by omega, by rw [Heap.put_put]; exact HTo_two hqr hq, by rw [hnx, hf, List.append_nil], by rw [w64 (by omega) (by omega)]; rfl⟩
  · refine SW.run [] _ ?_
    simp only [wpC, mayStop, stops, isFlt, Specs.has, Specs.hasO, Bool.or_false, Bool.not_false, List.any_cons, List.any_nil, Bool.false_eq_true, ↓reduceIte, wpS, wantedA, okDst, Nat.reduceLT, decide_true, step1, isOwnCall, hxOp, px, pbinP, AS.eval, AS.get, Lift.look, Nat.reduceEqDiff, Int.cast_ofNat_Int, Option.getD_some, ofConst, ofVal, pbinI, Int.reduceLT, decide_false, thenQ, isB, AS.put, dropKey, instO, tmpOf, asB, inQ, true_and]
    refine SW.run [] _ ?_
    simp only [wpC, mayStop, stops, isFlt, Specs.has, Specs.hasO, Bool.or_false, Bool.not_false, List.any_cons, List.any_nil, Bool.false_eq_true, ↓reduceIte, wpS, wantedA, okDst, Nat.reduceLT, decide_true, step1, isOwnCall, hxOp, px, AS.eval, AS.get, Lift.look, Nat.reduceEqDiff, Option.getD_some, AS.put, dropKey, thenQ, RPost, sres, Tryd.results25, sresL, sres1, Option.some.injEq, Ret_fin, exists_eq_left', true_and]
    have hts : textS o a b c i = nameS o ++ (fieldL o a b c i).flatMap fieldT := by unfold textS; rw [if_pos hc]
    exact ⟨congrArg PV.str hts.symm, HTo.put (.refl _ _) hr _⟩
def sText : List PV → Prop × PV
  | [.agg [.int .i64 o, .int .i64 a, .int .i64 b, .int .i64 c, .int .i64 i]] => (True, .str (textS o a b c i))
  | _ => PBad
noncomputable def eText : SpecE env := ⟨25, sText, fun args h hc => by
  unfold sText at hc ⊢
  split at hc
  · rename_i o a b c i; exact .inl (Text_ok o a b c i h)
  · exact hc.elim⟩
end Go.Proofs.YthdmdeiaonkeoaaDoor
