/- Contracts of functions that the law reaches. -/
import Derived.Test.YthdmdeiaonkeoaaDoorT27
set_option linter.unusedSimpArgs false
set_option linter.unusedVariables false
namespace Go.Proofs.YthdmdeiaonkeoaaDoor
open Go Go.RowKit Go.Proofs.YthdmdeiaonkeoaaDoor Go.Proofs.YthdmdeiaonkeoaaDoor.Lift

/-! acheronref25.Text -/
def fvS (ch : UInt8) (a b c i : Int) : Int := if ch = 97 then a else if ch = 98 then b else if ch = 99 then c else i
def fieldR (a b c i : Int) (ch : UInt8) : List UInt8 := 32 :: Lib.itoa (fvS ch a b c i)
def refText (o a b c i : Int) : List UInt8 := if checkS o a b c i = 0 then nameS o ++ (usesS o).flatMap (fieldR a b c i) else []
theorem uses_order : (List.range 32).all (fun o => decide (usesT.getD o [] = [97, 98, 99, 105].filter (fun c => decide (c ∈ usesT.getD o [])))) = true := by kernel_rfl
theorem text_law (o a b c i : Int) : refText o a b c i = textS o a b c i := by
  unfold refText textS
  split
  · rename_i hc
    congr 1
    have hk : knownS o = true := by
      unfold checkS at hc
      split at hc
      · cases hc
      · rename_i h; simpa using h
    have hr : 0 ≤ o ∧ o < 32 := by simpa [knownS] using hk
    have hu : usesS o = [97, 98, 99, 105].filter (fun c => decide (c ∈ usesS o)) := by
      have := List.all_eq_true.1 uses_order o.toNat (List.mem_range.2 (by omega))
      rw [decide_eq_true_eq] at this
      unfold usesS
      rw [if_pos hk]
      exact this
    rw [hu]
    have key : ∀ (p : UInt8 → Bool), ([97, 98, 99, 105].filter p).flatMap (fieldR a b c i) = ([(p 97, a), (p 98, b), (p 99, c), (p 105, i)] : List (Bool × Int)).flatMap fieldT := fun p => by
      cases p1 : p 97 <;> cases p2 : p 98 <;> cases p3 : p 99 <;> cases p4 : p 105 <;> simp [List.filter, p1, p2, p3, p4, fieldR, fvS, fieldT]
    rw [key]
    unfold fieldL
    simp only [hasB_iff]
  · rfl
theorem refText_take (o a b c i : Int) (k : Nat) (hk : k < (usesS o).length) : ((usesS o).take (k + 1)).flatMap (fieldR a b c i) = ((usesS o).take k).flatMap (fieldR a b c i) ++ fieldR a b c i ((usesS o).getD k 0) := by
  rw [List.take_succ_eq_append_getElem hk, List.flatMap_append, List.getD_eq_getElem?_getD, List.getElem?_eq_getElem hk]
  simp
theorem fieldR_len {a b c i : Int} (h : 0 ≤ a ∧ a ≤ 15 ∧ 0 ≤ b ∧ b ≤ 15 ∧ 0 ≤ c ∧ c ≤ 15 ∧ -2147483648 ≤ i ∧ i ≤ 2147483647) (ch : UInt8) : (fieldR a b c i ch).length ≤ 22 ∧ -9223372036854775808 ≤ fvS ch a b c i ∧ fvS ch a b c i ≤ 9223372036854775807 := by
  have hb : -9223372036854775808 ≤ fvS ch a b c i ∧ fvS ch a b c i ≤ 9223372036854775807 := by
    unfold fvS
    split
    · omega
    · split
      · omega
      · split <;> omega
  have := Lib.itoa_length_le _ hb.1 hb.2
  refine ⟨?_, hb⟩
  unfold fieldR
  rw [List.length_cons]
  omega
theorem ch_ne {ch : UInt8} {n : Nat} (h : ch ≠ UInt8.ofNat n) (hn : n < 256) : (((ch.toNat : Nat) : Int) == (n : Int)) = false := by
  rw [beq_eq_false_iff_ne]
  intro e
  apply h
  have e : ch.toNat = n := by omega
  rw [← e, UInt8.ofNat_toNat]
theorem take_len {a b c i : Int} (h : 0 ≤ a ∧ a ≤ 15 ∧ 0 ≤ b ∧ b ≤ 15 ∧ 0 ≤ c ∧ c ≤ 15 ∧ -2147483648 ≤ i ∧ i ≤ 2147483647) {o : Int} (k : Nat) : (((usesS o).take k).flatMap (fieldR a b c i)).length ≤ 88 := by
  have key : ∀ l : List UInt8, (l.flatMap (fieldR a b c i)).length ≤ l.length * 22 := by
    intro l
    induction l with
    | nil => simp
    | cons x l ih =>
      have := (fieldR_len h x).1
      rw [List.flatMap_cons, List.length_append, List.length_cons]
      omega
  have h1 := key ((usesS o).take k)
  have h2 := usesS_len o
  have h3 : ((usesS o).take k).length ≤ (usesS o).length := by rw [List.length_take]; omega
  omega
set_option maxRecDepth 100000 in
theorem TextR_ok (o a b c i : Int) (h : Heap) : SCalls env 27 [.agg [.int .i64 o, .int .i64 a, .int .i64 b, .int .i64 c, .int .i64 i]] h (Ret (.str (textS o a b c i)) h) := by
  rw [← text_law]
  refine SCalls.body Tryd.func27 rfl rfl (by simp [Tryd.ntmps27]) ?_
  refine SW.seq (SW.run [] _ ?_)
  simp only [wpC, Bool.false_eq_true, ↓reduceIte, wpS, stops, wantedA, okDst, Tryd.ntmps27, Nat.reduceLT, decide_true, step1, known1, AS.eval, AS.get, enumA, Lift.look, Option.getD_some, AS.put, dropKey, reduceCtorEq, isOwnCall, hxOp, px, ofConst, ofVal, thenQ, Nat.reduceEqDiff, PV.cells, List.length_cons, List.length_nil, Nat.zero_add, Nat.reduceAdd, true_and]
  intro r hr
  by_cases hc : checkS o a b c i = 0
  rotate_left
  · have hc' : (checkS o a b c i != 0) = true := by simpa using hc
    refine SW.run [eCheckR] _ ?_
    simp only [wpC, mayStop, stops, isFlt, Specs.has, eCheckR, Specs.hasO, Nat.reduceLeDiff, Nat.reduceSub, false_and, ↓reduceIte, Bool.or_false, List.any_cons, Bool.not_true, List.any_nil, Bool.false_eq_true, wpS, wantedA, okDst, Nat.reduceLT, decide_true, step1, isOwnCall, hxOp, px, pload, ty25, AS.eval, AS.get, Lift.look, Nat.reduceEqDiff, Option.getD_some, Heap.get_put, okOne, TK.isAgg, Nat.reduceBEq, Nat.zero_add, List.length_cons, List.length_nil, Nat.reduceAdd, Nat.le_refl, and_self, Lift.valOf, List.drop_zero, List.take_succ_cons, List.take_nil, reduceCtorEq, AS.put, dropKey, pcall, okArg, ofConst, ofVal, List.all_cons, List.all_nil, Bool.and_true, Specs.at, List.map_cons, List.map_nil, sCheckR, pbinP, pbinI, hc', thenQ, isB, tmpOf, asB, RPost, sres, Tryd.results27, sresL, sres1, Option.some.injEq, refText, hc, Ret_fin, exists_eq_left', true_and]
    exact HTo.put (.refl _ _) hr _
  have hrg := Check_range hc
  refine SW.seq (SW.run [eCheckR] _ ?_)
  simp only [wpC, mayStop, stops, isFlt, Specs.has, eCheckR, Specs.hasO, Nat.reduceLeDiff, Nat.reduceSub, false_and, ↓reduceIte, Bool.or_false, List.any_cons, Bool.not_true, List.any_nil, Bool.false_eq_true, wpS, wantedA, okDst, Nat.reduceLT, decide_true, step1, isOwnCall, hxOp, px, pload, ty25, AS.eval, AS.get, Lift.look, Nat.reduceEqDiff, Option.getD_some, Heap.get_put, okOne, TK.isAgg, Nat.reduceBEq, Nat.zero_add, List.length_cons, List.length_nil, Nat.reduceAdd, Nat.le_refl, and_self, Lift.valOf, List.drop_zero, List.take_succ_cons, List.take_nil, reduceCtorEq, AS.put, dropKey, pcall, okArg, ofConst, ofVal, List.all_cons, List.all_nil, Bool.and_true, Specs.at, List.map_cons, List.map_nil, sCheckR, hc, pbinP, pbinI, bne_self_eq_false, thenQ, isB, tmpOf, asB, true_and]
  refine SW.seq (SW.run [eEntry] _ ?_)
  simp only [wpC, Bool.false_eq_true, ↓reduceIte, wpS, stops, wantedA, okDst, Nat.reduceLT, decide_true, step1, isOwnCall, hxOp, px, pfieldAddr, fieldOf, ty25, fieldIn, List.getElem?_cons_zero, ty3, Option.map_some, AS.eval, AS.get, Lift.look, Nat.reduceEqDiff, Option.getD_some, ne_eq, Nat.succ_ne_zero, not_false_eq_true, Nat.add_zero, AS.put, dropKey, reduceCtorEq, pload, Heap.get_put, okOne, TK.isAgg, beq_self_eq_true, Bool.or_true, Nat.zero_add, List.length_cons, List.length_nil, Nat.reduceAdd, Nat.reduceLeDiff, and_self, Lift.valOf, List.drop_zero, List.take_succ_cons, List.take_zero, List.getD_cons_zero, Specs.has, eEntry, Specs.hasO, Nat.reduceSub, Bool.or_false, Bool.not_true, pcall, okArg, ofConst, ofVal, List.all_cons, List.all_nil, Bool.and_true, Specs.at, List.map_cons, List.map_nil, sEntry, List.getElem?_cons_succ, thenQ, true_and]
  refine SW.seq (SW.run [] _ ?_)
  simp only [wpC, mayStop, stops, isFlt, Specs.has, Specs.hasO, Bool.or_false, Bool.not_false, List.any_cons, List.any_nil, Bool.false_eq_true, ↓reduceIte, wpS, wantedA, okDst, Nat.reduceLT, decide_true, step1, isOwnCall, hxOp, px, AS.eval, ofConst, ofVal, thenQ, AS.put, dropKey, Nat.reduceEqDiff, reduceCtorEq, true_and]
  refine SW.loopH 48 (fun k : Nat => [(1, .val (.pointer (some ⟨r, 0, none⟩))), (3, .str (nameS o ++ ((usesS o).take k).flatMap (fieldR a b c i))), (4, .str (usesS o)), (5, .int .i64 k)]) (fun _ => h.put r (.cells 25 5 [.int .i64 o, .int .i64 a, .int .i64 b, .int .i64 c, .int .i64 i])) (fun k => k ≤ (usesS o).length) (fun k => (usesS o).length - k) 0 (Nat.zero_le _) ?_ ?_
  · exact ⟨rfl, HTo.refl _ _, ⟨rfl, by show PV.str _ = PV.str _; simp, rfl, rfl, trivial⟩⟩
  intro k hk
  have hu3 := usesS_len o
  by_cases hlt : k < (usesS o).length
  · have hlt' : ((k : Nat) : Int) < (((usesS o).length : Nat) : Int) := by omega
    have hk1 : IntKind.i64.wrap ((k : Int) + 1) = ((k + 1 : Nat) : Int) := by
      rw [w64 (by omega) (by omega)]
      omega
    obtain ⟨f1, f2, f3⟩ := fieldR_len hrg ((usesS o).getD k 0)
    have hnx := refText_take o a b c i k hlt
    have hln : (((usesS o).take k).flatMap (fieldR a b c i)).length ≤ 88 := take_len hrg k
    have hnl := nameS_len o
    generalize hch : (usesS o).getD k 0 = ch at *
    have hil := Lib.itoa_length_le (fvS ch a b c i) (by omega) (by omega)
    by_cases e1 : ch = 97
    · have hv : fvS ch a b c i = a := by rw [e1]; rfl
      have g1 : (((ch.toNat : Nat) : Int) == 97) = true := by rw [e1]; rfl
      refine SW.run [eDigits] _ ?_
      simp only [wpC, mayStop, stops, isFlt, Specs.has, eDigits, Specs.hasO, Nat.reduceLeDiff, Nat.reduceSub, false_and, ↓reduceIte, Bool.or_false, List.any_cons, List.any_nil, Bool.false_eq_true, wpS, wantedA, okDst, Nat.reduceLT, decide_true, step1, isOwnCall, hxOp, px, AS.eval, AS.get, Lift.look, Nat.reduceEqDiff, Option.getD_some, AS.put, dropKey, pcall, ty9, plen, okLen, and_self, pbinP, pbinI, hlt', thenQ, isB, tmpOf, asB, Bool.not_true, pfieldAddr, fieldOf, ty25, fieldIn, List.getElem?_cons_succ, List.getElem?_cons_zero, ty3, Option.map_some, ne_eq, Nat.succ_ne_zero, not_false_eq_true, Nat.zero_add, pload, Heap.get_put, okOne, TK.isAgg, beq_self_eq_true, Bool.or_true, Nat.reduceAdd, List.length_cons, List.length_nil, Nat.le_refl, Lift.valOf, List.drop_succ_cons, List.drop_zero, List.take_succ_cons, List.take_nil, List.getD_cons_zero, pindex, Int.natCast_nonneg, Int.toNat_natCast, hlt, hch, ofConst, ofVal, g1, List.take_zero, reduceCtorEq, okArg, List.all_cons, List.all_nil, Bool.and_true, Specs.at, List.map_cons, List.map_nil, sDigits, true_and, pbinS, List.cons_append, List.nil_append, inQ, HTo_self, hasAll, and_true]
      rw [hv] at f2 f3 hil
      refine ⟨⟨by omega, by omega⟩, by omega, by rw [List.length_append]; omega, k + 1, by omega, by omega, ?_, by rw [hk1]⟩
      rw [hnx, fieldR, hv, List.append_assoc]
    by_cases e2 : ch = 98
    · have hv : fvS ch a b c i = b := by rw [e2]; rfl
      have g1 : (((ch.toNat : Nat) : Int) == 97) = false := by rw [e2]; rfl
      have g2 : (((ch.toNat : Nat) : Int) == 98) = true := by rw [e2]; rfl
      refine SW.run [eDigits] _ ?_
      simp only [wpC, mayStop, stops, isFlt, Specs.has, eDigits, Specs.hasO, Nat.reduceLeDiff, Nat.reduceSub, false_and, ↓reduceIte, Bool.or_false, List.any_cons, List.any_nil, Bool.false_eq_true, wpS, wantedA, okDst, Nat.reduceLT, decide_true, step1, isOwnCall, hxOp, px, AS.eval, AS.get, Lift.look, Nat.reduceEqDiff, Option.getD_some, AS.put, dropKey, pcall, ty9, plen, okLen, and_self, pbinP, pbinI, hlt', thenQ, isB, tmpOf, asB, Bool.not_true, pfieldAddr, fieldOf, ty25, fieldIn, List.getElem?_cons_succ, List.getElem?_cons_zero, ty3, Option.map_some, ne_eq, Nat.succ_ne_zero, not_false_eq_true, Nat.zero_add, pload, Heap.get_put, okOne, TK.isAgg, beq_self_eq_true, Bool.or_true, Nat.reduceAdd, List.length_cons, List.length_nil, Nat.le_refl, Lift.valOf, List.drop_succ_cons, List.drop_zero, List.take_succ_cons, List.take_nil, List.getD_cons_zero, pindex, Int.natCast_nonneg, Int.toNat_natCast, hlt, hch, ofConst, ofVal, g1, g2, List.take_zero, reduceCtorEq, okArg, List.all_cons, List.all_nil, Bool.and_true, Specs.at, List.map_cons, List.map_nil, sDigits, true_and, pbinS, List.cons_append, List.nil_append, inQ, HTo_self, hasAll, and_true]
      rw [hv] at f2 f3 hil
      refine ⟨⟨by omega, by omega⟩, by omega, by rw [List.length_append]; omega, k + 1, by omega, by omega, ?_, by rw [hk1]⟩
      rw [hnx, fieldR, hv, List.append_assoc]
    by_cases e3 : ch = 99
    · have hv : fvS ch a b c i = c := by rw [e3]; rfl
      have g1 : (((ch.toNat : Nat) : Int) == 97) = false := by rw [e3]; rfl
      have g2 : (((ch.toNat : Nat) : Int) == 98) = false := by rw [e3]; rfl
      have g3 : (((ch.toNat : Nat) : Int) == 99) = true := by rw [e3]; rfl
      refine SW.run [eDigits] _ ?_
      simp only [wpC, mayStop, stops, isFlt, Specs.has, eDigits, Specs.hasO, Nat.reduceLeDiff, Nat.reduceSub, false_and, ↓reduceIte, Bool.or_false, List.any_cons, List.any_nil, Bool.false_eq_true, wpS, wantedA, okDst, Nat.reduceLT, decide_true, step1, isOwnCall, hxOp, px, AS.eval, AS.get, Lift.look, Nat.reduceEqDiff, Option.getD_some, AS.put, dropKey, pcall, ty9, plen, okLen, and_self, pbinP, pbinI, hlt', thenQ, isB, tmpOf, asB, Bool.not_true, pfieldAddr, fieldOf, ty25, fieldIn, List.getElem?_cons_succ, List.getElem?_cons_zero, ty3, Option.map_some, ne_eq, Nat.succ_ne_zero, not_false_eq_true, Nat.zero_add, pload, Heap.get_put, okOne, TK.isAgg, beq_self_eq_true, Bool.or_true, Nat.reduceAdd, List.length_cons, List.length_nil, Nat.le_refl, Lift.valOf, List.drop_succ_cons, List.drop_zero, List.take_succ_cons, List.take_nil, List.getD_cons_zero, pindex, Int.natCast_nonneg, Int.toNat_natCast, hlt, hch, ofConst, ofVal, g1, g2, g3, List.take_zero, reduceCtorEq, okArg, List.all_cons, List.all_nil, Bool.and_true, Specs.at, List.map_cons, List.map_nil, sDigits, true_and, pbinS, List.cons_append, List.nil_append, inQ, HTo_self, hasAll, and_true]
      rw [hv] at f2 f3 hil
      refine ⟨⟨by omega, by omega⟩, by omega, by rw [List.length_append]; omega, k + 1, by omega, by omega, ?_, by rw [hk1]⟩
      rw [hnx, fieldR, hv, List.append_assoc]
    have hv : fvS ch a b c i = i := by unfold fvS; rw [if_neg e1, if_neg e2, if_neg e3]
    have g1 : (((ch.toNat : Nat) : Int) == 97) = false := ch_ne e1 (by decide)
    have g2 : (((ch.toNat : Nat) : Int) == 98) = false := ch_ne e2 (by decide)
    have g3 : (((ch.toNat : Nat) : Int) == 99) = false := ch_ne e3 (by decide)
    refine SW.run [eDigits] _ ?_
    simp only [wpC, mayStop, stops, isFlt, Specs.has, eDigits, Specs.hasO, Nat.reduceLeDiff, Nat.reduceSub, false_and, ↓reduceIte, Bool.or_false, List.any_cons, List.any_nil, Bool.false_eq_true, wpS, wantedA, okDst, Nat.reduceLT, decide_true, step1, isOwnCall, hxOp, px, AS.eval, AS.get, Lift.look, Nat.reduceEqDiff, Option.getD_some, AS.put, dropKey, pcall, ty9, plen, okLen, and_self, pbinP, pbinI, hlt', thenQ, isB, tmpOf, asB, Bool.not_true, pfieldAddr, fieldOf, ty25, fieldIn, List.getElem?_cons_succ, List.getElem?_cons_zero, ty3, Option.map_some, ne_eq, Nat.succ_ne_zero, not_false_eq_true, Nat.zero_add, pload, Heap.get_put, okOne, TK.isAgg, beq_self_eq_true, Bool.or_true, Nat.reduceAdd, List.length_cons, List.length_nil, Nat.le_refl, Lift.valOf, List.drop_succ_cons, List.drop_zero, List.take_succ_cons, List.take_nil, List.getD_cons_zero, pindex, Int.natCast_nonneg, Int.toNat_natCast, hlt, hch, ofConst, ofVal, g1, g2, g3, reduceCtorEq, okArg, List.all_cons, List.all_nil, Bool.and_true, Specs.at, List.map_cons, List.map_nil, sDigits, true_and, pbinS, List.cons_append, List.nil_append, inQ, HTo_self, hasAll, and_true]
    rw [hv] at f2 f3 hil
    refine ⟨⟨by omega, by omega⟩, by omega, by rw [List.length_append]; omega, k + 1, by omega, by omega, ?_, by rw [hk1]⟩
    rw [hnx, fieldR, hv, List.append_assoc]
  · have hlt' : ¬ ((k : Nat) : Int) < (((usesS o).length : Nat) : Int) := by omega
    have hke : k = (usesS o).length := by omega
    subst hke
    refine SW.run [] _ ?_
    simp only [wpC, mayStop, stops, isFlt, Specs.has, Specs.hasO, Bool.or_false, Bool.not_false, List.any_cons, List.any_nil, Bool.false_eq_true, ↓reduceIte, wpS, wantedA, okDst, Nat.reduceLT, decide_true, step1, isOwnCall, hxOp, px, AS.eval, AS.get, Lift.look, Nat.reduceEqDiff, Option.getD_some, AS.put, dropKey, pcall, ty9, plen, okLen, and_self, pbinP, pbinI, hlt', decide_false, thenQ, isB, tmpOf, asB, inQ, true_and]
    refine SW.run [] _ ?_
    simp only [wpC, mayStop, stops, isFlt, Specs.has, Specs.hasO, Bool.or_false, Bool.not_false, List.any_cons, List.any_nil, Bool.false_eq_true, ↓reduceIte, wpS, wantedA, okDst, Nat.reduceLT, decide_true, step1, isOwnCall, hxOp, px, AS.eval, AS.get, Lift.look, Nat.reduceEqDiff, Option.getD_some, AS.put, dropKey, thenQ, RPost, sres, Tryd.results27, sresL, sres1, Option.some.injEq, Ret_fin, exists_eq_left', true_and]
    exact ⟨by unfold refText; rw [if_pos hc, List.take_length], HTo.put (.refl _ _) hr _⟩
noncomputable def eTextR : SpecE env := ⟨27, sText, fun args h hc => by
  unfold sText at hc ⊢
  split at hc
  · rename_i o a b c i; exact .inl (TextR_ok o a b c i h)
  · exact hc.elim⟩
end Go.Proofs.YthdmdeiaonkeoaaDoor
