/- Contracts of functions that the law reaches. -/
import Derived.Test.YthlibdhjcjangaaDoorTk
set_option linter.unusedSimpArgs false
set_option linter.unusedVariables false
namespace Go.Proofs.YthlibdhjcjangaaDoor
open Go Go.RowKit Go.Proofs.YthlibdhjcjangaaDoor Go.Proofs.YthlibdhjcjangaaDoor.Lift
set_option maxRecDepth 100000

/-! text.Compare -/
def cmpI : List Int → List Int → Int
  | [], [] => 0
  | [], _ :: _ => -1
  | _ :: _, [] => 1
  | a :: x, b :: y => if a < b then -1 else if b < a then 1 else cmpI x y
theorem cmpI_step (a b : List Int) (i : Nat) (ha : i < a.length) (hb : i < b.length) (h : a.getD i 0 = b.getD i 0) : cmpI (a.drop i) (b.drop i) = cmpI (a.drop (i + 1)) (b.drop (i + 1)) := by
  rw [List.drop_eq_getElem_cons ha, List.drop_eq_getElem_cons hb, cmpI]
  have h1 : a[i] = b[i] := by simpa [List.getD_eq_getElem?_getD, ha, hb] using h
  rw [h1, if_neg (by omega), if_neg (by omega)]
theorem cmpI_here (a b : List Int) (i : Nat) (ha : i < a.length) (hb : i < b.length) (h : cmp1 (a.getD i 0) (b.getD i 0) ≠ 0) : cmpI (a.drop i) (b.drop i) = cmp1 (a.getD i 0) (b.getD i 0) := by
  rw [List.drop_eq_getElem_cons ha, List.drop_eq_getElem_cons hb, cmpI]
  have e1 : a.getD i 0 = a[i] := by simp [List.getD_eq_getElem?_getD, ha]
  have e2 : b.getD i 0 = b[i] := by simp [List.getD_eq_getElem?_getD, hb]
  rw [e1, e2] at h ⊢
  unfold cmp1 at h ⊢
  split
  · rfl
  · split
    · rfl
    · rename_i h1 h2
      rw [if_neg h1, if_neg h2] at h
      exact absurd rfl h
theorem cmpI_end (a b : List Int) (i : Nat) (h : i = min a.length b.length) : cmpI (a.drop i) (b.drop i) = cmp1 a.length b.length := by
  unfold cmp1
  by_cases h1 : a.length < b.length
  · have e : i = a.length := by omega
    rw [e, List.drop_length, List.drop_eq_getElem_cons h1, cmpI, if_pos (by omega)]
  · by_cases h2 : b.length < a.length
    · have e : i = b.length := by omega
      rw [e, List.drop_length, List.drop_eq_getElem_cons h2, cmpI, if_neg (by omega), if_pos (by omega)]
    · have e : i = b.length := by omega
      have e2 : a.length = b.length := by omega
      rw [e, List.drop_length, ← e2, List.drop_length, cmpI, if_neg (by omega), if_neg (by omega)]
def cmpS (l : List UInt8) (w : Bool) (l2 : List UInt8) (w2 : Bool) : Int := if w = w2 then Lib.compareBytes l l2 else cmpI (charsS l w) (charsS l2 w2)
def sCompare : List PV → Prop × PV
  | [.agg [.str l, .bool w], .agg [.str l2, .bool w2]] => (l.length ≤ 1000000000 ∧ l2.length ≤ 1000000000, .int .i64 (cmpS l w l2 w2))
  | _ => PBad
theorem charsS_getD (l : List UInt8) (w : Bool) (i : Nat) (h : i < lenS l w) : (charsS l w).getD i 0 = charS l w i := by
  simp [charsS, List.getD_eq_getElem?_getD, h]
theorem lenS_le (l : List UInt8) (w : Bool) : lenS l w ≤ l.length := by unfold lenS; split <;> omega
theorem Compare_ok (l : List UInt8) (w : Bool) (l2 : List UInt8) (w2 : Bool) (h : Heap) (h1 : l.length ≤ 1000000000) (h2 : l2.length ≤ 1000000000) : SCalls env 16 [.agg [.str l, .bool w], .agg [.str l2, .bool w2]] h (Ret (.int .i64 (cmpS l w l2 w2)) h) := by
  refine SCalls.body Tryd.func16 rfl rfl (by simp [Tryd.ntmps16]) ?_
  refine SW.seq (SW.run [] _ ?_)
  simp only [wpC, Bool.false_eq_true, ↓reduceIte, wpS, stops, wantedA, okDst, Tryd.ntmps16, Nat.reduceLT, decide_true, step1, known1, AS.eval, AS.get, enumA, Nat.zero_add, Lift.look, Option.getD_some, AS.put, dropKey, reduceCtorEq, Nat.reduceEqDiff, PV.cells, List.length_cons, List.length_nil, Nat.reduceAdd, Heap.get_put, some_none, isOwnCall, hxOp, px, ofConst, ofVal, thenQ, true_and]
  rintro r hr q ⟨hqr, hq⟩
  have hrq : ¬ r = q := fun e => hqr e.symm
  by_cases hw : w = w2
  · subst hw
    refine SW.run [eStrCmp] _ ?_
    simp only [wpC, mayStop, stops, isFlt, Specs.has, eStrCmp, Specs.hasO, Bool.or_false, Specs.hasH, List.any_cons, List.any_nil, ↓reduceIte, Bool.not_true, Bool.false_eq_true, wpS, wantedA, okDst, Nat.reduceLT, decide_true, step1, isOwnCall, hxOp, px, pfieldAddr, fieldOf, ty24, fieldIn, List.getElem?_cons_succ, List.getElem?_cons_zero, ty4, Option.map_some, AS.eval, AS.get, Lift.look, Nat.reduceEqDiff, Option.getD_some, ne_eq, Nat.succ_ne_zero, not_false_eq_true, Nat.zero_add, AS.put, dropKey, reduceCtorEq, pload, Heap.get_put, hrq, okOne, TK.isAgg, beq_self_eq_true, Bool.or_true, Nat.reduceAdd, List.length_cons, List.length_nil, Nat.le_refl, and_self, Lift.valOf, List.drop_succ_cons, List.drop_zero, List.take_succ_cons, List.take_nil, List.getD_cons_zero, isNilC, pbinP, pflt, peq, peqK, thenQ, isB, tmpOf, asB, ty9, Nat.add_zero, Nat.reduceLeDiff, List.take_zero, pcall, okArg, ofConst, ofVal, List.all_cons, List.all_nil, Bool.and_true, Specs.at, List.map_cons, List.map_nil, sCmp, RPost, sres, Tryd.results16, sresL, sres1, Option.some.injEq, cmpS, Ret_fin, exists_eq_left', true_and]
    exact HTo.put2 _ _ hr hq
  · have hb : (w == w2) = false := by simpa using hw
    refine SW.run [eStrCmp, eLen] _ ?_
    simp only [wpC, mayStop, stops, isFlt, Specs.has, eStrCmp, eLen, Specs.hasO, Bool.or_false, Specs.hasH, List.any_cons, List.any_nil, ↓reduceIte, Bool.not_true, Bool.false_eq_true, wpS, wantedA, okDst, Nat.reduceLT, decide_true, step1, isOwnCall, hxOp, px, pfieldAddr, fieldOf, ty24, fieldIn, List.getElem?_cons_succ, List.getElem?_cons_zero, ty4, Option.map_some, AS.eval, AS.get, Lift.look, Nat.reduceEqDiff, Option.getD_some, ne_eq, Nat.succ_ne_zero, not_false_eq_true, Nat.zero_add, AS.put, dropKey, reduceCtorEq, pload, Heap.get_put, hrq, okOne, TK.isAgg, beq_self_eq_true, Bool.or_true, Nat.reduceAdd, List.length_cons, List.length_nil, Nat.le_refl, and_self, Lift.valOf, List.drop_succ_cons, List.drop_zero, List.take_succ_cons, List.take_nil, List.getD_cons_zero, isNilC, pbinP, pflt, peq, peqK, hb, thenQ, isB, tmpOf, asB, Tryd.results16, true_and]
    refine SW.regionAny [eLen] [[0, 1, 2, 3, 4, 5]] rfl (by rfl) (by kernel_rfl) ?_
    simp only [wpOL, wpO, LOp, List.getElem?_toArray, List.getElem?_cons_zero, okDst, Nat.reduceLT, decide_true, wantedA, ↓reduceIte, step1, isOwnCall, Bool.false_eq_true, hxOp, px, pload, ty24, AS.eval, AS.get, Lift.look, Nat.reduceEqDiff, Option.getD_some, Heap.get_put, hrq, okOne, TK.isAgg, Nat.reduceBEq, Bool.or_false, Nat.zero_add, List.length_cons, List.length_nil, Nat.reduceAdd, Nat.le_refl, and_self, Lift.valOf, List.drop_zero, List.take_succ_cons, List.take_nil, List.getElem?_cons_succ, AS.put, dropKey, reduceCtorEq, Specs.hasO, Specs.hasH, pcall, okArg, ofConst, ofVal, List.all_cons, List.all_nil, Bool.and_true, Specs.at, eLen, List.map_cons, List.map_nil, sLen, h1, h2, thenQ, true_and]
    refine SW.seq (SW.seq (SW.run [] _ ?_))
    simp only [wpC, Bool.false_eq_true, ↓reduceIte, wpS, stops, wantedA, okDst, Nat.reduceLT, decide_true, step1, isOwnCall, hxOp, px, AS.eval, AS.get, Lift.look, Nat.reduceEqDiff, Option.getD_some, AS.put, dropKey, reduceCtorEq, pcall, and_self, ofConst, ofVal, thenQ, true_and]
    have e1 := lenS_le l w
    have e2 := lenS_le l2 w2
    have hmin : (if (lenS l2 w2 : Int) < (lenS l w : Int) then (lenS l2 w2 : Int) else (lenS l w : Int)) = ((min (lenS l w) (lenS l2 w2) : Nat) : Int) := by
      split <;> omega
    rw [hmin]
    refine SW.block (SW.loopK 43 (fun i : Nat => [(2, .val (.pointer (some ⟨r, 0, none⟩))), (3, .val (.pointer (some ⟨q, 0, none⟩))), (5, .int .i64 (lenS l w)), (6, .int .i64 (lenS l2 w2)), (25, .int .i64 ((min (lenS l w) (lenS l2 w2) : Nat) : Int)), (26, .int .i64 (i : Nat))]) (fun _ => (h.put r (.cells 24 2 [.str l, .bool w])).put q (.cells 24 2 [.str l2, .bool w2])) (fun i => i ≤ min (lenS l w) (lenS l2 w2) ∧ cmpI (charsS l w) (charsS l2 w2) = cmpI ((charsS l w).drop i) ((charsS l2 w2).drop i)) (fun i => min (lenS l w) (lenS l2 w2) - i) 0 ⟨Nat.zero_le _, rfl⟩ ?_ ?_)
    · simp only [Has, hasAll, AS.get, Lift.look, Nat.reduceEqDiff, ↓reduceIte, Option.getD_some, Int.cast_ofNat_Int, and_self]
    rintro i ⟨hi, hc⟩
    refine SW.run [eChar] _ ?_
    by_cases hlt : i < min (lenS l w) (lenS l2 w2)
    · have k1 : i < lenS l w := by omega
      have k2 : i < lenS l2 w2 := by omega
      simp only [wpC, mayStop, stops, isFlt, Specs.has, eChar, Specs.hasO, Bool.or_false, Specs.hasH, List.any_cons, List.any_nil, Bool.false_eq_true, ↓reduceIte, wpS, wantedA, okDst, Nat.reduceLT, decide_true, step1, isOwnCall, hxOp, px, isNilC, pbinP, AS.eval, AS.get, Lift.look, Nat.reduceEqDiff, Option.getD_some, pbinI, Int.ofNat_lt, hlt, thenQ, isB, AS.put, dropKey, tmpOf, asB, Bool.not_true, Bool.not_false, Bool.or_true, Has, hasAll, and_true, true_and]
      refine SW.regionAny [eChar, eCmp32] [[0, 1, 2, 3, 4, 5, 6, 7]] rfl (by rfl) (by kernel_rfl) ?_
      simp only [wpOL, wpO, LOp, List.getElem?_toArray, List.getElem?_cons_zero, okDst, Nat.reduceLT, decide_true, wantedA, ↓reduceIte, step1, isOwnCall, Bool.false_eq_true, hxOp, px, pload, ty24, AS.eval, AS.get, Lift.look, Nat.reduceEqDiff, Option.getD_some, Heap.get_put, hrq, okOne, TK.isAgg, Nat.reduceBEq, Bool.or_false, Nat.zero_add, List.length_cons, List.length_nil, Nat.reduceAdd, Nat.le_refl, and_self, Lift.valOf, List.drop_zero, List.take_succ_cons, List.take_nil, List.getElem?_cons_succ, AS.put, dropKey, Specs.hasO, Specs.hasH, pcall, okArg, ofConst, ofVal, List.all_cons, List.all_nil, Bool.and_true, Specs.at, eChar, List.map_cons, List.map_nil, sChar, h1, Int.natCast_nonneg, Int.toNat_natCast, k1, h2, k2, eCmp32, sCmp32, thenQ, true_and]
      refine SW.run [] _ ?_
      by_cases hz : cmp1 (charS l w i) (charS l2 w2 i) = 0
      · simp only [wpC, mayStop, stops, isFlt, Specs.has, Specs.hasO, Bool.or_false, Specs.hasH, Bool.not_false, List.any_cons, List.any_nil, Bool.false_eq_true, ↓reduceIte, wpS, wantedA, okDst, Nat.reduceLT, decide_true, step1, isOwnCall, hxOp, px, AS.eval, AS.get, Lift.look, hz, Option.getD_some, AS.put, dropKey, Nat.reduceEqDiff, isNilC, pbinP, ofConst, ofVal, pbinI, bne_self_eq_false, thenQ, isB, tmpOf, asB, inQ, true_and]
        refine SW.run [] _ ?_
        simp only [wpC, Bool.false_eq_true, ↓reduceIte, wpS, stops, isFlt, ty3, wantedA, okDst, Nat.reduceLT, decide_true, step1, isOwnCall, hxOp, px, isNilC, pbinP, AS.eval, AS.get, Lift.look, Nat.reduceEqDiff, Option.getD_some, ofConst, ofVal, pbinI, AS.put, dropKey, thenQ, true_and]
        refine ⟨i + 1, ⟨by omega, ?_⟩, by omega, by rw [w64 (by omega) (by omega)]; rfl⟩
        rw [hc]
        refine cmpI_step _ _ i (by rw [charsS_len]; exact k1) (by rw [charsS_len]; exact k2) ?_
        rw [charsS_getD _ _ _ k1, charsS_getD _ _ _ k2]
        unfold cmp1 at hz
        split at hz
        · cases hz
        · split at hz
          · cases hz
          · omega
      · have hz' : (cmp1 (charS l w i) (charS l2 w2 i) != 0) = true := by simpa using hz
        simp only [wpC, mayStop, stops, isFlt, Specs.has, Specs.hasO, Bool.or_false, Specs.hasH, Bool.not_false, List.any_cons, List.any_nil, Bool.false_eq_true, ↓reduceIte, wpS, wantedA, okDst, Nat.reduceLT, decide_true, step1, isOwnCall, hxOp, px, AS.eval, AS.get, Lift.look, Option.getD_some, AS.put, dropKey, Nat.reduceEqDiff, isNilC, pbinP, ofConst, ofVal, pbinI, hz', thenQ, isB, tmpOf, asB, inQ, RPost, sres, sresL, sres1, Option.some.injEq, Ret_fin, exists_eq_left', true_and]
        refine ⟨?_, HTo.put2 _ _ hr hq⟩
        rw [cmpS, if_neg hw, hc, cmpI_here _ _ i (by rw [charsS_len]; exact k1) (by rw [charsS_len]; exact k2) (by rw [charsS_getD _ _ _ k1, charsS_getD _ _ _ k2]; exact hz), charsS_getD _ _ _ k1, charsS_getD _ _ _ k2]
    · simp only [wpC, mayStop, stops, isFlt, Specs.has, Specs.hasO, Bool.or_false, Specs.hasH, List.any_cons, List.any_nil, Bool.false_eq_true, ↓reduceIte, wpS, wantedA, okDst, Nat.reduceLT, decide_true, step1, isOwnCall, hxOp, px, isNilC, pbinP, AS.eval, AS.get, Lift.look, Nat.reduceEqDiff, Option.getD_some, pbinI, Int.ofNat_lt, hlt, decide_false, thenQ, isB, AS.put, dropKey, tmpOf, asB, inQ, true_and]
      refine SW.run [eCmp64] _ ?_
      simp only [wpC, mayStop, stops, isFlt, Specs.has, eCmp64, Specs.hasO, Bool.or_false, Specs.hasH, List.any_cons, ↓reduceIte, Bool.not_true, List.any_nil, Bool.false_eq_true, wpS, wantedA, okDst, Nat.reduceLT, decide_true, step1, isOwnCall, hxOp, px, AS.eval, AS.get, Lift.look, Nat.reduceEqDiff, Option.getD_some, AS.put, dropKey, pcall, okArg, ofConst, ofVal, List.all_cons, List.all_nil, Bool.and_true, Specs.at, List.map_cons, List.map_nil, sCmp64, and_self, thenQ, RPost, sres, sresL, sres1, Option.some.injEq, Ret_fin, exists_eq_left', true_and]
      refine ⟨?_, HTo.put2 _ _ hr hq⟩
      have hi' : i = min (lenS l w) (lenS l2 w2) := by omega
      rw [cmpS, if_neg hw, hc, cmpI_end _ _ i (by rw [charsS_len, charsS_len]; exact hi'), charsS_len, charsS_len]
noncomputable def eCompare : SpecE env := ⟨16, sCompare, fun args h hc => by
  unfold sCompare at hc ⊢
  split at hc
  · rename_i l w l2 w2; exact .inl (Compare_ok l w l2 w2 h hc.1 hc.2)
  · exact hc.elim⟩
end Go.Proofs.YthlibdhjcjangaaDoor
