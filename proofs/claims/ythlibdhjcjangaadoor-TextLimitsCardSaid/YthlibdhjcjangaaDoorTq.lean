/- Contracts of functions that the law reaches. -/
import Derived.Test.YthlibdhjcjangaaDoorTo
set_option linter.unusedSimpArgs false
set_option linter.unusedVariables false
namespace Go.Proofs.YthlibdhjcjangaaDoor
open Go Go.RowKit Go.Proofs.YthlibdhjcjangaaDoor Go.Proofs.YthlibdhjcjangaaDoor.Lift
set_option maxRecDepth 100000

theorem own_slice {h0 H : Heap} {e : TypeId} {sz : Nat} {xs : List (List PV)} {v : PV} (o : Own h0 e sz xs v H) : ∃ A cap, v = .val (.slice A xs.length cap) := by
  rcases o with ⟨rfl, rfl, _⟩ | ⟨r, cap, rfl, _⟩
  · exact ⟨none, 0, rfl⟩
  · exact ⟨_, cap, rfl⟩
/-! text.Str.Set -/
def setL (ns : List Int) (i : Nat) (c : Int) : List Int := ns.take i ++ [c] ++ ns.drop (i + 1)
def setS (l : List UInt8) (w : Bool) (i c : Int) : PV :=
  if i < 0 ∨ (lenS l w : Int) < i then .tuple [.agg [.str [], .bool false], .int .i64 11]
  else if isC c = false then .tuple [.agg [.str [], .bool false], .int .i64 1]
  else if i = 65536 then .tuple [.agg [.str [], .bool false], .int .i64 3]
  else .tuple [strV (setL (charsS l w) i.toNat c), .int .i64 0]
theorem elR_flat (ns : List Int) : (elR ns).flatten = ns.map (PV.int .i32) := by
  induction ns with
  | nil => rfl
  | cons n ns ih => simp [elR] at ih ⊢; exact ih
theorem Set_ok (l : List UInt8) (w : Bool) (i c : Int) (h : Heap) (hl0 : l.length ≤ 100000000) : SCalls env 14 [.agg [.str l, .bool w], .int .i64 i, .int .i64 c] h (Ret (setS l w i c) h) := by
  refine SCalls.body Tryd.func14 rfl rfl (by simp [Tryd.ntmps14]) ?_
  refine SW.seq (SW.run [] _ ?_)
  simp only [wpC, Bool.false_eq_true, ↓reduceIte, wpS, stops, wantedA, okDst, Tryd.ntmps14, Nat.reduceLT, decide_true, step1, known1, AS.eval, AS.get, enumA, Nat.zero_add, Nat.reduceAdd, Lift.look, Option.getD_some, AS.put, dropKey, reduceCtorEq, Nat.reduceEqDiff, okAlloc, ty24, okZero, List.all_cons, Value.oneCell', List.all_nil, Bool.and_true, PV.cells, List.length_cons, List.length_nil, Heap.get_put, some_none, isOwnCall, hxOp, px, ofConst, ofVal, thenQ, zeroOf, List.map_cons, List.map_nil, true_and]
  have hl : l.length ≤ 1000000000 := by omega
  rintro r hr q ⟨hqr, hq⟩
  have hrq : ¬ r = q := fun e => hqr e.symm
  have e1 := lenS_le l w
  by_cases h1 : i < 0
  · refine SW.run [eLen, eCharacter] _ ?_
    simp only [wpC, mayStop, stops, isFlt, Specs.has, eLen, eCharacter, Specs.hasO, Bool.or_false, Specs.hasH, List.any_cons, ↓reduceIte, Bool.not_true, List.any_nil, Nat.reduceEqDiff, Bool.false_eq_true, wpS, wantedA, okDst, Nat.reduceLT, decide_true, step1, isOwnCall, hxOp, px, AS.eval, AS.get, Lift.look, reduceCtorEq, Option.getD_some, AS.put, dropKey, isNilC, pbinP, ofConst, ofVal, pbinI, h1, List.getElem?_toArray, List.getElem?_cons_succ, List.getElem?_cons_zero, Option.bind_some, beq_tf, Option.some.injEq, ppick_true, thenQ, isB, tmpOf, asB, pbuild, ty24, List.map_cons, List.map_nil, pfill, List.all_cons, ty9, Option.isSome_some, ty4, List.all_nil, Bool.and_true, okZero, Value.oneCell', known, and_self, hx, Heap.get_put, known1, PV.cells, List.length_cons, List.length_nil, Nat.zero_add, Nat.reduceAdd, Nat.le_refl, splice, List.take_zero, List.nil_append, List.drop_succ_cons, List.drop_nil, List.append_nil, inQ, RPost, sres, Tryd.results14, sresL, sres1, okOne, TK.isAgg, Nat.reduceBEq, Lift.valOf, List.drop_zero, List.take_succ_cons, List.take_nil, setS, true_or, Ret_fin, exists_eq_left', true_and]
    exact HTo.put3 _ _ _ hr hq hq
  by_cases h2 : (lenS l w : Int) < i
  · refine SW.run [eLen, eCharacter] _ ?_
    simp only [wpC, mayStop, stops, isFlt, Specs.has, eLen, eCharacter, Specs.hasO, Bool.or_false, Specs.hasH, List.any_cons, ↓reduceIte, Bool.not_true, List.any_nil, Nat.reduceEqDiff, Bool.false_eq_true, wpS, wantedA, okDst, Nat.reduceLT, decide_true, step1, isOwnCall, hxOp, px, AS.eval, AS.get, Lift.look, reduceCtorEq, Option.getD_some, AS.put, dropKey, isNilC, pbinP, ofConst, ofVal, pbinI, h1, decide_false, List.getElem?_toArray, List.getElem?_cons_succ, List.getElem?_cons_zero, Option.bind_some, beq_self_eq_true, pload, ty24, Heap.get_put, hrq, okOne, TK.isAgg, Nat.reduceBEq, Nat.zero_add, List.length_cons, List.length_nil, Nat.reduceAdd, Nat.le_refl, and_self, Lift.valOf, List.drop_zero, List.take_succ_cons, List.take_nil, pcall, okArg, List.all_cons, List.all_nil, Bool.and_true, Specs.at, List.map_cons, List.map_nil, sLen, true_and, h2, ppick_bool, thenQ, isB, tmpOf, asB, pbuild, pfill, ty9, Option.isSome_some, ty4, okZero, Value.oneCell', known, hx, known1, PV.cells, splice, List.take_zero, List.nil_append, List.drop_succ_cons, List.drop_nil, List.append_nil, inQ, RPost, sres, Tryd.results14, sresL, sres1, Option.some.injEq, setS, or_true, Ret_fin, exists_eq_left']
    exact ⟨hl, HTo.put3 _ _ _ hr hq hq⟩
  by_cases h3 : isC c = true
  · have h3' : ¬ isC c = false := by simp [h3]
    by_cases h4 : i = 65536
    · subst h4
      refine SW.run [eLen, eCharacter] _ ?_
      simp only [wpC, mayStop, stops, isFlt, Specs.has, eLen, eCharacter, Specs.hasO, Bool.or_false, Specs.hasH, List.any_cons, ↓reduceIte, Bool.not_true, List.any_nil, Nat.reduceEqDiff, Bool.false_eq_true, wpS, wantedA, okDst, Nat.reduceLT, decide_true, step1, isOwnCall, hxOp, px, AS.eval, AS.get, Lift.look, reduceCtorEq, Option.getD_some, AS.put, dropKey, isNilC, pbinP, ofConst, ofVal, pbinI, Int.reduceLT, decide_false, List.getElem?_toArray, List.getElem?_cons_succ, List.getElem?_cons_zero, Option.bind_some, beq_self_eq_true, pload, ty24, Heap.get_put, hrq, okOne, TK.isAgg, Nat.reduceBEq, Nat.zero_add, List.length_cons, List.length_nil, Nat.reduceAdd, Nat.le_refl, and_self, Lift.valOf, List.drop_zero, List.take_succ_cons, List.take_nil, pcall, okArg, List.all_cons, List.all_nil, Bool.and_true, Specs.at, List.map_cons, List.map_nil, sLen, true_and, h2, ppick_bool, thenQ, isB, tmpOf, asB, sCharacter, h3, pun, pbuild, pfill, ty9, Option.isSome_some, ty4, okZero, Value.oneCell', known, hx, known1, PV.cells, splice, List.take_zero, List.nil_append, List.drop_succ_cons, List.drop_nil, List.append_nil, inQ, RPost, sres, Tryd.results14, sresL, sres1, Option.some.injEq, setS, or_self, Bool.true_eq_false, Ret_fin, exists_eq_left']
      exact ⟨hl, HTo.put3 _ _ _ hr hq hq⟩
    · have h4' : (i == 65536) = false := by simpa using h4
      refine SW.run [eLen, eCharacter] _ ?_
      simp only [wpC, mayStop, stops, isFlt, Specs.has, eLen, eCharacter, Specs.hasO, Bool.or_false, Specs.hasH, List.any_cons, ↓reduceIte, Bool.not_true, List.any_nil, Nat.reduceEqDiff, Bool.false_eq_true, wpS, wantedA, okDst, Nat.reduceLT, decide_true, step1, isOwnCall, hxOp, px, AS.eval, AS.get, Lift.look, reduceCtorEq, Option.getD_some, AS.put, dropKey, isNilC, pbinP, ofConst, ofVal, pbinI, h1, decide_false, List.getElem?_toArray, List.getElem?_cons_succ, List.getElem?_cons_zero, Option.bind_some, beq_self_eq_true, pload, ty24, Heap.get_put, hrq, okOne, TK.isAgg, Nat.reduceBEq, Nat.zero_add, List.length_cons, List.length_nil, Nat.reduceAdd, Nat.le_refl, and_self, Lift.valOf, List.drop_zero, List.take_succ_cons, List.take_nil, pcall, okArg, List.all_cons, List.all_nil, Bool.and_true, Specs.at, List.map_cons, List.map_nil, sLen, true_and, h2, ppick_bool, thenQ, isB, tmpOf, asB, sCharacter, h3, pun, h4', inQ, Bool.not_false, Bool.or_true]
      refine ⟨hl, SWO.call (.func 33) _ _ 33 #[] #[] rfl rfl rfl rfl rfl rfl (Runes_own l w _ hl) rfl rfl ?_ (by rintro c' h' ⟨v, e1, _⟩; cases e1)⟩
      rintro p h' ⟨v, e1, hown⟩
      injection e1 with e1
      subst e1
      obtain ⟨A, cap, rfl⟩ := own_slice hown
      have hlen : (elR (charsS l w)).length = lenS l w := by rw [elR_len, charsS_len]
      rw [hlen]
      refine SWO.run [] 1000 ?_
      simp only [wpS, stops, Bool.false_eq_true, ↓reduceIte, wantedA, okDst, AS.put, dropKey, Nat.reduceEqDiff, reduceCtorEq, Nat.reduceLT, decide_true, step1, isOwnCall, hxOp, px, AS.eval, AS.get, Lift.look, Option.getD_some, thenQ, true_and]
      have hown : Own ((h.put r (.cells 24 2 [.str l, .bool w])).put q (.cells 24 2 [.str [], .bool false])) 21 1 (elR (charsS l w)) (.val (.slice A (lenS l w) cap)) h' := by rw [← hlen]; exact hown
      refine SW.cut (fun a => ∃ (ns : List Int) (v : PV), ns.take i.toNat = (charsS l w).take i.toNat ∧ ns.drop (i.toNat + 1) = (charsS l w).drop (i.toNat + 1) ∧ i.toNat < ns.length ∧ ns.length ≤ 1000000000 ∧ Own ((h.put r (.cells 24 2 [.str l, .bool w])).put q (.cells 24 2 [.str [], .bool false])) 21 1 (elR ns) v a.h ∧ a.n = 44 ∧ hasAll a [(1, .int .i64 i), (2, .int .i64 c), (6, .val (.pointer (some ⟨q, 0, none⟩))), (8, v)]) ?_ ?_
      · refine SW.run [] _ ?_
        by_cases h5 : i = (lenS l w : Int)
        · have h5' : (i == (lenS l w : Int)) = true := by simpa using h5
          simp only [wpC, mayStop, stops, isFlt, Specs.has, Specs.hasO, Bool.or_false, Specs.hasH, Bool.not_false, List.any_cons, List.any_nil, Bool.false_eq_true, ↓reduceIte, wpS, wantedA, okDst, Nat.reduceLT, decide_true, step1, isOwnCall, hxOp, px, AS.eval, AS.get, Lift.look, Nat.reduceEqDiff, reduceCtorEq, Option.getD_some, AS.put, dropKey, pcall, ty56, plen, okLen, and_self, isNilC, pbinP, pbinI, h5', thenQ, isB, tmpOf, asB, pbuildSlice, ty21, Nat.succ_ne_zero, List.replicate, List.map_cons, ofVal, List.map_nil, List.flatten_cons, List.flatten_nil, List.append_nil, ofConst, pfill, PV.cells, List.length_cons, List.length_nil, Nat.zero_add, Nat.reduceMul, Nat.le_refl, splice, List.take_zero, List.nil_append, List.drop_succ_cons, List.drop_nil, Nat.reduceLeDiff, okZero, List.all_cons, Value.oneCell', List.all_nil, Bool.and_true, known, chunk, List.take_succ_cons, List.take_nil, hasAll, and_true, true_and]
          refine SWO.append (.tmp 34) (.tmp 35) 56 56 rfl ty56 rfl ty21 (by decide) rfl ty56 rfl hown (ys := elR [0]) rfl (by rw [elR_len, elR_len, charsS_len]; show (_ + _) * 4 ≤ _; simp; omega) (by rw [elR_len, elR_len, charsS_len]; unfold maxLen; simp; omega) rfl rfl ?_
          intro v2 h2 hown2 _ _
          refine SWO.run [] 1000 ?_
          simp only [wpS, stops, Bool.false_eq_true, ↓reduceIte, wantedA, okDst, AS.put, dropKey, Nat.reduceEqDiff, reduceCtorEq, Nat.reduceLT, decide_true, step1, isOwnCall, hxOp, px, AS.eval, AS.get, Lift.look, Option.getD_some, thenQ, true_and]
          refine ⟨charsS l w ++ [0], v2, ?_, ?_, ?_, ?_, by simpa [elR] using hown2, rfl⟩
          · rw [List.take_append_of_le_length (by rw [charsS_len]; omega)]
          · rw [List.drop_eq_nil_of_le (by simp [charsS_len]; omega), List.drop_eq_nil_of_le (by rw [charsS_len]; omega)]
          · simp [charsS_len]; omega
          · simp [charsS_len]; omega
        · have h5' : (i == (lenS l w : Int)) = false := by simpa using h5
          simp only [wpC, mayStop, stops, isFlt, Specs.has, Specs.hasO, Bool.or_false, Specs.hasH, Bool.not_false, List.any_cons, List.any_nil, Bool.false_eq_true, ↓reduceIte, wpS, wantedA, okDst, Nat.reduceLT, decide_true, step1, isOwnCall, hxOp, px, AS.eval, AS.get, Lift.look, Nat.reduceEqDiff, reduceCtorEq, Option.getD_some, AS.put, dropKey, pcall, ty56, plen, okLen, and_self, isNilC, pbinP, pbinI, h5', thenQ, isB, tmpOf, asB, hasAll, and_true, true_and]
          exact ⟨charsS l w, _, rfl, rfl, by rw [charsS_len]; omega, by rw [charsS_len]; omega, hown, rfl⟩
      · rintro a ⟨ns, v, t1, t2, t3, t4, hown3, hn, hs⟩
        refine SW.norm ⟨hn, rfl, hs⟩ ?_
        rcases hown3 with ⟨rfl, hnil, _⟩ | ⟨k, cap3, rfl, c1, c2, c3, c4, c5⟩
        · have hz := congrArg List.length hnil
          rw [elR_len, List.length_nil] at hz
          omega
        · rw [c4, elR_len, elR_flat, Nat.mul_one]
          have hi0 : 0 ≤ i := by omega
          have hi1 : i < (ns.length : Int) := by omega
          refine SW.seq (SW.run [] _ ?_)
          simp only [wpC, Bool.false_eq_true, ↓reduceIte, wpS, stops, wantedA, okDst, Nat.reduceLT, decide_true, step1, isOwnCall, hxOp, px, AS.eval, AS.get, Lift.look, Nat.reduceEqDiff, Option.getD_some, AS.put, dropKey, ty3, ty21, pconvH, pconv, pindexAddr, ty56, hi0, hi1, and_self, Nat.zero_add, hx, Heap.get_put, known1, PV.cells, List.length_cons, List.length_nil, List.length_map, true_and, splice, thenQ]
          have hset : setL (charsS l w) i.toNat c = ns.take i.toNat ++ [c] ++ ns.drop (i.toNat + 1) := by rw [t1, t2]; rfl
          have hsl : (setL (charsS l w) i.toNat c).length = ns.length := by rw [hset]; simp; omega
          have hcr := isC_iff.1 h3
          refine ⟨by omega, ?_⟩
          refine SW.own_let 8 rfl (h0 := (h.put r (.cells 24 2 [.str l, .bool w])).put q (.cells 24 2 [.str [], .bool false])) (e := 21) (sz := 1) (xs := elR (setL (charsS l w) i.toNat c)) (.inr ⟨k, cap3, by rw [elR_len, hsl]; rfl, by rw [elR_len, hsl, ← elR_len]; exact c1, c2, c3, ?_, ?_⟩) ?_
          · rw [Heap.put_put, elR_flat, hset, Nat.mul_one, w32 (by omega) (by omega)]
            congr 2
            simp
          · intro x hx
            obtain ⟨b, _, rfl⟩ := List.mem_map.1 hx
            rfl
          · refine SW.run [ePack] _ ?_
            simp only [wpC, mayStop, stops, isFlt, Specs.has, ePack, Specs.hasO, Bool.or_false, Specs.hasH, List.any_cons, ↓reduceIte, Bool.not_true, List.any_nil, Bool.false_eq_true, wpS, wantedA, okDst, AS.put, dropKey, Nat.reduceEqDiff, Nat.reduceLT, decide_true, step1, isOwnCall, hxOp, px, AS.eval, AS.get, Lift.look, Option.getD_some, pcall, okArg, ofConst, ofVal, List.all_cons, List.all_nil, Bool.and_true, Specs.at, List.map_cons, List.map_nil, sPack, unR_elR, true_and, hx, ty24, Heap.get_put, known1, PV.cells, List.length_cons, List.length_nil, Nat.zero_add, Nat.reduceAdd, Nat.le_refl, and_self, splice, List.take_zero, List.nil_append, List.drop_succ_cons, List.drop_nil, List.append_nil, thenQ, RPost, sres, Tryd.results14, sresL, sres1, okOne, TK.isAgg, Nat.reduceBEq, Lift.valOf, List.drop_zero, List.take_succ_cons, List.take_nil, Option.some.injEq, Ret_fin, exists_eq_left']
            refine ⟨by omega, ?_, HTo.put3 _ _ _ hr hq hq⟩
            unfold setS
            rw [if_neg (by omega), if_neg h3', if_neg h4]
            rfl
  · have h3' : isC c = false := by simpa using h3
    refine SW.run [eLen, eCharacter] _ ?_
    simp only [wpC, mayStop, stops, isFlt, Specs.has, eLen, eCharacter, Specs.hasO, Bool.or_false, Specs.hasH, List.any_cons, ↓reduceIte, Bool.not_true, List.any_nil, Nat.reduceEqDiff, Bool.false_eq_true, wpS, wantedA, okDst, Nat.reduceLT, decide_true, step1, isOwnCall, hxOp, px, AS.eval, AS.get, Lift.look, reduceCtorEq, Option.getD_some, AS.put, dropKey, isNilC, pbinP, ofConst, ofVal, pbinI, h1, decide_false, List.getElem?_toArray, List.getElem?_cons_succ, List.getElem?_cons_zero, Option.bind_some, beq_self_eq_true, pload, ty24, Heap.get_put, hrq, okOne, TK.isAgg, Nat.reduceBEq, Nat.zero_add, List.length_cons, List.length_nil, Nat.reduceAdd, Nat.le_refl, and_self, Lift.valOf, List.drop_zero, List.take_succ_cons, List.take_nil, pcall, okArg, List.all_cons, List.all_nil, Bool.and_true, Specs.at, List.map_cons, List.map_nil, sLen, true_and, h2, ppick_bool, thenQ, isB, tmpOf, asB, sCharacter, h3', pun, Bool.not_false, pbuild, pfill, ty9, Option.isSome_some, ty4, okZero, Value.oneCell', known, hx, known1, PV.cells, splice, List.take_zero, List.nil_append, List.drop_succ_cons, List.drop_nil, List.append_nil, inQ, RPost, sres, Tryd.results14, sresL, sres1, Option.some.injEq, setS, or_self, Ret_fin, exists_eq_left']
    exact ⟨hl, HTo.put3 _ _ _ hr hq hq⟩
end Go.Proofs.YthlibdhjcjangaaDoor
