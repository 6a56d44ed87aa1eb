/- Contracts of functions that the law reaches. -/
import Derived.Test.Ytekgfneapofgpaab
set_option linter.unusedSimpArgs false
set_option linter.unusedVariables false
namespace Go.Proofs.Ytekgfneapofgpaa
open Go Go.RowKit Go.Proofs.Ytekgfneapofgpaa Go.Proofs.Ytekgfneapofgpaa.Lift

/-! Queue -/
def enC (i : It) : List PV := [.int .i64 i.pid, .int .i64 (i.arm : Nat), .int .i64 i.ch, .bool i.sd]
def elE (l : List It) : List (List PV) := l.map enC
theorem elE_len (l : List It) : (elE l).length = l.length := List.length_map _
theorem elE_snoc (l : List It) (x : It) : elE (l ++ [x]) = elE l ++ [enC x] := by unfold elE; rw [List.map_append]; rfl
theorem take_snoc {α : Type} {l : List α} {j : Nat} (h : j < l.length) : l.take (j + 1) = l.take j ++ [l[j]] := by rw [List.take_add_one, List.getElem?_eq_getElem h]; rfl
theorem Queue_nil (c : Int) (s : Bool) (h : Heap) : SCalls env 20 [.val (.pointer none), .int .i64 c, .bool s] h (Ret (.val (.slice none 0 0)) h) := by
  refine SCalls.body Try.func20 rfl rfl (by simp [Try.ntmps20]) (SW.run [] _ ?_)
  simp only [wpC, mayStop, stops, isFlt, Specs.has, Specs.hasO, Bool.or_false, Specs.hasH, Bool.not_false, List.any_cons, List.any_nil, Bool.false_eq_true, ↓reduceIte, wpS, wantedA, okDst, Try.ntmps20, Nat.reduceLT, decide_true, step1, isOwnCall, hxOp, px, AS.eval, ofConst, ofVal, thenQ, AS.put, enumA, Nat.zero_add, Nat.reduceAdd, dropKey, reduceCtorEq, Nat.reduceEqDiff, AS.get, Lift.look, Nat.succ_ne_zero, Option.getD_some, isNilC, pbinP, pflt, peq, ty25, peqK, Option.isNone_none, isB, tmpOf, asB, RPost, sres, Try.results20, sresL, sres1, Option.some.injEq, Ret_fin, HTo_self, and_true, exists_eq_left', and_self]
theorem Queue_none (c : Int) (s : Bool) {h0 h : Heap} {B : Bo} (b : BOn h0 noG B h) (hq : qOf B.qs c s = none) : SCalls env 20 [adr B.rb, .int .i64 c, .bool s] h (Ret (.val (.slice none 0 0)) h) := by
  refine SCalls.body Try.func20 rfl rfl (by simp [Try.ntmps20]) (SW.run [] _ ?_)
  have h1 := b.hb
  have h2 := b.hq
  have h3 := qE_fits B.qs
  have h4 := q_find c s B.qs
  rw [hq] at h4
  simp only [wpC, mayStop, stops, isFlt, Specs.has, Specs.hasO, Bool.or_false, Specs.hasH, Bool.not_false, List.any_cons, List.any_nil, Bool.false_eq_true, ↓reduceIte, wpS, wantedA, okDst, Try.ntmps20, Nat.reduceLT, decide_true, step1, isOwnCall, hxOp, px, AS.eval, ofConst, ofVal, thenQ, AS.put, enumA, adr, Nat.zero_add, Nat.reduceAdd, dropKey, reduceCtorEq, Nat.reduceEqDiff, AS.get, Lift.look, Nat.succ_ne_zero, Option.getD_some, isNilC, pbinP, pflt, peq, ty25, peqK, isB, tmpOf, asB, pfieldAddr, fieldOf, ty58, fieldIn, List.getElem?_cons_zero, ty55, Option.map_some, ne_eq, not_false_eq_true, Nat.add_zero, pload, h1, boC, okOne, TK.isAgg, beq_self_eq_true, Bool.or_true, List.length_cons, List.length_nil, Nat.reduceLeDiff, and_self, Lift.valOf, List.drop_zero, List.take_succ_cons, List.take_zero, List.getD_cons_zero, pbuild, ty39, List.map_cons, List.map_nil, pfill, placeOf, ty3, PV.cells, List.getElem?_cons_succ, ty4, splice, List.nil_append, List.drop_succ_cons, List.cons_append, Nat.le_refl, List.drop_nil, List.append_nil, List.all_cons, Option.isSome_some, List.all_nil, Bool.and_true, okZero, Value.oneCell', known, plookup, ty64, h2, isAggV, glook, kk39, h3, fits, qE_len, h4, Option.map_none, Option.getD_none, Option.isSome_none, pun, RPost, sres, Try.results20, sresL, sres1, Option.some.injEq, Ret_fin, HTo_self, and_true, exists_eq_left']
theorem Queue_some (c : Int) (s : Bool) {h0 h : Heap} {B : Bo} (b : BOn h0 noG B h) (hlen : B.items.length ≤ 1000000) {q : Qu} (hq : qOf B.qs c s = some q) (hql : q.l.length ≤ 1000000) : SCalls env 20 [adr B.rb, .int .i64 c, .bool s] h (Ret (.list 4 (elE q.l)) h) := by
  refine SCalls.body Try.func20 rfl rfl (by simp [Try.ntmps20]) ?_
  have h1 := b.hb
  have h2 := b.hq
  have h3 := qE_fits B.qs
  have h4 := q_find c s B.qs
  rw [hq] at h4
  obtain ⟨hqm, _, _⟩ := qOf_mem hq
  have q1 := b.hqa q hqm
  have q2 := b.hbuf q hqm
  refine SW.seq (SW.run [] _ ?_)
  simp only [wpC, Bool.false_eq_true, ↓reduceIte, wpS, stops, wantedA, okDst, Try.ntmps20, Nat.reduceLT, decide_true, step1, isOwnCall, hxOp, px, AS.eval, ofConst, ofVal, thenQ, AS.put, enumA, adr, Nat.zero_add, Nat.reduceAdd, dropKey, reduceCtorEq, Nat.reduceEqDiff, true_and]
  refine SW.seq (SW.run [] _ ?_)
  simp only [wpC, mayStop, stops, isFlt, Specs.has, Specs.hasO, Bool.or_false, Specs.hasH, Bool.not_false, List.any_cons, List.any_nil, Bool.false_eq_true, ↓reduceIte, wpS, wantedA, okDst, Nat.reduceLT, decide_true, step1, isOwnCall, hxOp, px, AS.eval, AS.get, Lift.look, Nat.succ_ne_zero, Option.getD_some, AS.put, dropKey, Nat.reduceEqDiff, reduceCtorEq, isNilC, pbinP, pflt, peq, ty25, peqK, ofConst, ofVal, thenQ, isB, tmpOf, asB, true_and]
  refine SW.seq (SW.run [] _ ?_)
  simp only [wpC, Bool.false_eq_true, ↓reduceIte, wpS, stops, wantedA, okDst, Nat.reduceLT, decide_true, step1, isOwnCall, hxOp, px, AS.eval, AS.get, Lift.look, Nat.succ_ne_zero, Option.getD_some, AS.put, dropKey, Nat.reduceEqDiff, reduceCtorEq, pfieldAddr, fieldOf, ty58, fieldIn, List.getElem?_cons_zero, ty55, Option.map_some, ne_eq, not_false_eq_true, Nat.add_zero, pload, h1, boC, okOne, TK.isAgg, beq_self_eq_true, Bool.or_true, Nat.zero_add, List.length_cons, List.length_nil, Nat.reduceAdd, Nat.reduceLeDiff, and_self, Lift.valOf, List.drop_zero, List.take_succ_cons, List.take_zero, List.getD_cons_zero, pbuild, ty39, List.map_cons, ofVal, List.map_nil, ofConst, pfill, placeOf, ty3, PV.cells, List.getElem?_cons_succ, ty4, splice, List.nil_append, List.drop_succ_cons, List.cons_append, Nat.le_refl, List.drop_nil, List.append_nil, List.all_cons, Option.isSome_some, List.all_nil, Bool.and_true, okZero, Value.oneCell', known, plookup, ty64, h2, isAggV, glook, kk39, h3, fits, qE_len, h4, adr, thenQ, true_and]
  refine SW.seq (SW.run [] _ ?_)
  simp only [wpC, mayStop, stops, isFlt, Specs.has, Specs.hasO, Bool.or_false, Specs.hasH, Bool.not_false, List.any_cons, List.any_nil, Bool.false_eq_true, ↓reduceIte, wpS, wantedA, okDst, Nat.reduceLT, decide_true, step1, isOwnCall, hxOp, px, AS.eval, AS.get, Lift.look, Option.getD_some, AS.put, dropKey, Nat.reduceEqDiff, reduceCtorEq, pun, Bool.not_true, thenQ, isB, tmpOf, asB, true_and]
  refine SW.seq (SW.run [] _ ?_)
  simp only [wpC, Bool.false_eq_true, ↓reduceIte, wpS, stops, wantedA, okDst, Nat.reduceLT, decide_true, step1, isOwnCall, hxOp, px, AS.eval, ofConst, ofVal, thenQ, AS.put, dropKey, Nat.reduceEqDiff, reduceCtorEq, true_and]
  refine SW.seq (SW.seq (SW.run [] _ ?_))
  simp only [wpC, Bool.false_eq_true, ↓reduceIte, wpS, stops, wantedA, okDst, Nat.reduceLT, decide_true, step1, isOwnCall, hxOp, px, AS.eval, AS.get, Lift.look, Nat.reduceEqDiff, Option.getD_some, AS.put, dropKey, reduceCtorEq, pfieldAddr, fieldOf, ty67, fieldIn, List.getElem?_cons_zero, ty59, Option.map_some, ne_eq, Nat.succ_ne_zero, not_false_eq_true, Nat.add_zero, pload, q1, quC, okOne, TK.isAgg, beq_self_eq_true, Bool.or_true, Nat.zero_add, List.length_cons, List.length_nil, Nat.le_refl, and_self, Lift.valOf, List.drop_zero, List.take_succ_cons, List.take_nil, List.getD_cons_zero, pcall, plen, okLen, ofConst, ofVal, thenQ, true_and]
  refine SW.block (SW.loop (fun m a => ∃ (j : Nat) (v : PV), j ≤ q.l.length ∧ q.l.length - j = m ∧ Own h 35 4 (elE (q.l.take j)) v a.h ∧ a.n = 45 ∧ hasAll a [(9, v), (30, .val (.slice (some ⟨q.buf, 0, none⟩) q.l.length q.cap)), (31, .int .i64 (q.l.length : Nat)), (32, .int .i64 (j : Nat))]) q.l.length ⟨0, .val (.slice none 0 0), Nat.zero_le _, rfl, Own.nil _ _ _, rfl, ?_⟩ ?_)
  · simp only [hasAll, AS.get, Lift.look, Nat.reduceEqDiff, ↓reduceIte, Option.getD_some, Int.cast_ofNat_Int, and_self]
  · rintro m a ⟨j, v, hj, hm, ho, hn, hs⟩
    refine SW.norm ⟨hn, rfl, hs⟩ ?_
    generalize a.h = H at ho
    clear hn hs
    refine SW.run [] _ ?_
    by_cases hlt : j < q.l.length
    · have hw : IntKind.i64.wrap ((j : Int) + 1) = ((j + 1 : Nat) : Int) := by rw [w64 (by omega) (by omega)]; rfl
      have hra := adrs_at hlt
      have hrl : j + 1 ≤ q.l.length := hlt
      have k2 := ho.inc _ _ q2
      have hit := ho.inc _ _ (b.hi _ (b.hsub q hqm _ (List.getElem_mem hlt)))
      simp only [wpC, mayStop, stops, isFlt, Specs.has, Specs.hasO, Bool.or_false, Specs.hasH, Bool.not_false, List.any_cons, List.any_nil, Bool.false_eq_true, ↓reduceIte, wpS, wantedA, okDst, Nat.reduceLT, decide_true, step1, isOwnCall, hxOp, px, isNilC, pbinP, AS.eval, AS.get, Lift.look, Nat.reduceEqDiff, Option.getD_some, pbinI, Int.ofNat_lt, hlt, thenQ, isB, AS.put, dropKey, tmpOf, asB, Bool.or_true, pindexAddr, ty59, ty61, Int.natCast_nonneg, and_self, Int.toNat_natCast, Nat.mul_one, Nat.zero_add, pload, k2, rowC, okOne, TK.isAgg, beq_self_eq_true, adrs_len, hrl, Lift.valOf, hra, adr, List.getD_cons_zero, pfieldAddr, fieldOf, ty63, fieldIn, List.getElem?_cons_succ, List.getElem?_cons_zero, ty35, Option.map_some, ne_eq, Nat.succ_ne_zero, not_false_eq_true, hit, itC, Nat.reduceBEq, Nat.reduceAdd, List.length_cons, List.length_nil, Nat.le_refl, List.drop_succ_cons, List.drop_zero, List.take_succ_cons, List.take_nil, pbuildSlice, ty42, List.replicate, List.map_cons, ofVal, List.map_nil, List.flatten_cons, List.flatten_nil, List.append_nil, ofConst, pfill, PV.cells, Nat.reduceMul, splice, List.take_zero, List.nil_append, List.drop_nil, Nat.reduceLeDiff, okZero, List.all_cons, Value.oneCell', List.all_nil, Bool.and_true, known, chunk, hasAll, and_true, true_and]
      have hel : (elE (q.l.take j)).length = j := by rw [elE_len, List.length_take]; omega
      refine SWO.append (.tmp 36) (.tmp 41) 42 42 rfl ty42 rfl ty35 (by decide) rfl ty42 rfl ho (ys := [enC q.l[j]]) rfl (by rw [hel]; show (j + 1) * 32 ≤ _; omega) (by rw [hel]; simp [maxLen]; omega) rfl rfl ?_
      intro v' h' ow _ _
      refine SWO.run [] 1000 ?_
      simp only [wpS, stops, Bool.false_eq_true, ↓reduceIte, wantedA, okDst, AS.put, dropKey, Nat.reduceEqDiff, Nat.reduceLT, decide_true, step1, isOwnCall, hxOp, px, AS.eval, AS.get, Lift.look, Option.getD_some, inQ, thenQ, true_and]
      refine SW.run [] _ ?_
      simp only [wpC, Bool.false_eq_true, ↓reduceIte, wpS, stops, isFlt, ty3, wantedA, okDst, Nat.reduceLT, decide_true, step1, isOwnCall, hxOp, px, isNilC, pbinP, AS.eval, AS.get, Lift.look, Nat.reduceEqDiff, Option.getD_some, ofConst, ofVal, pbinI, hw, AS.put, dropKey, thenQ, true_and]
      exact ⟨m - 1, by omega, j + 1, v', hlt, by omega, by rw [take_snoc hlt, elE_snoc]; exact ow, rfl, rfl⟩
    · obtain rfl : j = q.l.length := by omega
      rw [List.take_length] at ho
      simp only [wpC, mayStop, stops, isFlt, Specs.has, Specs.hasO, Bool.or_false, Specs.hasH, Bool.not_false, List.any_cons, List.any_nil, Bool.false_eq_true, ↓reduceIte, wpS, wantedA, okDst, Nat.reduceLT, decide_true, step1, isOwnCall, hxOp, px, isNilC, pbinP, AS.eval, AS.get, Lift.look, Nat.reduceEqDiff, Option.getD_some, pbinI, Int.ofNat_lt, Nat.lt_irrefl, decide_false, thenQ, isB, AS.put, dropKey, tmpOf, asB, inQ, true_and]
      refine SW.own_let 9 rfl ho ?_
      refine SW.run [] _ ?_
      simp only [wpC, mayStop, stops, isFlt, Specs.has, Specs.hasO, Bool.or_false, Specs.hasH, Bool.not_false, List.any_cons, List.any_nil, Bool.false_eq_true, ↓reduceIte, wpS, wantedA, okDst, AS.put, dropKey, Nat.reduceEqDiff, Nat.reduceLT, decide_true, step1, isOwnCall, hxOp, px, AS.eval, AS.get, Lift.look, Option.getD_some, thenQ, RPost, sres, Try.results20, sresL, sres1, Option.some.injEq, Ret_fin, HTo_self, and_true, exists_eq_left', and_self]
theorem Queue_ok (c : Int) (s : Bool) {h0 h : Heap} {B : Bo} (b : BOn h0 noG B h) (w : WF B) (hlen : B.items.length ≤ 1000000) : SCalls env 20 [adr B.rb, .int .i64 c, .bool s] h (Ret (.list 4 (elE (fil B.items c s))) h) := by
  cases hq : qOf B.qs c s with
  | none =>
    have : fil B.items c s = [] := by
      unfold fil
      rw [List.filter_eq_nil_iff]
      intro i hi e
      obtain ⟨q, hqm, h1, h2⟩ := w.kx i hi
      have := List.find?_eq_none.1 hq q hqm
      rw [h1, h2] at this
      exact this e
    rw [this]
    refine (Queue_none c s b hq).letGo fun e h' ⟨he, hh⟩ => ⟨_, _, _, he, by rw [hh]; exact LetGo.nil h 4, rfl, rfl⟩
  | some q =>
    obtain ⟨hqm, e1, e2⟩ := qOf_mem hq
    have hl := (w.kf q hqm).2
    rw [e1, e2] at hl
    rw [← hl]
    refine Queue_some c s b hlen hq ?_
    rw [hl]
    exact Nat.le_trans (List.length_filter_le ..) hlen
end Go.Proofs.Ytekgfneapofgpaa
