/- Contracts of functions that the law reaches. -/
import Derived.Test.Ytekgfneapofgpaaw
set_option linter.unusedSimpArgs false
set_option linter.unusedVariables false
namespace Go.Proofs.Ytekgfneapofgpaa
open Go Go.RowKit Go.Proofs.Ytekgfneapofgpaa Go.Proofs.Ytekgfneapofgpaa.Lift

/-! ChansPlays -/
def sSameR (a : List It) : List PV → Heap → Prop × PV × Heap
  | [.list 4 xs, v], h => (xs = elE a ∧ RowAt h 78 4 (elE a) v ∧ a.length ≤ 1000000, .bool true, h)
  | _, h => HBad h
noncomputable def eSameR (a : List It) : SpecH env := ⟨19, sSameR a, fun args h hc => by
  unfold sSameR at hc ⊢
  split at hc
  · obtain ⟨rfl, hr, hl⟩ := hc
    exact SameR_ok a hr hl
  · exact hc.elim⟩
set_option maxHeartbeats 1000000 in
set_option maxRecDepth 100000 in
theorem ChansPlays_ok (l : List ActS) (h : Heap) : SCalls env 4 [.list 3 (elA l)] h (Ret (.bool true) h) := by
  refine SCalls.body Try.func4 rfl rfl (by simp [Try.ntmps4]) ?_
  refine SW.seq (SW.run [] _ ?_)
  simp only [wpC, Bool.false_eq_true, ↓reduceIte, wpS, stops, wantedA, okDst, Try.ntmps4, Nat.reduceLT, decide_true, step1, isOwnCall, hxOp, px, AS.eval, ofConst, ofVal, thenQ, AS.put, enumA, dropKey, reduceCtorEq, true_and]
  by_cases hf : fewS l = true
  case neg =>
    have hf : fewS l = false := by simpa using hf
    refine SW.seq (SW.run [eAwake, eFew l] _ ?_)
    simp only [wpC, mayStop, stops, isFlt, Specs.has, eAwake, eFew, Specs.hasO, Bool.or_false, Specs.hasH, List.any_cons, ↓reduceIte, Bool.not_true, Nat.reduceEqDiff, List.any_nil, Bool.false_eq_true, wpS, wantedA, okDst, Nat.reduceLT, decide_true, step1, isOwnCall, hxOp, px, pcall, okArg, AS.eval, AS.get, Lift.look, ofConst, ofVal, List.all_nil, Specs.at, List.map_nil, sAwake, and_self, AS.put, dropKey, reduceCtorEq, pun, Option.getD_some, List.getElem?_toArray, List.getElem?_cons_succ, List.getElem?_cons_zero, Option.bind_some, beq_self_eq_true, Nat.succ_ne_zero, List.all_cons, Bool.and_true, List.map_cons, sFew, hf, Bool.not_false, ppick_bool, thenQ, isB, tmpOf, asB, RPost, sres, Try.results4, sresL, sres1, Option.some.injEq, Ret_fin, HTo_self, and_true, exists_eq_left']
  obtain ⟨hl, hos⟩ := few_of hf
  refine SW.seq (SW.run [eAwake, eFew l] _ ?_)
  simp only [wpC, mayStop, stops, isFlt, Specs.has, eAwake, eFew, Specs.hasO, Bool.or_false, Specs.hasH, List.any_cons, ↓reduceIte, Bool.not_true, Nat.reduceEqDiff, List.any_nil, Bool.false_eq_true, wpS, wantedA, okDst, Nat.reduceLT, decide_true, step1, isOwnCall, hxOp, px, pcall, okArg, AS.eval, AS.get, Lift.look, ofConst, ofVal, List.all_nil, Specs.at, List.map_nil, sAwake, and_self, AS.put, dropKey, reduceCtorEq, pun, Option.getD_some, List.getElem?_toArray, List.getElem?_cons_succ, List.getElem?_cons_zero, Option.bind_some, beq_self_eq_true, Nat.succ_ne_zero, List.all_cons, Bool.and_true, List.map_cons, sFew, hf, ppick_bool, thenQ, isB, tmpOf, asB, true_and]
  refine SW.seq (SW.run [] _ ?_)
  simp only [wpC, Bool.false_eq_true, ↓reduceIte, wpS, stops, Specs.has, Specs.hasO, Bool.or_false, Specs.hasH, Bool.not_false]
  refine SWO.call (.func 10) #[] _ 10 #[] #[] rfl rfl rfl rfl rfl rfl (New_ok h) rfl rfl ?_ (fun c h' hc => by obtain ⟨_, hc, _⟩ := hc; cases hc)
  rintro p' h1 ⟨B0, hp', b0, w0, ps0, t0⟩
  injection hp' with hp'
  subst hp'
  have i0 : B0.items = [] := by rw [w0.it, ps0]; rfl
  refine SWO.run [] 1000 ?_
  simp only [wpS, stops, Bool.false_eq_true, ↓reduceIte, wantedA, okDst, AS.put, adr, dropKey, Nat.reduceEqDiff, reduceCtorEq, Nat.reduceLT, decide_true, step1, isOwnCall, hxOp, px, pbuild, ty47, List.map_cons, ofVal, List.map_nil, AS.eval, AS.get, Lift.look, ofConst, pfill, List.all_cons, ty31, Option.isSome_some, ty45, List.all_nil, Bool.and_true, okZero, Value.oneCell', known, and_self, known1, Option.getD_some, PV.cells, List.length_cons, List.length_nil, Nat.zero_add, Nat.reduceAdd, thenQ, true_and]
  intro m hm
  have b1 := b0.over (.inr hm) (.cells 47 2 [.val (.slice none 0 0), .val (.slice none 0 0)])
  have hm0 := incFresh b0.inc hm
  have r1 : RefOn h m (B0.ps.map Pr.pid) B0.items (h.put m (.cells 47 2 [.val (.slice none 0 0), .val (.slice none 0 0)])) := by
    rw [ps0, i0]
    exact ⟨_, _, Heap.put_same _ _ _, hm0, ⟨none, 0, rfl, Nat.le_refl _, Nat.zero_le _, (fun x hx => by cases hx), .inl ⟨rfl, rfl, rfl⟩⟩, ⟨none, 0, rfl, Nat.le_refl _, Nat.zero_le _, (fun x hx => by cases hx), .inl ⟨rfl, rfl, rfl⟩⟩, (Inc.self h).put hm0 _⟩
  generalize h1.put m (.cells 47 2 [.val (.slice none 0 0), .val (.slice none 0 0)]) = H1 at b1 ⊢
  generalize h.put m (.cells 47 2 [.val (.slice none 0 0), .val (.slice none 0 0)]) = HA1 at b1 r1
  refine SW.seq (SW.seq (SW.run [] _ ?_))
  simp only [wpC, Bool.false_eq_true, ↓reduceIte, wpS, stops, wantedA, okDst, Nat.reduceLT, decide_true, step1, isOwnCall, hxOp, px, AS.eval, ofConst, ofVal, thenQ, AS.put, dropKey, Nat.reduceEqDiff, reduceCtorEq, true_and]
  refine SW.block (SW.loop (fun n a => ∃ (j : Nat) (B : Bo) (HA : Heap), j ≤ l.length ∧ l.length - j = n ∧ BOn HA noG B a.h ∧ WF B ∧ RefOn h m (B.ps.map Pr.pid) B.items HA ∧ B.items.length ≤ 8 * j ∧ B.time ≤ j ∧ B.ps.length ≤ j ∧ B.rb = B0.rb ∧ a.n = 41 ∧ hasAll a [(0, .list 3 (elA l)), (3, adr B0.rb), (4, adr m), (5, .int .i64 (j : Nat))]) l.length ⟨0, B0, HA1, Nat.zero_le _, rfl, b1, w0, r1, by rw [i0]; exact Nat.zero_le _, by rw [t0]; exact Nat.zero_le _, by rw [ps0]; exact Nat.zero_le _, rfl, rfl, ?_⟩ ?_)
  · simp only [hasAll, AS.get, Lift.look, Nat.succ_ne_zero, ↓reduceIte, Option.getD_some, Nat.reduceEqDiff, adr, Int.cast_ofNat_Int, and_self]
  rintro n a ⟨j, B, HA, hj, hn', b, w, r, si, st, sp, rb, hn, hs⟩
  refine SW.norm ⟨hn, rfl, hs⟩ ?_
  clear b1 r1 hm hm0 b0
  generalize a.h = H at b
  clear hn hs
  refine SW.seq (SW.run [] _ ?_)
  by_cases hlt : j < l.length
  · have hw : IntKind.i64.wrap ((j : Int) + 1) = ((j + 1 : Nat) : Int) := by rw [w64 (by omega) (by omega)]; rfl
    have hg := elA_at hlt
    have h8 := hos _ (List.getElem_mem hlt)
    simp only [wpC, mayStop, stops, isFlt, Specs.has, Specs.hasO, Bool.or_false, Specs.hasH, Bool.not_false, List.any_cons, List.any_nil, Bool.false_eq_true, ↓reduceIte, wpS, wantedA, okDst, Nat.reduceLT, decide_true, step1, isOwnCall, hxOp, px, AS.eval, AS.get, Lift.look, reduceCtorEq, Nat.reduceEqDiff, Option.getD_some, AS.put, dropKey, Nat.succ_ne_zero, pcall, ty22, plen, elA_len, okLen, and_self, isNilC, pbinP, pbinI, Int.ofNat_lt, hlt, thenQ, isB, tmpOf, asB, hasAll, and_true, true_and]
    refine SW.seq (SW.block (SW.seq (SW.regionCut [] rfl (RestC.cut [] [0, 1, 2, 3, 4, 5] 6 (k := 11) rfl (by kernel_rfl) ?_))))
    simp only [wpO, LOp, List.getElem?_toArray, List.getElem?_cons_zero, okDst, Nat.reduceLT, decide_true, wantedA, ↓reduceIte, step1, isOwnCall, Bool.false_eq_true, hxOp, px, AS.eval, AS.get, Lift.look, Nat.reduceEqDiff, reduceCtorEq, adr, Option.getD_some, List.getElem?_cons_succ, AS.put, dropKey, Nat.succ_ne_zero, pindexAddr, ty22, ty30, ne_eq, not_false_eq_true, Int.natCast_nonneg, Int.toNat_natCast, elA_len, hlt, and_self, hg, pload, okOne, TK.isAgg, Nat.reduceBEq, Bool.or_false, List.length_cons, List.length_nil, Nat.zero_add, Nat.reduceAdd, Nat.le_refl, Lift.valOf, List.take_succ_cons, List.take_nil, Option.toList_some, true_and]
    rw [← rb]
    refine SWO.call (.func 18) #[.tmp 23, .tmp 24, .tmp 28] _ 18 #[] #[] rfl rfl rfl rfl rfl rfl (Act_ok l[j].1 l[j].2.1 l[j].2.2 h8 ⟨b, w, r, by omega, by omega, by omega⟩) rfl rfl ?_ (fun c h' hc => by cases hc.1)
    rintro p' h2 ⟨hp', HA2, B2, b2, w2, r2, rb2, si2, st2, sp2⟩
    injection hp' with hp'
    subst hp'
    refine SWO.run [] 1000 ?_
    simp only [wpS, thenQ, AS.put, dropKey, Nat.reduceEqDiff, ↓reduceIte, reduceCtorEq]
    refine RestC.cut [] [7] 8 (k := 9) rfl (by kernel_rfl) ?_
    simp only [wpO, LOp, List.getElem?_toArray, List.getElem?_cons_succ, List.getElem?_cons_zero, okDst, Nat.reduceLT, decide_true, wantedA, ↓reduceIte, step1, isOwnCall, Bool.false_eq_true, hxOp, px, pun, AS.eval, AS.get, Lift.look, Option.getD_some, Bool.not_true, Option.toList_some, AS.put, dropKey, Nat.reduceEqDiff, reduceCtorEq, true_and]
    refine SWO.run [] 1000 ?_
    simp only [wpS, stops, Bool.false_eq_true, ↓reduceIte, wantedA, okDst, Nat.reduceLT, decide_true, step1, isOwnCall, hxOp, px, AS.eval, AS.get, Lift.look, Option.getD_some, thenQ, AS.put, dropKey, Nat.reduceEqDiff, reduceCtorEq, true_and]
    have hc : SCalls env 17 [adr B2.rb] h2 (fun e h' => ∃ p, e = .ret p ∧ (p = .list 4 (elE B2.items) ∧ h' = h2)) := (Entries_ok b2 w2 (by omega)).mono fun e h' q => ⟨_, q.1, rfl, q.2⟩
    rw [← rb2]
    refine RestC.cutM [] ⟨10, _, 17, _, _, [adr B2.rb], h2, fun p h' => p = .list 4 (elE B2.items) ∧ h' = h2, rfl, rfl, hc⟩ (fun _ => True) (fun p h' q r _ => by rw [q.2]) [(9, false), (11, false), (12, false), (13, false), (14, true)] 15 (k := 3) rfl (by kernel_rfl) ?_
    have rd := r2.rd b2.inc
    obtain ⟨v1, v2, hm2, R1, R2⟩ := id rd
    simp only [wpP, Bool.false_eq_true, keptP, AS.get, Lift.look, ptrAt, List.getElem?_toArray, List.getElem?_cons_succ, List.getElem?_cons_zero, ptrT, Nat.succ_ne_zero, ↓reduceIte, Option.getD_some, false_implies, LOp, okDst, Nat.reduceLT, decide_true, wantedA, Option.bind_some, beq_self_eq_true, step1, isOwnCall, hxOp, px, AS.eval, Nat.reduceEqDiff, reduceCtorEq, AS.put, dropKey, pfieldAddr, fieldOf, ty47, fieldIn, ty45, Option.map_some, ne_eq, not_false_eq_true, Nat.zero_add, forall_const, pload, hm2, okOne, TK.isAgg, Bool.or_true, Nat.reduceAdd, List.length_cons, List.length_nil, Nat.le_refl, and_self, Lift.valOf, List.drop_succ_cons, List.drop_zero, List.take_succ_cons, List.take_nil, List.getD_cons_zero, HandOK, okArg, ofConst, ofVal, List.all_cons, List.all_nil, Bool.and_true, List.map_cons, List.map_nil, adr, List.getElem_toArray, List.getElem_cons_succ, List.getElem_cons_zero, true_and]
    rintro p' h' ⟨rfl, rfl⟩
    obtain ⟨A2, c2, ev2, _⟩ := id R2
    subst ev2
    obtain ⟨N2, eN2⟩ : ∃ n, n = (elE B2.items).length := ⟨_, rfl⟩
    rw [← eN2] at R2 ⊢
    refine RestC.last [eSameR B2.items] [15, 16, 17] rfl (by kernel_rfl) ?_
    simp only [wpO, LOp, List.getElem?_toArray, List.getElem?_cons_succ, List.getElem?_cons_zero, okDst, Nat.reduceLT, decide_true, wantedA, Option.bind_some, AS.get, Lift.look, Nat.reduceEqDiff, ↓reduceIte, Option.getD_some, beq_self_eq_true, step1, isOwnCall, Specs.hasO, Bool.false_eq_true, hxOp, Specs.hasH, eSameR, hx, okArg, AS.eval, ofConst, ofVal, List.all_cons, List.all_nil, Bool.and_true, Specs.atH, List.map_cons, List.map_nil, sSameR, true_and, AS.put, dropKey, reduceCtorEq, px, pun, Bool.not_true, ppick_bool, thenQ]
    refine ⟨⟨R2, by omega⟩, ?_⟩
    refine SW.run [] _ ?_
    simp only [wpC, isB, AS.get, Lift.look, tmpOf, ↓reduceIte, Option.getD_some, asB, Bool.false_eq_true, inQ, thenQ, true_and]
    refine SW.run [] _ ?_
    simp only [wpC, Bool.false_eq_true, ↓reduceIte, wpS, stops, wantedA, okDst, Nat.reduceLT, decide_true, step1, isOwnCall, hxOp, px, AS.eval, AS.get, Lift.look, Nat.reduceEqDiff, reduceCtorEq, Option.getD_some, isFlt, ty3, AS.put, dropKey, isNilC, pbinP, ofConst, ofVal, pbinI, hw, thenQ, Nat.succ_ne_zero, true_and]
    exact ⟨n - 1, by omega, j + 1, B2, HA2, hlt, by omega, b2, w2, r2, by omega, by omega, by omega, rfl, rfl⟩
  · have hjl : ¬ ((j : Int) < (l.length : Int)) := by omega
    simp only [wpC, mayStop, stops, isFlt, Specs.has, Specs.hasO, Bool.or_false, Specs.hasH, Bool.not_false, List.any_cons, List.any_nil, Bool.false_eq_true, ↓reduceIte, wpS, wantedA, okDst, Nat.reduceLT, decide_true, step1, isOwnCall, hxOp, px, AS.eval, AS.get, Lift.look, reduceCtorEq, Nat.reduceEqDiff, Option.getD_some, AS.put, dropKey, Nat.succ_ne_zero, pcall, ty22, plen, elA_len, okLen, and_self, isNilC, pbinP, pbinI, hjl, decide_false, thenQ, isB, tmpOf, asB, inQ, true_and]
    refine SW.run [] _ ?_
    simp only [wpC, mayStop, stops, isFlt, Specs.has, Specs.hasO, Bool.or_false, Specs.hasH, Bool.not_false, List.any_cons, List.any_nil, Bool.false_eq_true, ↓reduceIte, wpS, wantedA, okDst, Nat.reduceLT, decide_true, step1, isOwnCall, hxOp, px, AS.eval, ofConst, ofVal, thenQ, RPost, sres, AS.put, dropKey, Nat.reduceEqDiff, reduceCtorEq, Try.results4, sresL, sres1, AS.get, Lift.look, Option.getD_some, Option.some.injEq, Ret_fin, exists_eq_left', true_and]
    exact Inc.to (held b r)
end Go.Proofs.Ytekgfneapofgpaa
