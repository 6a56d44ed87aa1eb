/- Contracts of functions that the law reaches. -/
import Derived.Test.Ytekgfneapofgpaas
set_option linter.unusedSimpArgs false
set_option linter.unusedVariables false
namespace Go.Proofs.Ytekgfneapofgpaa
open Go Go.RowKit Go.Proofs.Ytekgfneapofgpaa Go.Proofs.Ytekgfneapofgpaa.Lift

/-! The reference: a process waits -/
def newE (p : Int) (os : List (Int × Bool)) (n : Nat) : List (List PV) := (List.range n).map fun j => [.int .i64 p, .int .i64 (j : Nat), .int .i64 (os.getD j (0, false)).1, .bool (os.getD j (0, false)).2]
theorem newE_len (p : Int) (os : List (Int × Bool)) (n : Nat) : (newE p os n).length = n := by unfold newE; simp
theorem newE_next (p : Int) {os : List (Int × Bool)} {n : Nat} (h : n < os.length) : newE p os (n + 1) = newE p os n ++ [[.int .i64 p, .int .i64 (n : Nat), .int .i64 os[n].1, .bool os[n].2]] := by
  unfold newE
  rw [List.range_succ, List.map_append, List.map_cons, List.map_nil, List.getD_eq_getElem?_getD, List.getElem?_eq_getElem h]
  rfl
theorem RWait_no (p : Int) (os : List (Int × Bool)) {h : Heap} {m : Nat} {ps : List Int} {es : List It} (rd : Rd m ps es h) (hlp : ps.length ≤ 1000000) (hp : ps.contains p = true) : SCalls env 32 [adr m, .int .i64 p, .list 2 (elO os)] h (Ret (.bool false) h) := by
  refine SCalls.body Try.func32 rfl rfl (by simp [Try.ntmps32]) ?_
  refine SW.seq (SW.run [] _ ?_)
  simp only [wpC, Bool.false_eq_true, ↓reduceIte, wpS, stops, wantedA, okDst, Try.ntmps32, Nat.reduceLT, decide_true, step1, isOwnCall, hxOp, px, AS.eval, ofConst, ofVal, thenQ, AS.put, enumA, Nat.zero_add, Nat.reduceAdd, dropKey, reduceCtorEq, Nat.reduceEqDiff, true_and]
  refine SW.seq (SW.run [eWaitsR m ps es] _ ?_)
  simp only [wpC, mayStop, stops, isFlt, Specs.has, Specs.hasO, Bool.or_false, Specs.hasH, eWaitsR, Bool.false_or, List.any_cons, ↓reduceIte, Bool.not_true, List.any_nil, Bool.false_eq_true, wpS, wantedA, okDst, Nat.reduceLT, decide_true, step1, isOwnCall, hxOp, px, AS.eval, AS.get, Lift.look, Nat.succ_ne_zero, adr, Option.getD_some, AS.put, dropKey, Nat.reduceEqDiff, reduceCtorEq, Bool.or_true, hx, okArg, ofConst, ofVal, List.all_cons, List.all_nil, Bool.and_true, Specs.atH, List.map_cons, List.map_nil, sWaitsR, true_and, hp, thenQ, isB, tmpOf, asB, RPost, sres, Try.results32, sresL, sres1, Option.some.injEq, Ret_fin, HTo_self, and_true, exists_eq_left', and_self]
  exact ⟨rd, hlp⟩
/-- The reference's board while it takes entries. -/
def RefM (h0 : Heap) (m : Nat) (ps : List Int) (xs : List (List PV)) (hA : Heap) : Prop :=
  ∃ v1 v2, hA m = some (.cells 47 2 [v1, v2]) ∧ h0 m = none ∧ RowIn h0 hA 3 1 (elP ps) v1 ∧ RowIn h0 hA 78 4 xs v2 ∧ Inc h0 hA
theorem RefM.store {h0 hA : Heap} {m : Nat} {ps : List Int} {xs : List (List PV)} {u1 u2 v1 v2 : PV} (hm : hA m = some (.cells 47 2 [u1, u2])) (h0m : h0 m = none) (w1 : RowIn h0 hA 3 1 (elP ps) v1) (w2 : RowIn h0 hA 78 4 xs v2) (i : Lift.Inc h0 hA) : RefM h0 m ps xs (hA.put m (.cells 47 2 [v1, v2])) := by
  refine ⟨_, _, Heap.put_same _ _ _, h0m, w1.keep fun r cs n e => ?_, w2.keep fun r cs n e => ?_, fun k Y e => ?_⟩
  · have : r ≠ m := by rintro rfl; rw [hm] at e; cases e
    rw [Heap.put_ne _ _ this]; exact e
  · have : r ≠ m := by rintro rfl; rw [hm] at e; cases e
    rw [Heap.put_ne _ _ this]; exact e
  · have : k ≠ m := by rintro rfl; rw [h0m] at e; cases e
    rw [Heap.put_ne _ _ this]; exact i _ _ e
set_option maxHeartbeats 1000000 in
set_option maxRecDepth 100000 in
theorem RWait_ok (p : Int) (os : List (Int × Bool)) (hos : os.length ≤ 1000000) {h0 hA h : Heap} {gn : It → Bool} {B : Bo} {m : Nat} {ps : List Int} {es es' : List It} (r : RefOn h0 m ps es hA) (b : BOn hA gn B h) (hlp : ps.length ≤ 1000000) (hle : es.length ≤ 1000000) (hp : ps.contains p = false) (hes : elE es' = elE es ++ newE p os os.length) :
    SCalls env 32 [adr m, .int .i64 p, .list 2 (elO os)] h (fun e h' => e = .ret (.bool true) ∧ ∃ hA', RefOn h0 m (ps ++ [p]) es' hA' ∧ BOn hA' gn B h') := by
  obtain ⟨Q, hQ⟩ : ∃ Q : SEnd → Heap → Prop, Q = (fun e h' => e = .ret (.bool true) ∧ ∃ hA', RefOn h0 m (ps ++ [p]) es' hA' ∧ BOn hA' gn B h') := ⟨_, rfl⟩
  rw [← hQ]
  have rd := r.rd b.inc
  obtain ⟨v1, v2, hm, h0m, r1, r2, i0⟩ := r
  refine SCalls.body Try.func32 rfl rfl (by simp [Try.ntmps32]) ?_
  refine SW.seq (SW.run [] _ ?_)
  simp only [wpC, Bool.false_eq_true, ↓reduceIte, wpS, stops, wantedA, okDst, Try.ntmps32, Nat.reduceLT, decide_true, step1, isOwnCall, hxOp, px, AS.eval, ofConst, ofVal, thenQ, AS.put, enumA, Nat.zero_add, Nat.reduceAdd, dropKey, reduceCtorEq, Nat.reduceEqDiff, true_and]
  refine SW.seq (SW.run [eWaitsR m ps es] _ ?_)
  simp only [wpC, mayStop, stops, isFlt, Specs.has, Specs.hasO, Bool.or_false, Specs.hasH, eWaitsR, Bool.false_or, List.any_cons, ↓reduceIte, Bool.not_true, List.any_nil, Bool.false_eq_true, wpS, wantedA, okDst, Nat.reduceLT, decide_true, step1, isOwnCall, hxOp, px, AS.eval, AS.get, Lift.look, Nat.succ_ne_zero, adr, Option.getD_some, AS.put, dropKey, Nat.reduceEqDiff, reduceCtorEq, Bool.or_true, hx, okArg, ofConst, ofVal, List.all_cons, List.all_nil, Bool.and_true, Specs.atH, List.map_cons, List.map_nil, sWaitsR, true_and, hp, thenQ, isB, tmpOf, asB]
  refine ⟨⟨rd, hlp⟩, ?_⟩
  obtain ⟨hA1, hX, ow, b1, i1, kp⟩ := r1.own b i0
  obtain ⟨A1, c1, ev1⟩ := Own.form ow
  obtain ⟨A2, c2, ev2, _⟩ := id r2
  subst ev1 ev2
  have m1 := kp _ _ hm (fun _ _ e => by cases e)
  have w2 := r2.keep (h' := hA1) fun r cs n e => kp _ _ e (fun _ _ e => by cases e)
  have hm1 := b.inc _ _ hm
  obtain ⟨N1, eN1⟩ : ∃ n, n = (elP ps).length := ⟨_, rfl⟩
  obtain ⟨N2, eN2⟩ : ∃ n, n = (elE es).length := ⟨_, rfl⟩
  rw [← eN1, ← eN2] at hm1
  refine SW.seq (SW.run [] _ ?_)
  simp only [wpC, Bool.false_eq_true, ↓reduceIte, wpS, stops, wantedA, okDst, Nat.reduceLT, decide_true, step1, isOwnCall, hxOp, px, AS.eval, AS.get, Lift.look, Nat.succ_ne_zero, Option.getD_some, AS.put, dropKey, Nat.reduceEqDiff, reduceCtorEq, pfieldAddr, fieldOf, ty47, fieldIn, List.getElem?_cons_zero, ty31, Option.map_some, ne_eq, not_false_eq_true, Nat.add_zero, pload, hm1, okOne, TK.isAgg, beq_self_eq_true, Bool.or_true, Nat.zero_add, List.length_cons, List.length_nil, Nat.reduceAdd, Nat.reduceLeDiff, and_self, Lift.valOf, List.drop_zero, List.take_succ_cons, List.take_zero, List.getD_cons_zero, pbuildSlice, ty3, List.replicate, List.map_cons, ofVal, List.map_nil, List.flatten_cons, List.flatten_nil, List.append_nil, ofConst, pfill, PV.cells, Nat.reduceMul, Nat.le_refl, splice, List.nil_append, List.drop_succ_cons, List.drop_nil, okZero, List.all_cons, Value.oneCell', List.all_nil, Bool.and_true, known, chunk, List.take_nil, true_and]
  refine SWO.append (.tmp 15) (.tmp 17) 31 31 rfl ty31 rfl ty3 (by decide) rfl ty31 rfl (by rw [← eN1] at ow; exact ow) (ys := [[.int .i64 p]]) rfl (by rw [elP_len]; show (_ + 1) * 8 ≤ _; omega) (by rw [elP_len]; simp [maxLen]; omega) rfl rfl ?_
  intro v' h' ow' _ _
  obtain ⟨hA2, b2, i2, w1⟩ := RowIn.ofOwn ow' b1 i1
  obtain ⟨Av, cv, ev⟩ := Own.form ow'
  clear ow' ow
  subst ev
  have m2 := b2.inc _ _ (i2 _ _ m1)
  rw [← eN1, ← eN2] at m2
  obtain ⟨N3, eN3⟩ : ∃ n, n = (elP ps ++ [[PV.int .i64 p]]).length := ⟨_, rfl⟩
  rw [← eN3] at w1 ⊢
  refine SWO.run [] 1000 ?_
  simp only [wpS, stops, Bool.false_eq_true, ↓reduceIte, wantedA, okDst, AS.put, dropKey, Nat.reduceEqDiff, reduceCtorEq, Nat.reduceLT, decide_true, step1, isOwnCall, hxOp, px, AS.eval, AS.get, Lift.look, Option.getD_some, pfieldAddr, fieldOf, ty47, fieldIn, List.getElem?_cons_zero, ty31, Option.map_some, ne_eq, Nat.succ_ne_zero, not_false_eq_true, Nat.add_zero, hx, m2, known1, PV.cells, List.length_cons, List.length_nil, Nat.zero_add, Nat.reduceAdd, Nat.reduceLeDiff, and_self, splice, List.take_zero, List.nil_append, List.drop_succ_cons, List.drop_zero, List.cons_append, thenQ, true_and]
  have w2' := w2.keep (h' := hA2) fun r cs n e => i2 _ _ e
  have m3 := i2 _ _ m1
  have eP : elP ps ++ [[.int .i64 p]] = elP (ps ++ [p]) := by unfold elP; rw [List.map_append]; rfl
  rw [eP] at w1
  have R3 := RefM.store (ps := ps ++ [p]) (xs := elE es) m3 h0m w1 w2' (incTrans i1 i2)
  have b3 := b2.over (r := m) (.inl (by rw [m3]; simp)) (.cells 47 2 [.val (.slice Av N3 cv), .val (.slice A2 (elE es).length c2)])
  rw [← eN2] at b3 R3
  generalize h'.put m (.cells 47 2 [.val (.slice Av N3 cv), .val (.slice A2 N2 c2)]) = H at b3 ⊢
  generalize hA2.put m (.cells 47 2 [.val (.slice Av N3 cv), .val (.slice A2 N2 c2)]) = HA at b3 R3
  clear hm r1 r2 i0 b i1 kp m1 w2 hm1 b1 b2 i2 w1 m2 w2' m3 rd
  refine SW.seq (SW.seq (SW.run [] _ ?_))
  simp only [wpC, Bool.false_eq_true, ↓reduceIte, wpS, stops, wantedA, okDst, Nat.reduceLT, decide_true, step1, isOwnCall, hxOp, px, AS.eval, ofConst, ofVal, thenQ, AS.put, dropKey, Nat.reduceEqDiff, reduceCtorEq, true_and]
  refine SW.block (SW.loop (fun n a => ∃ (i : Nat) (hA' : Heap), i ≤ os.length ∧ os.length - i = n ∧ RefM h0 m (ps ++ [p]) (elE es ++ newE p os i) hA' ∧ BOn hA' gn B a.h ∧ a.n = 49 ∧ hasAll a [(0, adr m), (1, .int .i64 p), (2, .list 2 (elO os)), (7, .int .i64 (i : Nat))]) os.length ⟨0, HA, Nat.zero_le _, rfl, by rw [show newE p os 0 = [] from rfl, List.append_nil]; exact R3, b3, rfl, ?_⟩ ?_)
  · simp only [hasAll, AS.get, Lift.look, Nat.succ_ne_zero, ↓reduceIte, Option.getD_some, adr, Nat.reduceEqDiff, reduceCtorEq, Int.cast_ofNat_Int, and_self]
  clear R3 b3
  rintro n a ⟨i, hB, hi, hn', R, b, hn, hs⟩
  refine SW.norm ⟨hn, rfl, hs⟩ ?_
  generalize a.h = H at b
  clear hn hs
  refine SW.seq (SW.run [] _ ?_)
  by_cases hlt : i < os.length
  · have hw : IntKind.i64.wrap ((i : Int) + 1) = ((i + 1 : Nat) : Int) := by rw [w64 (by omega) (by omega)]; rfl
    have hg := elO_at hlt
    have hnx := newE_next p hlt
    obtain ⟨v1, v2, hm, _, r1, r2, i0⟩ := R
    have hXl : (elE es ++ newE p os i).length ≤ 3000000 := by rw [List.length_append, elE_len, newE_len]; omega
    have eA : elE es ++ newE p os (i + 1) = (elE es ++ newE p os i) ++ [[.int .i64 p, .int .i64 (i : Nat), .int .i64 os[i].1, .bool os[i].2]] := by rw [hnx, List.append_assoc]
    generalize elE es ++ newE p os i = xs at r2 hXl eA
    obtain ⟨hA1, hX, ow, b1, i1, kp⟩ := r2.own b i0
    obtain ⟨A2, c2, ev2⟩ := Own.form ow
    obtain ⟨A1, c1, ev1, _⟩ := id r1
    subst ev1 ev2
    have m1 := kp _ _ hm (fun _ _ e => by cases e)
    have w1 := r1.keep (h' := hA1) fun r cs n e => kp _ _ e (fun _ _ e => by cases e)
    have hm1 := b.inc _ _ hm
    obtain ⟨N1, eN1⟩ : ∃ n, n = (elP (ps ++ [p])).length := ⟨_, rfl⟩
    obtain ⟨N2, eN2⟩ : ∃ n, n = xs.length := ⟨_, rfl⟩
    rw [← eN1, ← eN2] at hm1
    simp only [wpC, mayStop, stops, isFlt, Specs.has, Specs.hasO, Bool.or_false, Specs.hasH, Bool.not_false, List.any_cons, List.any_nil, Bool.false_eq_true, ↓reduceIte, wpS, wantedA, okDst, Nat.reduceLT, decide_true, step1, isOwnCall, hxOp, px, AS.eval, AS.get, Lift.look, reduceCtorEq, Nat.reduceEqDiff, Option.getD_some, AS.put, dropKey, pcall, ty76, plen, elO_len, okLen, and_self, isNilC, pbinP, pbinI, Int.ofNat_lt, hlt, thenQ, isB, tmpOf, asB, hasAll, and_true, true_and]
    refine SW.seq (SW.block (SW.regionFloat [] [1, 2, 3, 4, 5, 6, 7, 8, 9, 10, 11, 12, 13, 14, 15, 16, 17, 18] 19 0 [0, 20, 21, 22] [20, 21, 22] rfl rfl (by rfl) (by rfl) (by kernel_rfl) (by kernel_rfl) (by kernel_rfl) (by kernel_rfl) ?_))
    simp only [wpO, LOp, List.getElem?_toArray, List.getElem?_cons_succ, List.getElem?_cons_zero, okDst, Nat.reduceLT, decide_true, wantedA, ↓reduceIte, step1, isOwnCall, Bool.false_eq_true, hxOp, px, AS.eval, AS.get, Lift.look, Nat.succ_ne_zero, adr, Option.getD_some, AS.put, dropKey, Nat.reduceEqDiff, reduceCtorEq, pfieldAddr, fieldOf, ty47, fieldIn, ty45, Option.map_some, ne_eq, not_false_eq_true, Nat.zero_add, pload, hm1, okOne, TK.isAgg, beq_self_eq_true, Bool.or_true, Nat.reduceAdd, List.length_cons, List.length_nil, Nat.le_refl, and_self, Lift.valOf, List.drop_succ_cons, List.drop_zero, List.take_succ_cons, List.take_nil, List.getD_cons_zero, pindexAddr, ty76, ty81, Int.natCast_nonneg, Int.toNat_natCast, elO_len, hlt, hg, ty3, Nat.reduceLeDiff, List.take_zero, ty4, pbuild, ty78, List.map_cons, ofVal, List.map_nil, ofConst, pfill, placeOf, PV.cells, splice, List.nil_append, List.cons_append, List.drop_nil, List.append_nil, List.all_cons, Option.isSome_some, List.all_nil, Bool.and_true, okZero, Value.oneCell', known, pbuildSlice, List.replicate, List.flatten_cons, List.flatten_nil, Nat.reduceMul, chunk, decide_eq_true_eq, PBad, hx, known1, HBad, inQ, thenQ, true_and]
    rw [← eN2] at ow
    refine ⟨?_, ?_⟩
    all_goals
      refine SWO.append (.tmp 31) (.tmp 45) 45 45 rfl ty45 rfl ty78 (by decide) rfl ty45 rfl ow (ys := [[.int .i64 p, .int .i64 (i : Nat), .int .i64 os[i].1, .bool os[i].2]]) rfl (by show (xs.length + 1) * 32 ≤ _; omega) (by simp [maxLen]; omega) rfl rfl ?_
      intro v' h' ow' _ _
      obtain ⟨hA2, b2, i2, w2⟩ := RowIn.ofOwn ow' b1 i1
      obtain ⟨Av, cv, ev⟩ := Own.form ow'
      clear ow'
      subst ev
      obtain ⟨N3, eN3⟩ : ∃ n, n = (xs ++ [[PV.int .i64 p, PV.int .i64 (i : Nat), PV.int .i64 os[i].1, PV.bool os[i].2]]).length := ⟨_, rfl⟩
      rw [← eN3] at w2 ⊢
      have m3 := i2 _ _ m1
      have m2 := b2.inc _ _ m3
      rw [← eN1, ← eN2] at m2
      have R3 := RefM.store (ps := ps ++ [p]) m3 h0m (w1.keep (h' := hA2) fun r cs n e => i2 _ _ e) w2 (incTrans i1 i2)
      rw [← eN1] at R3
      have b3 := b2.over (r := m) (.inl (by rw [m3]; simp)) (.cells 47 2 [.val (.slice A1 N1 c1), .val (.slice Av N3 cv)])
      refine SWO.run [] 1000 ?_
      simp only [wpS, thenQ, AS.put, dropKey, Nat.reduceEqDiff, ↓reduceIte, reduceCtorEq, Nat.reduceLT, decide_true, Lift.look, Nat.succ_ne_zero, Option.getD_some, Nat.zero_add, m2, List.length_cons, List.length_nil, Nat.reduceAdd, Nat.le_refl, and_self, List.take_succ_cons, List.take_zero, List.cons_append, List.nil_append, List.drop_succ_cons, List.drop_nil, List.append_nil, true_and]
      refine SW.run [] _ ?_
      simp only [wpC, Bool.false_eq_true, ↓reduceIte, wpS, stops, wantedA, okDst, Nat.reduceLT, decide_true, step1, isOwnCall, hxOp, px, AS.eval, AS.get, Lift.look, Nat.reduceEqDiff, reduceCtorEq, Option.getD_some, isFlt, ty3, AS.put, dropKey, isNilC, pbinP, ofConst, ofVal, pbinI, hw, thenQ, Nat.succ_ne_zero, true_and]
      exact ⟨n - 1, by omega, i + 1, _, hlt, by omega, by rw [eA]; exact R3, b3, rfl⟩
  · obtain rfl : i = os.length := by omega
    simp only [wpC, mayStop, stops, isFlt, Specs.has, Specs.hasO, Bool.or_false, Specs.hasH, Bool.not_false, List.any_cons, List.any_nil, Bool.false_eq_true, ↓reduceIte, wpS, wantedA, okDst, Nat.reduceLT, decide_true, step1, isOwnCall, hxOp, px, AS.eval, AS.get, Lift.look, reduceCtorEq, Nat.reduceEqDiff, Option.getD_some, AS.put, dropKey, pcall, ty76, plen, elO_len, okLen, and_self, isNilC, pbinP, pbinI, Int.ofNat_lt, Nat.lt_irrefl, decide_false, thenQ, isB, tmpOf, asB, inQ, true_and]
    refine SW.run [] _ ?_
    simp only [wpC, mayStop, stops, isFlt, Specs.has, Specs.hasO, Bool.or_false, Specs.hasH, Bool.not_false, List.any_cons, List.any_nil, Bool.false_eq_true, ↓reduceIte, wpS, wantedA, okDst, Nat.reduceLT, decide_true, step1, isOwnCall, hxOp, px, AS.eval, ofConst, ofVal, thenQ, RPost, sres, AS.put, dropKey, Nat.reduceEqDiff, reduceCtorEq, Try.results32, sresL, sres1, AS.get, Lift.look, Option.getD_some, Option.some.injEq, exists_eq_left', true_and]
    rw [hQ]
    refine ⟨_, .refl _ _, rfl, hB, ?_, b⟩
    unfold RefOn
    rw [hes]
    exact R
end Go.Proofs.Ytekgfneapofgpaa
