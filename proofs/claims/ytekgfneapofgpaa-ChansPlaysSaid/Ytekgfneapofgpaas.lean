/- Contracts of functions that the law reaches. -/
import Derived.Test.Ytekgfneapofgpaar
set_option linter.unusedSimpArgs false
set_option linter.unusedVariables false
namespace Go.Proofs.Ytekgfneapofgpaa
open Go Go.RowKit Go.Proofs.Ytekgfneapofgpaa Go.Proofs.Ytekgfneapofgpaa.Lift

/-! The reference: an offer meets -/
theorem RefOn.over' {h0 hA : Heap} {m : Nat} {ps : List Int} {es : List It} (r : RefOn h0 m ps es hA) {q : Nat} (hq : h0 q ≠ none ∨ hA q = none) (X : AObj) : RefOn (h0.put q X) m ps es (hA.put q X) := by
  obtain ⟨v1, v2, hm, h0m, r1, r2, i⟩ := r
  have ne : ∀ {x Y}, hA x = some Y → h0 x = none → x ≠ q := fun a b => by
    rintro rfl
    rcases hq with k | k
    · exact k b
    · rw [k] at a; cases a
  have hmq := ne hm h0m
  have row : ∀ {t sz xs v}, RowIn h0 hA t sz xs v → RowIn (h0.put q X) (hA.put q X) t sz xs v := fun k => by
    obtain ⟨A, c, e1, e2, e3, e4, e5⟩ := k
    refine ⟨A, c, e1, e2, e3, e4, e5.imp id fun ⟨r, a, b, d⟩ => ?_⟩
    have := ne b d
    exact ⟨r, a, by rw [Heap.put_ne _ _ this]; exact b, by rw [Heap.put_ne _ _ this]; exact d⟩
  refine ⟨v1, v2, by rw [Heap.put_ne _ _ hmq]; exact hm, by rw [Heap.put_ne _ _ hmq]; exact h0m, row r1, row r2, fun k Y e => ?_⟩
  by_cases hk : k = q
  · subst hk; rw [Heap.put_same] at e ⊢; exact e
  · rw [Heap.put_ne _ _ hk] at e ⊢; exact i _ _ e
theorem RMeet_none (p c : Int) (s : Bool) {h : Heap} {m : Nat} {ps : List Int} {es : List It} (rd : Rd m ps es h) (hle : es.length ≤ 1000000) (hf : firstI es p c s = -1) : SCalls env 31 [adr m, .int .i64 p, .agg [.int .i64 c, .bool s]] h (Ret (.tuple [enZ, .bool false]) h) := by
  refine SCalls.body Try.func31 rfl rfl (by simp [Try.ntmps31]) ?_
  refine SW.seq (SW.run [] _ ?_)
  simp only [wpC, Bool.false_eq_true, ↓reduceIte, wpS, stops, wantedA, okDst, Try.ntmps31, Nat.reduceLT, decide_true, step1, known1, AS.eval, AS.get, enumA, Nat.zero_add, Nat.reduceAdd, Lift.look, reduceCtorEq, Nat.reduceEqDiff, Option.getD_some, AS.put, dropKey, okAlloc, ty78, okZero, List.all_cons, Value.oneCell', List.all_nil, Bool.and_true, PV.cells, List.length_cons, List.length_nil, Heap.get_put, some_none, isOwnCall, hxOp, px, ofConst, ofVal, thenQ, zeroOf, List.map_cons, List.map_nil, true_and]
  intro r hr q hq
  have hqr : ¬ q = r := hq.1
  have hrq : ¬ r = q := fun e => hqr e.symm
  have i2 := ((Inc.self h).put hr (.cells 81 2 [.int .i64 c, .bool s])).put (r := q) (by rw [Heap.put_none]; exact hq) (.cells 78 4 [.int .i64 0, .int .i64 0, .int .i64 0, .bool false])
  have g1 : ((h.put r (.cells 81 2 [.int .i64 c, .bool s])).put q (.cells 78 4 [.int .i64 0, .int .i64 0, .int .i64 0, .bool false])) r = some (.cells 81 2 [.int .i64 c, .bool s]) := by rw [Heap.put_ne _ _ hrq, Heap.put_same]
  have g2 : ((h.put r (.cells 81 2 [.int .i64 c, .bool s])).put q (.cells 78 4 [.int .i64 0, .int .i64 0, .int .i64 0, .bool false])) q = some (.cells 78 4 [.int .i64 0, .int .i64 0, .int .i64 0, .bool false]) := Heap.put_same _ _ _
  generalize (h.put r (.cells 81 2 [.int .i64 c, .bool s])).put q (.cells 78 4 [.int .i64 0, .int .i64 0, .int .i64 0, .bool false]) = H at i2 g1 g2 ⊢
  have rd1 := rd.inc i2
  refine SW.seq (SW.run [eFirstR m ps es] _ ?_)
  simp only [wpC, Bool.false_eq_true, ↓reduceIte, wpS, stops, wantedA, okDst, Nat.reduceLT, decide_true, step1, isOwnCall, hxOp, px, AS.eval, AS.get, Lift.look, Nat.succ_ne_zero, adr, Option.getD_some, AS.put, dropKey, Nat.reduceEqDiff, reduceCtorEq, pload, ty81, g1, okOne, TK.isAgg, Nat.reduceBEq, Bool.or_false, Nat.zero_add, List.length_cons, List.length_nil, Nat.reduceAdd, Nat.le_refl, and_self, Lift.valOf, List.drop_zero, List.take_succ_cons, List.take_nil, Specs.has, Specs.hasO, Specs.hasH, eFirstR, Bool.or_true, Bool.not_true, hx, okArg, ofConst, ofVal, List.all_cons, List.all_nil, Bool.and_true, Specs.atH, List.map_cons, List.map_nil, sFirstR, true_and, hf, thenQ]
  refine ⟨⟨rd1, hle⟩, ?_⟩
  refine SW.run [] _ ?_
  simp only [wpC, mayStop, stops, isFlt, Specs.has, Specs.hasO, Bool.or_false, Specs.hasH, Bool.not_false, List.any_cons, List.any_nil, Bool.false_eq_true, ↓reduceIte, wpS, wantedA, okDst, Nat.reduceLT, decide_true, step1, isOwnCall, hxOp, px, AS.eval, AS.get, Lift.look, Option.getD_some, AS.put, dropKey, Nat.reduceEqDiff, reduceCtorEq, isNilC, pbinP, ofConst, ofVal, pbinI, Int.reduceLT, thenQ, isB, tmpOf, asB, pbuild, ty78, List.map_cons, List.map_nil, pfill, List.all_cons, ty3, Option.isSome_some, ty4, List.all_nil, Bool.and_true, okZero, Value.oneCell', known, and_self, hx, g2, known1, PV.cells, List.length_cons, List.length_nil, Nat.zero_add, Nat.reduceAdd, Nat.le_refl, splice, List.take_zero, List.nil_append, List.drop_succ_cons, List.drop_nil, List.append_nil, RPost, sres, Try.results31, sresL, sres1, Heap.get_put, okOne, TK.isAgg, Nat.reduceBEq, Lift.valOf, List.drop_zero, List.take_succ_cons, List.take_nil, Option.some.injEq, enZ, Ret_fin, exists_eq_left', true_and]
  exact Inc.to ((fun K X e => by
    by_cases hk : K = q
    · subst hk; have := i2 _ _ e; rw [g2] at this; cases this; rw [Heap.put_same]
    · rw [Heap.put_ne _ _ hk]; exact i2 _ _ e : ∀ K X, h K = some X → _ = some X))
set_option maxHeartbeats 1000000 in
theorem RMeet_some (p c : Int) (s : Bool) {h0 hA h : Heap} {gn : It → Bool} {B : Bo} {m : Nat} {ps : List Int} {es : List It} (r : RefOn h0 m ps es hA) (b : BOn hA gn B h) (hlp : ps.length ≤ 1000000) (hle : es.length ≤ 1000000) {k : Nat} (hk : k < es.length) (hf : firstI es p c s = (k : Nat)) (hc : ps.contains es[k].pid = true) :
    SCalls env 31 [adr m, .int .i64 p, .agg [.int .i64 c, .bool s]] h (fun e h' => e = .ret (.tuple [enV es[k], .bool true]) ∧ ∃ hA', RefOn h0 m (keepP es[k].pid ps) (keepS (fun i => i.pid == es[k].pid) es) hA' ∧ BOn hA' gn B h') := by
  obtain ⟨Q, hQ⟩ : ∃ Q : SEnd → Heap → Prop, Q = (fun e h' => e = .ret (.tuple [enV es[k], .bool true]) ∧ ∃ hA', RefOn h0 m (keepP es[k].pid ps) (keepS (fun i => i.pid == es[k].pid) es) hA' ∧ BOn hA' gn B h') := ⟨_, rfl⟩
  rw [← hQ]
  obtain ⟨i0⟩ : Nonempty (Lift.Inc h0 hA) := by obtain ⟨_, _, _, _, _, _, i⟩ := r; exact ⟨i⟩
  refine SCalls.body Try.func31 rfl rfl (by simp [Try.ntmps31]) ?_
  refine SW.seq (SW.run [] _ ?_)
  simp only [wpC, Bool.false_eq_true, ↓reduceIte, wpS, stops, wantedA, okDst, Try.ntmps31, Nat.reduceLT, decide_true, step1, known1, AS.eval, AS.get, enumA, Nat.zero_add, Nat.reduceAdd, Lift.look, reduceCtorEq, Nat.reduceEqDiff, Option.getD_some, AS.put, dropKey, okAlloc, ty78, okZero, List.all_cons, Value.oneCell', List.all_nil, Bool.and_true, PV.cells, List.length_cons, List.length_nil, Heap.get_put, some_none, isOwnCall, hxOp, px, ofConst, ofVal, thenQ, zeroOf, List.map_cons, List.map_nil, true_and]
  intro q1 hq1 q2 hq2
  have hqr : ¬ q2 = q1 := hq2.1
  have b1 := b.over (.inr hq1) (.cells 81 2 [.int .i64 c, .bool s])
  have r1 := r.over' (.inr (incFresh b.inc hq1)) (.cells 81 2 [.int .i64 c, .bool s])
  have hq2' : (h.put q1 (.cells 81 2 [.int .i64 c, .bool s])) q2 = none := by rw [Heap.put_none]; exact hq2
  have b2 := b1.over (.inr hq2') (.cells 78 4 [.int .i64 0, .int .i64 0, .int .i64 0, .bool false])
  have r2 := r1.over' (.inr (incFresh b1.inc hq2')) (.cells 78 4 [.int .i64 0, .int .i64 0, .int .i64 0, .bool false])
  have j0 : Lift.Inc h0 ((h0.put q1 (.cells 81 2 [.int .i64 c, .bool s])).put q2 (.cells 78 4 [.int .i64 0, .int .i64 0, .int .i64 0, .bool false])) := ((Inc.self h0).put (incFresh (incTrans i0 b.inc) hq1) _).put (r := q2) (by rw [Heap.put_ne _ _ hqr]; exact incFresh (incTrans i0 b.inc) hq2.2) _
  have n2 : h0 q2 = none := incFresh (incTrans i0 b.inc) hq2.2
  have g0 : ((h0.put q1 (.cells 81 2 [.int .i64 c, .bool s])).put q2 (.cells 78 4 [.int .i64 0, .int .i64 0, .int .i64 0, .bool false])) q2 = some (.cells 78 4 [.int .i64 0, .int .i64 0, .int .i64 0, .bool false]) := Heap.put_same _ _ _
  have g1 : ((h.put q1 (.cells 81 2 [.int .i64 c, .bool s])).put q2 (.cells 78 4 [.int .i64 0, .int .i64 0, .int .i64 0, .bool false])) q1 = some (.cells 81 2 [.int .i64 c, .bool s]) := by rw [Heap.put_ne _ _ (fun e => hqr e.symm), Heap.put_same]
  generalize (h.put q1 (.cells 81 2 [.int .i64 c, .bool s])).put q2 (.cells 78 4 [.int .i64 0, .int .i64 0, .int .i64 0, .bool false]) = H at b2 g1 ⊢
  generalize (hA.put q1 (.cells 81 2 [.int .i64 c, .bool s])).put q2 (.cells 78 4 [.int .i64 0, .int .i64 0, .int .i64 0, .bool false]) = HA at b2 r2
  generalize (h0.put q1 (.cells 81 2 [.int .i64 c, .bool s])).put q2 (.cells 78 4 [.int .i64 0, .int .i64 0, .int .i64 0, .bool false]) = H0 at j0 g0 r2
  clear b1 r1 hq2' hq1 hq2 hqr b r
  have rd := r2.rd b2.inc
  have hk0 : ¬ (k : Int) < 0 := by omega
  refine SW.seq (SW.run [eFirstR m ps es] _ ?_)
  simp only [wpC, Bool.false_eq_true, ↓reduceIte, wpS, stops, wantedA, okDst, Nat.reduceLT, decide_true, step1, isOwnCall, hxOp, px, AS.eval, AS.get, Lift.look, Nat.succ_ne_zero, adr, Option.getD_some, AS.put, dropKey, Nat.reduceEqDiff, reduceCtorEq, pload, ty81, g1, okOne, TK.isAgg, Nat.reduceBEq, Bool.or_false, Nat.zero_add, List.length_cons, List.length_nil, Nat.reduceAdd, Nat.le_refl, and_self, Lift.valOf, List.drop_zero, List.take_succ_cons, List.take_nil, Specs.has, Specs.hasO, Specs.hasH, eFirstR, Bool.or_true, Bool.not_true, hx, okArg, ofConst, ofVal, List.all_cons, List.all_nil, Bool.and_true, Specs.atH, List.map_cons, List.map_nil, sFirstR, true_and, hf, thenQ]
  refine ⟨⟨rd, hle⟩, ?_⟩
  refine SW.seq (SW.run [] _ ?_)
  simp only [wpC, mayStop, stops, isFlt, Specs.has, Specs.hasO, Bool.or_false, Specs.hasH, Bool.not_false, List.any_cons, List.any_nil, Bool.false_eq_true, ↓reduceIte, wpS, wantedA, okDst, Nat.reduceLT, decide_true, step1, isOwnCall, hxOp, px, AS.eval, AS.get, Lift.look, Option.getD_some, AS.put, dropKey, Nat.reduceEqDiff, reduceCtorEq, isNilC, pbinP, ofConst, ofVal, pbinI, hk0, decide_false, thenQ, isB, tmpOf, asB, true_and]
  obtain ⟨v1, v2, hm, _, ⟨A2, c2, rfl, s1, s2, s3, s4⟩⟩ := rd
  rw [elE_len] at hm
  obtain ⟨rr, hAA, hr3⟩ : ∃ r, A2 = some ⟨r, 0, none⟩ ∧ H r = some (.cells 78 (c2 * 4) (elE es).flatten) := by
    rcases s4 with ⟨_, he, _⟩ | hr
    · have := elE_len es; rw [he] at this; simp at this; omega
    · exact hr
  subst hAA
  obtain ⟨f0, f2, f3, f4, hfl⟩ := elE_flat hk
  refine SW.seq (SW.run [] _ ?_)
  obtain ⟨X, hX⟩ : ∃ X, X = es[k] := ⟨_, rfl⟩
  rw [← hX] at f4 hQ hc
  simp only [wpC, Bool.false_eq_true, ↓reduceIte, wpS, stops, wantedA, okDst, Nat.reduceLT, decide_true, step1, isOwnCall, hxOp, px, AS.eval, AS.get, Lift.look, Nat.succ_ne_zero, Option.getD_some, AS.put, dropKey, Nat.reduceEqDiff, reduceCtorEq, pfieldAddr, fieldOf, ty47, fieldIn, List.getElem?_cons_succ, List.getElem?_cons_zero, ty45, Option.map_some, ne_eq, not_false_eq_true, Nat.zero_add, pload, hm, okOne, TK.isAgg, beq_self_eq_true, Bool.or_true, Nat.reduceAdd, List.length_cons, List.length_nil, Nat.le_refl, and_self, Lift.valOf, List.drop_succ_cons, List.drop_zero, List.take_succ_cons, List.take_nil, List.getD_cons_zero, pindexAddr, ty78, Int.natCast_nonneg, Int.ofNat_lt, hk, Int.toNat_natCast, hr3, Nat.reduceBEq, Bool.or_false, hfl, f4, enC, okAlloc, okZero, List.all_cons, Value.oneCell', List.all_nil, Bool.and_true, hx, zeroOf, List.map_cons, ofVal, List.map_nil, Heap.get_put, known1, PV.cells, splice, List.take_zero, List.nil_append, List.drop_nil, List.append_nil, thenQ, true_and]
  intro q3 hq3
  rw [Heap.put_put]
  have b3 := b2.over (.inr hq3) (.cells 78 4 [.int .i64 X.pid, .int .i64 (X.arm : Nat), .int .i64 X.ch, .bool X.sd])
  have r3 := r2.over' (.inr (incFresh b2.inc hq3)) (.cells 78 4 [.int .i64 X.pid, .int .i64 (X.arm : Nat), .int .i64 X.ch, .bool X.sd])
  have iH : Lift.Inc H0 HA := by obtain ⟨_, _, _, _, _, _, i⟩ := r2; exact i
  have hq3' : H0 q3 = none := incFresh (incTrans iH b2.inc) hq3
  have h23 : ¬ q2 = q3 := by rintro rfl; rw [hq3'] at g0; cases g0
  have j1 : Lift.Inc h0 (H0.put q3 (.cells 78 4 [.int .i64 X.pid, .int .i64 (X.arm : Nat), .int .i64 X.ch, .bool X.sd])) := incTrans j0 ((Inc.self H0).put hq3' _)
  have g3 : (H0.put q3 (.cells 78 4 [.int .i64 X.pid, .int .i64 (X.arm : Nat), .int .i64 X.ch, .bool X.sd])) q2 = some (.cells 78 4 [.int .i64 0, .int .i64 0, .int .i64 0, .bool false]) := by rw [Heap.put_ne _ _ h23]; exact g0
  have g4 : (H0.put q3 (.cells 78 4 [.int .i64 X.pid, .int .i64 (X.arm : Nat), .int .i64 X.ch, .bool X.sd])) q3 = some (.cells 78 4 [.int .i64 X.pid, .int .i64 (X.arm : Nat), .int .i64 X.ch, .bool X.sd]) := Heap.put_same _ _ _
  have g5 : (H.put q3 (.cells 78 4 [.int .i64 X.pid, .int .i64 (X.arm : Nat), .int .i64 X.ch, .bool X.sd])) q3 = some (.cells 78 4 [.int .i64 X.pid, .int .i64 (X.arm : Nat), .int .i64 X.ch, .bool X.sd]) := Heap.put_same _ _ _
  generalize H.put q3 (.cells 78 4 [.int .i64 X.pid, .int .i64 (X.arm : Nat), .int .i64 X.ch, .bool X.sd]) = H3 at b3 g5 ⊢
  generalize HA.put q3 (.cells 78 4 [.int .i64 X.pid, .int .i64 (X.arm : Nat), .int .i64 X.ch, .bool X.sd]) = HA3 at b3 r3
  generalize H0.put q3 (.cells 78 4 [.int .i64 X.pid, .int .i64 (X.arm : Nat), .int .i64 X.ch, .bool X.sd]) = H03 at j1 g3 g4 r3
  refine SW.seq (SW.run [] _ ?_)
  simp only [wpC, Bool.false_eq_true, ↓reduceIte, wpS, stops, wantedA, okDst, Nat.reduceLT, decide_true, step1, isOwnCall, hxOp, px, AS.eval, AS.get, Lift.look, Nat.succ_ne_zero, Option.getD_some, AS.put, dropKey, Nat.reduceEqDiff, reduceCtorEq, pfieldAddr, fieldOf, ty78, fieldIn, List.getElem?_cons_zero, ty3, Option.map_some, ne_eq, not_false_eq_true, Nat.add_zero, pload, g5, okOne, TK.isAgg, beq_self_eq_true, Bool.or_true, Nat.zero_add, List.length_cons, List.length_nil, Nat.reduceAdd, Nat.reduceLeDiff, and_self, Lift.valOf, List.drop_zero, List.take_succ_cons, List.take_zero, List.getD_cons_zero, Specs.has, Specs.hasO, Bool.or_false, Specs.hasH, Bool.not_false, true_and]
  refine SWO.call (.func 33) #[.tmp 24, .tmp 26] _ 33 #[] #[] rfl rfl rfl rfl rfl rfl (RLeave_ok X.pid r3 b3 hlp hle hc) rfl rfl ?_ (fun c h' hc => by cases hc.1)
  rintro p' h4 ⟨hp', hA4, r4, b4⟩
  injection hp' with hp'
  subst hp'
  have iH4 : Lift.Inc H03 hA4 := by obtain ⟨_, _, _, _, _, _, i⟩ := r4; exact i
  have g6 := b4.inc _ _ (iH4 _ _ g3)
  have g7 := b4.inc _ _ (iH4 _ _ g4)
  refine SWO.run [] 1000 ?_
  simp only [wpS, thenQ, AS.put, dropKey, Nat.reduceEqDiff, ↓reduceIte, reduceCtorEq]
  refine SW.run [] _ ?_
  simp only [wpC, mayStop, stops, isFlt, Specs.has, Specs.hasO, Bool.or_false, Specs.hasH, Bool.not_false, List.any_cons, List.any_nil, Bool.false_eq_true, ↓reduceIte, wpS, wantedA, okDst, Nat.reduceLT, decide_true, step1, isOwnCall, hxOp, px, pload, ty78, AS.eval, AS.get, Lift.look, Nat.reduceEqDiff, Option.getD_some, g7, okOne, TK.isAgg, Nat.reduceBEq, Nat.zero_add, List.length_cons, List.length_nil, Nat.reduceAdd, Nat.le_refl, and_self, Lift.valOf, List.drop_zero, List.take_succ_cons, List.take_nil, hx, AS.put, dropKey, reduceCtorEq, g6, known1, PV.cells, splice, List.take_zero, List.nil_append, List.drop_succ_cons, List.drop_nil, List.append_nil, ofConst, ofVal, thenQ, RPost, sres, Try.results31, sresL, sres1, Heap.get_put, Option.some.injEq, exists_eq_left', true_and]
  refine ⟨_, .refl _ _, ?_⟩
  rw [hQ]
  refine ⟨rfl, hA4.put q2 (.cells 78 4 [.int .i64 X.pid, .int .i64 (X.arm : Nat), .int .i64 X.ch, .bool X.sd]), (r4.over' (q := q2) (.inl (by rw [g3]; simp)) _).weak fun x Y e => ?_, b4.over (.inl (by rw [iH4 _ _ g3]; simp)) _⟩
  have : x ≠ q2 := by rintro rfl; rw [n2] at e; cases e
  rw [Heap.put_ne _ _ this]
  exact j1 _ _ e
end Go.Proofs.Ytekgfneapofgpaa
