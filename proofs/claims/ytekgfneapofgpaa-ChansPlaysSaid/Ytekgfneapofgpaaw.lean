/- Contracts of functions that the law reaches. -/
import Derived.Test.Ytekgfneapofgpaav
import Derived.Test.YtekgfneapofgpaaLiftF
set_option linter.unusedSimpArgs false
set_option linter.unusedVariables false
namespace Go.Proofs.Ytekgfneapofgpaa
open Go Go.RowKit Go.Proofs.Ytekgfneapofgpaa Go.Proofs.Ytekgfneapofgpaa.Lift

/-! A call of both -/
def sQueueR (m : Nat) (ps : List Int) (es : List It) : List PV → Heap → Prop × PV × Heap
  | [.val (.pointer (some ⟨a, 0, none⟩)), .int .i64 c, .bool s], h => (a = m ∧ Rd m ps es h ∧ es.length ≤ 1000000, .list 4 (elE (fil es c s)), h)
  | _, h => HBad h
noncomputable def eQueueR (m : Nat) (ps : List Int) (es : List It) : SpecH env := ⟨35, sQueueR m ps es, fun args h hc => by
  unfold sQueueR at hc ⊢
  split at hc
  · rename_i a c s
    obtain ⟨rfl, hr, hl⟩ := hc
    exact RQueue_ok hr c s hl
  · exact hc.elim⟩
noncomputable def eOffers : SpecE env := ⟨30, sOwn, fun args h hc => by
  unfold sOwn at hc ⊢
  split at hc
  · rename_i xs
    split at hc
    · rename_i os ho; rw [unO_spec ho]; exact .inl (Offers_ok os h hc)
    · exact hc.elim
  · exact hc.elim⟩
def sSame : List PV → Prop × PV
  | [.list 4 xs, .list 4 ys] => (∃ a, xs = elE a ∧ ys = elE a ∧ a.length ≤ 1000000, .bool true)
  | _ => PBad
noncomputable def eSame : SpecE env := ⟨19, sSame, fun args h hc => by
  unfold sSame at hc ⊢
  split at hc
  · rename_i xs ys
    obtain ⟨a, rfl, rfl, hl⟩ := hc
    exact .inl (Same_ok a h hl)
  · exact hc.elim⟩
def sReadyR (m : Nat) (ps : List Int) (es : List It) : List PV → Heap → Prop × PV × Heap
  | [.val (.pointer (some ⟨a, 0, none⟩)), .int .i64 p, .list 2 xs], h => match unO xs with
    | some os => (a = m ∧ Rd m ps es h ∧ es.length ≤ 1000000 ∧ os.length ≤ 1000000, .list 1 (elN (readyR es p os os.length)), h)
    | none => HBad h
  | _, h => HBad h
noncomputable def eReadyR (m : Nat) (ps : List Int) (es : List It) : SpecH env := ⟨29, sReadyR m ps es, fun args h hc => by
  unfold sReadyR at hc ⊢
  split at hc
  · rename_i a p xs
    split at hc
    · rename_i os ho
      obtain ⟨rfl, hr, hl, h2⟩ := hc
      rw [unO_spec ho]
      exact RReady_ok hr p os hl h2
    · exact hc.elim
  · exact hc.elim⟩
theorem held {h0 hA h : Heap} {m : Nat} {ps : List Int} {es : List It} {B : Bo} (b : BOn hA noG B h) (r : RefOn h0 m ps es hA) : Lift.Inc h0 h := by
  obtain ⟨_, _, _, _, _, _, i⟩ := r
  exact incTrans i b.inc
/-- A fresh block beside the board and the reference. -/
theorem addB {h0 h1 hA h : Heap} {m : Nat} {ps : List Int} {es : List It} {B : Bo} (b : BOn hA noG B h) (r : RefOn h1 m ps es hA) (j : Lift.Inc h0 h1) {q : Nat} (hq : h q = none) (X : AObj) :
    ∃ h2 hA2, BOn hA2 noG B (h.put q X) ∧ RefOn h2 m ps es hA2 ∧ Lift.Inc h0 h2 ∧ (∀ r Y, h1 r = some Y → h2 r = some Y) ∧ h2 q = some X := by
  have n1 := incFresh (held b r) hq
  have i2 := (Inc.self h1).put n1 X
  exact ⟨h1.put q X, hA.put q X, b.over (.inr hq) X, r.over' (.inr (incFresh b.inc hq)) X, incTrans j i2, i2, Heap.put_same _ _ _⟩
/-- The board and the reference, alike. -/
structure Both (h0 hA h : Heap) (m : Nat) (B : Bo) : Prop where
  b : BOn hA noG B h
  w : WF B
  r : RefOn h0 m (B.ps.map Pr.pid) B.items hA
  li : B.items.length ≤ 800000
  lt : B.time ≤ 800000
  lp : B.ps.length ≤ 800000
/-- What a call of both leaves. -/
def ActPost (h0 : Heap) (m : Nat) (B : Bo) : SEnd → Heap → Prop := fun e h' => e = .ret (.bool true) ∧ ∃ hA' B', BOn hA' noG B' h' ∧ WF B' ∧ RefOn h0 m (B'.ps.map Pr.pid) B'.items hA' ∧ B'.rb = B.rb ∧ B'.items.length ≤ B.items.length + 8 ∧ B'.time ≤ B.time + 1 ∧ B'.ps.length ≤ B.ps.length + 1
set_option maxHeartbeats 1000000 in
set_option maxRecDepth 100000 in
theorem Act_ok (wh pid : Int) (os : List (Int × Bool)) (hos : os.length ≤ 8) {h0 hA h : Heap} {m : Nat} {B : Bo} (s : Both h0 hA h m B) : SCalls env 18 [adr B.rb, adr m, .agg [.int .u8 wh, .int .i64 pid, .list 2 (elO os)]] h (ActPost h0 m B) := by
  obtain ⟨Q, hQ⟩ : ∃ Q, Q = ActPost h0 m B := ⟨_, rfl⟩
  rw [← hQ]
  obtain ⟨b, w, r, li, lt, lp⟩ := s
  obtain ⟨i0⟩ : Nonempty (Lift.Inc h0 hA) := by obtain ⟨_, _, _, _, _, _, i⟩ := r; exact ⟨i⟩
  have ho : ∃ c s, oneV os = .agg [.int .i64 c, .bool s] := by
    cases os with
    | nil => exact ⟨_, _, rfl⟩
    | cons o l => exact ⟨_, _, rfl⟩
  obtain ⟨c, s, ho⟩ := ho
  refine SCalls.body Try.func18 rfl rfl (by simp [Try.ntmps18]) ?_
  refine SW.seq (SW.run [] _ ?_)
  simp only [wpC, Bool.false_eq_true, ↓reduceIte, wpS, stops, wantedA, okDst, Try.ntmps18, Nat.reduceLT, decide_true, step1, known1, AS.eval, AS.get, enumA, Nat.zero_add, Nat.reduceAdd, Lift.look, reduceCtorEq, Nat.reduceEqDiff, Option.getD_some, AS.put, dropKey, isOwnCall, hxOp, px, ofConst, ofVal, thenQ, PV.cells, List.length_cons, List.length_nil, true_and]
  intro q1 hq1
  refine SW.seq (SW.run [eOne] _ ?_)
  simp only [wpC, Bool.false_eq_true, ↓reduceIte, wpS, stops, wantedA, okDst, Nat.reduceLT, decide_true, step1, isOwnCall, hxOp, px, pfieldAddr, fieldOf, ty30, fieldIn, List.getElem?_cons_succ, List.getElem?_cons_zero, ty28, Option.map_some, AS.eval, AS.get, Lift.look, Nat.reduceEqDiff, Option.getD_some, ne_eq, Nat.succ_ne_zero, not_false_eq_true, Nat.zero_add, AS.put, dropKey, reduceCtorEq, pload, Heap.get_put, okOne, TK.isAgg, beq_self_eq_true, Bool.or_true, Nat.reduceAdd, List.length_cons, List.length_nil, Nat.le_refl, and_self, Lift.valOf, List.drop_succ_cons, List.drop_zero, List.take_succ_cons, List.take_nil, List.getD_cons_zero, Specs.has, eOne, Specs.hasO, Bool.or_false, Specs.hasH, Bool.not_true, pcall, okArg, ofConst, ofVal, List.all_cons, List.all_nil, Bool.and_true, Specs.at, List.map_cons, List.map_nil, sOne, unO_el, ho, okAlloc, ty39, okZero, Value.oneCell', some_none, hx, zeroOf, known1, PV.cells, splice, List.take_zero, List.nil_append, List.drop_nil, List.append_nil, thenQ, true_and]
  intro q2 hq2
  have hqr : ¬ q2 = q1 := hq2.1
  rw [Heap.put_put]
  have b1 := b.over (.inr hq1) (.cells 30 3 [.int .u8 wh, .int .i64 pid, .list 2 (elO os)])
  have r1 := r.over' (.inr (incFresh b.inc hq1)) (.cells 30 3 [.int .u8 wh, .int .i64 pid, .list 2 (elO os)])
  have hq2' : (h.put q1 (.cells 30 3 [.int .u8 wh, .int .i64 pid, .list 2 (elO os)])) q2 = none := by rw [Heap.put_none]; exact hq2
  have b2 := b1.over (.inr hq2') (.cells 39 2 [.int .i64 c, .bool s])
  have r2 := r1.over' (.inr (incFresh b1.inc hq2')) (.cells 39 2 [.int .i64 c, .bool s])
  have j0 : Lift.Inc h0 ((h0.put q1 (.cells 30 3 [.int .u8 wh, .int .i64 pid, .list 2 (elO os)])).put q2 (.cells 39 2 [.int .i64 c, .bool s])) := ((Inc.self h0).put (incFresh (incTrans i0 b.inc) hq1) _).put (r := q2) (by rw [Heap.put_ne _ _ hqr]; exact incFresh (incTrans i0 b.inc) hq2.2) _
  have g1 : ((h0.put q1 (.cells 30 3 [.int .u8 wh, .int .i64 pid, .list 2 (elO os)])).put q2 (.cells 39 2 [.int .i64 c, .bool s])) q1 = some (.cells 30 3 [.int .u8 wh, .int .i64 pid, .list 2 (elO os)]) := by rw [Heap.put_ne _ _ (fun e => hqr e.symm), Heap.put_same]
  have g2 : ((h0.put q1 (.cells 30 3 [.int .u8 wh, .int .i64 pid, .list 2 (elO os)])).put q2 (.cells 39 2 [.int .i64 c, .bool s])) q2 = some (.cells 39 2 [.int .i64 c, .bool s]) := Heap.put_same _ _ _
  generalize (h.put q1 (.cells 30 3 [.int .u8 wh, .int .i64 pid, .list 2 (elO os)])).put q2 (.cells 39 2 [.int .i64 c, .bool s]) = H at b2 ⊢
  generalize (hA.put q1 (.cells 30 3 [.int .u8 wh, .int .i64 pid, .list 2 (elO os)])).put q2 (.cells 39 2 [.int .i64 c, .bool s]) = HA at b2 r2
  generalize (h0.put q1 (.cells 30 3 [.int .u8 wh, .int .i64 pid, .list 2 (elO os)])).put q2 (.cells 39 2 [.int .i64 c, .bool s]) = H0 at j0 g1 g2 r2
  clear b1 r1 hq2' hq1 hq2 hqr b r i0
  obtain ⟨iH⟩ : Nonempty (Lift.Inc H0 HA) := by obtain ⟨_, _, _, _, _, _, i⟩ := r2; exact ⟨i⟩
  have k1 := b2.inc _ _ (iH _ _ g1)
  have k2 := b2.inc _ _ (iH _ _ g2)
  refine SW.enter (n := 145) (l := [(0, adr B.rb), (1, adr m), (5, adr q1), (7, adr q2)]) (H := H) rfl (.refl _ _) (by simp only [hasAll, AS.get, Lift.look, Nat.succ_ne_zero, ↓reduceIte, adr, Option.getD_some, Nat.reduceEqDiff, reduceCtorEq, and_self]) ?_
  refine SW.seq (SW.seq (SW.run [] _ ?_))
  simp only [wpC, Bool.false_eq_true, ↓reduceIte, wpS, stops, wantedA, okDst, Nat.reduceLT, decide_true, step1, isOwnCall, hxOp, px, pfieldAddr, fieldOf, ty30, fieldIn, List.getElem?_cons_zero, ty5, Option.map_some, AS.eval, AS.get, Lift.look, reduceCtorEq, Nat.reduceEqDiff, adr, Option.getD_some, ne_eq, Nat.succ_ne_zero, not_false_eq_true, Nat.add_zero, AS.put, dropKey, pload, k1, okOne, TK.isAgg, beq_self_eq_true, Bool.or_true, Nat.zero_add, List.length_cons, List.length_nil, Nat.reduceAdd, Nat.reduceLeDiff, and_self, Lift.valOf, List.drop_zero, List.take_succ_cons, List.take_zero, List.getD_cons_zero, isNilC, pbinP, ofConst, ofVal, pbinI, Int.reduceEq, thenQ, true_and]
  obtain ⟨k, hk⟩ : ∃ k, k = wh.tmod 6 := ⟨_, rfl⟩
  rw [← hk]
  refine SW.enter (n := 145) (l := [(0, adr B.rb), (1, adr m), (5, adr q1), (7, adr q2), (21, .int .u8 k)]) (H := H) rfl (.refl _ _) (by simp only [hasAll, AS.get, Lift.look, Nat.succ_ne_zero, ↓reduceIte, Option.getD_some, adr, Nat.reduceEqDiff, reduceCtorEq, and_self]) ?_
  refine SW.block (SW.run [] _ ?_)
  cases e0 : (k == 0)
  case true =>
    simp only [wpC, mayStop, stops, isFlt, Specs.has, Specs.hasO, Bool.or_false, Specs.hasH, Bool.not_false, List.any_cons, List.any_nil, Bool.false_eq_true, ↓reduceIte, wpS, wantedA, okDst, Nat.reduceLT, decide_true, step1, isOwnCall, hxOp, px, isNilC, pbinP, AS.eval, AS.get, Lift.look, reduceCtorEq, Nat.reduceEqDiff, Option.getD_some, ofConst, ofVal, pbinI, e0, AS.put, dropKey, thenQ, isB, tmpOf, asB, Bool.or_true, true_and]
    have h9 : os.length ≤ 1000000 := by omega
    have hc : SCalls env 13 [adr B.rb, .int .i64 pid, .list 2 (elO os)] H (fun e h' => ∃ p, e = .ret p ∧ (p = .list 1 (elN (readyS B pid os os.length)) ∧ h' = H)) := (Ready_ok pid os b2 h9).mono fun e h' q => ⟨_, q.1, rfl, q.2⟩
    refine SW.regionCut [] rfl (RestC.cutMP [eOwn, eOffers] ⟨6, _, 13, _, _, [adr B.rb, .int .i64 pid, .list 2 (elO os)], H, fun p h' => p = .list 1 (elN (readyS B pid os os.length)) ∧ h' = H, rfl, rfl, hc⟩ (fun _ => True) (fun p h' q r _ => by rw [q.2]) [(0, false), (1, false), (2, false), (3, false), (4, false), (5, false), (7, false), (8, false), (9, true), (10, false), (11, true)] [12] 13 (k := 3) rfl (by kernel_rfl) ?_)
    simp only [wpP, Bool.false_eq_true, keptP, AS.get, Lift.look, ptrAt, List.getElem?_toArray, List.getElem?_cons_zero, ptrT, Nat.succ_ne_zero, ↓reduceIte, adr, Option.getD_some, implies_true, LOp, okDst, Nat.reduceLT, decide_true, wantedA, step1, isOwnCall, hxOp, px, AS.eval, AS.put, dropKey, Nat.reduceEqDiff, reduceCtorEq, List.getElem?_cons_succ, pfieldAddr, fieldOf, ty30, fieldIn, ty3, Option.map_some, ne_eq, not_false_eq_true, Nat.zero_add, pload, k1, okOne, TK.isAgg, beq_self_eq_true, Bool.or_true, Nat.reduceAdd, List.length_cons, List.length_nil, Nat.reduceLeDiff, and_self, Lift.valOf, List.drop_succ_cons, List.drop_zero, List.take_succ_cons, List.take_zero, List.getD_cons_zero, ty28, Nat.le_refl, List.take_nil, Specs.hasO, Specs.hasH, pcall, okArg, ofConst, ofVal, List.all_cons, List.all_nil, Bool.and_true, Specs.at, eOwn, List.map_cons, List.map_nil, sOwn, unO_el, h9, forall_const, HandOK, List.getElem_toArray, List.getElem_cons_succ, List.getElem_cons_zero, wpO, PBad, true_and]
    rintro p' h' ⟨rfl, rfl⟩
    simp only [eOffers, ↓reduceIte, sOwn, unO_el, h9, true_and]
    refine RestC.last [eReadyR m (B.ps.map Pr.pid) B.items] [13, 14, 15] rfl (by kernel_rfl) ?_
    simp only [wpO, LOp, List.getElem?_toArray, List.getElem?_cons_succ, List.getElem?_cons_zero, okDst, Nat.reduceLT, decide_true, wantedA, ↓reduceIte, step1, isOwnCall, Specs.hasO, Bool.false_eq_true, hxOp, Specs.hasH, eReadyR, hx, okArg, AS.eval, AS.get, Lift.look, ofConst, ofVal, List.all_cons, Nat.reduceEqDiff, Option.getD_some, List.all_nil, Bool.and_true, Specs.atH, List.map_cons, List.map_nil, sReadyR, unO_el, true_and, ready_eq w, AS.put, dropKey, reduceCtorEq, px, thenQ]
    refine ⟨⟨r2.rd b2.inc, by omega, h9⟩, ?_⟩
    have lR : (readyS B pid os os.length).length ≤ 1000000 := by
      unfold readyS
      refine Nat.le_trans (List.length_filter_le _ _) ?_
      rw [List.length_range]; exact h9
    generalize readyS B pid os os.length = R at lR ⊢
    refine SW.enter (n := 145) (l := [(8, .list 1 (elN R)), (9, .list 1 (elN R))]) (H := h') rfl (.refl _ _) (by simp only [hasAll, AS.get, Lift.look, Nat.reduceEqDiff, ↓reduceIte, Option.getD_some, and_self]) ?_
    have eR : (elN R).length = R.length := by unfold elN; rw [List.length_map]
    refine SW.seq (SW.run [] _ ?_)
    simp only [wpC, mayStop, stops, isFlt, Specs.has, Specs.hasO, Bool.or_false, Specs.hasH, Bool.not_false, List.any_cons, List.any_nil, Bool.false_eq_true, ↓reduceIte, wpS, wantedA, okDst, Nat.reduceLT, decide_true, step1, isOwnCall, hxOp, px, AS.eval, AS.get, Lift.look, Option.getD_some, AS.put, dropKey, Nat.reduceEqDiff, pcall, ty31, plen, okLen, and_self, isNilC, pbinP, pbinI, bne_self_eq_false, thenQ, isB, tmpOf, asB, true_and]
    refine SW.seq (SW.seq (SW.run [] _ ?_))
    simp only [wpC, Bool.false_eq_true, ↓reduceIte, wpS, stops, wantedA, okDst, Nat.reduceLT, decide_true, step1, isOwnCall, hxOp, px, AS.eval, ofConst, ofVal, thenQ, AS.put, dropKey, Nat.reduceEqDiff, true_and]
    refine SW.block (SW.loopH 145 (fun i : Nat => [(8, .list 1 (elN R)), (9, .list 1 (elN R)), (10, .int .i64 (i : Nat))]) (fun _ => h') (fun i => i ≤ R.length) (fun i => R.length - i) 0 (Nat.zero_le _) ⟨rfl, .refl _ _, ?_⟩ ?_)
    · simp only [hasAll, AS.get, Lift.look, Nat.reduceEqDiff, ↓reduceIte, Option.getD_some, Int.cast_ofNat_Int, and_self]
    intro i hi
    refine SW.seq (SW.run [] _ ?_)
    by_cases hlt : i < R.length
    · have hw : IntKind.i64.wrap ((i : Int) + 1) = ((i + 1 : Nat) : Int) := by rw [w64 (by omega) (by omega)]; rfl
      have hg : (elN R).getD i [] = [.int .i64 (R[i] : Nat)] := by
        unfold elN
        rw [List.getD_eq_getElem?_getD, List.getElem?_eq_getElem (by rw [List.length_map]; exact hlt)]
        simp
      simp only [wpC, mayStop, stops, isFlt, Specs.has, Specs.hasO, Bool.or_false, Specs.hasH, Bool.not_false, List.any_cons, List.any_nil, Bool.false_eq_true, ↓reduceIte, wpS, wantedA, okDst, Nat.reduceLT, decide_true, step1, isOwnCall, hxOp, px, AS.eval, AS.get, Lift.look, Nat.reduceEqDiff, Option.getD_some, AS.put, dropKey, pcall, ty31, plen, eR, okLen, and_self, isNilC, pbinP, pbinI, Int.ofNat_lt, hlt, thenQ, isB, tmpOf, asB, hasAll, and_true, true_and]
      refine SW.seq (SW.block (SW.seq (SW.regionAny [] [[0, 1, 2, 3, 4, 5, 6, 7, 8]] rfl (by rfl) (by kernel_rfl) ?_)))
      simp only [wpOL, wpO, LOp, List.getElem?_toArray, List.getElem?_cons_zero, okDst, Nat.reduceLT, decide_true, wantedA, ↓reduceIte, step1, isOwnCall, Bool.false_eq_true, hxOp, px, AS.eval, AS.get, Lift.look, Nat.reduceEqDiff, Option.getD_some, List.getElem?_cons_succ, AS.put, dropKey, pindexAddr, ty31, ty3, ne_eq, Nat.succ_ne_zero, not_false_eq_true, Int.natCast_nonneg, Int.toNat_natCast, eR, hlt, and_self, hg, pload, okOne, TK.isAgg, beq_self_eq_true, Bool.or_true, List.length_cons, List.length_nil, Nat.zero_add, Nat.le_refl, Lift.valOf, List.take_succ_cons, List.take_nil, List.getD_cons_zero, isNilC, pbinP, pbinI, bne_self_eq_false, thenQ, true_and]
      refine SW.run [] _ ?_
      simp only [wpC, isB, AS.get, Lift.look, tmpOf, ↓reduceIte, Option.getD_some, asB, Bool.false_eq_true, inQ, thenQ, true_and]
      refine SW.run [] _ ?_
      simp only [wpC, Bool.false_eq_true, ↓reduceIte, wpS, stops, wantedA, okDst, Nat.reduceLT, decide_true, step1, isOwnCall, hxOp, px, AS.eval, AS.get, Lift.look, Nat.reduceEqDiff, Option.getD_some, isFlt, ty3, AS.put, dropKey, isNilC, pbinP, ofConst, ofVal, pbinI, hw, thenQ, HTo_self, true_and]
      exact ⟨i + 1, hlt, by omega, rfl⟩
    · obtain rfl : i = R.length := by omega
      simp only [wpC, mayStop, stops, isFlt, Specs.has, Specs.hasO, Bool.or_false, Specs.hasH, Bool.not_false, List.any_cons, List.any_nil, Bool.false_eq_true, ↓reduceIte, wpS, wantedA, okDst, Nat.reduceLT, decide_true, step1, isOwnCall, hxOp, px, AS.eval, AS.get, Lift.look, Nat.reduceEqDiff, Option.getD_some, AS.put, dropKey, pcall, ty31, plen, eR, okLen, and_self, isNilC, pbinP, pbinI, Int.ofNat_lt, Nat.lt_irrefl, decide_false, thenQ, isB, tmpOf, asB, inQ, true_and]
      refine SW.run [] _ ?_
      simp only [wpC, mayStop, stops, isFlt, Specs.has, Specs.hasO, Bool.or_false, Specs.hasH, Bool.not_false, List.any_cons, List.any_nil, Bool.false_eq_true, ↓reduceIte, wpS, wantedA, okDst, Nat.reduceLT, decide_true, step1, isOwnCall, hxOp, px, AS.eval, ofConst, ofVal, thenQ, inQ, RPost, sres, AS.put, dropKey, Nat.reduceEqDiff, Try.results18, sresL, sres1, AS.get, Lift.look, Option.getD_some, Option.some.injEq, exists_eq_left', true_and]
      exact ⟨_, .refl _ _, by rw [hQ]; exact ⟨rfl, HA, B, b2, w, r2.weak j0, rfl, by omega, by omega, by omega⟩⟩
  cases e1 : (k == 1)
  case true =>
    simp only [wpC, mayStop, stops, isFlt, Specs.has, Specs.hasO, Bool.or_false, Specs.hasH, Bool.not_false, List.any_cons, List.any_nil, Bool.false_eq_true, ↓reduceIte, wpS, wantedA, okDst, Nat.reduceLT, decide_true, step1, isOwnCall, hxOp, px, isNilC, pbinP, AS.eval, AS.get, Lift.look, reduceCtorEq, Nat.reduceEqDiff, Option.getD_some, ofConst, ofVal, pbinI, e0, AS.put, dropKey, adr, thenQ, isB, tmpOf, asB, e1, Bool.or_true, Nat.succ_ne_zero, pfieldAddr, fieldOf, ty30, fieldIn, List.getElem?_cons_succ, List.getElem?_cons_zero, ty3, Option.map_some, ne_eq, not_false_eq_true, Nat.zero_add, pload, k1, okOne, TK.isAgg, beq_self_eq_true, Nat.reduceAdd, List.length_cons, List.length_nil, Nat.reduceLeDiff, and_self, Lift.valOf, List.drop_succ_cons, List.drop_zero, List.take_succ_cons, List.take_zero, List.getD_cons_zero, ty39, k2, Nat.reduceBEq, Nat.le_refl, List.take_nil, true_and]
    have hm := fst_meet w pid c s
    cases hf : B.items.find? (meetB pid c s)
    case none =>
      refine SWO.call (.func 15) #[.tmp 61, .tmp 63, .tmp 64] _ 15 #[] #[] rfl rfl rfl rfl rfl rfl (Meet_none pid c s b2 (by rw [hm, hf])) rfl rfl ?_ (fun c h' hc => by cases hc.1)
      rintro p' h' ⟨hp', rfl⟩
      injection hp' with hp'
      subst hp'
      refine SWO.run [] 1000 ?_
      simp only [wpS, stops, Bool.false_eq_true, ↓reduceIte, wantedA, okDst, AS.put, enZ, dropKey, Nat.reduceEqDiff, reduceCtorEq, Nat.reduceLT, decide_true, step1, isOwnCall, hxOp, px, AS.eval, AS.get, Lift.look, Option.getD_some, List.getElem?_cons_zero, List.getElem?_cons_succ, okAlloc, ty35, okZero, List.all_cons, Value.oneCell', List.all_nil, Bool.and_true, hx, zeroOf, List.map_cons, ofVal, List.map_nil, List.length_cons, List.length_nil, Nat.zero_add, Nat.reduceAdd, Heap.get_put, known1, PV.cells, Nat.le_refl, and_self, splice, List.take_zero, List.nil_append, List.drop_succ_cons, List.drop_nil, List.append_nil, thenQ, true_and]
      intro q3 hq3
      rw [Heap.put_put]
      obtain ⟨H1, HA1, b3, r3, j3, c3, g3⟩ := addB b2 r2 j0 hq3 (.cells 35 4 [.int .i64 0, .int .i64 0, .int .i64 0, .bool false])
      generalize Heap.put _ q3 (.cells 35 4 [.int .i64 0, .int .i64 0, .int .i64 0, .bool false]) = H3 at b3 ⊢
      have K := held b3 r3
      have k1 := K _ _ (c3 _ _ g1)
      have k2 := K _ _ (c3 _ _ g2)
      have k3 := K _ _ g3
      refine SW.seq (SW.run [] _ ?_)
      simp only [wpC, Bool.false_eq_true, ↓reduceIte, wpS, stops, wantedA, okDst, Nat.reduceLT, decide_true, step1, isOwnCall, hxOp, px, AS.eval, AS.get, Lift.look, Nat.reduceEqDiff, reduceCtorEq, Option.getD_some, AS.put, dropKey, pfieldAddr, fieldOf, ty30, fieldIn, List.getElem?_cons_succ, List.getElem?_cons_zero, ty3, Option.map_some, ne_eq, Nat.succ_ne_zero, not_false_eq_true, Nat.zero_add, pload, k1, okOne, TK.isAgg, beq_self_eq_true, Bool.or_true, Nat.reduceAdd, List.length_cons, List.length_nil, Nat.reduceLeDiff, and_self, Lift.valOf, List.drop_succ_cons, List.drop_zero, List.take_succ_cons, List.take_zero, List.getD_cons_zero, ty39, Nat.add_zero, k2, ty4, Nat.le_refl, List.take_nil, pbuild, ty81, List.map_cons, ofVal, List.map_nil, ofConst, pfill, placeOf, PV.cells, splice, List.nil_append, List.cons_append, List.drop_nil, List.append_nil, List.all_cons, Option.isSome_some, List.all_nil, Bool.and_true, okZero, Value.oneCell', known, Specs.has, Specs.hasO, Bool.or_false, Specs.hasH, Bool.not_false, true_and]
      refine SWO.call (.func 31) #[.tmp 69, .tmp 71, .tmp 76] _ 31 #[] #[] rfl rfl rfl rfl rfl rfl (RMeet_none pid c s (r3.rd b3.inc) (by omega) (firstI_none hf)) rfl rfl ?_ (fun c h' hc => by cases hc.1)
      rintro p' h' ⟨hp', rfl⟩
      injection hp' with hp'
      subst hp'
      refine SWO.run [] 1000 ?_
      simp only [wpS, stops, Bool.false_eq_true, ↓reduceIte, wantedA, okDst, AS.put, enZ, dropKey, Nat.reduceEqDiff, reduceCtorEq, Nat.reduceLT, decide_true, step1, isOwnCall, hxOp, px, AS.eval, AS.get, Lift.look, Option.getD_some, List.getElem?_cons_zero, List.getElem?_cons_succ, okAlloc, ty78, okZero, List.all_cons, Value.oneCell', List.all_nil, Bool.and_true, hx, zeroOf, List.map_cons, ofVal, List.map_nil, List.length_cons, List.length_nil, Nat.zero_add, Nat.reduceAdd, Heap.get_put, known1, PV.cells, Nat.le_refl, and_self, splice, List.take_zero, List.nil_append, List.drop_succ_cons, List.drop_nil, List.append_nil, thenQ, true_and]
      intro q4 hq4
      rw [Heap.put_put]
      obtain ⟨H2, HA2, b4, r4, j4, c4, g4⟩ := addB b3 r3 j3 hq4 (.cells 78 4 [.int .i64 0, .int .i64 0, .int .i64 0, .bool false])
      generalize Heap.put _ q4 (.cells 78 4 [.int .i64 0, .int .i64 0, .int .i64 0, .bool false]) = H4 at b4 ⊢
      have K4 := held b4 r4
      have k3 := K4 _ _ (c4 _ _ g3)
      have k4 := K4 _ _ g4
      refine SW.run [eSame] _ ?_
      simp only [wpC, mayStop, stops, isFlt, Specs.has, eSame, Specs.hasO, Bool.or_false, Specs.hasH, List.any_cons, ↓reduceIte, Bool.not_true, List.any_nil, Bool.false_eq_true, wpS, wantedA, okDst, Nat.reduceLT, decide_true, step1, isOwnCall, hxOp, px, AS.eval, AS.get, Lift.look, Nat.reduceEqDiff, Option.getD_some, AS.put, dropKey, reduceCtorEq, isNilC, pbinP, pflt, peq, ty4, peqK, beq_self_eq_true, List.getElem?_toArray, List.getElem?_cons_succ, List.getElem?_cons_zero, Option.bind_some, pload, ty35, k3, okOne, TK.isAgg, Nat.reduceBEq, Nat.zero_add, List.length_cons, List.length_nil, Nat.reduceAdd, Nat.le_refl, and_self, Lift.valOf, List.drop_zero, List.take_succ_cons, List.take_nil, pbuildSlice, ty42, Nat.succ_ne_zero, List.replicate, List.map_cons, ofVal, List.map_nil, List.flatten_cons, List.flatten_nil, List.append_nil, ofConst, pfill, PV.cells, Nat.reduceMul, splice, List.take_zero, List.nil_append, List.drop_succ_cons, List.drop_nil, Nat.reduceLeDiff, okZero, List.all_cons, Value.oneCell', List.all_nil, Bool.and_true, known, chunk, ty78, k4, ty45, pcall, okArg, Specs.at, sSame, true_and, ppick_bool, thenQ, inQ, RPost, sres, Try.results18, sresL, sres1, Option.some.injEq, exists_eq_left']
      exact ⟨⟨[⟨0, 0, 0, 0, 0, false⟩], rfl, rfl, by simp⟩, _, .refl _ _, by rw [hQ]; exact ⟨rfl, HA2, B, b4, w, r4.weak j4, rfl, by omega, by omega, by omega⟩⟩
    case some i =>
      have hi : i ∈ B.items := List.mem_of_find?_eq_some hf
      obtain ⟨kk, hkk, hfi, hik⟩ := firstI_some hf
      refine SWO.call (.func 15) #[.tmp 61, .tmp 63, .tmp 64] _ 15 #[] #[] rfl rfl rfl rfl rfl rfl (Meet_some pid c s b2 w (by omega) (i := i) (by rw [hm, hf])) rfl rfl ?_ (fun c h' hc => by cases hc.1)
      rintro p' h' ⟨hp', B', b', w', ps', rb', tm'⟩
      injection hp' with hp'
      subst hp'
      have it' := items_del w w' ps'
      refine SWO.run [] 1000 ?_
      simp only [wpS, stops, Bool.false_eq_true, ↓reduceIte, wantedA, okDst, AS.put, enV, dropKey, Nat.reduceEqDiff, reduceCtorEq, Nat.reduceLT, decide_true, step1, isOwnCall, hxOp, px, AS.eval, AS.get, Lift.look, Option.getD_some, List.getElem?_cons_zero, List.getElem?_cons_succ, okAlloc, ty35, okZero, List.all_cons, Value.oneCell', List.all_nil, Bool.and_true, hx, zeroOf, List.map_cons, ofVal, List.map_nil, List.length_cons, List.length_nil, Nat.zero_add, Nat.reduceAdd, Heap.get_put, known1, PV.cells, Nat.le_refl, and_self, splice, List.take_zero, List.nil_append, List.drop_succ_cons, List.drop_nil, List.append_nil, thenQ, true_and]
      intro q3 hq3
      rw [Heap.put_put]
      obtain ⟨H1, HA1, b3, r3, j3, c3, g3⟩ := addB b' r2 j0 hq3 (.cells 35 4 [.int .i64 i.pid, .int .i64 (i.arm : Nat), .int .i64 i.ch, .bool i.sd])
      generalize Heap.put _ q3 (.cells 35 4 [.int .i64 i.pid, .int .i64 (i.arm : Nat), .int .i64 i.ch, .bool i.sd]) = H3 at b3 ⊢
      have K := held b3 r3
      have k1 := K _ _ (c3 _ _ g1)
      have k2 := K _ _ (c3 _ _ g2)
      have k3 := K _ _ g3
      refine SW.seq (SW.run [] _ ?_)
      simp only [wpC, Bool.false_eq_true, ↓reduceIte, wpS, stops, wantedA, okDst, Nat.reduceLT, decide_true, step1, isOwnCall, hxOp, px, AS.eval, AS.get, Lift.look, Nat.reduceEqDiff, reduceCtorEq, Option.getD_some, AS.put, dropKey, pfieldAddr, fieldOf, ty30, fieldIn, List.getElem?_cons_succ, List.getElem?_cons_zero, ty3, Option.map_some, ne_eq, Nat.succ_ne_zero, not_false_eq_true, Nat.zero_add, pload, k1, okOne, TK.isAgg, beq_self_eq_true, Bool.or_true, Nat.reduceAdd, List.length_cons, List.length_nil, Nat.reduceLeDiff, and_self, Lift.valOf, List.drop_succ_cons, List.drop_zero, List.take_succ_cons, List.take_zero, List.getD_cons_zero, ty39, Nat.add_zero, k2, ty4, Nat.le_refl, List.take_nil, pbuild, ty81, List.map_cons, ofVal, List.map_nil, ofConst, pfill, placeOf, PV.cells, splice, List.nil_append, List.cons_append, List.drop_nil, List.append_nil, List.all_cons, Option.isSome_some, List.all_nil, Bool.and_true, okZero, Value.oneCell', known, Specs.has, Specs.hasO, Bool.or_false, Specs.hasH, Bool.not_false, true_and]
      have hme := RMeet_some pid c s r3 b3 (by rw [List.length_map]; omega) (by omega) hkk hfi (by rw [hik]; exact pid_in w hi)
      rw [hik] at hme
      refine SWO.call (.func 31) #[.tmp 69, .tmp 71, .tmp 76] _ 31 #[] #[] rfl rfl rfl rfl rfl rfl hme rfl rfl ?_ (fun c h' hc => by cases hc.1)
      rintro p' h5 ⟨hp', HA5, r5, b5⟩
      injection hp' with hp'
      subst hp'
      rw [← it', ← pids_del i.pid w.pn, ← ps'] at r5
      refine SWO.run [] 1000 ?_
      simp only [wpS, stops, Bool.false_eq_true, ↓reduceIte, wantedA, okDst, AS.put, enV, dropKey, Nat.reduceEqDiff, reduceCtorEq, Nat.reduceLT, decide_true, step1, isOwnCall, hxOp, px, AS.eval, AS.get, Lift.look, Option.getD_some, List.getElem?_cons_zero, List.getElem?_cons_succ, okAlloc, ty78, okZero, List.all_cons, Value.oneCell', List.all_nil, Bool.and_true, hx, zeroOf, List.map_cons, ofVal, List.map_nil, List.length_cons, List.length_nil, Nat.zero_add, Nat.reduceAdd, Heap.get_put, known1, PV.cells, Nat.le_refl, and_self, splice, List.take_zero, List.nil_append, List.drop_succ_cons, List.drop_nil, List.append_nil, thenQ, true_and]
      intro q4 hq4
      rw [Heap.put_put]
      obtain ⟨H2, HA2, b4, r4, j4, c4, g4⟩ := addB b5 r5 j3 hq4 (.cells 78 4 [.int .i64 i.pid, .int .i64 (i.arm : Nat), .int .i64 i.ch, .bool i.sd])
      generalize Heap.put _ q4 (.cells 78 4 [.int .i64 i.pid, .int .i64 (i.arm : Nat), .int .i64 i.ch, .bool i.sd]) = H4 at b4 ⊢
      have K4 := held b4 r4
      have k3 := K4 _ _ (c4 _ _ g3)
      have k4 := K4 _ _ g4
      refine SW.run [eSame] _ ?_
      simp only [wpC, mayStop, stops, isFlt, Specs.has, eSame, Specs.hasO, Bool.or_false, Specs.hasH, List.any_cons, ↓reduceIte, Bool.not_true, List.any_nil, Bool.false_eq_true, wpS, wantedA, okDst, Nat.reduceLT, decide_true, step1, isOwnCall, hxOp, px, AS.eval, AS.get, Lift.look, Nat.reduceEqDiff, Option.getD_some, AS.put, dropKey, reduceCtorEq, isNilC, pbinP, pflt, peq, ty4, peqK, beq_self_eq_true, List.getElem?_toArray, List.getElem?_cons_succ, List.getElem?_cons_zero, Option.bind_some, pload, ty35, k3, okOne, TK.isAgg, Nat.reduceBEq, Nat.zero_add, List.length_cons, List.length_nil, Nat.reduceAdd, Nat.le_refl, and_self, Lift.valOf, List.drop_zero, List.take_succ_cons, List.take_nil, pbuildSlice, ty42, Nat.succ_ne_zero, List.replicate, List.map_cons, ofVal, List.map_nil, List.flatten_cons, List.flatten_nil, List.append_nil, ofConst, pfill, PV.cells, Nat.reduceMul, splice, List.take_zero, List.nil_append, List.drop_succ_cons, List.drop_nil, Nat.reduceLeDiff, okZero, List.all_cons, Value.oneCell', List.all_nil, Bool.and_true, known, chunk, ty78, k4, ty45, pcall, okArg, Specs.at, sSame, true_and, ppick_bool, thenQ, inQ, RPost, sres, Try.results18, sresL, sres1, Option.some.injEq, exists_eq_left']
      exact ⟨⟨[i], rfl, rfl, by simp⟩, _, .refl _ _, by rw [hQ]; exact ⟨rfl, HA2, B', b4, w', r4.weak j4, rb', by rw [it']; exact Nat.le_trans (keep_len _ _) (by omega), by omega, by rw [ps']; unfold delP; exact Nat.le_trans (List.eraseP_sublist.length_le) (by omega)⟩⟩
  cases e2 : (k == 2)
  case true =>
    simp only [wpC, mayStop, stops, isFlt, Specs.has, Specs.hasO, Bool.or_false, Specs.hasH, Bool.not_false, List.any_cons, List.any_nil, Bool.false_eq_true, ↓reduceIte, wpS, wantedA, okDst, Nat.reduceLT, decide_true, step1, isOwnCall, hxOp, px, isNilC, pbinP, AS.eval, AS.get, Lift.look, reduceCtorEq, Nat.reduceEqDiff, Option.getD_some, ofConst, ofVal, pbinI, e0, AS.put, dropKey, thenQ, isB, tmpOf, asB, e1, e2, Bool.or_true, true_and]
    have h9 : os.length ≤ 1000000 := by omega
    have hsc := some_contains pid B.ps
    cases hp : pOf B.ps pid
    case some x =>
      refine SW.regionCut [] rfl (RestC.cut [eOwn] [0, 1, 2, 3, 4, 5] 6 (k := 1) rfl (by kernel_rfl) ?_)
      simp only [wpO, LOp, List.getElem?_toArray, List.getElem?_cons_zero, okDst, Nat.reduceLT, decide_true, wantedA, ↓reduceIte, step1, isOwnCall, Bool.false_eq_true, hxOp, px, AS.eval, AS.get, Lift.look, Nat.succ_ne_zero, adr, Option.getD_some, List.getElem?_cons_succ, AS.put, dropKey, Nat.reduceEqDiff, reduceCtorEq, pfieldAddr, fieldOf, ty30, fieldIn, ty3, Option.map_some, ne_eq, not_false_eq_true, Nat.zero_add, pload, k1, okOne, TK.isAgg, beq_self_eq_true, Bool.or_true, Nat.reduceAdd, List.length_cons, List.length_nil, Nat.reduceLeDiff, and_self, Lift.valOf, List.drop_succ_cons, List.drop_zero, List.take_succ_cons, List.take_zero, List.getD_cons_zero, ty28, Nat.le_refl, List.take_nil, Specs.hasO, Specs.hasH, pcall, okArg, ofConst, ofVal, List.all_cons, List.all_nil, Bool.and_true, Specs.at, eOwn, List.map_cons, List.map_nil, sOwn, unO_el, h9, Option.toList_some, true_and]
      refine SWO.call (.func 16) #[.tmp 92, .tmp 94, .tmp 97] _ 16 #[] #[] rfl rfl rfl rfl rfl rfl (Wait_twice pid os (by omega) b2 (by rw [hp]; rfl)) rfl rfl ?_ (fun c h' hc => by cases hc.1)
      rintro p' h' ⟨hp', rfl⟩
      injection hp' with hp'
      subst hp'
      refine SWO.run [] 1000 ?_
      simp only [wpS, thenQ, AS.put, dropKey, Nat.reduceEqDiff, ↓reduceIte, reduceCtorEq]
      refine RestC.last [] [7] rfl (by kernel_rfl) ?_
      simp only [wpO, LOp, List.getElem?_toArray, List.getElem?_cons_succ, List.getElem?_cons_zero, okDst, Nat.reduceLT, decide_true, wantedA, ↓reduceIte, step1, isOwnCall, Bool.false_eq_true, hxOp, px, AS.eval, AS.get, Lift.look, Option.getD_some, thenQ, AS.put, dropKey, Nat.reduceEqDiff, reduceCtorEq, true_and]
      refine SW.seq (SW.seq (SW.regionCut [] rfl (RestC.cut [eOffers] [0, 1, 2, 3, 4, 5] 6 (k := 0) rfl (by kernel_rfl) ?_)))
      simp only [wpO, LOp, List.getElem?_toArray, List.getElem?_cons_zero, okDst, Nat.reduceLT, decide_true, wantedA, ↓reduceIte, step1, isOwnCall, Bool.false_eq_true, hxOp, px, AS.eval, AS.get, Lift.look, Nat.reduceEqDiff, reduceCtorEq, Option.getD_some, List.getElem?_cons_succ, AS.put, dropKey, pfieldAddr, fieldOf, ty30, fieldIn, ty3, Option.map_some, ne_eq, Nat.succ_ne_zero, not_false_eq_true, Nat.zero_add, pload, k1, okOne, TK.isAgg, beq_self_eq_true, Bool.or_true, Nat.reduceAdd, List.length_cons, List.length_nil, Nat.reduceLeDiff, and_self, Lift.valOf, List.drop_succ_cons, List.drop_zero, List.take_succ_cons, List.take_zero, List.getD_cons_zero, ty28, Nat.le_refl, List.take_nil, Specs.hasO, Specs.hasH, pcall, okArg, ofConst, ofVal, List.all_cons, List.all_nil, Bool.and_true, Specs.at, eOffers, List.map_cons, List.map_nil, sOwn, unO_el, h9, Option.toList_some, true_and]
      refine SWO.call (.func 32) #[.tmp 99, .tmp 101, .tmp 104] _ 32 #[] #[] rfl rfl rfl rfl rfl rfl (RWait_no pid os (r2.rd b2.inc) (by rw [List.length_map]; omega) (by rw [← hsc, hp]; rfl)) rfl rfl ?_ (fun c h' hc => by cases hc.1)
      rintro p' h' ⟨hp', rfl⟩
      injection hp' with hp'
      subst hp'
      refine SWO.run [] 1000 ?_
      simp only [wpS, thenQ, AS.put, dropKey, Nat.reduceEqDiff, ↓reduceIte, reduceCtorEq]
      refine RestC.last [] [] rfl (by kernel_rfl) ?_
      simp only [wpO, thenQ]
      refine SW.run [] _ ?_
      simp only [wpC, isB, AS.get, Lift.look, tmpOf, ↓reduceIte, Option.getD_some, asB, Bool.false_eq_true, thenQ, true_and]
      refine SW.run [] _ ?_
      simp only [wpC, mayStop, stops, isFlt, Specs.has, Specs.hasO, Bool.or_false, Specs.hasH, Bool.not_false, List.any_cons, List.any_nil, Bool.false_eq_true, ↓reduceIte, wpS, wantedA, okDst, Nat.reduceLT, decide_true, step1, isOwnCall, hxOp, px, AS.eval, AS.get, Lift.look, Nat.reduceEqDiff, Option.getD_some, AS.put, dropKey, reduceCtorEq, isNilC, pbinP, ofConst, ofVal, pbinI, beq_self_eq_true, thenQ, inQ, RPost, sres, Try.results18, sresL, sres1, Option.some.injEq, exists_eq_left', true_and]
      exact ⟨_, .refl _ _, by rw [hQ]; exact ⟨rfl, HA, B, b2, w, r2.weak j0, rfl, by omega, by omega, by omega⟩⟩
    case none =>
      refine SW.regionCut [] rfl (RestC.cut [eOwn] [0, 1, 2, 3, 4, 5] 6 (k := 1) rfl (by kernel_rfl) ?_)
      simp only [wpO, LOp, List.getElem?_toArray, List.getElem?_cons_zero, okDst, Nat.reduceLT, decide_true, wantedA, ↓reduceIte, step1, isOwnCall, Bool.false_eq_true, hxOp, px, AS.eval, AS.get, Lift.look, Nat.succ_ne_zero, adr, Option.getD_some, List.getElem?_cons_succ, AS.put, dropKey, Nat.reduceEqDiff, reduceCtorEq, pfieldAddr, fieldOf, ty30, fieldIn, ty3, Option.map_some, ne_eq, not_false_eq_true, Nat.zero_add, pload, k1, okOne, TK.isAgg, beq_self_eq_true, Bool.or_true, Nat.reduceAdd, List.length_cons, List.length_nil, Nat.reduceLeDiff, and_self, Lift.valOf, List.drop_succ_cons, List.drop_zero, List.take_succ_cons, List.take_zero, List.getD_cons_zero, ty28, Nat.le_refl, List.take_nil, Specs.hasO, Specs.hasH, pcall, okArg, ofConst, ofVal, List.all_cons, List.all_nil, Bool.and_true, Specs.at, eOwn, List.map_cons, List.map_nil, sOwn, unO_el, h9, Option.toList_some, true_and]
      refine SWO.call (.func 16) #[.tmp 92, .tmp 94, .tmp 97] _ 16 #[] #[] rfl rfl rfl rfl rfl rfl (Wait_ok pid os (by omega) b2 w hp (by omega) (by omega)) rfl rfl ?_ (fun c h' hc => by cases hc.1)
      rintro p' h' ⟨hp', B', pr, b', w', ps', pp, ho', rb', tm'⟩
      injection hp' with hp'
      subst hp'
      have it' := items_snoc w w' ps'
      have hprm : pr ∈ B'.ps := by rw [ps']; simp
      have heE : elE B'.items = elE B.items ++ newE pid os os.length := by
        rw [it']
        show List.map _ _ = _
        rw [List.map_append]
        congr 1
        exact its_newE (by rw [← pp]; exact w'.pi pr hprm) (w'.ar pr hprm) ho'
      have k1' := b'.inc _ _ (iH _ _ g1)
      refine SWO.run [] 1000 ?_
      simp only [wpS, thenQ, AS.put, dropKey, Nat.reduceEqDiff, ↓reduceIte, reduceCtorEq]
      refine RestC.last [] [7] rfl (by kernel_rfl) ?_
      simp only [wpO, LOp, List.getElem?_toArray, List.getElem?_cons_succ, List.getElem?_cons_zero, okDst, Nat.reduceLT, decide_true, wantedA, ↓reduceIte, step1, isOwnCall, Bool.false_eq_true, hxOp, px, AS.eval, AS.get, Lift.look, Option.getD_some, thenQ, AS.put, dropKey, Nat.reduceEqDiff, reduceCtorEq, true_and]
      refine SW.seq (SW.seq (SW.regionCut [] rfl (RestC.cut [eOffers] [0, 1, 2, 3, 4, 5] 6 (k := 0) rfl (by kernel_rfl) ?_)))
      simp only [wpO, LOp, List.getElem?_toArray, List.getElem?_cons_zero, okDst, Nat.reduceLT, decide_true, wantedA, ↓reduceIte, step1, isOwnCall, Bool.false_eq_true, hxOp, px, AS.eval, AS.get, Lift.look, Nat.reduceEqDiff, reduceCtorEq, Option.getD_some, List.getElem?_cons_succ, AS.put, dropKey, pfieldAddr, fieldOf, ty30, fieldIn, ty3, Option.map_some, ne_eq, Nat.succ_ne_zero, not_false_eq_true, Nat.zero_add, pload, k1', okOne, TK.isAgg, beq_self_eq_true, Bool.or_true, Nat.reduceAdd, List.length_cons, List.length_nil, Nat.reduceLeDiff, and_self, Lift.valOf, List.drop_succ_cons, List.drop_zero, List.take_succ_cons, List.take_zero, List.getD_cons_zero, ty28, Nat.le_refl, List.take_nil, Specs.hasO, Specs.hasH, pcall, okArg, ofConst, ofVal, List.all_cons, List.all_nil, Bool.and_true, Specs.at, eOffers, List.map_cons, List.map_nil, sOwn, unO_el, h9, Option.toList_some, true_and]
      refine SWO.call (.func 32) #[.tmp 99, .tmp 101, .tmp 104] _ 32 #[] #[] rfl rfl rfl rfl rfl rfl (RWait_ok pid os h9 r2 b' (by rw [List.length_map]; omega) (by omega) (by rw [← hsc, hp]; rfl) heE) rfl rfl ?_ (fun c h' hc => by cases hc.1)
      rintro p' h2 ⟨hp', HA2, r3, b3⟩
      injection hp' with hp'
      subst hp'
      refine SWO.run [] 1000 ?_
      simp only [wpS, thenQ, AS.put, dropKey, Nat.reduceEqDiff, ↓reduceIte, reduceCtorEq]
      refine RestC.last [] [] rfl (by kernel_rfl) ?_
      simp only [wpO, thenQ]
      refine SW.run [] _ ?_
      simp only [wpC, isB, AS.get, Lift.look, tmpOf, ↓reduceIte, Option.getD_some, asB, mayStop, stops, isFlt, Specs.has, Specs.hasO, Bool.or_false, Specs.hasH, Bool.not_false, List.any_cons, List.any_nil, Bool.false_eq_true, wpS, wantedA, okDst, Nat.reduceLT, decide_true, step1, isOwnCall, hxOp, px, AS.eval, Nat.reduceEqDiff, AS.put, dropKey, reduceCtorEq, isNilC, pbinP, ofConst, ofVal, pbinI, beq_self_eq_true, thenQ, inQ, RPost, sres, Try.results18, sresL, sres1, Option.some.injEq, exists_eq_left', true_and]
      have hpm : B.ps.map Pr.pid ++ [pid] = B'.ps.map Pr.pid := by rw [ps', List.map_append, ← pp]; rfl
      rw [hpm] at r3
      have hll : pr.its.length = os.length := its_len ho'
      exact ⟨_, .refl _ _, by rw [hQ]; exact ⟨rfl, HA2, B', b3, w', r3.weak j0, rb', by rw [it', List.length_append]; omega, by omega, by rw [ps', List.length_append]; simp⟩⟩
  cases e3 : (k == 3)
  case true =>
    simp only [wpC, mayStop, stops, isFlt, Specs.has, Specs.hasO, Bool.or_false, Specs.hasH, Bool.not_false, List.any_cons, List.any_nil, Bool.false_eq_true, ↓reduceIte, wpS, wantedA, okDst, Nat.reduceLT, decide_true, step1, isOwnCall, hxOp, px, isNilC, pbinP, AS.eval, AS.get, Lift.look, reduceCtorEq, Nat.reduceEqDiff, Option.getD_some, ofConst, ofVal, pbinI, e0, AS.put, dropKey, thenQ, isB, tmpOf, asB, e1, e2, e3, Bool.or_true, true_and]
    have hc : SCalls env 12 [adr B.rb, .int .i64 pid] H (fun e h' => ∃ p, e = .ret p ∧ (p = .bool (pOf B.ps pid).isSome ∧ ∃ B', BOn HA noG B' h' ∧ WF B' ∧ B'.ps = delP pid B.ps ∧ B'.rb = B.rb ∧ B'.time = B.time)) := (Leave_ok pid b2 w (by omega)).mono fun e h' q => ⟨_, q.1, rfl, q.2⟩
    have hq1A := iH _ _ g1
    refine SW.regionCut [] rfl (RestC.cutM [] ⟨3, _, 12, _, _, [adr B.rb, .int .i64 pid], H, _, rfl, rfl, hc⟩ (fun r => ∃ X, HA r = some X) (fun p h' q r kx => by obtain ⟨X, hX⟩ := kx; obtain ⟨_, B', b', _⟩ := q; exact (b'.inc _ _ hX).trans (b2.inc _ _ hX).symm) [(0, false), (1, false), (2, false), (4, false), (5, false), (6, true)] 7 (k := 3) rfl (by kernel_rfl) ?_)
    simp only [wpP, Bool.false_eq_true, keptP, AS.get, Lift.look, ptrAt, List.getElem?_toArray, List.getElem?_cons_zero, ptrT, Nat.succ_ne_zero, ↓reduceIte, adr, Option.getD_some, false_implies, LOp, okDst, Nat.reduceLT, decide_true, wantedA, step1, isOwnCall, hxOp, px, AS.eval, AS.put, dropKey, Nat.reduceEqDiff, reduceCtorEq, List.getElem?_cons_succ, pfieldAddr, fieldOf, ty30, fieldIn, ty3, Option.map_some, ne_eq, not_false_eq_true, Nat.zero_add, hq1A, Option.some.injEq, pload, k1, okOne, TK.isAgg, beq_self_eq_true, Bool.or_true, Nat.reduceAdd, List.length_cons, List.length_nil, Nat.reduceLeDiff, and_self, Lift.valOf, List.drop_succ_cons, List.drop_zero, List.take_succ_cons, List.take_zero, List.getD_cons_zero, forall_const, HandOK, okArg, ofConst, ofVal, List.all_cons, List.all_nil, Bool.and_true, List.map_cons, List.map_nil, List.getElem_toArray, List.getElem_cons_succ, List.getElem_cons_zero, true_and]
    refine ⟨⟨_, rfl⟩, ?_⟩
    rintro p' h' ⟨rfl, B', b', w', ps', rb', tm'⟩
    have rd' := r2.rd b'.inc
    have hsc := some_contains pid B.ps
    refine RestC.cut [] [] 7 (k := 2) rfl (by kernel_rfl) ?_
    simp only [wpO, List.getElem?_toArray, List.getElem?_cons_succ, List.getElem?_cons_zero, Option.toList_some]
    cases hp : (B.ps.map Pr.pid).contains pid
    · refine SWO.call (.func 33) #[.tmp 116, .tmp 118] _ 33 #[] #[] rfl rfl rfl rfl rfl rfl (RLeave_no pid rd' (by rw [List.length_map]; omega) hp) rfl rfl ?_ (fun c h' hc => by cases hc.1)
      rintro p' h2 ⟨hp', rfl⟩
      injection hp' with hp'
      subst hp'
      refine SWO.run [] 1000 ?_
      simp only [wpS, thenQ, AS.put, dropKey, Nat.reduceEqDiff, ↓reduceIte, reduceCtorEq]
      have hn : pOf B.ps pid = none := by rw [hp] at hsc; simpa using hsc
      rw [pOf_none hn] at ps'
      have it' : B'.items = B.items := by rw [w'.it, ps', ← w.it]
      refine RestC.last [] [8, 9] rfl (by kernel_rfl) ?_
      simp only [wpO, LOp, List.getElem?_toArray, List.getElem?_cons_succ, List.getElem?_cons_zero, okDst, Nat.reduceLT, decide_true, wantedA, ↓reduceIte, step1, isOwnCall, Bool.false_eq_true, hxOp, px, isNilC, pbinP, AS.eval, AS.get, Lift.look, Nat.reduceEqDiff, hsc, hp, Option.getD_some, pflt, peq, ty4, peqK, beq_self_eq_true, AS.put, dropKey, reduceCtorEq, thenQ, true_and]
      refine SW.run [] _ ?_
      simp only [wpC, inQ, thenQ, RPost, sres, Try.results18, sresL, sres1, AS.get, Lift.look, ↓reduceIte, Option.getD_some, Option.some.injEq, exists_eq_left']
      exact ⟨_, .refl _ _, by rw [hQ]; exact ⟨rfl, HA, B', b', w', by rw [ps', it']; exact r2.weak j0, rb', by rw [it']; omega, by omega, by rw [ps']; omega⟩⟩
    · refine SWO.call (.func 33) #[.tmp 116, .tmp 118] _ 33 #[] #[] rfl rfl rfl rfl rfl rfl (RLeave_ok pid r2 b' (by rw [List.length_map]; omega) (by omega) hp) rfl rfl ?_ (fun c h' hc => by cases hc.1)
      rintro p' h2 ⟨hp', HA2, r3, b3⟩
      injection hp' with hp'
      subst hp'
      refine SWO.run [] 1000 ?_
      simp only [wpS, thenQ, AS.put, dropKey, Nat.reduceEqDiff, ↓reduceIte, reduceCtorEq]
      have it' := items_del w w' ps'
      rw [← it', ← pids_del pid w.pn, ← ps'] at r3
      refine RestC.last [] [8, 9] rfl (by kernel_rfl) ?_
      simp only [wpO, LOp, List.getElem?_toArray, List.getElem?_cons_succ, List.getElem?_cons_zero, okDst, Nat.reduceLT, decide_true, wantedA, ↓reduceIte, step1, isOwnCall, Bool.false_eq_true, hxOp, px, isNilC, pbinP, AS.eval, AS.get, Lift.look, Nat.reduceEqDiff, hsc, hp, Option.getD_some, pflt, peq, ty4, peqK, beq_self_eq_true, AS.put, dropKey, reduceCtorEq, thenQ, true_and]
      refine SW.run [] _ ?_
      simp only [wpC, inQ, thenQ, RPost, sres, Try.results18, sresL, sres1, AS.get, Lift.look, ↓reduceIte, Option.getD_some, Option.some.injEq, exists_eq_left']
      exact ⟨_, .refl _ _, by rw [hQ]; exact ⟨rfl, HA2, B', b3, w', r3.weak j0, rb', by rw [it']; exact Nat.le_trans (keep_len _ _) (by omega), by omega, by rw [ps']; unfold delP; exact Nat.le_trans (List.eraseP_sublist.length_le) (by omega)⟩⟩
  cases e4 : (k == 4)
  case true =>
    simp only [wpC, mayStop, stops, isFlt, Specs.has, Specs.hasO, Bool.or_false, Specs.hasH, Bool.not_false, List.any_cons, List.any_nil, Bool.false_eq_true, ↓reduceIte, wpS, wantedA, okDst, Nat.reduceLT, decide_true, step1, isOwnCall, hxOp, px, isNilC, pbinP, AS.eval, AS.get, Lift.look, reduceCtorEq, Nat.reduceEqDiff, Option.getD_some, ofConst, ofVal, pbinI, e0, AS.put, dropKey, thenQ, isB, tmpOf, asB, e1, e2, e3, e4, Bool.or_true, true_and]
    have hc : SCalls env 11 [adr B.rb, .int .i64 pid] H (fun e h' => ∃ p, e = .ret p ∧ (p = .bool (pOf B.ps pid).isSome ∧ h' = H)) := (Waits_ok pid b2).mono fun e h' q => ⟨_, q.1, rfl, q.2⟩
    refine SW.regionCut [] rfl (RestC.cutM [] ⟨3, _, 11, _, _, [adr B.rb, .int .i64 pid], H, fun p h' => p = .bool (pOf B.ps pid).isSome ∧ h' = H, rfl, rfl, hc⟩ (fun _ => True) (fun p h' q r _ => by rw [q.2]) [(0, false), (1, false), (2, false), (4, false), (5, false), (6, true)] 7 (k := 3) rfl (by kernel_rfl) ?_)
    simp only [wpP, Bool.false_eq_true, keptP, AS.get, Lift.look, ptrAt, List.getElem?_toArray, List.getElem?_cons_zero, ptrT, Nat.succ_ne_zero, ↓reduceIte, adr, Option.getD_some, implies_true, LOp, okDst, Nat.reduceLT, decide_true, wantedA, step1, isOwnCall, hxOp, px, AS.eval, AS.put, dropKey, Nat.reduceEqDiff, reduceCtorEq, List.getElem?_cons_succ, pfieldAddr, fieldOf, ty30, fieldIn, ty3, Option.map_some, ne_eq, not_false_eq_true, Nat.zero_add, pload, k1, okOne, TK.isAgg, beq_self_eq_true, Bool.or_true, Nat.reduceAdd, List.length_cons, List.length_nil, Nat.reduceLeDiff, and_self, Lift.valOf, List.drop_succ_cons, List.drop_zero, List.take_succ_cons, List.take_zero, List.getD_cons_zero, forall_const, HandOK, okArg, ofConst, ofVal, List.all_cons, List.all_nil, Bool.and_true, List.map_cons, List.map_nil, List.getElem_toArray, List.getElem_cons_succ, List.getElem_cons_zero, true_and]
    rintro p' h' ⟨rfl, rfl⟩
    refine RestC.last [eWaitsR m (B.ps.map Pr.pid) B.items] [7, 8, 9] rfl (by kernel_rfl) ?_
    simp only [wpO, LOp, List.getElem?_toArray, List.getElem?_cons_succ, List.getElem?_cons_zero, okDst, Nat.reduceLT, decide_true, wantedA, ↓reduceIte, step1, isOwnCall, Specs.hasO, Bool.false_eq_true, hxOp, Specs.hasH, eWaitsR, hx, okArg, AS.eval, AS.get, Lift.look, some_contains, ofConst, ofVal, List.all_cons, Nat.reduceEqDiff, Option.getD_some, List.all_nil, Bool.and_true, Specs.atH, List.map_cons, List.map_nil, sWaitsR, true_and, AS.put, dropKey, reduceCtorEq, px, isNilC, pbinP, pflt, peq, ty4, peqK, beq_self_eq_true, thenQ]
    refine ⟨⟨r2.rd b2.inc, by rw [List.length_map]; omega⟩, ?_⟩
    refine SW.run [] _ ?_
    simp only [wpC, inQ, thenQ, RPost, sres, Try.results18, sresL, sres1, AS.get, Lift.look, ↓reduceIte, Option.getD_some, Option.some.injEq, exists_eq_left']
    exact ⟨_, .refl _ _, by rw [hQ]; exact ⟨rfl, HA, B, b2, w, r2.weak j0, rfl, by omega, by omega, by omega⟩⟩
  simp only [wpC, mayStop, stops, isFlt, Specs.has, Specs.hasO, Bool.or_false, Specs.hasH, Bool.not_false, List.any_cons, List.any_nil, Bool.false_eq_true, ↓reduceIte, wpS, wantedA, okDst, Nat.reduceLT, decide_true, step1, isOwnCall, hxOp, px, isNilC, pbinP, AS.eval, AS.get, Lift.look, reduceCtorEq, Nat.reduceEqDiff, Option.getD_some, ofConst, ofVal, pbinI, e0, AS.put, dropKey, thenQ, isB, tmpOf, asB, e1, e2, e3, e4, inQ, true_and]
  have hc : SCalls env 20 [adr B.rb, .int .i64 c, .bool s] H (fun e h' => ∃ p, e = .ret p ∧ (p = .list 4 (elE (fil B.items c s)) ∧ h' = H)) := (Queue_ok c s b2 w (by omega)).mono fun e h' q => ⟨_, q.1, rfl, q.2⟩
  refine SW.seq (SW.regionCut [] rfl (RestC.cutM [] ⟨5, _, 20, _, _, [adr B.rb, .int .i64 c, .bool s], H, fun p h' => p = .list 4 (elE (fil B.items c s)) ∧ h' = H, rfl, rfl, hc⟩ (fun _ => True) (fun p h' q r _ => by rw [q.2]) [(0, false), (1, false), (2, false), (3, false), (4, false), (6, false), (7, false), (8, true), (9, false), (10, true)] 11 (k := 3) rfl (by kernel_rfl) ?_))
  simp only [wpP, Bool.false_eq_true, keptP, AS.get, Lift.look, ptrAt, List.getElem?_toArray, List.getElem?_cons_zero, ptrT, Nat.succ_ne_zero, ↓reduceIte, adr, Option.getD_some, implies_true, LOp, okDst, Nat.reduceLT, decide_true, wantedA, step1, isOwnCall, hxOp, px, AS.eval, AS.put, dropKey, Nat.reduceEqDiff, reduceCtorEq, List.getElem?_cons_succ, pfieldAddr, fieldOf, ty39, fieldIn, ty3, Option.map_some, ne_eq, not_false_eq_true, Nat.add_zero, pload, k2, okOne, TK.isAgg, beq_self_eq_true, Bool.or_true, Nat.zero_add, List.length_cons, List.length_nil, Nat.reduceAdd, Nat.reduceLeDiff, and_self, Lift.valOf, List.drop_zero, List.take_succ_cons, List.take_zero, List.getD_cons_zero, ty4, Nat.le_refl, List.drop_succ_cons, List.take_nil, forall_const, HandOK, okArg, ofConst, ofVal, List.all_cons, List.all_nil, Bool.and_true, List.map_cons, List.map_nil, List.getElem_toArray, List.getElem_cons_succ, List.getElem_cons_zero, true_and]
  rintro p' h' ⟨rfl, rfl⟩
  have hfl : (fil B.items c s).length ≤ 1000000 := Nat.le_trans (List.length_filter_le _ _) (by omega)
  refine RestC.last [eQueueR m (B.ps.map Pr.pid) B.items, eSame] [11, 12, 13] rfl (by kernel_rfl) ?_
  simp only [wpO, LOp, List.getElem?_toArray, List.getElem?_cons_succ, List.getElem?_cons_zero, okDst, Nat.reduceLT, decide_true, wantedA, ↓reduceIte, step1, isOwnCall, Specs.hasO, Bool.false_eq_true, hxOp, Specs.hasH, eQueueR, hx, okArg, AS.eval, AS.get, Lift.look, ofConst, ofVal, List.all_cons, Nat.reduceEqDiff, Option.getD_some, List.all_nil, Bool.and_true, Specs.atH, List.map_cons, List.map_nil, sQueueR, true_and, AS.put, dropKey, reduceCtorEq, px, pcall, Specs.at, eSame, sSame, thenQ]
  refine ⟨⟨r2.rd b2.inc, by omega⟩, ⟨_, rfl, rfl, hfl⟩, ?_⟩
  refine SW.run [] _ ?_
  simp only [wpC, RPost, sres, Try.results18, sresL, sres1, AS.get, Lift.look, ↓reduceIte, Option.getD_some, Option.some.injEq, exists_eq_left']
  exact ⟨_, .refl _ _, by rw [hQ]; exact ⟨rfl, HA, B, b2, w, r2.weak j0, rfl, by omega, by omega, by omega⟩⟩
end Go.Proofs.Ytekgfneapofgpaa
