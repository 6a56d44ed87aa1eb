/- Contracts of functions that the law reaches. -/
import Derived.Test.Ytekgfneapofgpaa9
set_option linter.unusedSimpArgs false
set_option linter.unusedVariables false
namespace Go.Proofs.Ytekgfneapofgpaa
open Go Go.RowKit Go.Proofs.Ytekgfneapofgpaa Go.Proofs.Ytekgfneapofgpaa.Lift

/-! (*Board).Wait -/
def elO (os : List (Int × Bool)) : List (List PV) := os.map fun o => [.int .i64 o.1, .bool o.2]
theorem elO_len (os : List (Int × Bool)) : (elO os).length = os.length := List.length_map _
theorem elO_at {os : List (Int × Bool)} {j : Nat} (hj : j < os.length) : (elO os).getD j [] = [.int .i64 os[j].1, .bool os[j].2] := by
  unfold elO
  rw [List.getD_eq_getElem?_getD, List.getElem?_map, List.getElem?_eq_getElem hj]
  rfl
/-- The row of a process's items, before it is the board's. -/
def SpareI (h0 : Heap) (B : Bo) (its : List It) (v : PV) (h : Heap) : Prop :=
  (v = .cap0 ∧ its = []) ∨ ∃ r cap, v = .val (.slice (some ⟨r, 0, none⟩) its.length cap) ∧ its.length ≤ cap ∧ cap ≤ maxLen ∧ h r = some (rowC cap its) ∧ h0 r = none ∧ ∀ q ∈ B.qs, q.buf ≠ r
theorem SpareI.kept {h0 h h' : Heap} {B B' : Bo} {its : List It} {v : PV} (s : SpareI h0 B its v h) (k : ∀ r cap l, h r = some (rowC cap l) → (∀ q ∈ B.qs, q.buf ≠ r) → h' r = h r ∧ ∀ q ∈ B'.qs, q.buf ≠ r) : SpareI h0 B' its v h' := by
  rcases s with s | ⟨r, cap, h1, h2, h3, h4, h5, h6⟩
  · exact .inl s
  · obtain ⟨k1, k2⟩ := k r cap its h4 h6
    exact .inr ⟨r, cap, h1, h2, h3, k1.trans h4, h5, k2⟩
theorem SpareI.base {h0 h : Heap} {B : Bo} {its : List It} {v : PV} (s : SpareI h0 B its v h) (b : BOn h0 noG B h) : ∃ hb, BOn h0 noG B hb ∧ OwnC hb 61 1 (adr1 its) v h ∧ (∀ k X, hb k = some X → h k = some X) ∧ (v = .cap0 ∨ ∃ u, v = .val u) := by
  rcases s with ⟨rfl, rfl⟩ | ⟨r, cap, rfl, h2, h3, h4, h5, h6⟩
  · exact ⟨h, b, .inl ⟨rfl, rfl, rfl⟩, fun _ _ e => e, .inl rfl⟩
  · refine ⟨h.del r, b.del h4 h5 h6, .inr (Own.ofRow h4 h2 h3), fun k X e => ?_, .inr ⟨_, rfl⟩⟩
    by_cases hk : k = r
    · subst hk; rw [Heap.del_same] at e; cases e
    · rw [Heap.del_ne _ hk] at e; exact e
theorem SpareI.of {h0 hb h : Heap} {B : Bo} {its : List It} {v : PV} (b : BOn h0 noG B hb) (o : Own hb 61 1 (adr1 its) v h) (hne : its ≠ []) : BOn h0 noG B h ∧ SpareI h0 B its v h ∧ ∀ k X, hb k = some X → h k = some X := by
  rcases Own.toRow o with ⟨_, e, _⟩ | ⟨buf, cap, rfl, h2, h3, h4, rfl⟩
  · exact absurd e hne
  · refine ⟨b.put h4 _, .inr ⟨buf, cap, rfl, h2, h3, Heap.put_same _ _ _, ?_, fun q hq e => ?_⟩, fun k X e => ?_⟩
    · cases e : h0 buf with
      | none => rfl
      | some X => rw [b.inc _ _ e] at h4; cases h4
    · rw [← e, b.hbuf q hq] at h4; cases h4
    · rw [Heap.put_ne _ _ (by rintro rfl; rw [h4] at e; cases e)]; exact e
theorem Wait_nil (p : Int) (os : List (Int × Bool)) (h : Heap) : SCalls env 16 [.val (.pointer none), .int .i64 p, .list 2 (elO os)] h (Ret (.int .i64 1) h) := by
  refine SCalls.body Try.func16 rfl rfl (by simp [Try.ntmps16]) (SW.run [] _ ?_)
  simp only [wpC, mayStop, stops, isFlt, Specs.has, Specs.hasO, Bool.or_false, Specs.hasH, Bool.not_false, List.any_cons, List.any_nil, Bool.false_eq_true, ↓reduceIte, wpS, wantedA, okDst, Try.ntmps16, Nat.reduceLT, decide_true, step1, isOwnCall, hxOp, px, AS.eval, ofConst, ofVal, thenQ, Bool.or_true, AS.put, enumA, Nat.zero_add, Nat.reduceAdd, dropKey, reduceCtorEq, Nat.reduceEqDiff, AS.get, Lift.look, Nat.succ_ne_zero, Option.getD_some, isNilC, pbinP, pflt, peq, ty25, peqK, Option.isNone_none, isB, tmpOf, asB, inQ, RPost, sres, Try.results16, sresL, sres1, Option.some.injEq, Ret_fin, HTo_self, and_true, exists_eq_left', and_self]
theorem Wait_lim (p : Int) (xs : List (List PV)) (hl : 16384 < xs.length) (rb : Nat) (h : Heap) : SCalls env 16 [adr rb, .int .i64 p, .list 2 xs] h (Ret (.int .i64 3) h) := by
  refine SCalls.body Try.func16 rfl rfl (by simp [Try.ntmps16]) (SW.run [] _ ?_)
  have hl' : (16384 : Int) < (xs.length : Int) := by omega
  simp only [wpC, mayStop, stops, isFlt, Specs.has, Specs.hasO, Bool.or_false, Specs.hasH, Bool.not_false, List.any_cons, List.any_nil, Bool.false_eq_true, ↓reduceIte, wpS, wantedA, okDst, Try.ntmps16, Nat.reduceLT, decide_true, step1, isOwnCall, hxOp, px, AS.eval, ofConst, ofVal, thenQ, Bool.or_true, AS.put, enumA, adr, Nat.zero_add, Nat.reduceAdd, dropKey, reduceCtorEq, Nat.reduceEqDiff, AS.get, Lift.look, Nat.succ_ne_zero, Option.getD_some, isNilC, pbinP, pflt, peq, ty25, peqK, isB, tmpOf, asB, pcall, ty28, plen, okLen, and_self, pbinI, hl', inQ, RPost, sres, Try.results16, sresL, sres1, Option.some.injEq, Ret_fin, HTo_self, and_true, exists_eq_left']
theorem Wait_twice (p : Int) (os : List (Int × Bool)) (hl : os.length ≤ 16384) {h0 h : Heap} {B : Bo} (b : BOn h0 noG B h) (hp : (pOf B.ps p).isSome = true) : SCalls env 16 [adr B.rb, .int .i64 p, .list 2 (elO os)] h (Ret (.int .i64 5) h) := by
  refine SCalls.body Try.func16 rfl rfl (by simp [Try.ntmps16]) (SW.run [eWaits h0 noG B] _ ?_)
  have hl' : ¬ (16384 : Int) < (os.length : Int) := by omega
  simp only [wpC, mayStop, stops, isFlt, Specs.has, Specs.hasO, Bool.or_false, Specs.hasH, eWaits, Bool.false_or, List.any_cons, List.any_nil, Bool.false_eq_true, ↓reduceIte, wpS, wantedA, okDst, Try.ntmps16, Nat.reduceLT, decide_true, step1, isOwnCall, hxOp, px, AS.eval, ofConst, ofVal, thenQ, Bool.not_true, AS.put, enumA, adr, Nat.zero_add, Nat.reduceAdd, dropKey, reduceCtorEq, Nat.reduceEqDiff, AS.get, Lift.look, Nat.succ_ne_zero, Option.getD_some, isNilC, pbinP, pflt, peq, ty25, peqK, isB, tmpOf, asB, pcall, ty28, plen, elO_len, okLen, and_self, pbinI, hl', decide_false, Bool.or_true, hx, okArg, List.all_cons, List.all_nil, Bool.and_true, Specs.atH, List.map_cons, List.map_nil, sWaits, true_and, hp, inQ, RPost, sres, Try.results16, sresL, sres1, Option.some.injEq, Ret_fin, HTo_self, and_true, exists_eq_left']
  exact b
structure WLoop (B : Bo) (p : Int) (os : List (Int × Bool)) (j : Nat) (its : List It) (B' : Bo) : Prop where
  len : its.length = j
  key : its.map (fun i => (i.ch, i.sd)) = os.take j
  pid : ∀ i ∈ its, i.pid = p ∧ i.since = B.time
  arm : its.map It.arm = List.range j
  items : B'.items = B.items ++ its
  rb : B'.rb = B.rb ∧ B'.rq = B.rq ∧ B'.rw = B.rw ∧ B'.time = B.time ∧ B'.nw = B.nw ∧ B'.ps = B.ps
  inv : WInv B'
theorem WLoop.next {B B' B2 : Bo} {p : Int} {os : List (Int × Bool)} {j : Nat} {its : List It} (w : WLoop B p os j its B') (hlt : j < os.length) {x : It} (hx : x.since = B.time ∧ x.pid = p ∧ x.arm = j ∧ x.ch = os[j].1 ∧ x.sd = os[j].2)
    (h1 : B2.items = B'.items ++ [x]) (h2 : B2.rb = B'.rb ∧ B2.rq = B'.rq ∧ B2.rw = B'.rw ∧ B2.time = B'.time ∧ B2.nw = B'.nw ∧ B2.ps = B'.ps) (h3 : WInv B2) : WLoop B p os (j + 1) (its ++ [x]) B2 := by
  obtain ⟨x1, x2, x3, x4, x5⟩ := hx
  refine ⟨by rw [List.length_append, w.len]; rfl, ?_, fun i hi => ?_, ?_, ?_, ?_, h3⟩
  · rw [List.map_append, w.key, List.take_add_one, List.getElem?_eq_getElem hlt]
    show _ ++ [(x.ch, x.sd)] = _
    rw [x4, x5]
    rfl
  · rcases List.mem_append.1 hi with hi | hi
    · exact w.pid i hi
    · obtain rfl : i = x := by simpa using hi
      exact ⟨x2, x1⟩
  · rw [List.map_append, w.arm, List.range_succ]
    show _ ++ [x.arm] = _
    rw [x3]
  · rw [h1, w.items, List.append_assoc]
  · obtain ⟨k1, k2, k3, k4, k5, k6⟩ := w.rb
    obtain ⟨g1, g2, g3, g4, g5, g6⟩ := h2
    exact ⟨g1.trans k1, g2.trans k2, g3.trans k3, g4.trans k4, g5.trans k5, g6.trans k6⟩
theorem Wait_ok (p : Int) (os : List (Int × Bool)) (hl : os.length ≤ 16384) {h0 h : Heap} {B : Bo} (b : BOn h0 noG B h) (w : WF B) (hp : pOf B.ps p = none) (hsz : B.items.length + os.length ≤ 900000) (ht : B.time ≤ 1000000) :
    SCalls env 16 [adr B.rb, .int .i64 p, .list 2 (elO os)] h (fun e h' => e = .ret (.int .i64 0) ∧ ∃ B' pr, BOn h0 noG B' h' ∧ WF B' ∧ B'.ps = B.ps ++ [pr] ∧ pr.pid = p ∧ pr.its.map (fun i => (i.ch, i.sd)) = os ∧ B'.rb = B.rb ∧ B'.time = B.time + 1) := by
  refine SCalls.body Try.func16 rfl rfl (by simp [Try.ntmps16]) ?_
  obtain ⟨Q, hQ⟩ : ∃ Q : SEnd → Heap → Prop, Q = (fun e h' => e = .ret (.int .i64 0) ∧ ∃ B' pr, BOn h0 noG B' h' ∧ WF B' ∧ B'.ps = B.ps ++ [pr] ∧ pr.pid = p ∧ pr.its.map (fun i => (i.ch, i.sd)) = os ∧ B'.rb = B.rb ∧ B'.time = B.time + 1) := ⟨_, rfl⟩
  rw [← hQ]
  have hl' : ¬ (16384 : Int) < (os.length : Int) := by omega
  have hps : (pOf B.ps p).isSome = false := by rw [hp]; rfl
  refine SW.seq (SW.run [] _ ?_)
  simp only [wpC, Bool.false_eq_true, ↓reduceIte, wpS, stops, wantedA, okDst, Try.ntmps16, Nat.reduceLT, decide_true, step1, isOwnCall, hxOp, px, AS.eval, ofConst, ofVal, thenQ, AS.put, enumA, Nat.zero_add, Nat.reduceAdd, dropKey, reduceCtorEq, Nat.reduceEqDiff, true_and]
  refine SW.seq (SW.run [eWaits h0 noG B] _ ?_)
  simp only [wpC, mayStop, stops, isFlt, Specs.has, Specs.hasO, Bool.or_false, Specs.hasH, eWaits, Bool.false_or, List.any_cons, List.any_nil, Bool.false_eq_true, ↓reduceIte, wpS, wantedA, okDst, Nat.reduceLT, decide_true, step1, isOwnCall, hxOp, px, AS.eval, AS.get, Lift.look, Nat.succ_ne_zero, adr, Option.getD_some, AS.put, dropKey, Nat.reduceEqDiff, reduceCtorEq, isNilC, pbinP, pflt, peq, ty25, peqK, ofConst, ofVal, thenQ, isB, tmpOf, asB, pcall, ty28, plen, elO_len, okLen, and_self, pbinI, hl', decide_false, Bool.not_true, Bool.or_true, hx, okArg, List.all_cons, List.all_nil, Bool.and_true, Specs.atH, List.map_cons, List.map_nil, sWaits, true_and, hps, inQ]
  refine ⟨b, ?_⟩
  refine SW.seq (SW.run [] _ ?_)
  simp only [wpC, Bool.false_eq_true, ↓reduceIte, wpS, stops, wantedA, okDst, Nat.reduceLT, decide_true, step1, isOwnCall, hxOp, px, pbuildSlice, ty59, ty61, AS.eval, AS.get, Lift.look, ofConst, ofVal, List.map_nil, AS.put, dropKey, Nat.reduceEqDiff, reduceCtorEq, Option.getD_some, thenQ, true_and]
  refine SW.seq (SW.seq (SW.run [] _ ?_))
  simp only [wpC, Bool.false_eq_true, ↓reduceIte, wpS, stops, wantedA, okDst, Nat.reduceLT, decide_true, step1, isOwnCall, hxOp, px, AS.eval, AS.get, Lift.look, Nat.reduceEqDiff, reduceCtorEq, Option.getD_some, AS.put, dropKey, pcall, ty28, plen, elO_len, okLen, and_self, ofConst, ofVal, thenQ, true_and]
  refine SW.block (SW.loop (fun m a => ∃ (j : Nat) (its : List It) (B' : Bo) (v : PV), j ≤ os.length ∧ os.length - j = m ∧ WLoop B p os j its B' ∧ BOn h0 noG B' a.h ∧ SpareI h0 B' its v a.h ∧ a.n = 85 ∧ hasAll a [(0, adr B.rb), (1, .int .i64 p), (7, v), (25, .list 2 (elO os)), (26, .int .i64 (os.length : Nat)), (27, .int .i64 (j : Nat))]) os.length ⟨0, [], B, .cap0, Nat.zero_le _, rfl, ⟨rfl, rfl, (fun i hi => nomatch hi), rfl, (List.append_nil _).symm, ⟨rfl, rfl, rfl, rfl, rfl, rfl⟩, ⟨w.kn, w.kf, w.kx⟩⟩, b, .inl ⟨rfl, rfl⟩, rfl, ?_⟩ ?_)
  · simp only [hasAll, AS.get, Lift.look, Nat.succ_ne_zero, ↓reduceIte, Option.getD_some, adr, Nat.reduceEqDiff, reduceCtorEq, Int.cast_ofNat_Int, and_self]
  · rintro m a ⟨j, its, B', v, hj, hm, wl, bj, sp, hn, hs⟩
    refine SW.norm ⟨hn, rfl, hs⟩ ?_
    generalize a.h = hj' at bj sp
    clear hn hs
    refine SW.seq (SW.run [] _ ?_)
    by_cases hlt : j < os.length
    · have hw : IntKind.i64.wrap ((j : Int) + 1) = ((j + 1 : Nat) : Int) := by rw [w64 (by omega) (by omega)]; rfl
      have hg := elO_at hlt
      simp only [wpC, Bool.false_eq_true, ↓reduceIte, wpS, stops, wantedA, okDst, Nat.reduceLT, decide_true, step1, isOwnCall, hxOp, px, isNilC, pbinP, AS.eval, AS.get, Lift.look, reduceCtorEq, Nat.reduceEqDiff, Option.getD_some, pbinI, Int.ofNat_lt, hlt, thenQ, hasAll, and_true, AS.put, dropKey, true_and]
      refine SW.seq (SW.run [] _ ?_)
      simp only [wpC, isB, AS.get, Lift.look, tmpOf, ↓reduceIte, Option.getD_some, asB, thenQ, true_and]
      refine SW.seq (SW.block (SW.seq (SW.run [] _ ?_)))
      simp only [wpC, Bool.false_eq_true, ↓reduceIte, wpS, stops, wantedA, okDst, Nat.reduceLT, decide_true, step1, isOwnCall, hxOp, px, AS.eval, AS.get, Lift.look, Nat.reduceEqDiff, reduceCtorEq, Option.getD_some, AS.put, dropKey, adr, pindexAddr, ty28, ty39, ne_eq, Nat.succ_ne_zero, not_false_eq_true, Int.natCast_nonneg, Int.toNat_natCast, elO_len, hlt, and_self, hg, pload, okOne, TK.isAgg, Nat.reduceBEq, Bool.or_false, List.length_cons, List.length_nil, Nat.zero_add, Nat.reduceAdd, Nat.le_refl, Lift.valOf, List.take_succ_cons, List.take_nil, okAlloc, okZero, List.all_cons, Value.oneCell', List.all_nil, Bool.and_true, hx, zeroOf, List.map_cons, ofVal, List.map_nil, Heap.get_put, known1, PV.cells, splice, List.take_zero, List.nil_append, List.drop_succ_cons, List.drop_nil, List.append_nil, thenQ, true_and]
      intro r9 hr9
      obtain ⟨e1, e2, e3, e4, e5, e6⟩ := wl.rb
      rw [Heap.put_put]
      have b9 := bj.put hr9 (.cells 39 2 [.int .i64 os[j].1, .bool os[j].2])
      have s9 : SpareI h0 B' its v (hj'.put r9 (.cells 39 2 [.int .i64 os[j].1, .bool os[j].2])) := sp.kept fun r cap l hr hne => ⟨Heap.put_ne _ _ (by rintro rfl; rw [hr9] at hr; cases hr), hne⟩
      have h9 : (hj'.put r9 (.cells 39 2 [.int .i64 os[j].1, .bool os[j].2])) r9 = some (.cells 39 2 [.int .i64 os[j].1, .bool os[j].2]) := Heap.put_same _ _ _
      generalize hj'.put r9 (.cells 39 2 [.int .i64 os[j].1, .bool os[j].2]) = H at b9 s9 h9 ⊢
      clear bj sp hr9
      have d1 := b9.hb
      rw [e1] at d1
      refine SW.seq (SW.regionAny [] [[0, 1, 2, 3, 4, 5, 6, 7, 8, 9, 10, 11, 12, 13]] rfl (by rfl) (by kernel_rfl) ?_)
      simp only [wpOL, wpO, LOp, List.getElem?_toArray, List.getElem?_cons_zero, okDst, Nat.reduceLT, decide_true, wantedA, ↓reduceIte, step1, isOwnCall, Bool.false_eq_true, hxOp, px, AS.eval, AS.get, Lift.look, Nat.succ_ne_zero, Option.getD_some, List.getElem?_cons_succ, AS.put, dropKey, Nat.reduceEqDiff, reduceCtorEq, pfieldAddr, fieldOf, ty58, fieldIn, ty3, Option.map_some, ne_eq, not_false_eq_true, Nat.zero_add, pload, d1, boC, okOne, TK.isAgg, beq_self_eq_true, Bool.or_true, Nat.reduceAdd, List.length_cons, List.length_nil, Nat.le_refl, and_self, Lift.valOf, List.drop_succ_cons, List.drop_zero, List.take_succ_cons, List.take_nil, List.getD_cons_zero, ty39, Nat.add_zero, h9, Nat.reduceLeDiff, List.take_zero, ty4, pbuild, ty35, List.map_cons, ofVal, List.map_nil, ofConst, pfill, placeOf, PV.cells, splice, List.nil_append, List.cons_append, List.drop_nil, List.append_nil, List.all_cons, Option.isSome_some, List.all_nil, Bool.and_true, okZero, Value.oneCell', known, ty63, known1, thenQ, true_and]
      intro ra hra
      obtain ⟨x, hx⟩ : ∃ x : It, x = ⟨ra, B.time, p, j, os[j].1, os[j].2⟩ := ⟨_, rfl⟩
      have xa : x.a = ra := by rw [hx]
      have bI := b9.addI (i := x) (by rw [xa]; exact hra) rfl
      have eI : itC false x = .cells 63 6 [.int .i64 (B.time : Nat), .bool false, .int .i64 p, .int .i64 (j : Nat), .int .i64 os[j].1, .bool os[j].2] := by rw [hx]; rfl
      rw [eI, xa] at bI
      rw [e4]
      have sI : SpareI h0 { B' with items := B'.items ++ [x] } its v (H.put ra (.cells 63 6 [.int .i64 (B.time : Nat), .bool false, .int .i64 p, .int .i64 (j : Nat), .int .i64 os[j].1, .bool os[j].2])) := s9.kept fun r cap l hr hne => ⟨Heap.put_ne _ _ (by rintro rfl; rw [hra] at hr; cases hr), hne⟩
      have hI : (H.put ra (.cells 63 6 [.int .i64 (B.time : Nat), .bool false, .int .i64 p, .int .i64 (j : Nat), .int .i64 os[j].1, .bool os[j].2])) r9 = some (.cells 39 2 [.int .i64 os[j].1, .bool os[j].2]) := by
        rw [Heap.put_ne _ _ (by rintro rfl; rw [hra] at h9; cases h9)]; exact h9
      generalize H.put ra (.cells 63 6 [.int .i64 (B.time : Nat), .bool false, .int .i64 p, .int .i64 (j : Nat), .int .i64 os[j].1, .bool os[j].2]) = H2 at bI sI hI ⊢
      clear b9 s9 h9 d1 hra
      have d1 := bI.hb
      have d2 := bI.hq
      have d3 := qE_fits B'.qs
      have d4 := q_find os[j].1 os[j].2 B'.qs
      simp only [] at d1 d2
      rw [e1] at d1
      refine SW.seq (SW.regionAny [] [[0, 1, 2, 3, 4, 5, 6, 7, 8, 9, 10]] rfl (by rfl) (by kernel_rfl) ?_)
      cases hq : qOf B'.qs os[j].1 os[j].2 with
      | none =>
        rw [hq] at d4
        simp only [wpOL, wpO, LOp, List.getElem?_toArray, List.getElem?_cons_zero, okDst, Nat.reduceLT, decide_true, wantedA, ↓reduceIte, step1, isOwnCall, Bool.false_eq_true, hxOp, px, AS.eval, AS.get, Lift.look, Nat.succ_ne_zero, Option.getD_some, List.getElem?_cons_succ, AS.put, dropKey, Nat.reduceEqDiff, reduceCtorEq, pfieldAddr, fieldOf, ty58, fieldIn, ty55, Option.map_some, ne_eq, not_false_eq_true, Nat.add_zero, pload, d1, boC, okOne, TK.isAgg, beq_self_eq_true, Bool.or_true, Nat.zero_add, List.length_cons, List.length_nil, Nat.reduceAdd, Nat.reduceLeDiff, and_self, Lift.valOf, List.drop_zero, List.take_succ_cons, List.take_zero, List.getD_cons_zero, ty39, hI, Nat.reduceBEq, Bool.or_false, Nat.le_refl, List.take_nil, plookup, ty64, d2, isAggV, glook, kk39, d3, PV.cells, fits, Bool.and_true, okZero, List.all_cons, Value.oneCell', List.all_nil, qE_len, d4, adr, Option.map_none, List.map_cons, ofVal, List.map_nil, Option.getD_none, Option.isSome_none, thenQ, true_and]
        refine SW.seq (SW.run [] _ ?_)
        simp only [wpC, mayStop, stops, isFlt, Specs.has, Specs.hasO, Bool.or_false, Specs.hasH, Bool.not_false, List.any_cons, List.any_nil, Bool.false_eq_true, ↓reduceIte, wpS, wantedA, okDst, Nat.reduceLT, decide_true, step1, isOwnCall, hxOp, px, AS.eval, AS.get, Lift.look, Option.getD_some, AS.put, dropKey, Nat.reduceEqDiff, reduceCtorEq, pun, thenQ, isB, tmpOf, asB, pbuild, ty67, List.map_cons, ofVal, List.map_nil, ofConst, pfill, List.all_cons, ty59, Option.isSome_some, List.all_nil, Bool.and_true, okZero, Value.oneCell', known, and_self, known1, PV.cells, List.length_cons, List.length_nil, Nat.zero_add, true_and]
        intro rn hrn
        have d5 := bI.hq
        simp only [] at d5
        have n1 : ¬ B.rb = rn := by rintro rfl; rw [hrn] at d1; cases d1
        have n2 : ¬ r9 = rn := by rintro rfl; rw [hrn] at hI; cases hI
        have n3 : ¬ B'.rq = rn := by rintro rfl; rw [hrn] at d5; cases d5
        refine SW.regionLast [] [0, 1, 2, 3, 4, 5] rfl (by rfl) (by kernel_rfl) (by rfl) (by kernel_rfl) ?_
        simp only [wpO, LOp, List.getElem?_toArray, List.getElem?_cons_zero, okDst, Nat.reduceLT, decide_true, wantedA, ↓reduceIte, step1, isOwnCall, Bool.false_eq_true, hxOp, px, AS.eval, AS.get, Lift.look, Nat.succ_ne_zero, Option.getD_some, List.getElem?_cons_succ, AS.put, dropKey, Nat.reduceEqDiff, reduceCtorEq, pfieldAddr, fieldOf, ty58, fieldIn, ty55, Option.map_some, ne_eq, not_false_eq_true, Nat.add_zero, pload, Heap.get_put, n1, d1, boC, okOne, TK.isAgg, beq_self_eq_true, Bool.or_true, Nat.zero_add, List.length_cons, List.length_nil, Nat.reduceAdd, Nat.reduceLeDiff, and_self, Lift.valOf, List.drop_zero, List.take_succ_cons, List.take_zero, List.getD_cons_zero, ty39, n2, hI, Nat.reduceBEq, Bool.or_false, Nat.le_refl, List.take_nil, true_and]
        refine SWO.mapSet 55 (.tmp 61) (.tmp 62) (.tmp 63) (.inl rfl) ty55 rfl kk39 (kv := .agg [.int .i64 os[j].1, .bool os[j].2]) (vv := adr rn) rfl rfl rfl rfl rfl rfl rfl ((Heap.put_ne _ _ n3).trans d5) (qE_fits _) rfl rfl ?_
        obtain ⟨ms, mc⟩ := mset_new (v := [adr rn]) (n := B'.nq) d4
        have ek : (PV.agg [.int .i64 os[j].1, .bool os[j].2]).cells = [.int .i64 os[j].1, .bool os[j].2] := rfl
        have ev : (adr rn).cells = [adr rn] := rfl
        rw [ek, ev, ms, mc]
        refine SWO.run [] 1000 ?_
        simp only [wpS, thenQ, AS.put, isAggV]
        refine SW.seq (SW.run [] _ ?_)
        simp only [wpC, Bool.false_eq_true, ↓reduceIte, wpS, stops, wantedA, okDst, Nat.reduceLT, decide_true, step1, isOwnCall, hxOp, px, AS.eval, AS.get, Lift.look, Nat.reduceEqDiff, Option.getD_some, AS.put, dropKey, reduceCtorEq, Specs.has, Specs.hasO, Bool.or_false, Specs.hasH, Bool.not_false, true_and]
        have hH3 : ((H2.put rn (.cells 67 1 [.val (.slice none 0 0)])).put B'.rq (.gmap true false (qEs B'.qs ++ [([.int .i64 os[j].1, .bool os[j].2], [adr rn], B'.nq)]) (B'.nq + 1))) rn = some (.cells 67 1 [.val (.slice none 0 0)]) := by
          rw [Heap.put_ne _ _ (fun e => n3 e.symm), Heap.put_same]
        refine SWO.call (.func 24) #[.tmp 64, .tmp 65] _ 24 #[] #[] rfl rfl rfl rfl rfl (by rw [← xa]; rfl) (Add_ok (l := []) hH3 (Own.nil _ _ _) ⟨_, rfl⟩ hH3 (by simp) x) rfl rfl ?_ (fun c h' hc => by cases hc.1)
        rintro p' h' ⟨hp', buf, cap, c1, c2, c3, rfl⟩
        injection hp' with hp'
        subst hp'
        have eq : qEs (B'.qs ++ [⟨os[j].1, os[j].2, rn, buf, cap, B'.nq, [x]⟩]) = qEs B'.qs ++ [([.int .i64 os[j].1, .bool os[j].2], [adr rn], B'.nq)] := by unfold qEs; rw [List.map_append]; rfl
        have bs := bI.newQ (q := ⟨os[j].1, os[j].2, rn, buf, cap, B'.nq, [x]⟩) (x := x) (v := .val (.slice none 0 0)) (List.mem_append_right _ (List.mem_singleton.2 rfl)) rfl ⟨c1, c2⟩ hrn (by simp only []; rw [eq]; exact c3)
        simp only [] at bs
        rw [eq] at bs
        change BOn h0 noG _ ((((H2.put rn (.cells 67 1 [.val (.slice none 0 0)])).put B'.rq (.gmap true false (qEs B'.qs ++ [([.int .i64 os[j].1, .bool os[j].2], [adr rn], B'.nq)]) (B'.nq + 1))).put buf (rowC cap ([] ++ [x]))).put rn (quC buf ([] ++ [x]).length cap)) at bs
        have s3 := sI.kept (B' := { B' with items := B'.items ++ [x], qs := B'.qs ++ [⟨os[j].1, os[j].2, rn, buf, cap, B'.nq, [x]⟩], nq := B'.nq + 1 }) (h' := ((((H2.put rn (.cells 67 1 [.val (.slice none 0 0)])).put B'.rq (.gmap true false (qEs B'.qs ++ [([.int .i64 os[j].1, .bool os[j].2], [adr rn], B'.nq)]) (B'.nq + 1))).put buf (rowC cap ([] ++ [x]))).put rn (quC buf ([] ++ [x]).length cap))) (fun r cp l hr hne => by
          have k1 : r ≠ rn := by rintro rfl; rw [hrn] at hr; cases hr
          have k2 : r ≠ B'.rq := by rintro rfl; rw [d5] at hr; cases hr
          have k3 : r ≠ buf := by rintro rfl; rw [Heap.put_ne _ _ k2, Heap.put_ne _ _ k1, hr] at c3; cases c3
          refine ⟨by rw [Heap.put_ne _ _ k1, Heap.put_ne _ _ k3, Heap.put_ne _ _ k2, Heap.put_ne _ _ k1], fun y hy => ?_⟩
          rcases List.mem_append.1 hy with hy | hy
          · exact hne y hy
          · obtain rfl := List.mem_singleton.1 hy
            exact fun e => k3 e.symm)
        generalize ((((H2.put rn (.cells 67 1 [.val (.slice none 0 0)])).put B'.rq (.gmap true false (qEs B'.qs ++ [([.int .i64 os[j].1, .bool os[j].2], [adr rn], B'.nq)]) (B'.nq + 1))).put buf (rowC cap ([] ++ [x]))).put rn (quC buf ([] ++ [x]).length cap)) = H3 at bs s3 ⊢
        refine SWO.run [] 1000 ?_
        simp only [wpS, thenQ, AS.put, dropKey, Nat.reduceEqDiff, ↓reduceIte, reduceCtorEq]
        refine SW.run [] _ ?_
        simp only [wpC, Bool.false_eq_true, ↓reduceIte, wpS, stops, wantedA, okDst, Nat.reduceLT, decide_true, step1, isOwnCall, hxOp, px, AS.eval, AS.get, Lift.look, Nat.reduceEqDiff, reduceCtorEq, Option.getD_some, AS.put, dropKey, pbuildSlice, ty59, ty61, Nat.succ_ne_zero, List.replicate, List.map_cons, ofVal, List.map_nil, List.flatten_cons, List.flatten_nil, List.append_nil, ofConst, pfill, PV.cells, List.length_cons, List.length_nil, Nat.zero_add, Nat.reduceMul, Nat.le_refl, and_self, splice, List.take_zero, List.nil_append, List.drop_succ_cons, List.drop_nil, Nat.reduceLeDiff, okZero, List.all_cons, Value.oneCell', List.all_nil, Bool.and_true, known, chunk, List.take_succ_cons, List.take_nil, true_and]
        obtain ⟨hb, bb, oc, _, hv⟩ := s3.base bs
        have hsv : its.length = j := wl.len
        refine SWO.appendC (.tmp 67) (.tmp 69) 59 59 rfl ty59 rfl ty61 (by decide) rfl ty59 rfl oc (ys := [[adr x.a]]) (by rw [xa]; rfl) (by rw [adr1_len]; show (its.length + 1) * 8 ≤ _; omega) (by rw [adr1_len]; simp [maxLen]; omega) rfl rfl ?_
        intro v' h' ow _ _
        rcases ow with ow | ⟨_, _, _, ow, _⟩
        · rw [← adr1_snoc] at ow
          obtain ⟨b4, s4, _⟩ := SpareI.of bb ow (by simp)
          refine SWO.run [] 1000 ?_
          simp only [wpS, stops, Bool.false_eq_true, ↓reduceIte, wantedA, okDst, AS.put, dropKey, Nat.reduceEqDiff, reduceCtorEq, Nat.reduceLT, decide_true, step1, isOwnCall, hxOp, px, AS.eval, AS.get, Lift.look, Option.getD_some, inQ, thenQ, true_and]
          refine SW.run [] _ ?_
          simp only [wpC, Bool.false_eq_true, ↓reduceIte, wpS, stops, isFlt, ty3, wantedA, okDst, Nat.reduceLT, decide_true, step1, isOwnCall, hxOp, px, isNilC, pbinP, AS.eval, AS.get, Lift.look, Nat.reduceEqDiff, reduceCtorEq, Option.getD_some, ofConst, ofVal, pbinI, hw, AS.put, dropKey, thenQ, Nat.succ_ne_zero, true_and]
          refine ⟨m - 1, by omega, j + 1, its ++ [x], _, v', hlt, by omega, wl.next hlt (x := x) (by rw [hx]; exact ⟨rfl, rfl, rfl, rfl, rfl⟩) ?_ ?_ ?_, b4, s4, rfl, rfl⟩
          · rfl
          · exact ⟨rfl, rfl, rfl, rfl, rfl, rfl⟩
          · exact wl.inv.new (by rw [hx]; exact ⟨rfl, rfl⟩) rfl (by rw [hx]; exact hq) _
        · cases ow
      | some q =>
        rw [hq] at d4
        obtain ⟨hqm, hk1, hk2⟩ := qOf_mem hq
        simp only [wpOL, wpO, LOp, List.getElem?_toArray, List.getElem?_cons_zero, okDst, Nat.reduceLT, decide_true, wantedA, ↓reduceIte, step1, isOwnCall, Bool.false_eq_true, hxOp, px, AS.eval, AS.get, Lift.look, Nat.succ_ne_zero, Option.getD_some, List.getElem?_cons_succ, AS.put, dropKey, Nat.reduceEqDiff, reduceCtorEq, pfieldAddr, fieldOf, ty58, fieldIn, ty55, Option.map_some, ne_eq, not_false_eq_true, Nat.add_zero, pload, d1, boC, okOne, TK.isAgg, beq_self_eq_true, Bool.or_true, Nat.zero_add, List.length_cons, List.length_nil, Nat.reduceAdd, Nat.reduceLeDiff, and_self, Lift.valOf, List.drop_zero, List.take_succ_cons, List.take_zero, List.getD_cons_zero, ty39, hI, Nat.reduceBEq, Bool.or_false, Nat.le_refl, List.take_nil, plookup, ty64, d2, isAggV, glook, kk39, d3, PV.cells, fits, Bool.and_true, okZero, List.all_cons, Value.oneCell', List.all_nil, qE_len, d4, adr, List.map_cons, ofVal, List.map_nil, Option.isSome_some, thenQ, true_and]
        refine SW.seq (SW.run [] _ ?_)
        simp only [wpC, mayStop, stops, isFlt, Specs.has, Specs.hasO, Bool.or_false, Specs.hasH, Bool.not_false, List.any_cons, List.any_nil, Bool.false_eq_true, ↓reduceIte, wpS, wantedA, okDst, Nat.reduceLT, decide_true, step1, isOwnCall, hxOp, px, AS.eval, AS.get, Lift.look, Option.getD_some, AS.put, dropKey, Nat.reduceEqDiff, reduceCtorEq, pun, Bool.not_true, thenQ, isB, tmpOf, asB, true_and]
        refine SW.seq (SW.run [] _ ?_)
        simp only [wpC, Bool.false_eq_true, ↓reduceIte, wpS, stops, wantedA, okDst, Nat.reduceLT, decide_true, step1, isOwnCall, hxOp, px, AS.eval, AS.get, Lift.look, Nat.reduceEqDiff, Option.getD_some, AS.put, dropKey, reduceCtorEq, Specs.has, Specs.hasO, Bool.or_false, Specs.hasH, Bool.not_false, true_and]
        have q1 := bI.hqa q hqm
        have q2 := bI.hbuf q hqm
        have q3 := bI.hcap q hqm
        have qab : q.qa ≠ q.buf := by intro e; rw [e, q2] at q1; cases q1
        have hql : q.l.length + 1 ≤ 1000000 := by
          have k := (wl.inv.kf q hqm).2
          have k2 : q.l.length ≤ B'.items.length := by rw [k]; exact List.length_filter_le ..
          rw [wl.items, List.length_append, wl.len] at k2
          omega
        refine SWO.call (.func 24) #[.tmp 64, .tmp 65] _ 24 #[] #[] rfl rfl rfl rfl rfl (by rw [← xa]; rfl) (Add_ok (l := q.l) q1 (Own.ofRow q2 q3.1 q3.2) ⟨_, rfl⟩ (by rw [Heap.del_ne _ qab]; exact q1) hql x) rfl rfl ?_ (fun c h' hc => by cases hc.1)
        rintro p' h' ⟨hp', buf, cap, c1, c2, c3, rfl⟩
        injection hp' with hp'
        subst hp'
        have bs := bI.setQ hqm (l := q.l ++ [x]) (fun i hi => by
          rcases List.mem_append.1 hi with hi | hi
          · exact bI.hsub q hqm i hi
          · exact List.mem_append_right _ hi) ⟨c1, c2⟩ c3
        have s3 := sI.kept (B' := { B' with items := B'.items ++ [x], qs := setQ q.qa (q.l ++ [x]) buf cap B'.qs }) (h' := ((H2.del q.buf).put buf (rowC cap (q.l ++ [x]))).put q.qa (quC buf (q.l ++ [x]).length cap)) (fun r cp l hr hne => by
          have k1 : r ≠ q.qa := by rintro rfl; rw [q1] at hr; cases hr
          have k2 : r ≠ q.buf := fun e => hne q hqm e.symm
          have k3 : r ≠ buf := by rintro rfl; rw [Heap.del_ne _ k2, hr] at c3; cases c3
          refine ⟨by rw [Heap.put_ne _ _ k1, Heap.put_ne _ _ k3, Heap.del_ne _ k2], fun y hy => ?_⟩
          rcases setQ_mem hy with ⟨z, hz, e, rfl⟩ | ⟨hz, e⟩
          · exact fun e => k3 e.symm
          · exact hne y hz)
        generalize ((H2.del q.buf).put buf (rowC cap (q.l ++ [x]))).put q.qa (quC buf (q.l ++ [x]).length cap) = H3 at bs s3 ⊢
        refine SWO.run [] 1000 ?_
        simp only [wpS, thenQ, AS.put, dropKey, Nat.reduceEqDiff, ↓reduceIte, reduceCtorEq]
        refine SW.run [] _ ?_
        simp only [wpC, Bool.false_eq_true, ↓reduceIte, wpS, stops, wantedA, okDst, Nat.reduceLT, decide_true, step1, isOwnCall, hxOp, px, AS.eval, AS.get, Lift.look, Nat.reduceEqDiff, reduceCtorEq, Option.getD_some, AS.put, dropKey, pbuildSlice, ty59, ty61, Nat.succ_ne_zero, List.replicate, List.map_cons, ofVal, List.map_nil, List.flatten_cons, List.flatten_nil, List.append_nil, ofConst, pfill, PV.cells, List.length_cons, List.length_nil, Nat.zero_add, Nat.reduceMul, Nat.le_refl, and_self, splice, List.take_zero, List.nil_append, List.drop_succ_cons, List.drop_nil, Nat.reduceLeDiff, okZero, List.all_cons, Value.oneCell', List.all_nil, Bool.and_true, known, chunk, List.take_succ_cons, List.take_nil, true_and]
        obtain ⟨hb, bb, oc, _, hv⟩ := s3.base bs
        have hsv : its.length = j := wl.len
        refine SWO.appendC (.tmp 67) (.tmp 69) 59 59 rfl ty59 rfl ty61 (by decide) rfl ty59 rfl oc (ys := [[adr x.a]]) (by rw [xa]; rfl) (by rw [adr1_len]; show (its.length + 1) * 8 ≤ _; omega) (by rw [adr1_len]; simp [maxLen]; omega) rfl rfl ?_
        intro v' h' ow _ _
        rcases ow with ow | ⟨_, _, _, ow, _⟩
        · rw [← adr1_snoc] at ow
          obtain ⟨b4, s4, _⟩ := SpareI.of bb ow (by simp)
          refine SWO.run [] 1000 ?_
          simp only [wpS, stops, Bool.false_eq_true, ↓reduceIte, wantedA, okDst, AS.put, dropKey, Nat.reduceEqDiff, reduceCtorEq, Nat.reduceLT, decide_true, step1, isOwnCall, hxOp, px, AS.eval, AS.get, Lift.look, Option.getD_some, inQ, thenQ, true_and]
          refine SW.run [] _ ?_
          simp only [wpC, Bool.false_eq_true, ↓reduceIte, wpS, stops, isFlt, ty3, wantedA, okDst, Nat.reduceLT, decide_true, step1, isOwnCall, hxOp, px, isNilC, pbinP, AS.eval, AS.get, Lift.look, Nat.reduceEqDiff, reduceCtorEq, Option.getD_some, ofConst, ofVal, pbinI, hw, AS.put, dropKey, thenQ, Nat.succ_ne_zero, true_and]
          refine ⟨m - 1, by omega, j + 1, its ++ [x], _, v', hlt, by omega, wl.next hlt (x := x) (by rw [hx]; exact ⟨rfl, rfl, rfl, rfl, rfl⟩) ?_ ?_ ?_, b4, s4, rfl, rfl⟩
          · rfl
          · exact ⟨rfl, rfl, rfl, rfl, rfl, rfl⟩
          · exact wl.inv.old bI.ndq hqm (by rw [hx]; exact ⟨hk1, hk2⟩) buf cap
        · cases ow
    · obtain rfl : j = os.length := by omega
      obtain ⟨e1, e2, e3, e4, e5, e6⟩ := wl.rb
      simp only [wpC, Bool.false_eq_true, ↓reduceIte, wpS, stops, wantedA, okDst, Nat.reduceLT, decide_true, step1, isOwnCall, hxOp, px, isNilC, pbinP, AS.eval, AS.get, Lift.look, reduceCtorEq, Nat.reduceEqDiff, Option.getD_some, pbinI, Int.ofNat_lt, Nat.lt_irrefl, decide_false, thenQ, hasAll, and_true, AS.put, dropKey, true_and]
      refine SW.seq (SW.run [] _ ?_)
      simp only [wpC, isB, AS.get, Lift.look, tmpOf, ↓reduceIte, Option.getD_some, asB, Bool.false_eq_true, thenQ, inQ, true_and]
      have d1 := bj.hb
      rw [e1] at d1
      have hwt : IntKind.i64.wrap ((B'.time : Int) + 1) = ((B'.time + 1 : Nat) : Int) := by rw [e4, w64 (by omega) (by omega)]; rfl
      refine SW.seq (SW.run [] _ ?_)
      simp only [wpC, Bool.false_eq_true, ↓reduceIte, wpS, stops, wantedA, okDst, Nat.reduceLT, decide_true, step1, isOwnCall, hxOp, px, AS.eval, AS.get, Lift.look, Nat.succ_ne_zero, adr, Option.getD_some, AS.put, dropKey, Nat.reduceEqDiff, reduceCtorEq, pfieldAddr, fieldOf, ty58, fieldIn, List.getElem?_cons_succ, List.getElem?_cons_zero, ty3, Option.map_some, ne_eq, not_false_eq_true, Nat.zero_add, pload, d1, boC, okOne, TK.isAgg, beq_self_eq_true, Bool.or_true, Nat.reduceAdd, List.length_cons, List.length_nil, Nat.le_refl, and_self, Lift.valOf, List.drop_succ_cons, List.drop_zero, List.take_succ_cons, List.take_nil, List.getD_cons_zero, isFlt, isNilC, pbinP, ofConst, ofVal, pbinI, hwt, hx, known1, PV.cells, splice, List.take_zero, List.cons_append, List.nil_append, List.drop_nil, List.append_nil, thenQ, true_and]
      have bt := bj.tick
      have eh : hj'.put B'.rb (boC { B' with time := B'.time + 1 }) = hj'.put B.rb (.cells 58 3 [.val (.map (some B'.rq)), .val (.map (some B'.rw)), .int .i64 ((B'.time + 1 : Nat) : Int)]) := by rw [e1]; rfl
      rw [eh] at bt
      have st : SpareI h0 { B' with time := B'.time + 1 } its v (hj'.put B.rb (.cells 58 3 [.val (.map (some B'.rq)), .val (.map (some B'.rw)), .int .i64 ((B'.time + 1 : Nat) : Int)])) := sp.kept fun r cp l hr hne => ⟨Heap.put_ne _ _ (by rintro rfl; rw [d1] at hr; cases hr), hne⟩
      generalize hj'.put B.rb (.cells 58 3 [.val (.map (some B'.rq)), .val (.map (some B'.rw)), .int .i64 ((B'.time + 1 : Nat) : Int)]) = H4 at bt st ⊢
      obtain ⟨hb, bb, oc, _, _⟩ := st.base bt
      refine SW.own_letC 7 rfl oc ?_
      have c1 := bb.hb
      have c2 := bb.hw
      have c4 := w_find p B'.ps
      rw [e6, hp] at c4
      simp only [e6] at c1 c2
      simp only [e1] at c1
      refine SW.seq (SW.run [] _ ?_)
      simp only [wpC, Bool.false_eq_true, ↓reduceIte, wpS, stops, wantedA, okDst, AS.put, dropKey, Nat.reduceEqDiff, reduceCtorEq, Nat.reduceLT, decide_true, step1, isOwnCall, hxOp, px, AS.eval, AS.get, Lift.look, Nat.succ_ne_zero, Option.getD_some, pfieldAddr, fieldOf, ty58, fieldIn, List.getElem?_cons_succ, List.getElem?_cons_zero, ty56, Option.map_some, ne_eq, not_false_eq_true, Nat.zero_add, pload, c1, boC, okOne, TK.isAgg, beq_self_eq_true, Bool.or_true, Nat.reduceAdd, List.length_cons, List.length_nil, Nat.reduceLeDiff, and_self, Lift.valOf, List.drop_succ_cons, List.drop_zero, List.take_succ_cons, List.take_zero, List.getD_cons_zero, true_and]
      refine SWO.mapSet 56 (.tmp 82) (.tmp 83) (.tmp 84) (.inl rfl) ty56 rfl kk3 (kv := .int .i64 p) (vv := .list 1 (adr1 its)) rfl rfl rfl rfl rfl rfl rfl c2 (wE_fits _) rfl rfl ?_
      obtain ⟨ms, mc⟩ := mset_new (v := [.list 1 (adr1 its)]) (n := B'.nw) c4
      have ek : (PV.int .i64 p).cells = [.int .i64 p] := rfl
      have ev : (PV.list 1 (adr1 its)).cells = [.list 1 (adr1 its)] := rfl
      have ba := bb.addP ⟨p, B'.nw, its⟩
      have eq : wEs (B'.ps ++ [⟨p, B'.nw, its⟩]) = wEs B.ps ++ [([.int .i64 p], [.list 1 (adr1 its)], B'.nw)] := by rw [e6]; unfold wEs; rw [List.map_append]; rfl
      simp only [] at ba
      rw [eq] at ba
      rw [ek, ev, ms, mc]
      refine SWO.run [] 1000 ?_
      simp only [wpS, thenQ, AS.put, isAggV]
      refine SW.run [] _ ?_
      simp only [wpC, mayStop, stops, isFlt, Specs.has, Specs.hasO, Bool.or_false, Specs.hasH, Bool.not_false, List.any_cons, List.any_nil, Bool.false_eq_true, ↓reduceIte, wpS, wantedA, okDst, Nat.reduceLT, decide_true, step1, isOwnCall, hxOp, px, AS.eval, ofConst, ofVal, thenQ, RPost, sres, AS.put, dropKey, Nat.reduceEqDiff, reduceCtorEq, Try.results16, sresL, sres1, AS.get, Lift.look, Option.getD_some, Option.some.injEq, exists_eq_left', true_and]
      refine ⟨_, .refl _ _, ?_⟩
      rw [hQ]
      refine ⟨rfl, _, ⟨p, B'.nw, its⟩, ba, ?_, by rw [← e6], rfl, ?_, e1, by show B'.time + 1 = _; rw [e4]⟩
      · have iv := wl.inv
        have hpn : ∀ x ∈ B.ps, x.pid ≠ p := fun x hx e => by
          have := List.find?_eq_none.1 hp x hx
          rw [e] at this
          simp at this
        have mem : ∀ y ∈ B'.ps ++ [(⟨p, B'.nw, its⟩ : Pr)], y ∈ B.ps ∨ y = ⟨p, B'.nw, its⟩ := fun y hy => by
          rw [e6] at hy
          rcases List.mem_append.1 hy with hy | hy
          · exact .inl hy
          · exact .inr (by simpa using hy)
        refine ⟨iv.kn, iv.kf, iv.kx, ?_, ?_, fun y hy => ?_, fun y hy => ?_, fun y hy => ?_, ?_, fun y hy => ?_, ?_⟩
        · show B'.items = (B'.ps ++ [_]).flatMap Pr.its
          rw [wl.items, e6, List.flatMap_append, ← w.it]
          simp
        · show ((B'.ps ++ [_]).map Pr.pid).Nodup
          rw [e6, List.map_append, List.nodup_append]
          refine ⟨w.pn, (by simp), fun a ha c hc => ?_⟩
          obtain ⟨y, hy, rfl⟩ := List.mem_map.1 ha
          obtain rfl : c = p := by simpa using hc
          exact hpn y hy
        · rcases mem y hy with hy | rfl
          · exact w.pi y hy
          · exact fun i hi => (wl.pid i hi).1
        · rcases mem y hy with hy | rfl
          · exact w.ar y hy
          · show its.map It.arm = List.range its.length
            rw [wl.arm, wl.len]
        · rcases mem y hy with hy | rfl
          · obtain ⟨s, h1, h2⟩ := w.si y hy
            exact ⟨s, by show s < B'.time + 1; rw [e4]; omega, h2⟩
          · exact ⟨B.time, by show B.time < B'.time + 1; rw [e4]; omega, fun i hi => (wl.pid i hi).2⟩
        · show (B'.ps ++ [_]).Pairwise _
          rw [e6, List.pairwise_append]
          refine ⟨w.so, by simp, fun y hy z hz => ?_⟩
          obtain rfl := List.mem_singleton.1 hz
          intro i hi k hk
          obtain ⟨s, h1, h2⟩ := w.si y hy
          rw [h2 i hi, (wl.pid k hk).2]
          exact h1
        · show y.born < B'.nw + 1
          rcases mem y hy with hy | rfl
          · have := w.bw y hy
            rw [e5]; omega
          · exact Nat.lt_succ_self _
        · show ((B'.ps ++ [_]).map Pr.born).Nodup
          rw [e6, List.map_append, List.nodup_append]
          refine ⟨w.bn, (by simp), fun a ha c hc => ?_⟩
          obtain ⟨y, hy, rfl⟩ := List.mem_map.1 ha
          obtain rfl : c = B'.nw := by simpa using hc
          have := w.bw y hy
          rw [e5]
          omega
      · rw [wl.key, List.take_length]
end Go.Proofs.Ytekgfneapofgpaa
