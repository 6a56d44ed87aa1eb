/- Contracts of functions that the law reaches. -/
import Derived.Test.Ytekgfneapofgpaaa
set_option linter.unusedSimpArgs false
set_option linter.unusedVariables false
namespace Go.Proofs.Ytekgfneapofgpaa
open Go Go.RowKit Go.Proofs.Ytekgfneapofgpaa Go.Proofs.Ytekgfneapofgpaa.Lift

/-! New, Ready, Queue, Meet -/
theorem New_ok (h : Heap) : SCalls env 10 [] h (fun e h' => ∃ B', e = .ret (adr B'.rb) ∧ BOn h noG B' h' ∧ WF B' ∧ B'.ps = [] ∧ B'.time = 0) := by
  refine SCalls.body Try.func10 rfl rfl (by simp [Try.ntmps10]) ?_
  obtain ⟨Q, hQ⟩ : ∃ Q : SEnd → Heap → Prop, Q = (fun e h' => ∃ B', e = .ret (adr B'.rb) ∧ BOn h noG B' h' ∧ WF B' ∧ B'.ps = [] ∧ B'.time = 0) := ⟨_, rfl⟩
  rw [← hQ]
  refine SW.seq (SW.run [] _ ?_)
  simp only [wpC, Bool.false_eq_true, ↓reduceIte, wpS, stops, wantedA, okDst, Try.ntmps10, Nat.reduceLT, decide_true, step1, isOwnCall, hxOp, px, AS.eval, ofConst, ofVal, thenQ, AS.put, enumA, dropKey, true_and]
  refine SW.run [] _ ?_
  simp only [wpC, mayStop, stops, isFlt, Specs.has, Specs.hasO, Bool.or_false, Specs.hasH, Bool.not_false, List.any_cons, List.any_nil, Bool.or_true, ↓reduceIte, Bool.false_eq_true, wpS]
  refine SWO.makeMapG 55 true false rfl rfl rfl fun rq hrq => ?_
  refine SWO.makeMapG 56 false false rfl rfl rfl fun rw hrw => ?_
  have hq : h rq = none := hrq
  have hw : rw ≠ rq ∧ h rw = none := by
    have : (h.put rq (.gmap true false [] 0)) rw = none := hrw
    rwa [Heap.put_none] at this
  refine SWO.run [] 1000 ?_
  simp only [wpS, stops, Bool.false_eq_true, ↓reduceIte, wantedA, okDst, AS.put, dropKey, reduceCtorEq, Nat.reduceEqDiff, Nat.reduceLT, decide_true, step1, isOwnCall, hxOp, px, pbuild, ty58, List.map_cons, ofVal, List.map_nil, AS.eval, AS.get, Lift.look, ofConst, Option.getD_some, pfill, placeOf, List.getElem?_cons_zero, ty55, Option.map_some, PV.cells, List.length_cons, List.length_nil, Nat.zero_add, Nat.reduceAdd, Nat.reduceLeDiff, and_self, List.getElem?_cons_succ, ty56, splice, List.take_zero, List.nil_append, List.drop_succ_cons, List.drop_zero, List.cons_append, List.take_succ_cons, List.all_cons, Option.isSome_some, ty3, List.all_nil, Bool.and_true, okZero, Value.oneCell', known, known1, Heap.get_put, some_none, thenQ, Nat.succ_ne_zero, true_and]
  intro rb h1
  obtain ⟨n1, n2, h3⟩ : ¬ rb = rw ∧ ¬ rb = rq ∧ h rb = none := by simpa using h1
  refine SW.run [] _ ?_
  simp only [wpC, RPost, sres, Try.results10, sresL, sres1, AS.get, Lift.look, ↓reduceIte, Option.getD_some, Option.some.injEq, exists_eq_left']
  refine ⟨_, .refl _ _, ?_⟩
  rw [hQ]
  refine ⟨⟨rb, rq, rw, 0, 0, 0, [], [], []⟩, rfl, ⟨Heap.put_same _ _ _, ?_, ?_, (fun i hi => nomatch hi), (fun i hi => nomatch hi), (fun i hi => nomatch hi), (fun i hi => nomatch hi), (fun i hi => nomatch hi), List.nodup_nil, List.nodup_nil, List.nodup_nil, ?_, h3, hq, hw.2, (fun i hi => nomatch hi), (fun i hi => nomatch hi), (fun i hi => nomatch hi)⟩, ⟨List.nodup_nil, (fun i hi => nomatch hi), (fun i hi => nomatch hi), rfl, List.nodup_nil, (fun i hi => nomatch hi), (fun i hi => nomatch hi), (fun i hi => nomatch hi), List.Pairwise.nil, (fun i hi => nomatch hi), List.nodup_nil⟩, rfl, rfl⟩
  · show ((((h.put rq _).put rw _).put rb _) : Heap) rq = _
    rw [Heap.put_ne _ _ (fun e => n2 e.symm), Heap.put_ne _ _ (fun e => hw.1 e.symm), Heap.put_same]
    rfl
  · show ((((h.put rq _).put rw _).put rb _) : Heap) rw = _
    rw [Heap.put_ne _ _ (fun e => n1 e.symm), Heap.put_same]
    rfl
  · exact (((show Inc h h from fun _ _ e => e).put hq _).put (by rw [Heap.put_none]; exact hw) _).put (by rw [Heap.put_none, Heap.put_none]; exact ⟨n1, n2, h3⟩) _
def sFirst (h0 : Heap) (gn : It → Bool) (B : Bo) : List PV → Heap → Prop × PV × Heap
  | [.val (.pointer (some ⟨a, 0, none⟩)), .int .i64 p, .agg [.int .i64 c, .bool s]], h => (a = B.rb ∧ BOn h0 gn B h, fstV (fstS gn B p c s), h)
  | _, h => HBad h
noncomputable def eFirst (h0 : Heap) (gn : It → Bool) (B : Bo) : SpecH env := ⟨23, sFirst h0 gn B, fun args h hc => by
  unfold sFirst at hc ⊢
  split at hc
  · rename_i a p c s
    obtain ⟨rfl, hb⟩ := hc
    exact First_ok p c s hb
  · exact hc.elim⟩
def elN (l : List Nat) : List (List PV) := l.map fun n => [.int .i64 (n : Nat)]
/-- The offers that can meet. -/
def canS (B : Bo) (p : Int) (os : List (Int × Bool)) (j : Nat) : Bool := match os[j]? with | some o => (fstS noG B p o.1 o.2).isSome | none => false
def readyS (B : Bo) (p : Int) (os : List (Int × Bool)) (n : Nat) : List Nat := (List.range n).filter (canS B p os)
theorem ready_next (B : Bo) (p : Int) (os : List (Int × Bool)) (n : Nat) : readyS B p os (n + 1) = if canS B p os n then readyS B p os n ++ [n] else readyS B p os n := by
  unfold readyS
  rw [List.range_succ, List.filter_append]
  cases h : canS B p os n <;> simp [h]
theorem Ready_nil (p : Int) (os : List (Int × Bool)) (h : Heap) : SCalls env 13 [.val (.pointer none), .int .i64 p, .list 2 (elO os)] h (Ret (.val (.slice none 0 0)) h) := by
  refine SCalls.body Try.func13 rfl rfl (by simp [Try.ntmps13]) ?_
  refine SW.seq (SW.run [] _ ?_)
  simp only [wpC, Bool.false_eq_true, ↓reduceIte, wpS, stops, wantedA, okDst, Try.ntmps13, Nat.reduceLT, decide_true, step1, isOwnCall, hxOp, px, AS.eval, ofConst, ofVal, thenQ, AS.put, enumA, Nat.zero_add, Nat.reduceAdd, dropKey, reduceCtorEq, Nat.reduceEqDiff, true_and]
  refine SW.seq (SW.seq (SW.run [] _ ?_))
  simp only [wpC, Bool.false_eq_true, ↓reduceIte, wpS, stops, wantedA, okDst, Nat.reduceLT, decide_true, step1, isOwnCall, hxOp, px, AS.eval, AS.get, Lift.look, Nat.succ_ne_zero, Option.getD_some, AS.put, dropKey, Nat.reduceEqDiff, reduceCtorEq, isNilC, pbinP, pflt, peq, ty25, peqK, ofConst, ofVal, Option.isNone_none, thenQ, true_and]
  refine SW.run [] _ ?_
  simp only [wpC, isB, AS.get, Lift.look, tmpOf, ↓reduceIte, Option.getD_some, asB, mayStop, stops, isFlt, Specs.has, Specs.hasO, Bool.or_false, Specs.hasH, Bool.not_false, List.any_cons, List.any_nil, Bool.false_eq_true, wpS, wantedA, okDst, Nat.reduceLT, decide_true, step1, isOwnCall, hxOp, px, AS.eval, ofConst, ofVal, thenQ, RPost, sres, AS.put, dropKey, Nat.reduceEqDiff, reduceCtorEq, Try.results13, sresL, sres1, Option.some.injEq, Ret_fin, HTo_self, and_true, exists_eq_left', and_self]
theorem Ready_ok (p : Int) (os : List (Int × Bool)) {h0 h : Heap} {B : Bo} (b : BOn h0 noG B h) (hl : os.length ≤ 1000000) : SCalls env 13 [adr B.rb, .int .i64 p, .list 2 (elO os)] h (Ret (.list 1 (elN (readyS B p os os.length))) h) := by
  refine SCalls.body Try.func13 rfl rfl (by simp [Try.ntmps13]) ?_
  refine SW.seq (SW.run [] _ ?_)
  simp only [wpC, Bool.false_eq_true, ↓reduceIte, wpS, stops, wantedA, okDst, Try.ntmps13, Nat.reduceLT, decide_true, step1, isOwnCall, hxOp, px, AS.eval, ofConst, ofVal, thenQ, AS.put, enumA, adr, Nat.zero_add, Nat.reduceAdd, dropKey, reduceCtorEq, Nat.reduceEqDiff, true_and]
  refine SW.seq (SW.run [] _ ?_)
  simp only [wpC, mayStop, stops, isFlt, Specs.has, Specs.hasO, Bool.or_false, Specs.hasH, Bool.not_false, List.any_cons, List.any_nil, Bool.false_eq_true, ↓reduceIte, wpS, wantedA, okDst, Nat.reduceLT, decide_true, step1, isOwnCall, hxOp, px, AS.eval, AS.get, Lift.look, Nat.succ_ne_zero, Option.getD_some, AS.put, dropKey, Nat.reduceEqDiff, reduceCtorEq, isNilC, pbinP, pflt, peq, ty25, peqK, ofConst, ofVal, thenQ, isB, tmpOf, asB, true_and]
  refine SW.seq (SW.run [] _ ?_)
  simp only [wpC, Bool.false_eq_true, ↓reduceIte, wpS, stops, wantedA, okDst, Nat.reduceLT, decide_true, step1, isOwnCall, hxOp, px, AS.eval, ofConst, ofVal, thenQ, AS.put, dropKey, Nat.reduceEqDiff, reduceCtorEq, true_and]
  refine SW.seq (SW.seq (SW.run [] _ ?_))
  simp only [wpC, Bool.false_eq_true, ↓reduceIte, wpS, stops, wantedA, okDst, Nat.reduceLT, decide_true, step1, isOwnCall, hxOp, px, AS.eval, AS.get, Lift.look, Nat.reduceEqDiff, reduceCtorEq, Option.getD_some, AS.put, dropKey, pcall, ty28, plen, elO_len, okLen, and_self, ofConst, ofVal, thenQ, true_and]
  refine SW.block (SW.loop (fun m a => ∃ (j : Nat) (hb : Heap) (v : PV), j ≤ os.length ∧ os.length - j = m ∧ Own hb 3 1 (elN (readyS B p os j)) v a.h ∧ Inc h hb ∧ a.n = 35 ∧ hasAll a [(0, adr B.rb), (1, .int .i64 p), (7, v), (14, .list 2 (elO os)), (15, .int .i64 (os.length : Nat)), (16, .int .i64 (j : Nat))]) os.length ⟨0, h, .val (.slice none 0 0), Nat.zero_le _, rfl, Own.nil _ _ _, fun _ _ e => e, rfl, ?_⟩ ?_)
  · simp only [hasAll, AS.get, Lift.look, Nat.succ_ne_zero, ↓reduceIte, Option.getD_some, adr, Nat.reduceEqDiff, reduceCtorEq, Int.cast_ofNat_Int, and_self]
  · rintro m a ⟨j, hb, v, hj, hm, ho, hi, hn, hs⟩
    refine SW.norm ⟨hn, rfl, hs⟩ ?_
    generalize a.h = H at ho
    clear hn hs
    refine SW.run [] _ ?_
    by_cases hlt : j < os.length
    · have hw : IntKind.i64.wrap ((j : Int) + 1) = ((j + 1 : Nat) : Int) := by rw [w64 (by omega) (by omega)]; rfl
      have hg := elO_at hlt
      simp only [wpC, mayStop, stops, isFlt, Specs.has, Specs.hasO, Bool.or_false, Specs.hasH, Bool.not_false, List.any_cons, List.any_nil, Bool.false_eq_true, ↓reduceIte, wpS, wantedA, okDst, Nat.reduceLT, decide_true, step1, isOwnCall, hxOp, px, isNilC, pbinP, AS.eval, AS.get, Lift.look, reduceCtorEq, Nat.reduceEqDiff, Option.getD_some, pbinI, Int.ofNat_lt, hlt, thenQ, isB, AS.put, dropKey, adr, tmpOf, asB, Bool.or_true, pindexAddr, ty28, ty39, ne_eq, Nat.succ_ne_zero, not_false_eq_true, Int.natCast_nonneg, Int.toNat_natCast, elO_len, and_self, hg, pload, okOne, TK.isAgg, Nat.reduceBEq, List.length_cons, List.length_nil, Nat.zero_add, Nat.reduceAdd, Nat.le_refl, Lift.valOf, List.take_succ_cons, List.take_nil, okAlloc, okZero, List.all_cons, Value.oneCell', List.all_nil, Bool.and_true, hx, zeroOf, List.map_cons, ofVal, List.map_nil, Heap.get_put, known1, PV.cells, splice, List.take_zero, List.nil_append, List.drop_succ_cons, List.drop_nil, List.append_nil, List.drop_zero, hasAll, and_true, true_and]
      intro r9 hr9
      rw [Heap.put_put]
      have hbr : hb r9 = none := by
        cases e : hb r9 with
        | none => rfl
        | some X => rw [ho.inc _ _ e] at hr9; cases hr9
      have o9 := ho.putx hr9 (.cells 39 2 [.int .i64 os[j].1, .bool os[j].2])
      have i9 := hi.put hbr (.cells 39 2 [.int .i64 os[j].1, .bool os[j].2])
      have h9 : (H.put r9 (.cells 39 2 [.int .i64 os[j].1, .bool os[j].2])) r9 = some (.cells 39 2 [.int .i64 os[j].1, .bool os[j].2]) := Heap.put_same _ _ _
      generalize H.put r9 (.cells 39 2 [.int .i64 os[j].1, .bool os[j].2]) = H9 at o9 h9 ⊢
      generalize hb.put r9 (.cells 39 2 [.int .i64 os[j].1, .bool os[j].2]) = hb9 at o9 i9
      clear ho hi hr9 hbr
      have b9 : BOn h0 noG B H9 := b.mono fun k X e => o9.inc _ _ (i9 _ _ e)
      have hcan : canS B p os j = (fstS noG B p os[j].1 os[j].2).isSome := by unfold canS; rw [List.getElem?_eq_getElem hlt]
      refine SWO.run [eFirst h0 noG B] 1000 ?_
      cases hf : fstS noG B p os[j].1 os[j].2 with
      | none =>
        rw [hf] at hcan
        have hrn := ready_next B p os j
        rw [hcan] at hrn
        simp only [wpS, stops, Specs.has, Specs.hasO, Bool.or_false, Specs.hasH, eFirst, ↓reduceIte, Bool.or_true, Bool.not_true, Bool.false_eq_true, wantedA, okDst, Nat.reduceLT, decide_true, step1, isOwnCall, hxOp, hx, okArg, AS.eval, AS.get, Lift.look, ofConst, ofVal, List.all_cons, Nat.reduceEqDiff, Option.getD_some, List.all_nil, Bool.and_true, Specs.atH, List.map_cons, List.map_nil, sFirst, true_and, fstV, hf, AS.put, dropKey, reduceCtorEq, px, List.getElem?_cons_zero, List.getElem?_cons_succ, thenQ]
        refine ⟨b9, ?_⟩
        refine SW.run [] _ ?_
        simp only [wpC, mayStop, stops, isFlt, Specs.has, Specs.hasO, Bool.or_false, Specs.hasH, Bool.not_false, List.any_cons, List.any_nil, Bool.false_eq_true, ↓reduceIte, wpS, wantedA, okDst, Nat.reduceLT, decide_true, step1, isOwnCall, hxOp, px, AS.eval, AS.get, Lift.look, Option.getD_some, thenQ, isB, AS.put, dropKey, Nat.reduceEqDiff, reduceCtorEq, tmpOf, asB, inQ, true_and]
        refine SW.run [] _ ?_
        simp only [wpC, Bool.false_eq_true, ↓reduceIte, wpS, stops, isFlt, ty3, wantedA, okDst, Nat.reduceLT, decide_true, step1, isOwnCall, hxOp, px, isNilC, pbinP, AS.eval, AS.get, Lift.look, Nat.reduceEqDiff, reduceCtorEq, Option.getD_some, ofConst, ofVal, pbinI, hw, AS.put, dropKey, thenQ, Nat.succ_ne_zero, true_and]
        exact ⟨m - 1, by omega, j + 1, hb9, v, hlt, by omega, by rw [hrn]; exact o9, i9, rfl, rfl⟩
      | some i =>
        rw [hf] at hcan
        have hrn := ready_next B p os j
        rw [hcan] at hrn
        have hrl : (readyS B p os j).length ≤ j := by
          have := List.length_filter_le (canS B p os) (List.range j)
          rwa [List.length_range] at this
        have hel : (elN (readyS B p os j)).length = (readyS B p os j).length := List.length_map _
        simp only [wpS, stops, Specs.has, Specs.hasO, Bool.or_false, Specs.hasH, eFirst, ↓reduceIte, Bool.or_true, Bool.not_true, Bool.false_eq_true, wantedA, okDst, Nat.reduceLT, decide_true, step1, isOwnCall, hxOp, hx, okArg, AS.eval, AS.get, Lift.look, ofConst, ofVal, List.all_cons, Nat.reduceEqDiff, Option.getD_some, List.all_nil, Bool.and_true, Specs.atH, List.map_cons, List.map_nil, sFirst, true_and, fstV, hf, adr, AS.put, dropKey, reduceCtorEq, px, List.getElem?_cons_zero, List.getElem?_cons_succ, thenQ]
        refine ⟨b9, ?_⟩
        refine SW.run [] _ ?_
        simp only [wpC, mayStop, stops, isFlt, Specs.has, Specs.hasO, Bool.or_false, Specs.hasH, Bool.not_false, List.any_cons, List.any_nil, Bool.false_eq_true, ↓reduceIte, wpS, wantedA, okDst, Nat.reduceLT, decide_true, step1, isOwnCall, hxOp, px, AS.eval, AS.get, Lift.look, Option.getD_some, thenQ, isB, AS.put, dropKey, Nat.reduceEqDiff, reduceCtorEq, tmpOf, asB, pbuildSlice, ty31, ty3, Nat.succ_ne_zero, List.replicate, List.map_cons, ofVal, List.map_nil, List.flatten_cons, List.flatten_nil, List.append_nil, ofConst, pfill, PV.cells, List.length_cons, List.length_nil, Nat.zero_add, Nat.reduceMul, Nat.le_refl, and_self, splice, List.take_zero, List.nil_append, List.drop_succ_cons, List.drop_nil, Nat.reduceLeDiff, okZero, List.all_cons, Value.oneCell', List.all_nil, Bool.and_true, known, chunk, List.take_succ_cons, List.take_nil, true_and]
        refine SWO.append (.tmp 29) (.tmp 31) 31 31 rfl ty31 rfl ty3 (by decide) rfl ty31 rfl o9 (ys := elN [j]) rfl (by rw [hel]; show (_ + 1) * 8 ≤ _; omega) (by rw [hel]; simp [elN, maxLen]; omega) rfl rfl ?_
        intro v' h' ow _ _
        refine SWO.run [] 1000 ?_
        simp only [wpS, stops, Bool.false_eq_true, ↓reduceIte, wantedA, okDst, AS.put, dropKey, Nat.reduceEqDiff, reduceCtorEq, Nat.reduceLT, decide_true, step1, isOwnCall, hxOp, px, AS.eval, AS.get, Lift.look, Option.getD_some, inQ, thenQ, true_and]
        refine SW.run [] _ ?_
        simp only [wpC, Bool.false_eq_true, ↓reduceIte, wpS, stops, isFlt, ty3, wantedA, okDst, Nat.reduceLT, decide_true, step1, isOwnCall, hxOp, px, isNilC, pbinP, AS.eval, AS.get, Lift.look, Nat.reduceEqDiff, reduceCtorEq, Option.getD_some, ofConst, ofVal, pbinI, hw, AS.put, dropKey, thenQ, Nat.succ_ne_zero, true_and]
        refine ⟨m - 1, by omega, j + 1, hb9, v', hlt, by omega, ?_, i9, rfl, rfl⟩
        rw [hrn]
        show Own hb9 3 1 (elN (readyS B p os j ++ [j])) v' h'
        have : elN (readyS B p os j ++ [j]) = elN (readyS B p os j) ++ elN [j] := by unfold elN; rw [List.map_append]
        rw [this]
        exact ow
    · obtain rfl : j = os.length := by omega
      simp only [wpC, mayStop, stops, isFlt, Specs.has, Specs.hasO, Bool.or_false, Specs.hasH, Bool.not_false, List.any_cons, List.any_nil, Bool.false_eq_true, ↓reduceIte, wpS, wantedA, okDst, Nat.reduceLT, decide_true, step1, isOwnCall, hxOp, px, isNilC, pbinP, AS.eval, AS.get, Lift.look, reduceCtorEq, Nat.reduceEqDiff, Option.getD_some, pbinI, Int.ofNat_lt, Nat.lt_irrefl, decide_false, thenQ, isB, AS.put, dropKey, tmpOf, asB, inQ, true_and]
      refine SW.own_let 7 rfl ho ?_
      refine SW.run [] _ ?_
      simp only [wpC, mayStop, stops, isFlt, Specs.has, Specs.hasO, Bool.or_false, Specs.hasH, Bool.not_false, List.any_cons, List.any_nil, Bool.false_eq_true, ↓reduceIte, wpS, wantedA, okDst, AS.put, dropKey, Nat.reduceEqDiff, reduceCtorEq, Nat.reduceLT, decide_true, step1, isOwnCall, hxOp, px, AS.eval, AS.get, Lift.look, Option.getD_some, thenQ, RPost, sres, Try.results13, sresL, sres1, Option.some.injEq, Ret_fin, exists_eq_left', true_and]
      exact hi.to
/-! Meet -/
section
variable {h0 h : Heap} {gn : It → Bool} {B : Bo}
theorem BOn.foot (b : BOn h0 gn B h) {r : Nat} (k : h0 r ≠ none ∨ h r = none) : r ≠ B.rb ∧ r ≠ B.rq ∧ r ≠ B.rw ∧ (∀ i ∈ B.items, r ≠ i.a) ∧ ∀ q ∈ B.qs, r ≠ q.qa ∧ r ≠ q.buf := by
  have key : ∀ x X, h x = some X → h0 x = none → r ≠ x := fun x X e1 e2 e => by
    subst e
    rcases k with k | k
    · exact k e2
    · rw [e1] at k; cases k
  exact ⟨key _ _ b.hb b.nb, key _ _ b.hq b.nq, key _ _ b.hw b.nw, fun i hi => key _ _ (b.hi i hi) (b.ni i hi), fun q hq => ⟨key _ _ (b.hqa q hq) (b.nqa q hq), key _ _ (b.hbuf q hq) (b.nbuf q hq)⟩⟩
/-- A block that is no part of the board is written, or new. -/
theorem BOn.over (b : BOn h0 gn B h) {r : Nat} (k : h0 r ≠ none ∨ h r = none) (X : AObj) : BOn (h0.put r X) gn B (h.put r X) := by
  obtain ⟨k1, k2, k3, k4, k5⟩ := b.foot k
  have p : ∀ {x : Nat}, r ≠ x → ∀ H : Heap, H.put r X x = H x := fun hne H => Heap.put_ne _ _ (Ne.symm hne)
  refine ⟨(p k1 h).trans b.hb, (p k2 h).trans b.hq, (p k3 h).trans b.hw, fun i hi => (p (k4 i hi) h).trans (b.hi i hi), fun q hq => (p (k5 q hq).1 h).trans (b.hqa q hq), fun q hq => (p (k5 q hq).2 h).trans (b.hbuf q hq), b.hcap, b.hsub, b.ndi, b.ndq, b.ndb, fun x Y e => ?_, (p k1 h0).trans b.nb, (p k2 h0).trans b.nq, (p k3 h0).trans b.nw, fun i hi => (p (k4 i hi) h0).trans (b.ni i hi), fun q hq => (p (k5 q hq).1 h0).trans (b.nqa q hq), fun q hq => (p (k5 q hq).2 h0).trans (b.nbuf q hq)⟩
  by_cases e2 : x = r
  · subst e2; rw [Heap.put_same] at e ⊢; exact e
  · rw [Heap.put_ne _ _ e2] at e ⊢; exact b.inc x Y e
theorem BOn.weak (b : BOn h0 gn B h) {h1 : Heap} (i : Inc h1 h0) : BOn h1 gn B h := by
  have n : ∀ x, h0 x = none → h1 x = none := fun x e => by
    cases e1 : h1 x with
    | none => rfl
    | some X => rw [i _ _ e1] at e; cases e
  exact ⟨b.hb, b.hq, b.hw, b.hi, b.hqa, b.hbuf, b.hcap, b.hsub, b.ndi, b.ndq, b.ndb, fun k X e => b.inc k X (i k X e), n _ b.nb, n _ b.nq, n _ b.nw, fun x hx => n _ (b.ni x hx), fun q hq => n _ (b.nqa q hq), fun q hq => n _ (b.nbuf q hq)⟩
end
theorem Inc.self (h : Heap) : Inc h h := fun _ _ e => e
def enV (i : It) : PV := .agg [.int .i64 i.pid, .int .i64 (i.arm : Nat), .int .i64 i.ch, .bool i.sd]
def enZ : PV := .agg [.int .i64 0, .int .i64 0, .int .i64 0, .bool false]
theorem Meet_nil (p c : Int) (s : Bool) (h : Heap) : SCalls env 15 [.val (.pointer none), .int .i64 p, .agg [.int .i64 c, .bool s]] h (Ret (.tuple [enZ, .bool false]) h) := by
  refine SCalls.body Try.func15 rfl rfl (by simp [Try.ntmps15]) (SW.run [] _ ?_)
  simp only [wpC, mayStop, stops, isFlt, Specs.has, Specs.hasO, Bool.or_false, Specs.hasH, Bool.not_false, List.any_cons, List.any_nil, Bool.false_eq_true, ↓reduceIte, wpS, wantedA, okDst, Try.ntmps15, Nat.reduceLT, decide_true, step1, known1, AS.eval, AS.get, enumA, Nat.zero_add, Nat.reduceAdd, Lift.look, reduceCtorEq, Nat.reduceEqDiff, Option.getD_some, AS.put, dropKey, okAlloc, ty35, okZero, List.all_cons, Value.oneCell', List.all_nil, Bool.and_true, PV.cells, List.length_cons, List.length_nil, Heap.get_put, some_none, isOwnCall, hxOp, px, ofConst, ofVal, thenQ, zeroOf, List.map_cons, List.map_nil, Nat.succ_ne_zero, isNilC, pbinP, pflt, peq, ty25, peqK, Option.isNone_none, isB, tmpOf, asB, pbuild, pfill, ty3, Option.isSome_some, ty4, known, and_self, hx, Nat.le_refl, splice, List.take_zero, List.nil_append, List.drop_succ_cons, List.drop_nil, List.append_nil, RPost, sres, Try.results15, sresL, sres1, okOne, TK.isAgg, Nat.reduceBEq, Lift.valOf, List.drop_zero, List.take_succ_cons, List.take_nil, Option.some.injEq, enZ, Ret_fin, exists_eq_left', true_and]
  intro r hr q hq
  rw [Heap.put_put]
  exact Inc.to (((Inc.self h).put hr _).put (by rw [Heap.put_none]; exact hq) _)
theorem fst_mem {B : Bo} {gn : It → Bool} {h0 h : Heap} (b : BOn h0 gn B h) {p c : Int} {s : Bool} {i : It} (hf : fstS gn B p c s = some i) : i ∈ B.items := by
  unfold fstS at hf
  cases hq : qOf B.qs c (!s) with
  | none => rw [hq] at hf; cases hf
  | some q =>
    rw [hq] at hf
    obtain ⟨hqm, _, _⟩ := qOf_mem hq
    exact b.hsub q hqm i (List.mem_of_find?_eq_some hf)
theorem Meet_none (p c : Int) (s : Bool) {h0 h : Heap} {B : Bo} (b : BOn h0 noG B h) (hf : fstS noG B p c s = none) : SCalls env 15 [adr B.rb, .int .i64 p, .agg [.int .i64 c, .bool s]] h (Ret (.tuple [enZ, .bool false]) h) := by
  refine SCalls.body Try.func15 rfl rfl (by simp [Try.ntmps15]) ?_
  refine SW.seq (SW.run [] _ ?_)
  simp only [wpC, Bool.false_eq_true, ↓reduceIte, wpS, stops, wantedA, okDst, Try.ntmps15, Nat.reduceLT, decide_true, step1, known1, AS.eval, AS.get, enumA, adr, Nat.zero_add, Nat.reduceAdd, Lift.look, reduceCtorEq, Nat.reduceEqDiff, Option.getD_some, AS.put, dropKey, okAlloc, ty35, okZero, List.all_cons, Value.oneCell', List.all_nil, Bool.and_true, PV.cells, List.length_cons, List.length_nil, Heap.get_put, some_none, isOwnCall, hxOp, px, ofConst, ofVal, thenQ, zeroOf, List.map_cons, List.map_nil, true_and]
  intro r hr q hq
  have hqr : ¬ q = r := hq.1
  have hrq : ¬ r = q := fun e => hqr e.symm
  have i2 := ((Inc.self h).put hr (.cells 39 2 [.int .i64 c, .bool s])).put (r := q) (by rw [Heap.put_none]; exact hq) (.cells 35 4 [.int .i64 0, .int .i64 0, .int .i64 0, .bool false])
  have bb := b.mono i2
  refine SW.run [eFirst h0 noG B] _ ?_
  simp only [wpC, mayStop, stops, isFlt, Specs.has, Specs.hasO, Bool.or_false, Specs.hasH, eFirst, Bool.false_or, List.any_cons, List.any_nil, Bool.false_eq_true, ↓reduceIte, wpS, wantedA, okDst, Nat.reduceLT, decide_true, step1, isOwnCall, hxOp, px, AS.eval, AS.get, Lift.look, Nat.succ_ne_zero, Option.getD_some, AS.put, dropKey, Nat.reduceEqDiff, reduceCtorEq, isNilC, pbinP, pflt, peq, ty25, peqK, ofConst, ofVal, thenQ, isB, tmpOf, asB, Bool.not_true, pload, ty39, Heap.get_put, hrq, okOne, TK.isAgg, Nat.reduceBEq, Nat.zero_add, List.length_cons, List.length_nil, Nat.reduceAdd, Nat.le_refl, and_self, Lift.valOf, List.drop_zero, List.take_succ_cons, List.take_nil, Bool.or_true, hx, okArg, List.all_cons, List.all_nil, Bool.and_true, Specs.atH, List.map_cons, List.map_nil, sFirst, true_and, fstV, hf, List.getElem?_cons_zero, List.getElem?_cons_succ, pun, Bool.not_false, pbuild, ty35, pfill, ty3, Option.isSome_some, ty4, okZero, Value.oneCell', known, known1, PV.cells, splice, List.take_zero, List.nil_append, List.drop_succ_cons, List.drop_nil, List.append_nil, RPost, sres, Try.results15, sresL, sres1, Option.some.injEq, Ret_fin, exists_eq_left']
  refine ⟨bb, rfl, ?_⟩
  rw [Heap.put_put]
  exact i2.to
theorem Meet_some (p c : Int) (s : Bool) {h0 h : Heap} {B : Bo} (b : BOn h0 noG B h) (w : WF B) (hlen : B.items.length ≤ 1000000) {i : It} (hf : fstS noG B p c s = some i) :
    SCalls env 15 [adr B.rb, .int .i64 p, .agg [.int .i64 c, .bool s]] h (Turns h0 B (.tuple [enV i, .bool true]) (delP i.pid B.ps) B.time) := by
  refine SCalls.body Try.func15 rfl rfl (by simp [Try.ntmps15]) ?_
  obtain ⟨Q, hQ⟩ : ∃ Q, Q = Turns h0 B (.tuple [enV i, .bool true]) (delP i.pid B.ps) B.time := ⟨_, rfl⟩
  rw [← hQ]
  refine SW.seq (SW.run [] _ ?_)
  simp only [wpC, Bool.false_eq_true, ↓reduceIte, wpS, stops, wantedA, okDst, Try.ntmps15, Nat.reduceLT, decide_true, step1, known1, AS.eval, AS.get, enumA, adr, Nat.zero_add, Nat.reduceAdd, Lift.look, reduceCtorEq, Nat.reduceEqDiff, Option.getD_some, AS.put, dropKey, okAlloc, ty35, okZero, List.all_cons, Value.oneCell', List.all_nil, Bool.and_true, PV.cells, List.length_cons, List.length_nil, Heap.get_put, some_none, isOwnCall, hxOp, px, ofConst, ofVal, thenQ, zeroOf, List.map_cons, List.map_nil, true_and]
  intro r hr q hq
  have hqr : ¬ q = r := hq.1
  have hrq : ¬ r = q := fun e => hqr e.symm
  have n0 : ∀ x, h x = none → h0 x = none := fun x e => by
    cases e1 : h0 x with
    | none => rfl
    | some X => rw [b.inc _ _ e1] at e; cases e
  have bb := (b.over (.inr hr) (.cells 39 2 [.int .i64 c, .bool s])).over (r := q) (.inr (by rw [Heap.put_none]; exact hq)) (.cells 35 4 [.int .i64 0, .int .i64 0, .int .i64 0, .bool false])
  have i0 := ((Inc.self h0).put (n0 r hr) (.cells 39 2 [.int .i64 c, .bool s])).put (r := q) (by rw [Heap.put_none]; exact ⟨hq.1, n0 q hq.2⟩) (.cells 35 4 [.int .i64 0, .int .i64 0, .int .i64 0, .bool false])
  have hr5 : ((h.put r (.cells 39 2 [.int .i64 c, .bool s])).put q (.cells 35 4 [.int .i64 0, .int .i64 0, .int .i64 0, .bool false])) r = some (.cells 39 2 [.int .i64 c, .bool s]) := by rw [Heap.put_ne _ _ hrq, Heap.put_same]
  have hq6 : ((h0.put r (.cells 39 2 [.int .i64 c, .bool s])).put q (.cells 35 4 [.int .i64 0, .int .i64 0, .int .i64 0, .bool false])) q = some (.cells 35 4 [.int .i64 0, .int .i64 0, .int .i64 0, .bool false]) := Heap.put_same _ _ _
  generalize (h.put r (.cells 39 2 [.int .i64 c, .bool s])).put q (.cells 35 4 [.int .i64 0, .int .i64 0, .int .i64 0, .bool false]) = H at bb hr5 ⊢
  generalize (h0.put r (.cells 39 2 [.int .i64 c, .bool s])).put q (.cells 35 4 [.int .i64 0, .int .i64 0, .int .i64 0, .bool false]) = H0 at bb i0 hq6
  have hi := bb.hi i (fst_mem bb hf)
  refine SW.seq (SW.run [] _ ?_)
  simp only [wpC, mayStop, stops, isFlt, Specs.has, Specs.hasO, Bool.or_false, Specs.hasH, Bool.not_false, List.any_cons, List.any_nil, Bool.false_eq_true, ↓reduceIte, wpS, wantedA, okDst, Nat.reduceLT, decide_true, step1, isOwnCall, hxOp, px, AS.eval, AS.get, Lift.look, Nat.succ_ne_zero, Option.getD_some, AS.put, dropKey, Nat.reduceEqDiff, reduceCtorEq, isNilC, pbinP, pflt, peq, ty25, peqK, ofConst, ofVal, thenQ, isB, tmpOf, asB, true_and]
  refine SW.seq (SW.run [eFirst H0 noG B] _ ?_)
  simp only [wpC, Bool.false_eq_true, ↓reduceIte, wpS, stops, wantedA, okDst, Nat.reduceLT, decide_true, step1, isOwnCall, hxOp, px, AS.eval, AS.get, Lift.look, Nat.succ_ne_zero, Option.getD_some, AS.put, dropKey, Nat.reduceEqDiff, reduceCtorEq, pload, ty39, hr5, okOne, TK.isAgg, Nat.reduceBEq, Bool.or_false, Nat.zero_add, List.length_cons, List.length_nil, Nat.reduceAdd, Nat.le_refl, and_self, Lift.valOf, List.drop_zero, List.take_succ_cons, List.take_nil, Specs.has, Specs.hasO, Specs.hasH, eFirst, Bool.or_true, Bool.not_true, hx, okArg, ofConst, ofVal, List.all_cons, List.all_nil, Bool.and_true, Specs.atH, List.map_cons, List.map_nil, sFirst, true_and, fstV, hf, adr, List.getElem?_cons_zero, List.getElem?_cons_succ, thenQ]
  refine ⟨bb, ?_⟩
  refine SW.seq (SW.run [] _ ?_)
  simp only [wpC, mayStop, stops, isFlt, Specs.has, Specs.hasO, Bool.or_false, Specs.hasH, Bool.not_false, List.any_cons, List.any_nil, Bool.false_eq_true, ↓reduceIte, wpS, wantedA, okDst, Nat.reduceLT, decide_true, step1, isOwnCall, hxOp, px, AS.eval, AS.get, Lift.look, Option.getD_some, AS.put, dropKey, Nat.reduceEqDiff, reduceCtorEq, pun, Bool.not_true, thenQ, isB, tmpOf, asB, true_and]
  refine SW.seq (SW.run [] _ ?_)
  simp only [wpC, Bool.false_eq_true, ↓reduceIte, wpS, stops, wantedA, okDst, Nat.reduceLT, decide_true, step1, isOwnCall, hxOp, px, AS.eval, AS.get, Lift.look, Nat.reduceEqDiff, Option.getD_some, AS.put, dropKey, reduceCtorEq, pfieldAddr, fieldOf, ty63, fieldIn, List.getElem?_cons_succ, List.getElem?_cons_zero, ty35, Option.map_some, ne_eq, Nat.succ_ne_zero, not_false_eq_true, Nat.zero_add, pload, hi, itC, noG, okOne, TK.isAgg, Nat.reduceBEq, Bool.or_false, Nat.reduceAdd, List.length_cons, List.length_nil, Nat.le_refl, and_self, Lift.valOf, List.drop_succ_cons, List.drop_zero, List.take_succ_cons, List.take_nil, okAlloc, okZero, List.all_cons, Value.oneCell', List.all_nil, Bool.and_true, hx, zeroOf, List.map_cons, ofVal, List.map_nil, Heap.get_put, known1, PV.cells, splice, List.take_zero, List.nil_append, List.drop_nil, List.append_nil, thenQ, true_and]
  intro t ht
  rw [Heap.put_put]
  have b2 := bb.over (.inr ht) (.cells 35 4 [.int .i64 i.pid, .int .i64 (i.arm : Nat), .int .i64 i.ch, .bool i.sd])
  have ht0 : H0 t = none := by
    cases e1 : H0 t with
    | none => rfl
    | some X => rw [bb.inc _ _ e1] at ht; cases ht
  have i1 := i0.put ht0 (.cells 35 4 [.int .i64 i.pid, .int .i64 (i.arm : Nat), .int .i64 i.ch, .bool i.sd])
  have hqt : ¬ q = t := by rintro rfl; rw [hq6] at ht0; cases ht0
  have hq7 : (H0.put t (.cells 35 4 [.int .i64 i.pid, .int .i64 (i.arm : Nat), .int .i64 i.ch, .bool i.sd])) q = some (.cells 35 4 [.int .i64 0, .int .i64 0, .int .i64 0, .bool false]) := by rw [Heap.put_ne _ _ hqt]; exact hq6
  have ht7 : (H0.put t (.cells 35 4 [.int .i64 i.pid, .int .i64 (i.arm : Nat), .int .i64 i.ch, .bool i.sd])) t = some (.cells 35 4 [.int .i64 i.pid, .int .i64 (i.arm : Nat), .int .i64 i.ch, .bool i.sd]) := Heap.put_same _ _ _
  generalize H0.put t (.cells 35 4 [.int .i64 i.pid, .int .i64 (i.arm : Nat), .int .i64 i.ch, .bool i.sd]) = H1 at b2 i1 hq7 ht7
  generalize H.put t (.cells 35 4 [.int .i64 i.pid, .int .i64 (i.arm : Nat), .int .i64 i.ch, .bool i.sd]) = H2 at b2 ⊢
  have ht8 := b2.inc _ _ ht7
  refine SW.seq (SW.run [] _ ?_)
  simp only [wpC, Bool.false_eq_true, ↓reduceIte, wpS, stops, wantedA, okDst, Nat.reduceLT, decide_true, step1, isOwnCall, hxOp, px, AS.eval, AS.get, Lift.look, Nat.succ_ne_zero, Option.getD_some, AS.put, dropKey, Nat.reduceEqDiff, reduceCtorEq, pfieldAddr, fieldOf, ty35, fieldIn, List.getElem?_cons_zero, ty3, Option.map_some, ne_eq, not_false_eq_true, Nat.add_zero, pload, ht8, okOne, TK.isAgg, beq_self_eq_true, Bool.or_true, Nat.zero_add, List.length_cons, List.length_nil, Nat.reduceAdd, Nat.reduceLeDiff, and_self, Lift.valOf, List.drop_zero, List.take_succ_cons, List.take_zero, List.getD_cons_zero, Specs.has, Specs.hasO, Bool.or_false, Specs.hasH, Bool.not_false, true_and]
  refine SWO.call (.func 12) #[.tmp 28, .tmp 30] _ 12 #[] #[] rfl rfl rfl rfl rfl rfl (Leave_ok i.pid b2 w hlen) rfl rfl ?_ (fun c h' hc => by cases hc.1)
  rintro p' h' ⟨hp', B', k1, k2, k3, k4, k5⟩
  injection hp' with hp'
  subst hp'
  have hq9 := k1.inc _ _ hq7
  have ht9 := k1.inc _ _ ht7
  have b3 := (k1.over (r := q) (.inl (by rw [hq7]; simp)) (.cells 35 4 [.int .i64 i.pid, .int .i64 (i.arm : Nat), .int .i64 i.ch, .bool i.sd])).weak (h1 := h0) (by
    intro k X e
    rw [Heap.put_ne _ _ (by rintro rfl; rw [n0 _ hq.2] at e; cases e)]
    exact i1 k X e)
  refine SWO.run [] 1000 ?_
  simp only [wpS, thenQ, AS.put, dropKey, Nat.reduceEqDiff, ↓reduceIte, reduceCtorEq]
  refine SW.run [] _ ?_
  simp only [wpC, mayStop, stops, isFlt, Specs.has, Specs.hasO, Bool.or_false, Specs.hasH, Bool.not_false, List.any_cons, List.any_nil, Bool.false_eq_true, ↓reduceIte, wpS, wantedA, okDst, Nat.reduceLT, decide_true, step1, isOwnCall, hxOp, px, pload, ty35, AS.eval, AS.get, Lift.look, Nat.reduceEqDiff, Option.getD_some, ht9, okOne, TK.isAgg, Nat.reduceBEq, Nat.zero_add, List.length_cons, List.length_nil, Nat.reduceAdd, Nat.le_refl, and_self, Lift.valOf, List.drop_zero, List.take_succ_cons, List.take_nil, hx, AS.put, dropKey, reduceCtorEq, hq9, known1, PV.cells, splice, List.take_zero, List.nil_append, List.drop_succ_cons, List.drop_nil, List.append_nil, ofConst, ofVal, thenQ, RPost, sres, Try.results15, sresL, sres1, Heap.get_put, Option.some.injEq, exists_eq_left', true_and]
  refine ⟨_, .refl _ _, ?_⟩
  rw [hQ]
  exact ⟨rfl, B', b3, k2, k3, k4, k5⟩
end Go.Proofs.Ytekgfneapofgpaa
