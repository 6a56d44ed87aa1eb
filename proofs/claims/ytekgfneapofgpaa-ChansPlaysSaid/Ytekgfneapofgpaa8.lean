/- Contracts of functions that the law reaches. -/
import Derived.Test.Ytekgfneapofgpaa7
set_option linter.unusedSimpArgs false
set_option linter.unusedVariables false
namespace Go.Proofs.Ytekgfneapofgpaa
open Go Go.RowKit Go.Proofs.Ytekgfneapofgpaa Go.Proofs.Ytekgfneapofgpaa.Lift

/-! (*Board).Leave -/
theorem BOn.congr {h0 h : Heap} {gn gn' : It → Bool} {B : Bo} (b : BOn h0 gn B h) (e : ∀ i ∈ B.items, gn i = gn' i) : BOn h0 gn' B h :=
  ⟨b.hb, b.hq, b.hw, fun i hi => by rw [← e i hi]; exact b.hi i hi, b.hqa, b.hbuf, b.hcap, b.hsub, b.ndi, b.ndq, b.ndb, b.inc, b.nb, b.nq, b.nw, b.ni, b.nqa, b.nbuf⟩
/-- What a call makes of a board. -/
def Turns (h0 : Heap) (B : Bo) (v : PV) (ps : List Pr) (t : Nat) : SEnd → Heap → Prop := fun e h' => e = .ret v ∧ ∃ B', BOn h0 noG B' h' ∧ WF B' ∧ B'.ps = ps ∧ B'.rb = B.rb ∧ B'.time = t
theorem pOf_none {ps : List Pr} {p : Int} (h : pOf ps p = none) : delP p ps = ps := by
  unfold delP
  exact List.eraseP_of_forall_not (fun x hx => by have := List.find?_eq_none.1 h x hx; simpa using this)
theorem Leave_ok (p : Int) {h0 h : Heap} {B : Bo} (b : BOn h0 noG B h) (w : WF B) (hlen : B.items.length ≤ 1000000) :
    SCalls env 12 [adr B.rb, .int .i64 p] h (Turns h0 B (.bool (pOf B.ps p).isSome) (delP p B.ps) B.time) := by
  refine SCalls.body Try.func12 rfl rfl (by simp [Try.ntmps12]) ?_
  obtain ⟨Q, hQ⟩ : ∃ Q, Q = Turns h0 B (.bool (pOf B.ps p).isSome) (delP p B.ps) B.time := ⟨_, rfl⟩
  rw [← hQ]
  refine SW.seq (SW.run [] _ ?_)
  simp only [wpC, Bool.false_eq_true, ↓reduceIte, wpS, stops, wantedA, okDst, Try.ntmps12, Nat.reduceLT, decide_true, step1, isOwnCall, hxOp, px, AS.eval, ofConst, ofVal, thenQ, AS.put, enumA, Nat.zero_add, dropKey, reduceCtorEq, Nat.reduceEqDiff, true_and]
  have h1 := b.hb
  have h2 := b.hw
  have h3 := wE_fits B.ps
  have h4 := w_find p B.ps
  cases hp : pOf B.ps p with
  | none =>
    refine SW.run [eWaits h0 noG B] _ ?_
    simp only [wpC, mayStop, stops, isFlt, Specs.has, Specs.hasO, Bool.or_false, Specs.hasH, eWaits, Bool.false_or, List.any_cons, ↓reduceIte, Bool.not_true, List.any_nil, Bool.false_eq_true, wpS, wantedA, okDst, Nat.reduceLT, decide_true, step1, isOwnCall, hxOp, px, AS.eval, AS.get, Lift.look, Nat.succ_ne_zero, adr, Option.getD_some, AS.put, dropKey, Nat.reduceEqDiff, reduceCtorEq, Bool.or_true, hx, okArg, ofConst, ofVal, List.all_cons, List.all_nil, Bool.and_true, Specs.atH, List.map_cons, List.map_nil, sWaits, true_and, hp, Option.isSome_none, pun, Bool.not_false, thenQ, isB, tmpOf, asB, RPost, sres, Try.results12, sresL, sres1, Option.some.injEq, exists_eq_left']
    refine ⟨b, _, .refl _ _, ?_⟩
    rw [hQ, hp, pOf_none hp]
    exact ⟨rfl, B, b, w, rfl, rfl, rfl⟩
  | some x =>
    obtain ⟨hx, rfl⟩ := pOf_mem hp
    rw [hp] at h4
    refine SW.seq (SW.run [eWaits h0 noG B] _ ?_)
    simp only [wpC, mayStop, stops, isFlt, Specs.has, Specs.hasO, Bool.or_false, Specs.hasH, eWaits, Bool.false_or, List.any_cons, ↓reduceIte, Bool.not_true, List.any_nil, Bool.false_eq_true, wpS, wantedA, okDst, Nat.reduceLT, decide_true, step1, isOwnCall, hxOp, px, AS.eval, AS.get, Lift.look, Nat.succ_ne_zero, adr, Option.getD_some, AS.put, dropKey, Nat.reduceEqDiff, reduceCtorEq, Bool.or_true, Lift.hx, okArg, ofConst, ofVal, List.all_cons, List.all_nil, Bool.and_true, Specs.atH, List.map_cons, List.map_nil, sWaits, true_and, hp, Option.isSome_some, pun, thenQ, isB, tmpOf, asB]
    refine ⟨b, ?_⟩
    refine SW.seq (SW.seq (SW.run [] _ ?_))
    simp only [wpC, Bool.false_eq_true, ↓reduceIte, wpS, stops, wantedA, okDst, Nat.reduceLT, decide_true, step1, isOwnCall, hxOp, px, AS.eval, AS.get, Lift.look, Nat.succ_ne_zero, Option.getD_some, AS.put, dropKey, Nat.reduceEqDiff, reduceCtorEq, pfieldAddr, fieldOf, ty58, fieldIn, List.getElem?_cons_succ, List.getElem?_cons_zero, ty56, Option.map_some, ne_eq, not_false_eq_true, Nat.zero_add, pload, h1, boC, okOne, TK.isAgg, beq_self_eq_true, Bool.or_true, Nat.reduceAdd, List.length_cons, List.length_nil, Nat.reduceLeDiff, and_self, Lift.valOf, List.drop_succ_cons, List.drop_zero, List.take_succ_cons, List.take_zero, List.getD_cons_zero, plookup, ty59, h2, isAggV, glook, kk3, h3, PV.cells, fits, Bool.and_true, okZero, List.all_cons, Value.oneCell', List.all_nil, wE_len, h4, List.map_cons, ofVal, List.map_nil, pcall, plen, adr1_len, okLen, ofConst, thenQ, true_and]
    have hxi : ∀ i ∈ x.its, i ∈ B.items := fun i hi => by rw [w.it]; exact List.mem_flatMap.2 ⟨x, hx, hi⟩
    have hxl : x.its.length ≤ 1000000 := by
      have : x.its.length ≤ B.items.length := by
        rw [w.it, List.flatMap_def]
        exact (List.sublist_flatten_of_mem (List.mem_map_of_mem hx)).length_le
      omega
    -- all items are taken back
    refine SW.block (SW.loop (fun m a => ∃ j : Nat, j ≤ x.its.length ∧ x.its.length - j = m ∧ BOn h0 (fun y => decide (y ∈ x.its.take j)) B a.h ∧ a.n = 83 ∧ hasAll a [(0, adr B.rb), (1, .int .i64 x.pid), (21, .list 1 (adr1 x.its)), (22, .int .i64 (x.its.length : Nat)), (23, .int .i64 (j : Nat))]) x.its.length ⟨0, Nat.zero_le _, rfl, b.congr (fun i _ => by simp [noG]), rfl, ?_⟩ ?_)
    · simp only [hasAll, AS.get, Lift.look, Nat.succ_ne_zero, ↓reduceIte, Option.getD_some, adr, Nat.reduceEqDiff, reduceCtorEq, Int.cast_ofNat_Int, and_self]
    · rintro m a ⟨j, hj, hm, bj, hn, hs⟩
      refine SW.norm ⟨hn, rfl, hs⟩ ?_
      refine SW.run [] _ ?_
      by_cases hlt : j < x.its.length
      · have hg := adr1_at hlt
        have hi := hxi _ (List.getElem_mem hlt)
        have hit := bj.hi _ hi
        have hw : IntKind.i64.wrap ((j : Int) + 1) = ((j + 1 : Nat) : Int) := by rw [w64 (by omega) (by omega)]; rfl
        simp only [wpC, mayStop, stops, isFlt, Specs.has, Specs.hasO, Bool.or_false, Specs.hasH, Bool.not_false, List.any_cons, List.any_nil, Bool.false_eq_true, ↓reduceIte, wpS, wantedA, okDst, Nat.reduceLT, decide_true, step1, isOwnCall, hxOp, px, isNilC, pbinP, AS.eval, AS.get, Lift.look, reduceCtorEq, Nat.reduceEqDiff, Option.getD_some, pbinI, Int.ofNat_lt, hlt, thenQ, isB, AS.put, dropKey, adr, tmpOf, asB, pindexAddr, ty59, ty61, ne_eq, Nat.succ_ne_zero, not_false_eq_true, Int.natCast_nonneg, Int.toNat_natCast, adr1_len, and_self, hg, pload, okOne, TK.isAgg, beq_self_eq_true, Bool.or_true, List.length_cons, List.length_nil, Nat.zero_add, Nat.le_refl, Lift.valOf, List.take_succ_cons, List.take_nil, List.getD_cons_zero, pfieldAddr, fieldOf, ty63, fieldIn, List.getElem?_cons_succ, List.getElem?_cons_zero, ty4, Option.map_some, Lift.hx, hit, itC, known1, ofConst, ofVal, PV.cells, Nat.reduceAdd, Nat.reduceLeDiff, splice, List.take_zero, List.cons_append, List.nil_append, List.drop_succ_cons, List.drop_zero, inQ, ty3, hw, hasAll, and_true, true_and]
        refine ⟨m - 1, by omega, j + 1, hlt, by omega, ?_, rfl⟩
        refine (bj.mark hi).congr fun y _ => ?_
        have ht : x.its.take (j + 1) = x.its.take j ++ [x.its[j]] := by rw [List.take_add_one, List.getElem?_eq_getElem hlt]; rfl
        rw [ht, Bool.eq_iff_iff]
        simp only [Bool.or_eq_true, decide_eq_true_eq, beq_iff_eq, List.mem_append, List.mem_singleton]
      · obtain rfl : j = x.its.length := by omega
        have b1 : BOn h0 (fun i => i.pid == x.pid) B a.h := bj.congr fun y hy => by
          rw [List.take_length]
          by_cases e : y ∈ x.its
          · have := w.pi x hx y e
            simp [e, this]
          · have : y.pid ≠ x.pid := fun e2 => e (pid_uniq w hx hy e2)
            simp [e, this]
        generalize a.h = h2 at b1
        clear bj hs hn b
        have k1 := b1.hb
        have k2 := b1.hw
        simp only [wpC, mayStop, stops, isFlt, Specs.has, Specs.hasO, Bool.or_false, Specs.hasH, Bool.not_false, List.any_cons, List.any_nil, Bool.false_eq_true, ↓reduceIte, wpS, wantedA, okDst, Nat.reduceLT, decide_true, step1, isOwnCall, hxOp, px, isNilC, pbinP, AS.eval, AS.get, Lift.look, reduceCtorEq, Nat.reduceEqDiff, Option.getD_some, pbinI, Int.ofNat_lt, Nat.lt_irrefl, decide_false, thenQ, isB, AS.put, dropKey, tmpOf, asB, inQ, true_and]
        refine SW.seq (SW.seq (SW.run [] _ ?_))
        simp only [wpC, Bool.false_eq_true, ↓reduceIte, wpS, stops, wantedA, okDst, Nat.reduceLT, decide_true, step1, isOwnCall, hxOp, px, AS.eval, AS.get, Lift.look, Nat.succ_ne_zero, adr, Option.getD_some, AS.put, dropKey, Nat.reduceEqDiff, reduceCtorEq, pfieldAddr, fieldOf, ty58, fieldIn, List.getElem?_cons_succ, List.getElem?_cons_zero, ty56, Option.map_some, ne_eq, not_false_eq_true, Nat.zero_add, pload, k1, boC, okOne, TK.isAgg, beq_self_eq_true, Bool.or_true, Nat.reduceAdd, List.length_cons, List.length_nil, Nat.reduceLeDiff, and_self, Lift.valOf, List.drop_succ_cons, List.drop_zero, List.take_succ_cons, List.take_zero, List.getD_cons_zero, plookup, ty59, k2, isAggV, glook, kk3, h3, PV.cells, fits, Bool.and_true, okZero, List.all_cons, Value.oneCell', List.all_nil, wE_len, h4, List.map_cons, ofVal, List.map_nil, pcall, plen, adr1_len, okLen, ofConst, thenQ, true_and]
        -- their queues are tidied
        refine SW.block (SW.loop (fun m a => ∃ (j : Nat) (qs : List Qu), j ≤ x.its.length ∧ x.its.length - j = m ∧ BOn h0 (fun i => i.pid == x.pid) { B with qs := qs } a.h ∧ QInv (fun i => i.pid == x.pid) { B with qs := qs } (x.its.take j) ∧ a.n = 83 ∧ hasAll a [(0, adr B.rb), (1, .int .i64 x.pid), (36, .list 1 (adr1 x.its)), (37, .int .i64 (x.its.length : Nat)), (38, .int .i64 (j : Nat))]) x.its.length ⟨0, B.qs, Nat.zero_le _, rfl, b1, w.start _, rfl, ?_⟩ ?_)
        · simp only [hasAll, AS.get, Lift.look, Nat.succ_ne_zero, ↓reduceIte, Option.getD_some, adr, Nat.reduceEqDiff, reduceCtorEq, Int.cast_ofNat_Int, and_self]
        · rintro m a ⟨j, qs, hj, hm, bj, vj, hn, hs⟩
          refine SW.norm ⟨hn, rfl, hs⟩ ?_
          generalize a.h = hj' at bj
          refine SW.seq (SW.run [] _ ?_)
          by_cases hlt : j < x.its.length
          · have hg := adr1_at hlt
            have hi := hxi _ (List.getElem_mem hlt)
            have hit := bj.hi _ hi
            have hw : IntKind.i64.wrap ((j : Int) + 1) = ((j + 1 : Nat) : Int) := by rw [w64 (by omega) (by omega)]; rfl
            have ht : x.its.take (j + 1) = x.its.take j ++ [x.its[j]] := by rw [List.take_add_one, List.getElem?_eq_getElem hlt]; rfl
            simp only [wpC, Bool.false_eq_true, ↓reduceIte, wpS, stops, wantedA, okDst, Nat.reduceLT, decide_true, step1, isOwnCall, hxOp, px, isNilC, pbinP, AS.eval, AS.get, Lift.look, reduceCtorEq, Nat.reduceEqDiff, Option.getD_some, pbinI, Int.ofNat_lt, hlt, thenQ, hasAll, adr, and_true, AS.put, dropKey, true_and]
            refine SW.seq (SW.run [] _ ?_)
            simp only [wpC, isB, AS.get, Lift.look, tmpOf, ↓reduceIte, Option.getD_some, asB, thenQ, true_and]
            refine SW.seq (SW.block (SW.seq (SW.run [] _ ?_)))
            simp only [wpC, Bool.false_eq_true, ↓reduceIte, wpS, stops, wantedA, okDst, Nat.reduceLT, decide_true, step1, isOwnCall, hxOp, px, pindexAddr, ty59, ty61, AS.eval, AS.get, Lift.look, Nat.reduceEqDiff, reduceCtorEq, Option.getD_some, ne_eq, Nat.succ_ne_zero, not_false_eq_true, Int.natCast_nonneg, Int.toNat_natCast, adr1_len, hlt, and_self, hg, adr, AS.put, dropKey, pload, okOne, TK.isAgg, beq_self_eq_true, Bool.or_true, List.length_cons, List.length_nil, Nat.zero_add, Nat.le_refl, Lift.valOf, List.take_succ_cons, List.take_nil, List.getD_cons_zero, thenQ, true_and]
            refine SW.seq (SW.regionAny [] [[0, 1, 2, 3, 4, 5, 6, 7, 8, 9, 10, 11, 12]] rfl (by rfl) (by kernel_rfl) ?_)
            simp only [wpOL, wpO, LOp, List.getElem?_toArray, List.getElem?_cons_zero, okDst, Nat.reduceLT, decide_true, wantedA, ↓reduceIte, step1, isOwnCall, Bool.false_eq_true, hxOp, px, AS.eval, AS.get, Lift.look, Option.getD_some, List.getElem?_cons_succ, AS.put, dropKey, Nat.reduceEqDiff, reduceCtorEq, pfieldAddr, fieldOf, ty63, fieldIn, ty35, Option.map_some, ne_eq, Nat.succ_ne_zero, not_false_eq_true, Nat.zero_add, ty3, Nat.reduceAdd, pload, hit, itC, okOne, TK.isAgg, beq_self_eq_true, Bool.or_true, List.length_cons, List.length_nil, Nat.reduceLeDiff, and_self, Lift.valOf, List.drop_succ_cons, List.drop_zero, List.take_succ_cons, List.take_zero, List.getD_cons_zero, ty4, Nat.le_refl, List.take_nil, pbuild, ty39, List.map_cons, ofVal, List.map_nil, ofConst, pfill, placeOf, PV.cells, splice, List.nil_append, List.cons_append, List.drop_nil, List.append_nil, List.all_cons, Option.isSome_some, List.all_nil, Bool.and_true, okZero, Value.oneCell', known, okAlloc, Lift.hx, zeroOf, Heap.get_put, known1, thenQ, true_and]
            intro r hr
            rw [Heap.put_put]
            have br := bj.put hr (.cells 39 2 [.int .i64 x.its[j].ch, .bool x.its[j].sd])
            have hrr : (hj'.put r (.cells 39 2 [.int .i64 x.its[j].ch, .bool x.its[j].sd])) r = some (.cells 39 2 [.int .i64 x.its[j].ch, .bool x.its[j].sd]) := Heap.put_same _ _ _
            generalize hj'.put r (.cells 39 2 [.int .i64 x.its[j].ch, .bool x.its[j].sd]) = H at br hrr ⊢
            clear bj hr hit
            have c1 := br.hb
            have c2 := br.hq
            have c3 := qE_fits qs
            have c4 := q_find x.its[j].ch x.its[j].sd qs
            refine SW.seq (SW.regionAny [] [[0, 1, 2, 3, 4, 5, 6, 7, 8, 9, 10]] rfl (by rfl) (by kernel_rfl) ?_)
            cases hq : qOf qs x.its[j].ch x.its[j].sd with
            | none =>
              rw [hq] at c4
              simp only [wpOL, wpO, LOp, List.getElem?_toArray, List.getElem?_cons_zero, okDst, Nat.reduceLT, decide_true, wantedA, ↓reduceIte, step1, isOwnCall, Bool.false_eq_true, hxOp, px, AS.eval, AS.get, Lift.look, Nat.succ_ne_zero, Option.getD_some, List.getElem?_cons_succ, AS.put, dropKey, Nat.reduceEqDiff, reduceCtorEq, pfieldAddr, fieldOf, ty58, fieldIn, ty55, Option.map_some, ne_eq, not_false_eq_true, Nat.add_zero, pload, c1, boC, okOne, TK.isAgg, beq_self_eq_true, Bool.or_true, Nat.zero_add, List.length_cons, List.length_nil, Nat.reduceAdd, Nat.reduceLeDiff, and_self, Lift.valOf, List.drop_zero, List.take_succ_cons, List.take_zero, List.getD_cons_zero, ty39, hrr, Nat.reduceBEq, Bool.or_false, Nat.le_refl, List.take_nil, plookup, ty64, c2, isAggV, glook, kk39, c3, PV.cells, fits, Bool.and_true, okZero, List.all_cons, Value.oneCell', List.all_nil, qE_len, c4, adr, Option.map_none, List.map_cons, ofVal, List.map_nil, Option.getD_none, Option.isSome_none, thenQ, true_and]
              refine SW.run [] _ ?_
              simp only [wpC, mayStop, stops, isFlt, Specs.has, Specs.hasO, Bool.or_false, Specs.hasH, Bool.not_false, List.any_cons, List.any_nil, Bool.false_eq_true, ↓reduceIte, wpS, wantedA, okDst, Nat.reduceLT, decide_true, step1, isOwnCall, hxOp, px, AS.eval, AS.get, Lift.look, Option.getD_some, AS.put, dropKey, Nat.reduceEqDiff, reduceCtorEq, pun, thenQ, isB, tmpOf, asB, inQ, true_and]
              refine SW.run [] _ ?_
              simp only [wpC, Bool.false_eq_true, ↓reduceIte, wpS, stops, isFlt, ty3, wantedA, okDst, Nat.reduceLT, decide_true, step1, isOwnCall, hxOp, px, isNilC, pbinP, AS.eval, AS.get, Lift.look, Nat.reduceEqDiff, reduceCtorEq, Option.getD_some, ofConst, ofVal, pbinI, hw, AS.put, dropKey, thenQ, Nat.succ_ne_zero, true_and]
              exact ⟨m - 1, by omega, j + 1, qs, hlt, by omega, br, by rw [ht]; exact vj.none hq, rfl⟩
            | some q =>
              rw [hq] at c4
              obtain ⟨hqm, hk1, hk2⟩ := qOf_mem hq
              simp only [wpOL, wpO, LOp, List.getElem?_toArray, List.getElem?_cons_zero, okDst, Nat.reduceLT, decide_true, wantedA, ↓reduceIte, step1, isOwnCall, Bool.false_eq_true, hxOp, px, AS.eval, AS.get, Lift.look, Nat.succ_ne_zero, Option.getD_some, List.getElem?_cons_succ, AS.put, dropKey, Nat.reduceEqDiff, reduceCtorEq, pfieldAddr, fieldOf, ty58, fieldIn, ty55, Option.map_some, ne_eq, not_false_eq_true, Nat.add_zero, pload, c1, boC, okOne, TK.isAgg, beq_self_eq_true, Bool.or_true, Nat.zero_add, List.length_cons, List.length_nil, Nat.reduceAdd, Nat.reduceLeDiff, and_self, Lift.valOf, List.drop_zero, List.take_succ_cons, List.take_zero, List.getD_cons_zero, ty39, hrr, Nat.reduceBEq, Bool.or_false, Nat.le_refl, List.take_nil, plookup, ty64, c2, isAggV, glook, kk39, c3, PV.cells, fits, Bool.and_true, okZero, List.all_cons, Value.oneCell', List.all_nil, qE_len, c4, adr, List.map_cons, ofVal, List.map_nil, Option.isSome_some, thenQ, true_and]
              have q1 := br.hqa q hqm
              have q2 := br.hbuf q hqm
              have q3 := br.hcap q hqm
              refine SW.seq (SW.run [] _ ?_)
              simp only [wpC, mayStop, stops, isFlt, Specs.has, Specs.hasO, Bool.or_false, Specs.hasH, Bool.not_false, List.any_cons, List.any_nil, Bool.false_eq_true, ↓reduceIte, wpS, wantedA, okDst, Nat.reduceLT, decide_true, step1, isOwnCall, hxOp, px, AS.eval, AS.get, Lift.look, Option.getD_some, AS.put, dropKey, Nat.reduceEqDiff, reduceCtorEq, pun, Bool.not_true, thenQ, isB, tmpOf, asB, true_and]
              refine SW.seq (SW.run [] _ ?_)
              simp only [wpC, Bool.false_eq_true, ↓reduceIte, wpS, stops, wantedA, okDst, Nat.reduceLT, decide_true, step1, isOwnCall, hxOp, px, AS.eval, AS.get, Lift.look, Nat.reduceEqDiff, Option.getD_some, Specs.has, Specs.hasO, Bool.or_false, Specs.hasH, Bool.not_false, AS.put, dropKey, reduceCtorEq, true_and]
              refine SWO.callRet (.func 22) #[.tmp 64] _ 22 #[] #[] rfl rfl rfl rfl rfl rfl (Tidy_ok (gn := fun i => i.pid == x.pid) q1 q2 (fun i hi => br.hi i (br.hsub q hqm i hi)) (Nat.le_trans q3.1 q3.2) q3.1) rfl rfl ?_
              refine SWO.run [] 1000 ?_
              simp only [wpS, thenQ, AS.put, dropKey, Nat.reduceEqDiff, ↓reduceIte, reduceCtorEq]
              have kl : (keepS (fun i => i.pid == x.pid) q.l).length ≤ q.l.length := List.length_filter_le ..
              have bs := br.setQ hqm (l := keepS (fun i => i.pid == x.pid) q.l) (buf := q.buf) (cap := q.cap) (fun i hi => br.hsub q hqm i (List.mem_filter.1 hi).1) ⟨by omega, q3.2⟩ (Heap.del_same _ _)
              rw [Heap.put_del] at bs
              have rr : ((H.put q.buf (rowC q.cap (keepS (fun i => i.pid == x.pid) q.l))).put q.qa (quC q.buf (keepS (fun i => i.pid == x.pid) q.l).length q.cap)) r = some (.cells 39 2 [.int .i64 x.its[j].ch, .bool x.its[j].sd]) := by
                rw [Heap.put_ne _ _ (by rintro rfl; rw [hrr] at q1; cases q1), Heap.put_ne _ _ (by rintro rfl; rw [hrr] at q2; cases q2)]
                exact hrr
              have rq : ((H.put q.buf (rowC q.cap (keepS (fun i => i.pid == x.pid) q.l))).put q.qa (quC q.buf (keepS (fun i => i.pid == x.pid) q.l).length q.cap)) q.qa = some (quC q.buf (keepS (fun i => i.pid == x.pid) q.l).length q.cap) := Heap.put_same _ _ _
              generalize (H.put q.buf (rowC q.cap (keepS (fun i => i.pid == x.pid) q.l))).put q.qa (quC q.buf (keepS (fun i => i.pid == x.pid) q.l).length q.cap) = H2 at bs rr rq ⊢
              refine SW.seq (SW.run [] _ ?_)
              by_cases hz : keepS (fun i => i.pid == x.pid) q.l = []
              · have hz0 : (keepS (fun i => i.pid == x.pid) q.l).length = 0 := by rw [hz]; rfl
                simp only [wpC, Bool.false_eq_true, ↓reduceIte, wpS, stops, wantedA, okDst, Nat.reduceLT, decide_true, step1, isOwnCall, hxOp, px, AS.eval, AS.get, Lift.look, Nat.reduceEqDiff, Option.getD_some, AS.put, dropKey, reduceCtorEq, pfieldAddr, fieldOf, ty67, fieldIn, List.getElem?_cons_zero, ty59, Option.map_some, ne_eq, Nat.succ_ne_zero, not_false_eq_true, Nat.add_zero, pload, rq, quC, hz0, okOne, TK.isAgg, beq_self_eq_true, Bool.or_true, Nat.zero_add, List.length_cons, List.length_nil, Nat.le_refl, and_self, Lift.valOf, List.drop_zero, List.take_succ_cons, List.take_nil, List.getD_cons_zero, pcall, plen, okLen, Int.cast_ofNat_Int, isNilC, pbinP, ofConst, ofVal, pbinI, thenQ, true_and]
                have d1 := bs.hb
                have d2 := bs.hq
                refine SW.run [] _ ?_
                simp only [wpC, isB, AS.get, Lift.look, tmpOf, ↓reduceIte, Option.getD_some, asB, true_and]
                refine SW.regionLast [] [0, 1, 2, 3, 4] rfl (by rfl) (by kernel_rfl) (by rfl) (by kernel_rfl) ?_
                simp only [wpO, LOp, List.getElem?_toArray, List.getElem?_cons_zero, okDst, Nat.reduceLT, decide_true, wantedA, ↓reduceIte, step1, isOwnCall, Bool.false_eq_true, hxOp, px, AS.eval, AS.get, Lift.look, Nat.succ_ne_zero, Option.getD_some, List.getElem?_cons_succ, AS.put, dropKey, Nat.reduceEqDiff, reduceCtorEq, pfieldAddr, fieldOf, ty58, fieldIn, ty55, Option.map_some, ne_eq, not_false_eq_true, Nat.add_zero, pload, d1, boC, okOne, TK.isAgg, beq_self_eq_true, Bool.or_true, Nat.zero_add, List.length_cons, List.length_nil, Nat.reduceAdd, Nat.reduceLeDiff, and_self, Lift.valOf, List.drop_zero, List.take_succ_cons, List.take_zero, List.getD_cons_zero, ty39, rr, Nat.reduceBEq, Bool.or_false, Nat.le_refl, List.take_nil, true_and]
                refine SWO.mapDel 55 39 (.tmp 75) (.tmp 76) rfl ty55 rfl kk39 rfl rfl rfl rfl d2 (qE_fits _) rfl rfl ?_
                have bd := bs.delQ x.its[j].ch x.its[j].sd
                rw [← delQ_Es] at bd
                refine SWO.run [] 1000 ?_
                simp only [wpS, inQ, thenQ, AS.put, PV.cells, AS.eval, AS.get, Lift.look, ↓reduceIte, Option.getD_some]
                refine SW.run [] _ ?_
                simp only [wpC, Bool.false_eq_true, ↓reduceIte, wpS, stops, isFlt, ty3, wantedA, okDst, Nat.reduceLT, decide_true, step1, isOwnCall, hxOp, px, isNilC, pbinP, AS.eval, AS.get, Lift.look, Nat.reduceEqDiff, reduceCtorEq, Option.getD_some, ofConst, ofVal, pbinI, hw, AS.put, dropKey, thenQ, Nat.succ_ne_zero, true_and]
                exact ⟨m - 1, by omega, j + 1, _, hlt, by omega, bd, by rw [ht]; exact vj.gone br hqm ⟨hk1, hk2⟩ hz, rfl⟩
              · have hz0 : ((((keepS (fun i => i.pid == x.pid) q.l).length : Nat) : Int) == 0) = false := by
                  rw [beq_eq_false_iff_ne]
                  have := List.length_pos_iff.2 hz
                  omega
                simp only [wpC, Bool.false_eq_true, ↓reduceIte, wpS, stops, wantedA, okDst, Nat.reduceLT, decide_true, step1, isOwnCall, hxOp, px, AS.eval, AS.get, Lift.look, Nat.reduceEqDiff, Option.getD_some, AS.put, dropKey, reduceCtorEq, pfieldAddr, fieldOf, ty67, fieldIn, List.getElem?_cons_zero, ty59, Option.map_some, ne_eq, Nat.succ_ne_zero, not_false_eq_true, Nat.add_zero, pload, rq, quC, okOne, TK.isAgg, beq_self_eq_true, Bool.or_true, Nat.zero_add, List.length_cons, List.length_nil, Nat.le_refl, and_self, Lift.valOf, List.drop_zero, List.take_succ_cons, List.take_nil, List.getD_cons_zero, pcall, plen, okLen, isNilC, pbinP, ofConst, ofVal, pbinI, hz0, thenQ, true_and]
                refine SW.run [] _ ?_
                simp only [wpC, isB, AS.get, Lift.look, tmpOf, ↓reduceIte, Option.getD_some, asB, Bool.false_eq_true, inQ, thenQ, true_and]
                refine SW.run [] _ ?_
                simp only [wpC, Bool.false_eq_true, ↓reduceIte, wpS, stops, isFlt, ty3, wantedA, okDst, Nat.reduceLT, decide_true, step1, isOwnCall, hxOp, px, isNilC, pbinP, AS.eval, AS.get, Lift.look, Nat.reduceEqDiff, reduceCtorEq, Option.getD_some, ofConst, ofVal, pbinI, hw, AS.put, dropKey, thenQ, Nat.succ_ne_zero, true_and]
                exact ⟨m - 1, by omega, j + 1, _, hlt, by omega, bs, by rw [ht]; exact vj.kept br hqm ⟨hk1, hk2⟩ hz, rfl⟩
          · obtain rfl : j = x.its.length := by omega
            rw [List.take_length] at vj
            simp only [wpC, Bool.false_eq_true, ↓reduceIte, wpS, stops, wantedA, okDst, Nat.reduceLT, decide_true, step1, isOwnCall, hxOp, px, isNilC, pbinP, AS.eval, AS.get, Lift.look, reduceCtorEq, Nat.reduceEqDiff, Option.getD_some, pbinI, Int.ofNat_lt, Nat.lt_irrefl, decide_false, thenQ, hasAll, and_true, AS.put, dropKey, true_and]
            have d1 := bj.hb
            have d2 := bj.hw
            refine SW.seq (SW.run [] _ ?_)
            simp only [wpC, isB, AS.get, Lift.look, tmpOf, ↓reduceIte, Option.getD_some, asB, Bool.false_eq_true, thenQ, inQ, adr, true_and]
            refine SW.seq (SW.run [] _ ?_)
            simp only [wpC, Bool.false_eq_true, ↓reduceIte, wpS, stops, wantedA, okDst, Nat.reduceLT, decide_true, step1, isOwnCall, hxOp, px, AS.eval, AS.get, Lift.look, Nat.succ_ne_zero, Option.getD_some, AS.put, dropKey, Nat.reduceEqDiff, reduceCtorEq, pfieldAddr, fieldOf, ty58, fieldIn, List.getElem?_cons_succ, List.getElem?_cons_zero, ty56, Option.map_some, ne_eq, not_false_eq_true, Nat.zero_add, pload, d1, boC, okOne, TK.isAgg, beq_self_eq_true, Bool.or_true, Nat.reduceAdd, List.length_cons, List.length_nil, Nat.reduceLeDiff, and_self, Lift.valOf, List.drop_succ_cons, List.drop_zero, List.take_succ_cons, List.take_zero, List.getD_cons_zero, true_and]
            refine SWO.mapDel 56 3 (.tmp 81) (.tmp 82) rfl ty56 rfl kk3 rfl rfl rfl rfl d2 (wE_fits _) rfl rfl ?_
            obtain ⟨wl, hl⟩ := w.left hx vj rfl rfl rfl rfl
            have bd := bj.delP x.pid (its := keepS (fun i => i.pid == x.pid) B.items) (gn' := noG) List.filter_sublist (fun i hi => by
              have := (List.mem_filter.1 hi).2
              simp only [Bool.not_eq_true'] at this
              rw [this]; rfl) (fun q hq i hi => by
              rw [hl q hq] at hi
              exact (List.mem_filter.1 hi).1)
            rw [← delP_Es] at bd
            refine SWO.run [] 1000 ?_
            simp only [wpS, thenQ, AS.put, PV.cells, AS.eval, AS.get, Lift.look, ↓reduceIte, Option.getD_some]
            refine SW.run [] _ ?_
            simp only [wpC, mayStop, stops, isFlt, Specs.has, Specs.hasO, Bool.or_false, Specs.hasH, Bool.not_false, List.any_cons, List.any_nil, Bool.false_eq_true, ↓reduceIte, wpS, wantedA, okDst, Nat.reduceLT, decide_true, step1, isOwnCall, hxOp, px, AS.eval, ofConst, ofVal, thenQ, RPost, sres, AS.put, dropKey, Nat.reduceEqDiff, reduceCtorEq, Try.results12, sresL, sres1, AS.get, Lift.look, Option.getD_some, Option.some.injEq, exists_eq_left', true_and]
            refine ⟨_, .refl _ _, ?_⟩
            rw [hQ, hp]
            exact ⟨rfl, _, bd, wl, rfl, rfl, rfl⟩
end Go.Proofs.Ytekgfneapofgpaa
