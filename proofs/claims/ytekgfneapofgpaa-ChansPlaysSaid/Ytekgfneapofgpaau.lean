/- Contracts of functions that the law reaches. -/
import Derived.Test.Ytekgfneapofgpaat
set_option linter.unusedSimpArgs false
set_option linter.unusedVariables false
namespace Go.Proofs.Ytekgfneapofgpaa
open Go Go.RowKit Go.Proofs.Ytekgfneapofgpaa Go.Proofs.Ytekgfneapofgpaa.Lift

/-! Entries are the same -/
set_option maxHeartbeats 1000000 in
set_option maxRecDepth 100000 in
theorem Same_ok (a : List It) (h : Heap) (hl : a.length ≤ 1000000) : SCalls env 19 [.list 4 (elE a), .list 4 (elE a)] h (Ret (.bool true) h) := by
  refine SCalls.body Try.func19 rfl rfl (by simp [Try.ntmps19]) ?_
  refine SW.seq (SW.run [] _ ?_)
  simp only [wpC, Bool.false_eq_true, ↓reduceIte, wpS, stops, wantedA, okDst, Try.ntmps19, Nat.reduceLT, decide_true, step1, isOwnCall, hxOp, px, AS.eval, ofConst, ofVal, thenQ, AS.put, enumA, Nat.zero_add, dropKey, reduceCtorEq, Nat.reduceEqDiff, true_and]
  refine SW.seq (SW.run [] _ ?_)
  simp only [wpC, mayStop, stops, isFlt, Specs.has, Specs.hasO, Bool.or_false, Specs.hasH, Bool.not_false, List.any_cons, List.any_nil, Bool.false_eq_true, ↓reduceIte, wpS, wantedA, okDst, Nat.reduceLT, decide_true, step1, isOwnCall, hxOp, px, AS.eval, AS.get, Lift.look, Nat.succ_ne_zero, Option.getD_some, AS.put, dropKey, Nat.reduceEqDiff, reduceCtorEq, pcall, ty42, plen, elE_len, okLen, and_self, ty45, isNilC, pbinP, pbinI, bne_self_eq_false, thenQ, isB, tmpOf, asB, true_and]
  refine SW.seq (SW.seq (SW.run [] _ ?_))
  simp only [wpC, Bool.false_eq_true, ↓reduceIte, wpS, stops, wantedA, okDst, Nat.reduceLT, decide_true, step1, isOwnCall, hxOp, px, AS.eval, ofConst, ofVal, thenQ, AS.put, dropKey, Nat.reduceEqDiff, reduceCtorEq, true_and]
  refine SW.block (SW.loopH 43 (fun i : Nat => [(0, .list 4 (elE a)), (1, .list 4 (elE a)), (5, .int .i64 (i : Nat))]) (fun _ => h) (fun i => i ≤ a.length) (fun i => a.length - i) 0 (Nat.zero_le _) ⟨rfl, .refl _ _, ?_⟩ ?_)
  · simp only [hasAll, AS.get, Lift.look, Nat.succ_ne_zero, ↓reduceIte, Option.getD_some, Nat.reduceEqDiff, reduceCtorEq, Int.cast_ofNat_Int, and_self]
  intro i hi
  refine SW.seq (SW.run [] _ ?_)
  by_cases hlt : i < a.length
  · have hw : IntKind.i64.wrap ((i : Int) + 1) = ((i + 1 : Nat) : Int) := by rw [w64 (by omega) (by omega)]; rfl
    have hg := elE_at hlt
    simp only [wpC, mayStop, stops, isFlt, Specs.has, Specs.hasO, Bool.or_false, Specs.hasH, Bool.not_false, List.any_cons, List.any_nil, Bool.false_eq_true, ↓reduceIte, wpS, wantedA, okDst, Nat.reduceLT, decide_true, step1, isOwnCall, hxOp, px, AS.eval, AS.get, Lift.look, reduceCtorEq, Nat.reduceEqDiff, Option.getD_some, AS.put, dropKey, Nat.succ_ne_zero, pcall, ty42, plen, elE_len, okLen, and_self, isNilC, pbinP, pbinI, Int.ofNat_lt, hlt, thenQ, isB, tmpOf, asB, hasAll, and_true, true_and]
    refine SW.seq (SW.block (SW.seq (SW.regionAny [] [[0, 1, 2, 3, 4, 5, 6, 7, 8, 9, 10, 11, 12, 13, 14, 15, 16, 17, 18, 19, 20, 21, 22, 23, 24, 25]] rfl (by rfl) (by kernel_rfl) ?_)))
    simp only [wpOL, wpO, LOp, List.getElem?_toArray, List.getElem?_cons_zero, okDst, Nat.reduceLT, decide_true, wantedA, ↓reduceIte, step1, isOwnCall, Bool.false_eq_true, hxOp, px, AS.eval, AS.get, Lift.look, Nat.succ_ne_zero, Option.getD_some, List.getElem?_cons_succ, AS.put, dropKey, Nat.reduceEqDiff, reduceCtorEq, pindexAddr, ty42, ty35, ne_eq, not_false_eq_true, Int.natCast_nonneg, Int.toNat_natCast, elE_len, hlt, and_self, hg, enC, pload, okOne, TK.isAgg, Nat.reduceBEq, Bool.or_false, List.length_cons, List.length_nil, Nat.zero_add, Nat.reduceAdd, Nat.le_refl, Lift.valOf, List.take_succ_cons, List.take_nil, ty45, ty78, pfieldAddr, fieldOf, fieldIn, ty3, Option.map_some, List.drop_zero, beq_self_eq_true, Bool.or_true, Nat.reduceLeDiff, List.take_zero, List.getD_cons_zero, List.drop_succ_cons, ty4, pbuild, List.map_cons, ofVal, List.map_nil, ofConst, pfill, placeOf, PV.cells, splice, List.nil_append, List.cons_append, List.drop_nil, List.append_nil, List.all_cons, Option.isSome_some, List.all_nil, Bool.and_true, okZero, Value.oneCell', known, isNilC, pbinP, pflt, peq, eqk35, fits, eqCells, Bool.not_true, thenQ, true_and]
    refine SW.run [] _ ?_
    simp only [wpC, isB, AS.get, Lift.look, tmpOf, ↓reduceIte, Option.getD_some, asB, Bool.false_eq_true, inQ, thenQ, true_and]
    refine SW.run [] _ ?_
    simp only [wpC, Bool.false_eq_true, ↓reduceIte, wpS, stops, wantedA, okDst, Nat.reduceLT, decide_true, step1, isOwnCall, hxOp, px, AS.eval, AS.get, Lift.look, Nat.reduceEqDiff, reduceCtorEq, Option.getD_some, isFlt, ty3, AS.put, dropKey, isNilC, pbinP, ofConst, ofVal, pbinI, hw, thenQ, HTo_self, Nat.succ_ne_zero, true_and]
    exact ⟨i + 1, hlt, by omega, rfl⟩
  · obtain rfl : i = a.length := by omega
    simp only [wpC, mayStop, stops, isFlt, Specs.has, Specs.hasO, Bool.or_false, Specs.hasH, Bool.not_false, List.any_cons, List.any_nil, Bool.false_eq_true, ↓reduceIte, wpS, wantedA, okDst, Nat.reduceLT, decide_true, step1, isOwnCall, hxOp, px, AS.eval, AS.get, Lift.look, reduceCtorEq, Nat.reduceEqDiff, Option.getD_some, AS.put, dropKey, Nat.succ_ne_zero, pcall, ty42, plen, elE_len, okLen, and_self, isNilC, pbinP, pbinI, Int.ofNat_lt, Nat.lt_irrefl, decide_false, thenQ, isB, tmpOf, asB, inQ, true_and]
    refine SW.run [] _ ?_
    simp only [wpC, mayStop, stops, isFlt, Specs.has, Specs.hasO, Bool.or_false, Specs.hasH, Bool.not_false, List.any_cons, List.any_nil, Bool.false_eq_true, ↓reduceIte, wpS, wantedA, okDst, Nat.reduceLT, decide_true, step1, isOwnCall, hxOp, px, AS.eval, ofConst, ofVal, thenQ, RPost, sres, AS.put, dropKey, Nat.reduceEqDiff, reduceCtorEq, Try.results19, sresL, sres1, AS.get, Lift.look, Option.getD_some, Option.some.injEq, Ret_fin, HTo_self, and_true, exists_eq_left', and_self]
set_option maxHeartbeats 1000000 in
set_option maxRecDepth 100000 in
theorem SameR_ok (a : List It) {h : Heap} {v : PV} (r : RowAt h 78 4 (elE a) v) (hl : a.length ≤ 1000000) : SCalls env 19 [.list 4 (elE a), v] h (Ret (.bool true) h) := by
  obtain ⟨A, cap, rfl, hc1, hc2, hw1, hr⟩ := r
  rw [elE_len]
  refine SCalls.body Try.func19 rfl rfl (by simp [Try.ntmps19]) ?_
  refine SW.seq (SW.run [] _ ?_)
  simp only [wpC, Bool.false_eq_true, ↓reduceIte, wpS, stops, wantedA, okDst, Try.ntmps19, Nat.reduceLT, decide_true, step1, isOwnCall, hxOp, px, AS.eval, ofConst, ofVal, thenQ, AS.put, enumA, Nat.zero_add, dropKey, reduceCtorEq, Nat.reduceEqDiff, true_and]
  refine SW.seq (SW.run [] _ ?_)
  simp only [wpC, mayStop, stops, isFlt, Specs.has, Specs.hasO, Bool.or_false, Specs.hasH, Bool.not_false, List.any_cons, List.any_nil, Bool.false_eq_true, ↓reduceIte, wpS, wantedA, okDst, Nat.reduceLT, decide_true, step1, isOwnCall, hxOp, px, AS.eval, AS.get, Lift.look, Nat.succ_ne_zero, Option.getD_some, AS.put, dropKey, Nat.reduceEqDiff, reduceCtorEq, pcall, ty42, plen, elE_len, okLen, and_self, ty45, isNilC, pbinP, pbinI, bne_self_eq_false, thenQ, isB, tmpOf, asB, true_and]
  refine SW.seq (SW.seq (SW.run [] _ ?_))
  simp only [wpC, Bool.false_eq_true, ↓reduceIte, wpS, stops, wantedA, okDst, Nat.reduceLT, decide_true, step1, isOwnCall, hxOp, px, AS.eval, ofConst, ofVal, thenQ, AS.put, dropKey, Nat.reduceEqDiff, reduceCtorEq, true_and]
  refine SW.block (SW.loopH 43 (fun i : Nat => [(0, .list 4 (elE a)), (1, .val (.slice A a.length cap)), (5, .int .i64 (i : Nat))]) (fun _ => h) (fun i => i ≤ a.length) (fun i => a.length - i) 0 (Nat.zero_le _) ⟨rfl, .refl _ _, ?_⟩ ?_)
  · simp only [hasAll, AS.get, Lift.look, Nat.succ_ne_zero, ↓reduceIte, Option.getD_some, Nat.reduceEqDiff, reduceCtorEq, Int.cast_ofNat_Int, and_self]
  intro i hi
  refine SW.seq (SW.run [] _ ?_)
  by_cases hlt : i < a.length
  · have hw : IntKind.i64.wrap ((i : Int) + 1) = ((i + 1 : Nat) : Int) := by rw [w64 (by omega) (by omega)]; rfl
    have hg := elE_at hlt
    obtain ⟨rr, hAA, hr3⟩ : ∃ r, A = some ⟨r, 0, none⟩ ∧ h r = some (.cells 78 (cap * 4) (elE a).flatten) := by
      rcases hr with ⟨_, he, _⟩ | hr
      · have := elE_len a; rw [he] at this; simp at this; omega
      · exact hr
    subst hAA
    obtain ⟨f0, f2, f3, f4, hfl⟩ := elE_flat hlt
    have f1 : ((elE a).flatten.drop (i * 4 + 1)).take 1 = [.int .i64 (a[i].arm : Nat)] := by
      have hi : i < (elE a).length := by rw [elE_len]; exact hlt
      have he : (elE a)[i] = enC a[i] := by simp [elE]
      rw [flat_drop (elE_wide a) hi (by omega), he]
      rfl
    have l0 : i * 4 + 1 ≤ (elE a).flatten.length := by omega
    have l1 : i * 4 + 1 + 1 ≤ (elE a).flatten.length := by omega
    have l2 : i * 4 + 2 + 1 ≤ (elE a).flatten.length := by omega
    have l3 : i * 4 + 3 + 1 ≤ (elE a).flatten.length := by omega
    simp only [wpC, mayStop, stops, isFlt, Specs.has, Specs.hasO, Bool.or_false, Specs.hasH, Bool.not_false, List.any_cons, List.any_nil, Bool.false_eq_true, ↓reduceIte, wpS, wantedA, okDst, Nat.reduceLT, decide_true, step1, isOwnCall, hxOp, px, AS.eval, AS.get, Lift.look, reduceCtorEq, Nat.reduceEqDiff, Option.getD_some, AS.put, dropKey, Nat.succ_ne_zero, pcall, ty42, plen, elE_len, okLen, and_self, isNilC, pbinP, pbinI, Int.ofNat_lt, hlt, thenQ, isB, tmpOf, asB, hasAll, and_true, true_and]
    refine SW.seq (SW.block (SW.seq (SW.regionAny [] [[0, 1, 2, 3, 4, 5, 6, 7, 8, 9, 10, 11, 12, 13, 14, 15, 16, 17, 18, 19, 20, 21, 22, 23, 24, 25]] rfl (by rfl) (by kernel_rfl) ?_)))
    simp only [wpOL, wpO, LOp, List.getElem?_toArray, List.getElem?_cons_zero, okDst, Nat.reduceLT, decide_true, wantedA, ↓reduceIte, step1, isOwnCall, Bool.false_eq_true, hxOp, px, AS.eval, AS.get, Lift.look, Nat.succ_ne_zero, Option.getD_some, List.getElem?_cons_succ, AS.put, dropKey, Nat.reduceEqDiff, reduceCtorEq, pindexAddr, ty42, ty35, ne_eq, not_false_eq_true, Int.natCast_nonneg, Int.toNat_natCast, elE_len, hlt, and_self, hg, enC, pload, okOne, TK.isAgg, Nat.reduceBEq, Bool.or_false, List.length_cons, List.length_nil, Nat.zero_add, Nat.reduceAdd, Nat.le_refl, Lift.valOf, List.take_succ_cons, List.take_nil, ty45, ty78, Int.ofNat_lt, pfieldAddr, fieldOf, fieldIn, ty3, Option.map_some, Nat.add_zero, hr3, beq_self_eq_true, Bool.or_true, l0, f0, List.getD_cons_zero, l1, f1, l2, f2, ty4, l3, f3, pbuild, List.map_cons, ofVal, List.map_nil, ofConst, pfill, placeOf, PV.cells, Nat.reduceLeDiff, splice, List.take_zero, List.nil_append, List.drop_succ_cons, List.drop_zero, List.cons_append, List.drop_nil, List.append_nil, List.all_cons, Option.isSome_some, List.all_nil, Bool.and_true, okZero, Value.oneCell', known, isNilC, pbinP, pflt, peq, eqk35, fits, eqCells, Bool.not_true, thenQ, true_and]
    refine SW.run [] _ ?_
    simp only [wpC, isB, AS.get, Lift.look, tmpOf, ↓reduceIte, Option.getD_some, asB, Bool.false_eq_true, inQ, thenQ, true_and]
    refine SW.run [] _ ?_
    simp only [wpC, Bool.false_eq_true, ↓reduceIte, wpS, stops, wantedA, okDst, Nat.reduceLT, decide_true, step1, isOwnCall, hxOp, px, AS.eval, AS.get, Lift.look, Nat.reduceEqDiff, reduceCtorEq, Option.getD_some, isFlt, ty3, AS.put, dropKey, isNilC, pbinP, ofConst, ofVal, pbinI, hw, thenQ, HTo_self, Nat.succ_ne_zero, true_and]
    exact ⟨i + 1, hlt, by omega, rfl⟩
  · obtain rfl : i = a.length := by omega
    simp only [wpC, mayStop, stops, isFlt, Specs.has, Specs.hasO, Bool.or_false, Specs.hasH, Bool.not_false, List.any_cons, List.any_nil, Bool.false_eq_true, ↓reduceIte, wpS, wantedA, okDst, Nat.reduceLT, decide_true, step1, isOwnCall, hxOp, px, AS.eval, AS.get, Lift.look, reduceCtorEq, Nat.reduceEqDiff, Option.getD_some, AS.put, dropKey, Nat.succ_ne_zero, pcall, ty42, plen, elE_len, okLen, and_self, isNilC, pbinP, pbinI, Int.ofNat_lt, Nat.lt_irrefl, decide_false, thenQ, isB, tmpOf, asB, inQ, true_and]
    refine SW.run [] _ ?_
    simp only [wpC, mayStop, stops, isFlt, Specs.has, Specs.hasO, Bool.or_false, Specs.hasH, Bool.not_false, List.any_cons, List.any_nil, Bool.false_eq_true, ↓reduceIte, wpS, wantedA, okDst, Nat.reduceLT, decide_true, step1, isOwnCall, hxOp, px, AS.eval, ofConst, ofVal, thenQ, RPost, sres, AS.put, dropKey, Nat.reduceEqDiff, reduceCtorEq, Try.results19, sresL, sres1, AS.get, Lift.look, Option.getD_some, Option.some.injEq, Ret_fin, HTo_self, and_true, exists_eq_left', and_self]
/-- What 'first' finds is what 'find?' finds. -/
theorem firstI_some {es : List It} {p c : Int} {s : Bool} {i : It} (h : (es.find? (meetB p c s)) = some i) : ∃ k : Nat, ∃ hk : k < es.length, firstI es p c s = (k : Nat) ∧ es[k] = i := by
  unfold firstI
  rw [List.find?_eq_some_iff_getElem] at h
  obtain ⟨h1, k, hk, rfl, h2⟩ := h
  have : es.findIdx? (meetB p c s) = some k := by
    rw [List.findIdx?_eq_some_iff_getElem]
    exact ⟨hk, h1, fun j hj => by have := h2 j hj; simpa using this⟩
  rw [this]
  exact ⟨k, hk, rfl, rfl⟩
theorem firstI_none {es : List It} {p c : Int} {s : Bool} (h : (es.find? (meetB p c s)) = none) : firstI es p c s = -1 := by
  unfold firstI
  rw [List.findIdx?_eq_none_iff.2 fun x hx => by have := List.find?_eq_none.1 h x hx; simpa using this]
theorem meetB_eq (p c : Int) (s : Bool) : meetB p c s = fun i => (i.ch == c && i.sd == !s) && !(i.pid == p) := by
  funext i
  unfold meetB
  cases i.sd <;> cases s <;> simp [bne]
theorem fst_meet {B : Bo} (w : WF B) (p c : Int) (s : Bool) : fstS noG B p c s = B.items.find? (meetB p c s) := by
  rw [fst_items w, meetB_eq]
theorem can_eq {B : Bo} (w : WF B) (p : Int) (os : List (Int × Bool)) (j : Nat) : canR B.items p os j = canS B p os j := by
  unfold canR canS
  cases os[j]? with
  | none => rfl
  | some o =>
    simp only []
    rw [fst_meet w]
    cases h : B.items.find? (meetB p o.1 o.2) with
    | none => rw [firstI_none h]; rfl
    | some i => obtain ⟨k, hk, e, _⟩ := firstI_some h; rw [e]; simp
theorem ready_eq {B : Bo} (w : WF B) (p : Int) (os : List (Int × Bool)) (n : Nat) : readyR B.items p os n = readyS B p os n := by
  unfold readyR readyS
  congr 1
  funext j
  exact can_eq w p os j
end Go.Proofs.Ytekgfneapofgpaa
