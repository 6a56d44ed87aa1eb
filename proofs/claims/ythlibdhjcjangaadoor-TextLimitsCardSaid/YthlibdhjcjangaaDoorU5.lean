/- Contracts of functions that the law reaches. -/
import Derived.Test.YthlibdhjcjangaaDoorU4
set_option linter.unusedSimpArgs false
set_option linter.unusedVariables false
namespace Go.Proofs.YthlibdhjcjangaaDoor
open Go Go.RowKit Go.Proofs.YthlibdhjcjangaaDoor Go.Proofs.YthlibdhjcjangaaDoor.Lift
set_option maxRecDepth 100000

/-! The call that waits at the door of Unquote -/
def capsU (ro rn re : Nat) : Array Value := #[.pointer (some ⟨ro, 0, none⟩), .pointer (some ⟨rn, 0, none⟩), .pointer (some ⟨re, 0, none⟩)]
theorem Door_ret (ro rn re : Nat) (h : Heap) : DRuns env 21 (capsU ro rn re) .returning .returning h h := by
  refine DRuns.recovers (x := .val .nilIface) (vx := .nilIface) Tryd.func21 rfl (by simp [Tryd.ntmps21, capsU]) rfl rfl rfl rfl rfl rfl rfl rfl (by simp [Tryd.ntmps21]) (by simp [Tryd.ntmps21]) (fun w I => ⟨rfl, rfl⟩) (.inl ⟨rfl, rfl, rfl⟩) ?_
  refine SW.run [] _ ?_
  simp only [wpC, mayStop, stops, isFlt, Specs.has, Specs.hasO, Bool.or_false, Specs.hasH, Bool.not_false, List.any_cons, List.any_nil, Bool.false_eq_true, ↓reduceIte, wpS, wantedA, okDst, AS.put, Tryd.ntmps21, capsU, List.map_cons, ofVal, List.map_nil, enumA, Nat.zero_add, Nat.reduceAdd, dropKey, reduceCtorEq, Nat.reduceEqDiff, Nat.reduceLT, decide_true, step1, isOwnCall, hxOp, px, AS.eval, AS.get, Lift.look, Option.getD_some, isNilC, pnilI, ty20, thenQ, isB, tmpOf, asB, or_false, HTo_self, and_self]
theorem Door_panic (ro rn re n : Nat) (e : Int) (h : Heap) (o1 o2 o3 : List PV) (h1 : h ro = some (.cells 24 2 o1)) (h2 : h rn = some (.cells 3 1 o2)) (h3 : h re = some (.cells 25 1 o3)) (l1 : o1.length = 2) (l2 : o2.length = 1) (l3 : o3.length = 1) (d1 : ro ≠ rn) (d2 : ro ≠ re) (d3 : rn ≠ re) :
    DRuns env 21 (capsU ro rn re) (.panicking [{ v := stopV n e, recovered := false }]) (.panicking [{ v := stopV n e, recovered := true }]) h
      (((h.put ro (.cells 24 2 [.str [], .bool false])).put rn (.cells 3 1 [.int .i64 n])).put re (.cells 25 1 [.int .i64 e])) := by
  have d1' := Ne.symm d1
  have d2' := Ne.symm d2
  have d3' := Ne.symm d3
  obtain ⟨a1, a2, rfl⟩ : ∃ a b, o1 = [a, b] := by match o1, l1 with | [a, b], _ => exact ⟨a, b, rfl⟩
  obtain ⟨b1, rfl⟩ : ∃ a, o2 = [a] := by match o2, l2 with | [a], _ => exact ⟨a, rfl⟩
  obtain ⟨c1, rfl⟩ : ∃ a, o3 = [a] := by match o3, l3 with | [a], _ => exact ⟨a, rfl⟩
  refine DRuns.recovers (x := .iface 50 true [.int .i64 n, .int .i64 e]) (vx := stopV n e) Tryd.func21 rfl (by simp [Tryd.ntmps21, capsU]) rfl rfl rfl rfl rfl rfl rfl rfl (by simp [Tryd.ntmps21]) (by simp [Tryd.ntmps21])
    (fun w I => ⟨_, rfl, _, _, rfl, rfl, _, _, rfl, rfl, rfl⟩) (.inr ⟨rfl, rfl⟩) ?_
  refine SW.run [] _ ?_
  simp only [wpC, mayStop, stops, isFlt, Specs.has, Specs.hasO, Bool.or_false, Specs.hasH, Bool.not_false, List.any_cons, List.any_nil, Bool.false_eq_true, ↓reduceIte, wpS, wantedA, okDst, AS.put, Tryd.ntmps21, capsU, List.map_cons, ofVal, List.map_nil, enumA, Nat.zero_add, Nat.reduceAdd, dropKey, reduceCtorEq, Nat.reduceEqDiff, Nat.reduceLT, decide_true, step1, isOwnCall, hxOp, px, AS.eval, AS.get, Lift.look, Option.getD_some, isNilC, pnilI, pbinP, pflt, peq, ty20, peqK, ofConst, thenQ, isB, tmpOf, asB, ptypeAssert, ty50, notIface, List.length_cons, List.length_nil, Nat.reduceBEq, and_self, Lift.valOf, List.getElem?_cons_zero, List.getElem?_cons_succ, okAlloc, okZero, List.all_cons, Value.oneCell', List.all_nil, Bool.and_true, hx, zeroOf, Heap.get_put, known1, PV.cells, Nat.le_refl, splice, List.take_zero, List.nil_append, List.drop_succ_cons, List.drop_nil, List.append_nil, Bool.or_true, pun, Bool.not_true, true_and]
  intro r hr
  have e1 : r ≠ ro := fun e => by rw [e, h1] at hr; cases hr
  have e2 : r ≠ rn := fun e => by rw [e, h2] at hr; cases hr
  have e3 : r ≠ re := fun e => by rw [e, h3] at hr; cases hr
  have e1' := Ne.symm e1
  have e2' := Ne.symm e2
  have e3' := Ne.symm e3
  refine SW.regionAny2 [] [(0, []), (1, []), (2, [5, 6, 7]), (3, []), (4, [5, 6, 7]), (5, []), (6, []), (7, [])] rfl rfl (by kernel_rfl) ?_
  simp only [wpO2, dynOK, LOp, List.getElem?_toArray, List.getElem?_cons_zero, okDst, Nat.reduceLT, decide_true, wantedA, ↓reduceIte, step1, isOwnCall, Bool.false_eq_true, hxOp, px, pbuild, ty24, List.map_cons, ofVal, List.map_nil, AS.eval, AS.get, Lift.look, ofConst, pfill, List.all_cons, ty9, Option.isSome_some, ty4, List.all_nil, Bool.and_true, okZero, Value.oneCell', known, and_self, List.getElem?_cons_succ, AS.put, dropKey, Nat.reduceEqDiff, reduceCtorEq, pfieldAddr, fieldOf, ty50, fieldIn, ty3, Option.map_some, Option.getD_some, ne_eq, Nat.succ_ne_zero, not_false_eq_true, Nat.add_zero, disj, ptrAt, ptrT, e1, e2, e3, pload, Heap.get_put, okOne, TK.isAgg, beq_self_eq_true, Bool.or_true, Nat.zero_add, List.length_cons, List.length_nil, Nat.reduceAdd, Nat.reduceLeDiff, Lift.valOf, List.drop_zero, List.take_succ_cons, List.take_zero, List.getD_cons_zero, ty25, Nat.le_refl, List.drop_succ_cons, List.take_nil, hx, e1', h1, known1, PV.cells, splice, List.nil_append, List.drop_nil, List.append_nil, d1', e2', h2, d3', d2', e3', h3, or_false, true_and]
  refine HSub.to fun k => ?_
  by_cases hk : k = r
  · subst hk; exact .inl (by simp [Heap.put, e1, e2, e3, hr])
  · exact .inr (by simp [Heap.put, hk])
theorem elR_append (xs ys : List Int) : elR (xs ++ ys) = elR xs ++ elR ys := List.map_append ..
/-! text.Unquote -/
noncomputable def eHasPrefixD (D : List Deferred) : SpecE (env.withD D) := ⟨22, sHasPrefix, fun args h hc => (eHasPrefix.ok args h hc).withD D⟩
noncomputable def eByteD (D : List Deferred) : SpecH (env.withD D) := ⟨23, sByteH, fun args h hc => (eByteH.ok args h hc).withD D⟩
noncomputable def ePackD (D : List Deferred) : SpecE (env.withD D) := ⟨24, sPack, fun args h hc => (ePack.ok args h hc).withD D⟩
noncomputable def eDecodeRuneD (D : List Deferred) : SpecE (env.withD D) := ⟨26, sDecodeRune, fun args h hc => (eDecodeRune.ok args h hc).withD D⟩
def unqV (r : List Int × Nat × Int) : PV := .tuple [.agg [.str (packL r.1), .bool (anyWide r.1)], .int .i64 (r.2.1 : Nat), .int .i64 r.2.2]
theorem Unquote_ok (s : List UInt8) (h : Heap) (hs : s.length ≤ 1000000000) : SCalls env 6 [.str s] h (Ret (unqV (unquoteS s)) h) := by
  refine SCalls.bodyDefer Tryd.func6 rfl rfl (by simp [Tryd.ntmps6]) Tryd.func21 rfl rfl (by rfl) (l1 := [_]) rfl ?_
  refine SW.run [] _ ?_
  simp only [wpC, Bool.false_eq_true, ↓reduceIte, wpS, stops, wantedA, okDst, Tryd.ntmps6, Nat.reduceLT, decide_true, step1, okAlloc, ty24, okZero, List.all_cons, Value.oneCell', List.all_nil, Bool.and_true, AS.put, enumA, dropKey, reduceCtorEq, ty3, zeroOf, List.map_cons, ofVal, List.map_nil, List.length_cons, List.length_nil, Nat.zero_add, Nat.reduceAdd, Heap.get_put, some_none, Nat.reduceEqDiff, ty25, thenQ, AS.eval, AS.get, true_and]
  intro ro hro rn hrn re hre
  obtain ⟨d1, hrn⟩ := hrn
  obtain ⟨d3, d2, hre⟩ := hre
  have d1' := Ne.symm d1
  have d2' := Ne.symm d2
  have d3' := Ne.symm d3
  refine SWO.run [] 1000 ?_
  simp only [wpS, stops, Bool.false_eq_true, ↓reduceIte, wantedA, okDst, Nat.reduceLT, decide_true, step1, isOwnCall, hxOp, px, List.map_cons, AS.eval, AS.get, Lift.look, Nat.reduceEqDiff, Option.getD_some, List.map_nil, unVs, unV, AS.put, dropKey, reduceCtorEq, true_and]
  refine ⟨capsU ro rn re, rfl, ?_⟩
  generalize ([{ target := Target.fn (Fn.func 21) (capsU ro rn re), args := #[] }] : List Deferred) = D
  have drop : ∀ (H : Heap) (X1 X2 X3 : AObj), (∀ k X, h k = some X → H k = some X) → HTo env (((H.put ro X1).put rn X2).put re X3) h := fun H X1 X2 X3 hH => HTo.of fun k X hk => by
    have n1 : k ≠ ro := fun e => by rw [e, hro] at hk; cases hk
    have n2 : k ≠ rn := fun e => by rw [e, hrn] at hk; cases hk
    have n3 : k ≠ re := fun e => by rw [e, hre] at hk; cases hk
    rw [Heap.put_ne _ _ n3, Heap.put_ne _ _ n2, Heap.put_ne _ _ n1]
    exact hH k X hk
  refine SW.seq (SW.run [eHasPrefixD D] _ ?_)
  by_cases hq : 0 < s.length ∧ s.getD 0 0 = 34
  case neg =>
    have hp : prefixS s [34] = false := by
      unfold prefixS
      rcases s with _ | ⟨b, s⟩
      · rfl
      · have : ¬ b = 34 := fun e => hq ⟨by simp, by simpa using e⟩
        simp [this]
    have hu : unquoteS s = ([], 0, 9) := by unfold unquoteS; rw [if_neg hq]
    simp only [wpC, mayStop, stops, isFlt, withD_ty, Specs.has, eHasPrefixD, Specs.hasO, Bool.or_false, Specs.hasH, List.any_cons, ↓reduceIte, Bool.not_true, List.any_nil, Bool.false_eq_true, wpS, wantedA, okDst, Nat.reduceLT, decide_true, step1, isOwnCall, hxOp, px, AS.eval, AS.get, Lift.look, Nat.succ_ne_zero, Option.getD_some, AS.put, dropKey, Nat.reduceEqDiff, reduceCtorEq, pcall, okArg, ofConst, ofVal, withD_gl, List.all_cons, List.all_nil, Bool.and_true, Specs.at, List.map_cons, List.map_nil, sHasPrefix, hp, and_self, pun, Bool.not_false, thenQ, isB, tmpOf, asB, pbuild, ty24, pfill, ty9, Option.isSome_some, ty4, okZero, Value.oneCell', known, hx, Heap.get_put, d2', d1', known1, PV.cells, List.length_cons, List.length_nil, Nat.zero_add, Nat.reduceAdd, Nat.le_refl, splice, List.take_zero, List.nil_append, List.drop_succ_cons, List.drop_nil, List.append_nil, ty3, d1, d3', ty25, d3, d2, DPost, sres, Tryd.results6, sresL, sres1, okOne, TK.isAgg, Nat.reduceBEq, Lift.valOf, List.drop_zero, List.take_succ_cons, List.take_nil, beq_self_eq_true, Bool.or_true, List.getD_cons_zero, Option.some.injEq, Ret_fin, exists_eq_left', true_and]
    refine ⟨Door_ret ro rn re _, by rw [hu]; rfl, ?_⟩
    exact drop _ _ _ _ fun k X hk => by
      have n1 : k ≠ ro := fun e => by rw [e, hro] at hk; cases hk
      have n2 : k ≠ rn := fun e => by rw [e, hrn] at hk; cases hk
      have n3 : k ≠ re := fun e => by rw [e, hre] at hk; cases hk
      rw [Heap.put_ne _ _ n3, Heap.put_ne _ _ n2, Heap.put_ne _ _ n1]
      exact hk
  have hp : prefixS s [34] = true := by
    unfold prefixS
    rcases s with _ | ⟨b, s⟩
    · exact absurd hq.1 (by simp)
    · have : b = 34 := by simpa using hq.2
      simp [this]
  have eq0 : unquoteS s = unqS s s.length 1 [] := by unfold unquoteS; rw [if_pos hq]
  simp only [wpC, mayStop, stops, isFlt, withD_ty, Specs.has, eHasPrefixD, Specs.hasO, Bool.or_false, Specs.hasH, List.any_cons, ↓reduceIte, Bool.not_true, List.any_nil, Bool.false_eq_true, wpS, wantedA, okDst, Nat.reduceLT, decide_true, step1, isOwnCall, hxOp, px, AS.eval, AS.get, Lift.look, Nat.succ_ne_zero, Option.getD_some, AS.put, dropKey, Nat.reduceEqDiff, reduceCtorEq, pcall, okArg, ofConst, ofVal, withD_gl, List.all_cons, List.all_nil, Bool.and_true, Specs.at, List.map_cons, List.map_nil, sHasPrefix, hp, and_self, pun, thenQ, isB, tmpOf, asB, true_and]
  refine SW.seq (SW.run [] _ ?_)
  simp only [wpC, Bool.false_eq_true, ↓reduceIte, wpS, stops, wantedA, okDst, Nat.reduceLT, decide_true, step1, isOwnCall, hxOp, px, AS.eval, AS.get, Lift.look, Nat.succ_ne_zero, Option.getD_some, AS.put, dropKey, Nat.reduceEqDiff, reduceCtorEq, pbuild, withD_ty, ty55, List.map_cons, ofVal, List.map_nil, ofConst, withD_gl, pfill, placeOf, List.getElem?_cons_zero, ty9, Option.map_some, PV.cells, List.length_cons, List.length_nil, Nat.zero_add, Nat.reduceAdd, Nat.reduceLeDiff, and_self, List.getElem?_cons_succ, ty3, splice, List.take_zero, List.nil_append, List.drop_succ_cons, List.drop_zero, List.cons_append, Nat.le_refl, List.take_succ_cons, List.drop_nil, List.append_nil, List.all_cons, Option.isSome_some, List.all_nil, Bool.and_true, okZero, Value.oneCell', known, known1, Heap.get_put, some_none, thenQ, true_and]
  rintro rl ⟨hl1, hl2, hl3, hrl⟩
  have hl1' := Ne.symm hl1
  have hl2' := Ne.symm hl2
  have hl3' := Ne.symm hl3
  obtain ⟨B0, hB0⟩ : ∃ B0, B0 = (((h.put ro (.cells 24 2 [.str [], .bool false])).put rn (.cells 3 1 [.int .i64 0])).put re (.cells 25 1 [.int .i64 0])) := ⟨_, rfl⟩
  rw [← hB0]
  have b1 : ∀ i : Nat, (B0.put rl (.cells 55 2 [.str s, .int .i64 (i : Nat)])) ro = some (.cells 24 2 [.str [], .bool false]) := fun i => by
    rw [Heap.put_ne _ _ hl3', hB0, Heap.put_ne _ _ d2', Heap.put_ne _ _ d1', Heap.put_same]
  have b2 : ∀ i : Nat, (B0.put rl (.cells 55 2 [.str s, .int .i64 (i : Nat)])) rn = some (.cells 3 1 [.int .i64 0]) := fun i => by
    rw [Heap.put_ne _ _ hl2', hB0, Heap.put_ne _ _ d3', Heap.put_same]
  have b3 : ∀ i : Nat, (B0.put rl (.cells 55 2 [.str s, .int .i64 (i : Nat)])) re = some (.cells 25 1 [.int .i64 0]) := fun i => by
    rw [Heap.put_ne _ _ hl1', hB0, Heap.put_same]
  have b0 : ∀ (i : Nat) k X, h k = some X → (B0.put rl (.cells 55 2 [.str s, .int .i64 (i : Nat)])) k = some X := fun i k X hk => by
    have n0 : k ≠ rl := fun e => by rw [e, hrl] at hk; cases hk
    have n1 : k ≠ ro := fun e => by rw [e, hro] at hk; cases hk
    have n2 : k ≠ rn := fun e => by rw [e, hrn] at hk; cases hk
    have n3 : k ≠ re := fun e => by rw [e, hre] at hk; cases hk
    rw [Heap.put_ne _ _ n0, hB0, Heap.put_ne _ _ n3, Heap.put_ne _ _ n2, Heap.put_ne _ _ n1]
    exact hk
  have f1 : B0 ro = some (.cells 24 2 [.str [], .bool false]) := by rw [hB0, Heap.put_ne _ _ d2', Heap.put_ne _ _ d1', Heap.put_same]
  have f2 : B0 rn = some (.cells 3 1 [.int .i64 0]) := by rw [hB0, Heap.put_ne _ _ d3', Heap.put_same]
  have f3 : B0 re = some (.cells 25 1 [.int .i64 0]) := by rw [hB0, Heap.put_same]
  clear hB0
  have finP : ∀ (n : Nat) (e : Int) (st : AS) (o1 o2 o3 : List PV), unquoteS s = ([], n, e) → st.get 2 = .val (.pointer (some ⟨ro, 0, none⟩)) → st.get 3 = .val (.pointer (some ⟨rn, 0, none⟩)) → st.get 4 = .val (.pointer (some ⟨re, 0, none⟩)) →
      st.h ro = some (.cells 24 2 o1) → st.h rn = some (.cells 3 1 o2) → st.h re = some (.cells 25 1 o3) → o1.length = 2 → o2.length = 1 → o3.length = 1 → (∀ k X, h k = some X → st.h k = some X) →
      DPost env 21 (capsU ro rn re) Tryd.f6.results.toList (Ret (unqV (unquoteS s)) h) (.panic [{ v := stopV n e, recovered := false }]) st := by
    intro n e st o1 o2 o3 hu g2 g3 g4 k1 k2 k3 l1 l2 l3 hk
    refine ⟨stopV n e, _, rfl, Door_panic ro rn re n e st.h o1 o2 o3 k1 k2 k3 l1 l2 l3 d1' d2' d3', unqV (unquoteS s), ?_, h, drop _ _ _ _ hk, rfl, rfl⟩
    have hr : Tryd.f6.results.toList = [.cell 2 24, .cell 3 3, .cell 4 25] := rfl
    have hg : ∀ (H : Heap) t, AS.get { st with h := H } t = st.get t := fun _ _ => rfl
    rw [hr, hu]
    simp only [sres, sresL, sres1, hg, g2, g3, g4, ty24, ty3, ty25, Heap.get_put, d1, d2, d3, d1', d2', d3', ↓reduceIte, List.length_cons, List.length_nil, okOne, TK.isAgg, Lift.valOf, List.drop_zero, List.take_succ_cons, List.take_zero, List.take_nil, Bool.true_or, Bool.false_or, Nat.reduceAdd, Nat.reduceLeDiff, Nat.zero_add, Nat.le_refl, and_self, beq_self_eq_true, true_and, and_true, List.getD_cons_zero, Bool.false_eq_true]
    rfl
  refine SW.seq (SW.run [] _ ?_)
  simp only [wpC, Bool.false_eq_true, ↓reduceIte, wpS, stops, wantedA, okDst, Nat.reduceLT, decide_true, step1, isOwnCall, hxOp, px, AS.eval, ofConst, ofVal, thenQ, AS.put, dropKey, Nat.reduceEqDiff, reduceCtorEq, true_and]
  refine SW.block ?_
  refine SW.loop (fun m a => ∃ (i : Nat) (out : List Int) (v : PV), unqS s m i out = unquoteS s ∧ s.length < i + m ∧ i ≤ s.length ∧ out.length + m ≤ s.length ∧ out.length ≤ 65536 ∧ okChars out ∧ Own (B0.put rl (.cells 55 2 [.str s, .int .i64 (i : Nat)])) 21 1 (elR out) v a.h ∧ a.n = 79 ∧ hasAll a [(0, .str s), (2, .val (.pointer (some ⟨ro, 0, none⟩))), (3, .val (.pointer (some ⟨rn, 0, none⟩))), (4, .val (.pointer (some ⟨re, 0, none⟩))), (5, .val (.pointer (some ⟨rl, 0, none⟩))), (6, v)]) s.length ⟨1, [], .val (.slice none 0 0), eq0.symm, by omega, by omega, by simp, by simp, (fun c hc => by cases hc), Own.nil _ _ _, ?_⟩ ?_
  · simp only [hasAll, AS.get, Lift.look, Nat.succ_ne_zero, ↓reduceIte, Option.getD_some, Nat.reduceEqDiff, and_self]
  rintro m a ⟨i, out, v, hu, hm, hi, hol, hob, hok, hown, hn', hsl⟩
  refine SW.norm ⟨hn', rfl, hsl⟩ ?_
  obtain ⟨A, cp, rfl⟩ := hown.slice
  have finB : ∀ (n : Nat) (e : Int), ustep s i = .bad n e → unquoteS s = ([], n, e) := by
    intro n e hb
    cases m with
    | zero => omega
    | succ m =>
      unfold unqS at hu
      rw [hb] at hu
      exact hu.symm
  have a0 := hown.at
  have a1 := hown.base (b1 i)
  have a2 := hown.base (b2 i)
  have a3 := hown.base (b3 i)
  refine SW.block ?_
  refine SW.cutK [] 2 (fun b => Has b 79 [(0, .str s), (2, .val (.pointer (some ⟨ro, 0, none⟩))), (3, .val (.pointer (some ⟨rn, 0, none⟩))), (4, .val (.pointer (some ⟨re, 0, none⟩))), (5, .val (.pointer (some ⟨rl, 0, none⟩))), (6, .val (.slice A (elR out).length cp)), (7, .int .i64 (i : Nat)), (8, .int .i32 0)] a.h) ?_ ?_
  · simp only [seqW, wpC, Bool.false_eq_true, ↓reduceIte, wpS, stops, wantedA, okDst, Nat.reduceLT, decide_true, step1, isOwnCall, hxOp, px, AS.eval, AS.get, Lift.look, reduceCtorEq, Nat.reduceEqDiff, Option.getD_some, AS.put, dropKey, pfieldAddr, fieldOf, withD_ty, ty55, fieldIn, List.getElem?_cons_succ, List.getElem?_cons_zero, ty3, Option.map_some, ne_eq, Nat.succ_ne_zero, not_false_eq_true, Nat.zero_add, pload, a0, okOne, TK.isAgg, beq_self_eq_true, Bool.or_true, Nat.reduceAdd, List.length_cons, List.length_nil, Nat.le_refl, and_self, Lift.valOf, List.drop_succ_cons, List.drop_zero, List.take_succ_cons, List.take_nil, List.getD_cons_zero, thenQ, ofConst, ofVal, Has, hasAll]
  intro b hb
  refine SW.norm hb ?_
  refine SW.cut (fun b => ∃ (c : Int) (n : Nat), ustep s i = .char c n ∧ b.n = 79 ∧ Own (B0.put rl (.cells 55 2 [.str s, .int .i64 (n : Nat)])) 21 1 (elR out) (.val (.slice A (elR out).length cp)) b.h ∧ hasAll b [(0, .str s), (2, .val (.pointer (some ⟨ro, 0, none⟩))), (3, .val (.pointer (some ⟨rn, 0, none⟩))), (4, .val (.pointer (some ⟨re, 0, none⟩))), (5, .val (.pointer (some ⟨rl, 0, none⟩))), (6, .val (.slice A (elR out).length cp)), (7, .int .i64 (i : Nat)), (8, .int .i32 c)]) ?_ ?_
  case refine_1 =>
    by_cases hlt : i < s.length
    case neg =>
      have hb : ustep s i = .bad s.length 16 := by unfold ustep; rw [if_neg hlt]
      refine SW.run [] _ ?_
      simp only [wpC, mayStop, stops, isFlt, withD_ty, Specs.has, Specs.hasO, Bool.or_false, Specs.hasH, Bool.not_false, List.any_cons, List.any_nil, Bool.or_true, ↓reduceIte, Bool.false_eq_true, wpS, wantedA, okDst, Nat.reduceLT, decide_true, step1, isOwnCall, hxOp, px, AS.eval, AS.get, Lift.look, reduceCtorEq, Nat.reduceEqDiff, Option.getD_some, AS.put, dropKey, pfieldAddr, fieldOf, ty55, fieldIn, List.getElem?_cons_succ, List.getElem?_cons_zero, ty3, Option.map_some, ne_eq, Nat.succ_ne_zero, not_false_eq_true, Nat.zero_add, pload, a0, okOne, TK.isAgg, beq_self_eq_true, Nat.reduceAdd, List.length_cons, List.length_nil, Nat.le_refl, and_self, Lift.valOf, List.drop_succ_cons, List.drop_zero, List.take_succ_cons, List.take_nil, List.getD_cons_zero, hasAll, and_true, true_and]
      refine SWO.call (.func 23) _ _ 23 #[] #[] rfl rfl rfl rfl rfl rfl ((Byte_end s _ rl i a.h hs a0 (by omega)).withD D) rfl rfl ?_ ?_
      · rintro q h' ⟨e1, _⟩; cases e1
      · rintro c h' ⟨e1, rfl⟩
        injection e1 with e1
        subst e1
        exact finP _ _ _ _ _ _ (finB _ _ hb) rfl rfl rfl a1 a2 a3 rfl rfl rfl (fun k X hk => hown.base (b0 i k X hk))
    have b34 : ((34 : UInt8).toNat : Int) = 34 := rfl
    have b10 : ((10 : UInt8).toNat : Int) = 10 := rfl
    have b92 : ((92 : UInt8).toNat : Int) = 92 := rfl
    have k34 := byte_is (s.getD i 0) 34
    have k10 := byte_is (s.getD i 0) 10
    have k92 := byte_is (s.getD i 0) 92
    rw [b34] at k34; rw [b10] at k10; rw [b92] at k92
    by_cases c34 : s.getD i 0 = 34
    · have hd : ustep s i = .done (i + 1) := by unfold ustep; rw [if_pos hlt, if_pos c34]
      rw [decide_eq_true c34] at k34
      refine SW.run [eByteD D] _ ?_
      simp only [wpC, mayStop, stops, isFlt, withD_ty, Specs.has, Specs.hasO, Bool.or_false, Specs.hasH, eByteD, Bool.false_or, List.any_cons, ↓reduceIte, Bool.not_true, List.any_nil, Bool.false_eq_true, wpS, wantedA, okDst, Nat.reduceLT, decide_true, step1, isOwnCall, hxOp, px, AS.eval, AS.get, Lift.look, reduceCtorEq, Nat.reduceEqDiff, Option.getD_some, AS.put, dropKey, pfieldAddr, fieldOf, ty55, fieldIn, List.getElem?_cons_succ, List.getElem?_cons_zero, ty3, Option.map_some, ne_eq, Nat.succ_ne_zero, not_false_eq_true, Nat.zero_add, pload, a0, okOne, TK.isAgg, beq_self_eq_true, Bool.or_true, Nat.reduceAdd, List.length_cons, List.length_nil, Nat.le_refl, and_self, Lift.valOf, List.drop_succ_cons, List.drop_zero, List.take_succ_cons, List.take_nil, List.getD_cons_zero, hx, okArg, ofConst, ofVal, withD_gl, List.all_cons, List.all_nil, Bool.and_true, Specs.atH, List.map_cons, List.map_nil, sByteH, Int.natCast_nonneg, Int.toNat_natCast, hlt, and_true, true_and, thenQ, isNilC, pbinP, pbinI, k34, isB, tmpOf, asB, Bool.not_false, hasAll]
      refine ⟨hs, ?_⟩
      refine SW.own_let 6 rfl hown ?_
      have ho := elR_len out
      refine SW.regionAny2 [ePackD D] [(0, []), (1, []), (2, []), (3, []), (4, []), (5, [7, 8, 9]), (6, []), (7, []), (8, []), (9, [])] rfl rfl (by kernel_rfl) ?_
      simp only [wpO2, dynOK, LOp, List.getElem?_toArray, List.getElem?_cons_zero, okDst, AS.put, dropKey, Nat.reduceEqDiff, ↓reduceIte, reduceCtorEq, Nat.reduceLT, decide_true, wantedA, step1, isOwnCall, Bool.false_eq_true, hxOp, px, AS.eval, AS.get, Lift.look, Option.getD_some, List.getElem?_cons_succ, Specs.hasO, Specs.hasH, pcall, okArg, ofConst, ofVal, withD_gl, List.all_cons, List.all_nil, Bool.and_true, Specs.at, ePackD, List.map_cons, List.map_nil, sPack, unR_elR, true_and, pfieldAddr, fieldOf, withD_ty, ty55, fieldIn, ty3, Option.map_some, ne_eq, Nat.succ_ne_zero, not_false_eq_true, Nat.zero_add, disj, ptrAt, ptrT, hl3, hl2, hl1, and_self, pload, Heap.get_put, okOne, TK.isAgg, beq_self_eq_true, Bool.or_true, Nat.reduceAdd, List.length_cons, List.length_nil, Nat.le_refl, Lift.valOf, List.drop_succ_cons, List.drop_zero, List.take_succ_cons, List.take_nil, List.getD_cons_zero, isNilC, pbinP, pbinI, hx, ty24, hl3', f1, known1, PV.cells, splice, List.take_zero, List.nil_append, List.drop_nil, List.append_nil, d1, hl2', f2, ty25, d3, d2, hl1', f3, thenQ]
      refine ⟨by omega, SW.run [] _ ?_⟩
      have hu' : unquoteS s = (out, i + 1, 0) := by
        cases m with
        | zero => omega
        | succ m =>
          unfold unqS at hu
          rw [hd] at hu
          exact hu.symm
      simp only [wpC, inQ, thenQ, DPost, sres, Tryd.results6, sresL, sres1, AS.get, Lift.look, Nat.reduceEqDiff, ↓reduceIte, reduceCtorEq, Option.getD_some, ty24, Heap.get_put, d2', d1', Nat.zero_add, List.length_cons, List.length_nil, Nat.reduceAdd, Nat.le_refl, okOne, TK.isAgg, Nat.reduceBEq, Bool.or_false, and_self, Lift.valOf, List.drop_zero, List.take_succ_cons, List.take_nil, ty3, d3', beq_self_eq_true, Bool.or_true, Bool.false_eq_true, List.getD_cons_zero, ty25, Option.some.injEq, Ret_fin, exists_eq_left']
      refine ⟨Door_ret ro rn re _, ?_, ?_⟩
      · rw [hu', w64 (by omega) (by omega)]
        rfl
      · exact drop _ _ _ _ (b0 i)
    rw [decide_eq_false c34] at k34
    by_cases c10 : s.getD i 0 = 10
    · have hd : ustep s i = .bad i 9 := by unfold ustep; rw [if_pos hlt, if_neg c34, if_pos c10]
      rw [decide_eq_true c10] at k10
      refine SW.run [eByteD D] _ ?_
      simp only [wpC, mayStop, stops, isFlt, withD_ty, Specs.has, Specs.hasO, Bool.or_false, Specs.hasH, eByteD, Bool.false_or, List.any_cons, ↓reduceIte, Bool.not_true, List.any_nil, Bool.false_eq_true, wpS, wantedA, okDst, Nat.reduceLT, decide_true, step1, isOwnCall, hxOp, px, AS.eval, AS.get, Lift.look, reduceCtorEq, Nat.reduceEqDiff, Option.getD_some, AS.put, dropKey, pfieldAddr, fieldOf, ty55, fieldIn, List.getElem?_cons_succ, List.getElem?_cons_zero, ty3, Option.map_some, ne_eq, Nat.succ_ne_zero, not_false_eq_true, Nat.zero_add, pload, a0, okOne, TK.isAgg, beq_self_eq_true, Bool.or_true, Nat.reduceAdd, List.length_cons, List.length_nil, Nat.le_refl, and_self, Lift.valOf, List.drop_succ_cons, List.drop_zero, List.take_succ_cons, List.take_nil, List.getD_cons_zero, hx, okArg, ofConst, ofVal, withD_gl, List.all_cons, List.all_nil, Bool.and_true, Specs.atH, List.map_cons, List.map_nil, sByteH, Int.natCast_nonneg, Int.toNat_natCast, hlt, and_true, true_and, thenQ, isNilC, pbinP, pbinI, k34, isB, tmpOf, asB, k10, pbuild, ty50, pfill, placeOf, PV.cells, Nat.reduceLeDiff, ty25, splice, List.take_zero, List.nil_append, List.cons_append, List.drop_nil, List.append_nil, Option.isSome_some, okZero, Value.oneCell', known, pmakeIface, hasAll]
      refine ⟨hs, ?_⟩
      refine SWO.panic2 (.tmp 64) rfl rfl rfl ?_
      exact finP _ _ _ _ _ _ (finB _ _ hd) rfl rfl rfl a1 a2 a3 rfl rfl rfl (fun k X hk => hown.base (b0 i k X hk))
    rw [decide_eq_false c10] at k10
    by_cases c92 : s.getD i 0 = 92
    case neg =>
      have hl : 0 < (s.drop i).length := by rw [List.length_drop]; omega
      have hfl := firstS_le (s.drop i) hl
      rw [List.length_drop] at hfl
      have hd : ustep s i = .char (firstS (s.drop i)).1 (i + (firstS (s.drop i)).2) := by unfold ustep; rw [if_pos hlt, if_neg c34, if_neg c10, if_neg c92]
      rw [decide_eq_false c92] at k92
      refine SW.run [eByteD D, eDecodeRuneD D] _ ?_
      simp only [wpC, mayStop, stops, isFlt, withD_ty, Specs.has, eDecodeRuneD, Specs.hasO, Bool.or_false, Specs.hasH, eByteD, List.any_cons, Nat.reduceEqDiff, ↓reduceIte, Bool.or_true, Bool.not_true, List.any_nil, Bool.false_eq_true, wpS, wantedA, okDst, Nat.reduceLT, decide_true, step1, isOwnCall, hxOp, px, AS.eval, AS.get, Lift.look, reduceCtorEq, Option.getD_some, AS.put, dropKey, pfieldAddr, fieldOf, ty55, fieldIn, List.getElem?_cons_succ, List.getElem?_cons_zero, ty3, Option.map_some, ne_eq, Nat.succ_ne_zero, not_false_eq_true, Nat.zero_add, pload, a0, okOne, TK.isAgg, beq_self_eq_true, Nat.reduceAdd, List.length_cons, List.length_nil, Nat.le_refl, and_self, Lift.valOf, List.drop_succ_cons, List.drop_zero, List.take_succ_cons, List.take_nil, List.getD_cons_zero, hx, okArg, ofConst, ofVal, withD_gl, List.all_cons, List.all_nil, Bool.and_true, Specs.atH, List.map_cons, List.map_nil, sByteH, Int.natCast_nonneg, Int.toNat_natCast, hlt, and_true, true_and, thenQ, isNilC, pbinP, pbinI, k34, isB, tmpOf, asB, k10, k92, pslice, ty9, pB, List.take_length, pcall, Specs.at, sDecodeRune, List.length_drop, known1, PV.cells, splice, List.take_zero, List.cons_append, List.nil_append, List.drop_nil, List.append_nil, inQ, hasAll]
      refine ⟨hs, ?_⟩
      rw [w64 (by omega) (by omega)]
      exact ⟨⟨by omega, by omega⟩, by omega, _, _, hd, hown.reput, rfl⟩
    rw [decide_eq_true c92] at k92
    have hd : ustep s i = uesc s (i + 1) := by unfold ustep; rw [if_pos hlt, if_neg c34, if_neg c10, if_pos c92]
    refine SW.run [eByteD D] _ ?_
    simp only [wpC, mayStop, stops, isFlt, withD_ty, Specs.has, Specs.hasO, Bool.or_false, Specs.hasH, eByteD, Bool.false_or, List.any_cons, ↓reduceIte, Bool.not_true, List.any_nil, Bool.false_eq_true, wpS, wantedA, okDst, Nat.reduceLT, decide_true, step1, isOwnCall, hxOp, px, AS.eval, AS.get, Lift.look, reduceCtorEq, Nat.reduceEqDiff, Option.getD_some, AS.put, dropKey, pfieldAddr, fieldOf, ty55, fieldIn, List.getElem?_cons_succ, List.getElem?_cons_zero, ty3, Option.map_some, ne_eq, Nat.succ_ne_zero, not_false_eq_true, Nat.zero_add, pload, a0, okOne, TK.isAgg, beq_self_eq_true, Bool.or_true, Nat.reduceAdd, List.length_cons, List.length_nil, Nat.le_refl, and_self, Lift.valOf, List.drop_succ_cons, List.drop_zero, List.take_succ_cons, List.take_nil, List.getD_cons_zero, hx, okArg, ofConst, ofVal, withD_gl, List.all_cons, List.all_nil, Bool.and_true, Specs.atH, List.map_cons, List.map_nil, sByteH, Int.natCast_nonneg, Int.toNat_natCast, hlt, and_true, true_and, thenQ, isNilC, pbinP, pbinI, k34, isB, tmpOf, asB, k10, k92, Bool.not_false, hasAll]
    refine ⟨hs, ?_⟩
    refine SWO.call (.func 25) _ _ 25 #[] #[] rfl rfl rfl rfl rfl rfl ((Escape_ok s rl i a.h hs hlt a0).withD D) rfl rfl ?_ ?_
    · intro p h' hq2
      cases hx : uesc s (i + 1) with
      | done n => rw [hx] at hq2; exact hq2.elim
      | bad n e => rw [hx] at hq2; obtain ⟨e1, _⟩ := hq2; cases e1
      | char c n =>
        rw [hx] at hq2
        obtain ⟨e1, rfl⟩ := hq2
        injection e1 with e1
        subst e1
        refine SWO.run [] 1000 ?_
        simp only [wpS, stops, Bool.false_eq_true, ↓reduceIte, wantedA, okDst, AS.put, dropKey, Nat.reduceEqDiff, reduceCtorEq, Nat.reduceLT, decide_true, step1, isOwnCall, hxOp, px, AS.eval, AS.get, Lift.look, Option.getD_some, inQ, thenQ, Nat.succ_ne_zero, true_and]
        exact ⟨c, n, by rw [hd, hx], hown.reput, rfl⟩
    · intro c h' hq2
      cases hx : uesc s (i + 1) with
      | done n => rw [hx] at hq2; exact hq2.elim
      | char c n => rw [hx] at hq2; obtain ⟨e1, _⟩ := hq2; cases e1
      | bad n e =>
        rw [hx] at hq2
        obtain ⟨e1, rfl⟩ := hq2
        injection e1 with e1
        subst e1
        exact finP _ _ _ _ _ _ (finB _ _ (by rw [hd, hx])) rfl rfl rfl a1 a2 a3 rfl rfl rfl (fun k X hk => hown.base (b0 i k X hk))
  case refine_2 =>
    rintro b ⟨c, n, hc, hbn, hbo, hbs⟩
    refine SW.norm ⟨hbn, rfl, hbs⟩ ?_
    obtain ⟨hin, hns, hcc⟩ := ustep_le s i c n hc
    obtain ⟨m, rfl⟩ : ∃ m', m = m' + 1 := ⟨m - 1, by omega⟩
    unfold unqS at hu
    rw [hc] at hu
    dsimp only at hu
    have c1 := hbo.base (b1 n)
    have c2 := hbo.base (b2 n)
    have c3 := hbo.base (b3 n)
    refine SW.run [] _ ?_
    by_cases hbig : 65536 ≤ out.length
    · rw [if_pos hbig] at hu
      have hbI : ((out.length : Int) == 65536) = true := by simp; omega
      simp only [wpC, mayStop, stops, isFlt, withD_ty, Specs.has, Specs.hasO, Bool.or_false, Specs.hasH, Bool.not_false, List.any_cons, List.any_nil, Bool.or_true, ↓reduceIte, Bool.false_eq_true, wpS, wantedA, okDst, Nat.reduceLT, decide_true, step1, isOwnCall, hxOp, px, AS.eval, AS.get, Lift.look, reduceCtorEq, Nat.reduceEqDiff, elR_len, Option.getD_some, AS.put, dropKey, pcall, ty56, plen, okLen, and_self, isNilC, pbinP, ofConst, ofVal, pbinI, hbI, thenQ, isB, tmpOf, asB, pbuild, ty50, List.map_cons, List.map_nil, withD_gl, pfill, placeOf, List.getElem?_cons_zero, ty3, Option.map_some, PV.cells, List.length_cons, List.length_nil, Nat.zero_add, Nat.reduceAdd, Nat.reduceLeDiff, List.getElem?_cons_succ, ty25, splice, List.take_zero, List.nil_append, List.drop_succ_cons, List.drop_zero, List.cons_append, Nat.le_refl, List.take_succ_cons, List.drop_nil, List.append_nil, List.all_cons, Option.isSome_some, List.all_nil, Bool.and_true, okZero, Value.oneCell', known, pmakeIface, hasAll, and_true, true_and]
      refine SWO.panic2 (.tmp 74) rfl rfl rfl ?_
      exact finP _ _ _ _ _ _ hu.symm rfl rfl rfl c1 c2 c3 rfl rfl rfl (fun k X hk => hbo.base (b0 n k X hk))
    · rw [if_neg hbig] at hu
      have hbI : ((out.length : Int) == 65536) = false := by simp; omega
      simp only [wpC, mayStop, stops, isFlt, withD_ty, Specs.has, Specs.hasO, Bool.or_false, Specs.hasH, Bool.not_false, List.any_cons, List.any_nil, Bool.or_true, ↓reduceIte, Bool.false_eq_true, wpS, wantedA, okDst, Nat.reduceLT, decide_true, step1, isOwnCall, hxOp, px, AS.eval, AS.get, Lift.look, reduceCtorEq, Nat.reduceEqDiff, elR_len, Option.getD_some, AS.put, dropKey, pcall, ty56, plen, okLen, and_self, isNilC, pbinP, ofConst, ofVal, pbinI, hbI, thenQ, isB, tmpOf, asB, hasAll, and_true, true_and]
      refine SW.run [] _ ?_
      simp only [wpC, Bool.false_eq_true, ↓reduceIte, wpS, stops, wantedA, okDst, Nat.reduceLT, decide_true, step1, isOwnCall, hxOp, px, AS.eval, AS.get, Lift.look, Nat.reduceEqDiff, reduceCtorEq, Option.getD_some, AS.put, dropKey, pbuildSlice, withD_ty, ty56, ty21, Nat.succ_ne_zero, List.replicate, List.map_cons, ofVal, List.map_nil, List.flatten_cons, List.flatten_nil, List.append_nil, ofConst, withD_gl, pfill, PV.cells, List.length_cons, List.length_nil, Nat.zero_add, Nat.reduceMul, Nat.le_refl, and_self, splice, List.take_zero, List.nil_append, List.drop_succ_cons, List.drop_nil, Nat.reduceLeDiff, okZero, List.all_cons, Value.oneCell', List.all_nil, Bool.and_true, known, chunk, List.take_succ_cons, List.take_nil, true_and]
      rw [elR_len] at hbo
      refine SWO.append (E := env.withD D) (.tmp 75) (.tmp 77) 56 56 rfl ty56 rfl ty21 (by decide) rfl ty56 rfl (xs := elR out) hbo (ys := elR [c]) rfl (by show (_ + _) * 4 ≤ _; simp only [elR_len, List.length_singleton]; omega) (by show _ + _ ≤ maxLen; rw [elR_len, elR_len, List.length_singleton]; simp only [maxLen]; omega) rfl rfl ?_
      intro v' h' hown' _ _
      rw [← elR_append] at hown'
      refine SWO.run [] 1000 ?_
      simp only [wpS, stops, Bool.false_eq_true, ↓reduceIte, wantedA, okDst, AS.put, dropKey, Nat.reduceEqDiff, reduceCtorEq, Nat.reduceLT, decide_true, step1, isOwnCall, hxOp, px, AS.eval, AS.get, Lift.look, Option.getD_some, inQ, thenQ, Nat.succ_ne_zero, true_and]
      refine ⟨m, by omega, n, out ++ [c], v', hu, by omega, hns, (by rw [List.length_append, List.length_singleton]; omega), (by rw [List.length_append, List.length_singleton]; omega), ?_, hown', rfl⟩
      intro x hx
      rcases List.mem_append.1 hx with hx | hx
      · exact hok x hx
      · rw [List.mem_singleton] at hx; rw [hx]; exact hcc
def sUnquote : List PV → Prop × PV
  | [.str s] => (s.length ≤ 1000000000, unqV (unquoteS s))
  | _ => PBad
noncomputable def eUnquote : SpecE env := ⟨6, sUnquote, fun args h hc => by
  unfold sUnquote at hc ⊢
  split at hc
  · rename_i s; exact .inl (Unquote_ok s h hc)
  · exact hc.elim⟩
end Go.Proofs.YthlibdhjcjangaaDoor
