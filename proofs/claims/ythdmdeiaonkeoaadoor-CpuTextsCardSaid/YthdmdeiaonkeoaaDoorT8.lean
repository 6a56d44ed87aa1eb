/- Contracts of functions that the law reaches. -/
import Derived.Test.YthdmdeiaonkeoaaDoorT7
import Derived.Test.YthdmdeiaonkeoaaDoorLiftW
set_option linter.unusedSimpArgs false
set_option linter.unusedVariables false
namespace Go.Proofs.YthdmdeiaonkeoaaDoor
open Go Go.RowKit Go.Proofs.YthdmdeiaonkeoaaDoor Go.Proofs.YthdmdeiaonkeoaaDoor.Lift

/-! cpu.Run at the example -/
def regsV (x : Int) : List PV := [.int .i64 0, .int .i64 x, .int .i64 0, .int .i64 0, .int .i64 0, .int .i64 0, .int .i64 0, .int .i64 0, .int .i64 0, .int .i64 0, .int .i64 0, .int .i64 0, .int .i64 0, .int .i64 0, .int .i64 0, .int .i64 0]
def stateL (pc x : Int) (fr da : PV) (st : Int) : List PV := [.int .i64 pc, .int .i64 0, .int .i64 x, .int .i64 0, .int .i64 0, .int .i64 0, .int .i64 0, .int .i64 0, .int .i64 0, .int .i64 0, .int .i64 0, .int .i64 0, .int .i64 0, .int .i64 0, .int .i64 0, .int .i64 0, .int .i64 0, fr, da, .int .i64 st]
def nilV : PV := .val (.slice none 0 0)
theorem own_keeps {h0 H : Heap} {r : Nat} {X : AObj} {e : TypeId} {sz : Nat} {xs : List (List PV)} {v : PV} (o : Own h0 e sz xs v H) (hr : h0 r = some X) : H r = some X := by
  rcases o with ⟨_, _, rfl⟩ | ⟨k, cap, _, _, _, h4, rfl, _⟩
  · exact hr
  · rw [Heap.put_ne _ _ (fun e => by subst e; rw [hr] at h4; cases h4)]
    exact hr
theorem own_drop {h0 H : Heap} {e : TypeId} {sz : Nat} {xs : List (List PV)} {v : PV} (o : Own h0 e sz xs v H) : HTo env H h0 := by
  rcases o with ⟨_, _, rfl⟩ | ⟨k, cap, _, _, _, h4, rfl, _⟩
  · exact .refl _ _
  · exact HTo.put (.refl _ _) h4 _
theorem own_some {h0 H : Heap} {e : TypeId} {xs : List Int} {v : PV} (o : Own h0 e 1 (el64 xs) v H) (hx : xs ≠ []) : ∃ k cap, v = .val (.slice (some ⟨k, 0, none⟩) xs.length cap) ∧ xs.length ≤ cap ∧ h0 k = none ∧ H = h0.put k (.cells e cap (xs.map (PV.int .i64))) ∧ cap ≤ maxLen := by
  rcases o with ⟨_, hn, _⟩ | ⟨k, cap, h1, h2, h3, h4, h5, _⟩
  · cases xs with
    | nil => exact absurd rfl hx
    | cons x xs => simp [el64] at hn
  · rw [el64_len] at h1 h2
    rw [el64_flat, Nat.mul_one] at h5
    exact ⟨k, cap, h1, h2, h4, h5, h3⟩
theorem own_sub {h0 H : Heap} {e : TypeId} {sz : Nat} {xs : List (List PV)} {v : PV} (o : Own h0 e sz xs v H) : HSub h0 H := fun j => by
  rcases o with ⟨_, _, rfl⟩ | ⟨k, cap, _, _, _, h4, rfl, _⟩
  · exact .inr rfl
  · by_cases e : j = k
    · subst e; exact .inl h4
    · exact .inr (by rw [Heap.put_ne _ _ e])
theorem HSub.putR {h' h : Heap} (s : HSub h' h) (r : Nat) (X : AObj) : HSub (h'.put r X) (h.put r X) := fun j => by
  by_cases e : j = r
  · subst e; exact .inr (by rw [Heap.put_same, Heap.put_same])
  · rw [Heap.put_ne _ _ e, Heap.put_ne _ _ e]; exact s j
theorem eq_three {h : Heap} {r s k : Nat} {X Y F Z : AObj} : (((h.put r X).put s Y).put k F).put r Z = ((h.put s Y).put k F).put r Z := by
  funext j
  by_cases e : j = r
  · subst e; rw [Heap.put_same, Heap.put_same]
  · rw [Heap.put_ne _ _ e, Heap.put_ne _ _ e]
    by_cases e2 : j = k
    · subst e2; rw [Heap.put_same, Heap.put_same]
    · rw [Heap.put_ne _ _ e2, Heap.put_ne _ _ e2]
      by_cases e3 : j = s
      · subst e3; rw [Heap.put_same, Heap.put_same]
      · rw [Heap.put_ne _ _ e3, Heap.put_ne _ _ e3, Heap.put_ne _ _ e]
theorem HTo_eq {E : Env} {h h' : Heap} (e : h = h') : HTo E h h' := by subst e; exact .refl _ _
def zeros (n : Nat) : List Int := List.replicate n 0
def RunPost (n : Nat) (h : Heap) : SEnd → Heap → Prop := fun e h' => ∃ k cap A2 cap2, e = .ret (.tuple [.agg (stateL (if n = 3 then 2 else 1) 5 (.val (.slice (some ⟨k, 0, none⟩) n cap)) (.val (.slice A2 0 cap2)) (if n = 3 then 6 else 8)), .int .i64 (if n = 3 then 0 else 1), .int .i64 (if n = 3 then 7 else 2)]) ∧ n ≤ cap ∧ h k = none ∧ h' = h.put k (.cells 2 cap (((if n = 3 then [0, 0, 5] else zeros n) : List Int).map (PV.int .i64))) ∧ cap ≤ maxLen
def codeA : List Int := [72339069014638597, 360569445166350338, 7]
theorem d0 : decS 72339069014638597 = .tuple [.agg [.int .i64 1, .int .i64 1, .int .i64 0, .int .i64 0, .int .i64 5], .int .i64 0] := by kernel_rfl
theorem d1 : decS 360569445166350338 = .tuple [.agg [.int .i64 5, .int .i64 1, .int .i64 0, .int .i64 0, .int .i64 2], .int .i64 0] := by kernel_rfl
theorem d2 : decS 7 = .tuple [.agg [.int .i64 0, .int .i64 0, .int .i64 0, .int .i64 0, .int .i64 7], .int .i64 0] := by kernel_rfl
set_option maxRecDepth 100000 in
set_option maxHeartbeats 4000000 in
theorem RunA_ok (n : Nat) (h : Heap) (hn : n ≤ 3) (hn0 : 2 ≤ n) : SCalls env 20 [.list 1 (el64 codeA), .agg (stateL 0 0 (.list 1 (el64 (zeros n))) nilV 9)] h (RunPost n h) := by
  refine SCalls.body Tryd.func20 rfl rfl (by simp [Tryd.ntmps20]) ?_
  have hzl : (zeros n).length = n := List.length_replicate ..
  have hzn : zeros n ≠ [] := fun e => by rw [e] at hzl; simp at hzl; omega
  have hzl0 := hzl
  unfold stateL nilV
  refine SW.seq (SW.run [] _ ?_)
  simp only [wpC, Bool.false_eq_true, ↓reduceIte, wpS, stops, wantedA, okDst, Tryd.ntmps20, Nat.reduceLT, decide_true, step1, known1, AS.eval, AS.get, enumA, Nat.zero_add, Lift.look, reduceCtorEq, Option.getD_some, AS.put, dropKey, Nat.reduceEqDiff, okAlloc, ty45, okZero, List.all_cons, Value.oneCell', List.all_nil, Bool.and_true, PV.cells, List.length_cons, List.length_nil, Nat.reduceAdd, Heap.get_put, some_none, isOwnCall, hxOp, px, ofConst, ofVal, zeroOf, List.map_cons, List.map_nil, thenQ, true_and]
  rintro r hr s ⟨hsr, hs⟩
  have hrs : ¬ r = s := fun e => hsr e.symm
  have hn2 : n ≤ 1000000000 := by omega
  refine SW.seq (SW.regionAny [oClone] [[0, 1, 3, 4, 2, 6, 5, 7, 8, 9]] rfl (by rfl) (by kernel_rfl) ?_)
  simp only [wpOL, wpO, LOp, List.getElem?_toArray, List.getElem?_cons_zero, okDst, Nat.reduceLT, decide_true, wantedA, ↓reduceIte, step1, isOwnCall, Bool.false_eq_true, hxOp, px, pfieldAddr, fieldOf, ty45, fieldIn, List.getElem?_cons_succ, ty43, Option.map_some, AS.eval, AS.get, Lift.look, Nat.reduceEqDiff, Option.getD_some, ne_eq, Nat.succ_ne_zero, not_false_eq_true, Nat.zero_add, AS.put, dropKey, reduceCtorEq, pload, Heap.get_put, hrs, okOne, TK.isAgg, beq_self_eq_true, Bool.or_true, Nat.reduceAdd, List.length_cons, List.length_nil, Nat.reduceLeDiff, and_self, Lift.valOf, List.drop_succ_cons, List.drop_zero, List.take_succ_cons, List.take_zero, List.getD_cons_zero, Specs.hasO, oClone, Nat.reduceSub, ownSpec, okArg, ofConst, ofVal, List.all_cons, List.all_nil, Bool.and_true, Specs.atO, List.map_cons, List.map_nil, sClone, un64_el64, hzl, hn2, OwnR, isApp, ownOf, Int.reduceToNat, hx, known1, PV.cells, splice, HBad, thenQ, true_and]
  intro u1 h1 own1 u2 h2 own2
  have own1 : Own ((h.put r (.cells 45 20 (stateL 0 0 (.list 1 (el64 (zeros n))) (.val (.slice none 0 0)) 9))).put s (.cells 45 20 (stateL 0 0 (.val (.slice none 0 0)) (.val (.slice none 0 0)) 0))) 2 1 (el64 (zeros n)) u1 h1 := own1
  have own2 : Own h1 2 1 [] u2 h2 := own2
  have hr1 : h1 r = some (.cells 45 20 (stateL 0 0 (.list 1 (el64 (zeros n))) (.val (.slice none 0 0)) 9)) := own_keeps own1 (by rw [Heap.put_ne _ _ hrs, Heap.put_same])
  have hr2 := own_keeps own2 hr1
  obtain ⟨k, cap, rfl, c1, c2, c3, c4⟩ := own_some own1 hzn
  obtain ⟨A2, cap2, rfl⟩ := own_slice own2
  rw [Heap.put_none, Heap.put_none] at c2
  obtain ⟨hks, hkr, hk⟩ := c2
  unfold stateL at hr2
  rw [hzl] at *
  simp only [hr2, List.length_cons, List.length_nil, Nat.zero_add, Nat.reduceAdd, Nat.reduceLeDiff, and_self, List.take_succ_cons, List.take_zero, List.cons_append, List.nil_append, List.drop_succ_cons, List.drop_zero, Heap.get_put, ↓reduceIte, true_and]
  have hrk : ¬ r = k := fun e => hkr e.symm
  refine SW.enter (n := 199) (l := [(0, .list 1 (el64 codeA)), (3, .val (.pointer (some ⟨r, 0, none⟩))), (4, .val (.pointer (some ⟨s, 0, none⟩)))]) (H := (((h.put s (.cells 45 20 (stateL 0 0 (.val (.slice none 0 0)) (.val (.slice none 0 0)) 0))).put k (.cells 2 cap ((zeros n).map (PV.int .i64)))).put r (.cells 45 20 (stateL 0 0 (.val (.slice (some ⟨k, 0, none⟩) n cap)) (.val (.slice A2 0 cap2)) 9)))) rfl ?_ ⟨rfl, rfl, rfl, trivial⟩ ?_
  · dsimp only
    rw [Heap.put_put]
    refine (HSub.to (HSub.putR (own_sub own2) r _)).trans ?_
    rw [c3]
    exact HTo_eq eq_three
  have hsk : ¬ s = k := fun e => hks e.symm
  clear own1 own2 hr1 hr2 c3
  refine SW.seq (SW.run [] _ ?_)
  simp only [wpC, Bool.false_eq_true, ↓reduceIte, wpS, stops, wantedA, okDst, Nat.reduceLT, decide_true, step1, isOwnCall, hxOp, px, pfieldAddr, fieldOf, ty45, fieldIn, List.getElem?_cons_succ, List.getElem?_cons_zero, ty43, Option.map_some, AS.eval, AS.get, Lift.look, reduceCtorEq, Option.getD_some, ne_eq, Nat.succ_ne_zero, not_false_eq_true, Nat.zero_add, AS.put, dropKey, Nat.reduceEqDiff, stateL, pload, Heap.get_put, okOne, TK.isAgg, beq_self_eq_true, Bool.or_true, Nat.reduceAdd, List.length_cons, List.length_nil, Nat.reduceLeDiff, and_self, Lift.valOf, List.drop_succ_cons, List.drop_zero, List.take_succ_cons, List.take_zero, List.getD_cons_zero, pbuild, ty76, List.map_cons, ofVal, List.map_nil, ofConst, pfill, PV.cells, Nat.reduceMul, splice, List.nil_append, List.cons_append, Nat.le_refl, List.drop_nil, List.append_nil, okZero, List.all_cons, Value.oneCell', List.all_nil, Bool.and_true, known, okAlloc, some_none, hx, zeroOf, known1, thenQ, true_and]
  rintro m hm
  obtain ⟨hmr, hmk, hms, hm⟩ := hm
  have hrm : ¬ r = m := fun e => hmr e.symm
  have hkm : ¬ k = m := fun e => hmk e.symm
  have hsm : ¬ s = m := fun e => hms e.symm
  refine SW.seq (SW.run [] _ ?_)
  simp only [wpC, Bool.false_eq_true, ↓reduceIte, wpS, stops, wantedA, okDst, Nat.reduceLT, decide_true, step1, isOwnCall, hxOp, px, pfieldAddr, fieldOf, ty45, fieldIn, List.getElem?_cons_succ, List.getElem?_cons_zero, ty3, Option.map_some, AS.eval, AS.get, Lift.look, Nat.reduceEqDiff, reduceCtorEq, Option.getD_some, ne_eq, Nat.succ_ne_zero, not_false_eq_true, Nat.zero_add, AS.put, dropKey, pload, Heap.get_put, hrm, okOne, TK.isAgg, beq_self_eq_true, Bool.or_true, Nat.reduceAdd, List.length_cons, List.length_nil, Nat.le_refl, and_self, Lift.valOf, List.drop_succ_cons, List.drop_zero, List.take_succ_cons, List.take_nil, List.getD_cons_zero, pcall, ofConst, ofVal, Int.reduceLT, hx, known1, PV.cells, splice, List.take_zero, List.cons_append, List.nil_append, List.drop_nil, List.append_nil, thenQ, true_and]
  refine SW.seq (SW.run [] _ ?_)
  simp only [wpC, Bool.false_eq_true, ↓reduceIte, wpS, stops, wantedA, okDst, Nat.reduceLT, decide_true, step1, isOwnCall, hxOp, px, pfieldAddr, fieldOf, ty45, fieldIn, List.getElem?_cons_succ, List.getElem?_cons_zero, ty42, Option.map_some, AS.eval, AS.get, Lift.look, Nat.reduceEqDiff, reduceCtorEq, Option.getD_some, ne_eq, Nat.succ_ne_zero, not_false_eq_true, Nat.zero_add, AS.put, dropKey, pindexAddr, ty2, ofConst, ofVal, Int.reduceLE, Int.cast_ofNat_Int, Int.reduceLT, and_self, Int.reduceToNat, Nat.reduceMul, Nat.add_zero, hx, Heap.get_put, known1, PV.cells, List.length_cons, List.length_nil, Nat.reduceAdd, Nat.reduceLeDiff, splice, List.take_succ_cons, List.take_zero, List.cons_append, List.nil_append, List.drop_succ_cons, List.drop_zero, thenQ, true_and]
  refine SW.seq (SW.block ?_)
  refine SW.loopH 199 (fun b : Nat => [(0, .list 1 (el64 codeA)), (3, .val (.pointer (some ⟨r, 0, none⟩))), (4, .val (.pointer (some ⟨s, 0, none⟩))), (7, .val (.pointer (some ⟨m, 0, none⟩)))]) (fun b => (((h.put s (.cells 45 20 (stateL 0 0 (.val (.slice none 0 0)) (.val (.slice none 0 0)) 0))).put k (.cells 2 cap (((if b = 2 then [0, 0, 5] else zeros n) : List Int).map (PV.int .i64)))).put r (.cells 45 20 (stateL b (if b = 0 then 0 else 5) (.val (.slice (some ⟨k, 0, none⟩) n cap)) (.val (.slice A2 0 cap2)) (9 - b)))).put m (.cells 76 2 [(.val (.slice (some ⟨k, 0, none⟩) n cap)), (.val (.slice A2 0 cap2))])) (fun b => b ≤ 2 ∧ (b = 2 → n = 3)) (fun b => 3 - b) 0 ⟨by omega, by omega⟩ ?_ ?_
  · simp only [reduceCtorEq, ↓reduceIte, Int.cast_ofNat_Int, Int.reduceSub, hasAll, AS.get, Lift.look, Nat.succ_ne_zero, Option.getD_some, Nat.reduceEqDiff, and_self, and_true, true_and]
    refine HTo_eq ?_
    funext j
    by_cases j1 : j = m
    · subst j1; simp only [Heap.put_same, Heap.put_ne _ _ hmr]
    · by_cases j2 : j = r
      · subst j2; simp only [Heap.put_same, Heap.put_ne _ _ hrm]; rfl
      · simp only [Heap.put_ne _ _ j1, Heap.put_ne _ _ j2]; rfl
  rintro b ⟨hb, hb3⟩
  have hbc : b = 0 ∨ b = 1 ∨ b = 2 := by omega
  rcases hbc with rfl | rfl | rfl
  · refine SW.run [eDecode] _ ?_
    simp only [wpC, mayStop, stops, isFlt, Specs.has, eDecode, Specs.hasO, Nat.reduceLeDiff, Nat.reduceSub, false_and, ↓reduceIte, Bool.or_false, List.any_cons, List.any_nil, Bool.false_eq_true, wpS, wantedA, okDst, Nat.reduceLT, decide_true, step1, isOwnCall, hxOp, px, pfieldAddr, fieldOf, ty45, fieldIn, List.getElem?_cons_succ, List.getElem?_cons_zero, ty3, Option.map_some, AS.eval, AS.get, Lift.look, reduceCtorEq, Option.getD_some, ne_eq, Nat.succ_ne_zero, not_false_eq_true, Nat.zero_add, AS.put, dropKey, el64, codeA, List.map_cons, List.map_nil, Nat.reduceEqDiff, stateL, Int.cast_ofNat_Int, Int.reduceSub, pload, Heap.get_put, hrm, okOne, TK.isAgg, beq_self_eq_true, Bool.or_true, Nat.reduceAdd, List.length_cons, List.length_nil, Nat.le_refl, and_self, Lift.valOf, List.drop_succ_cons, List.drop_zero, List.take_succ_cons, List.take_nil, List.getD_cons_zero, pbinP, ofConst, ofVal, pbinI, Int.reduceLT, thenQ, isB, tmpOf, asB, Nat.add_zero, List.take_zero, decide_false, List.getElem?_toArray, Option.bind_some, pcall, ty41, plen, okLen, Int.reduceLE, ppick_bool, hasAll, and_true, true_and]
    refine SW.run [eDecode] _ ?_
    simp only [wpC, mayStop, stops, isFlt, Specs.has, eDecode, Specs.hasO, Nat.reduceLeDiff, Nat.reduceSub, false_and, ↓reduceIte, Bool.or_false, List.any_cons, Bool.not_true, List.any_nil, Bool.false_eq_true, wpS, wantedA, okDst, Nat.reduceLT, decide_true, step1, isOwnCall, hxOp, px, AS.eval, AS.get, Lift.look, Nat.succ_ne_zero, Option.getD_some, AS.put, dropKey, Nat.reduceEqDiff, reduceCtorEq, pfieldAddr, fieldOf, ty45, fieldIn, List.getElem?_cons_zero, ty3, Option.map_some, ne_eq, not_false_eq_true, Nat.add_zero, pload, Heap.get_put, hrm, okOne, TK.isAgg, beq_self_eq_true, Bool.or_true, Nat.zero_add, List.length_cons, List.length_nil, Nat.reduceAdd, and_self, Lift.valOf, List.drop_zero, List.take_succ_cons, List.take_zero, List.getD_cons_zero, pindexAddr, ty41, Int.reduceLE, Int.reduceToNat, Nat.le_refl, List.take_nil, pcall, okArg, ofConst, ofVal, List.all_cons, List.all_nil, Bool.and_true, Specs.at, List.map_cons, List.map_nil, sDecode, d0, List.getElem?_cons_succ, okAlloc, ty23, okZero, Value.oneCell', some_none, hx, zeroOf, known1, PV.cells, splice, List.nil_append, List.drop_succ_cons, List.drop_nil, List.append_nil, thenQ, pbinP, pbinI, Int.reduceBNe, isB, tmpOf, asB, true_and]
    rintro q ⟨hqm, hqr, hqk, hqs, hq⟩
    have hrq : ¬ r = q := fun e => hqr e.symm
    have hmq : ¬ m = q := fun e => hqm e.symm
    have hkq : ¬ k = q := fun e => hqk e.symm
    refine SW.seq (SW.run [] _ ?_)
    simp only [wpC, Bool.false_eq_true, ↓reduceIte, wpS, stops, wantedA, okDst, Nat.reduceLT, decide_true, step1, isOwnCall, hxOp, px, pfieldAddr, fieldOf, ty45, fieldIn, List.getElem?_cons_zero, ty3, Option.map_some, AS.eval, AS.get, Lift.look, Nat.reduceEqDiff, reduceCtorEq, Option.getD_some, ne_eq, Nat.succ_ne_zero, not_false_eq_true, Nat.add_zero, AS.put, dropKey, pload, Heap.get_put, hrq, hrm, okOne, TK.isAgg, beq_self_eq_true, Bool.or_true, Nat.zero_add, List.length_cons, List.length_nil, Nat.reduceAdd, Nat.reduceLeDiff, and_self, Lift.valOf, List.drop_zero, List.take_succ_cons, List.take_zero, List.getD_cons_zero, isFlt, pbinP, ofConst, ofVal, pbinI, Int.reduceAdd, thenQ, true_and]
    refine SW.seq (SW.run [] _ ?_)
    simp only [wpC, mayStop, stops, isFlt, Specs.has, Specs.hasO, Bool.or_false, Bool.not_false, List.any_cons, List.any_nil, Bool.false_eq_true, ↓reduceIte, wpS, wantedA, okDst, Nat.reduceLT, decide_true, step1, isOwnCall, hxOp, px, pfieldAddr, fieldOf, ty23, fieldIn, List.getElem?_cons_zero, ty3, Option.map_some, AS.eval, AS.get, Lift.look, Nat.reduceEqDiff, Option.getD_some, ne_eq, Nat.succ_ne_zero, not_false_eq_true, Nat.add_zero, AS.put, dropKey, reduceCtorEq, pload, Heap.get_put, okOne, TK.isAgg, beq_self_eq_true, Bool.or_true, Nat.zero_add, List.length_cons, List.length_nil, Nat.reduceAdd, Nat.reduceLeDiff, and_self, Lift.valOf, List.drop_zero, List.take_succ_cons, List.take_zero, List.getD_cons_zero, thenQ, pbinP, ofConst, ofVal, pbinI, Int.reduceBEq, isB, tmpOf, asB, List.getElem?_cons_succ, List.drop_succ_cons, Nat.le_refl, List.take_nil, ty45, ty42, pindexAddr, ty2, Int.reduceLE, Int.cast_ofNat_Int, Int.reduceLT, Int.reduceToNat, Nat.reduceMul, hx, hrq, hrm, known1, PV.cells, splice, List.cons_append, List.nil_append, inQ, true_and]
    refine SW.run [] _ ?_
    simp only [wpC, mayStop, stops, isFlt, Specs.has, Specs.hasO, Bool.or_false, Bool.not_false, List.any_cons, List.any_nil, Bool.false_eq_true, ↓reduceIte, wpS, wantedA, okDst, Nat.reduceLT, decide_true, step1, isOwnCall, hxOp, px, pfieldAddr, fieldOf, ty45, fieldIn, List.getElem?_cons_succ, List.getElem?_cons_zero, ty42, Option.map_some, AS.eval, AS.get, Lift.look, Nat.reduceEqDiff, reduceCtorEq, Option.getD_some, ne_eq, Nat.succ_ne_zero, not_false_eq_true, Nat.zero_add, AS.put, dropKey, pindexAddr, ty2, ofConst, ofVal, Int.reduceLE, Int.cast_ofNat_Int, Int.reduceLT, and_self, Int.reduceToNat, Nat.reduceMul, Nat.add_zero, hx, Heap.get_put, known1, PV.cells, List.length_cons, List.length_nil, Nat.reduceAdd, Nat.reduceLeDiff, splice, List.take_succ_cons, List.take_zero, List.cons_append, List.nil_append, List.drop_succ_cons, List.drop_zero, thenQ, ty3, pload, okOne, TK.isAgg, beq_self_eq_true, Bool.or_true, Nat.le_refl, Lift.valOf, List.take_nil, List.getD_cons_zero, pbinP, pbinI, Int.reduceSub, List.drop_nil, List.append_nil, inQ, and_true, true_and]
    refine ⟨1, ⟨by omega, by omega⟩, by omega, HSub.to fun j => ?_⟩
    by_cases e0 : j = q
    · subst e0
      left
      simp only [Heap.put_ne _ _ hqm, Heap.put_ne _ _ hqr, Heap.put_ne _ _ hqk, Heap.put_ne _ _ hqs]
      exact hq
    · right
      by_cases e1 : j = r
      · subst e1
        simp only [Heap.put_same, Heap.put_ne _ _ hrm]
        rfl
      · by_cases e2 : j = m
        · subst e2
          simp only [Heap.put_same, Heap.put_ne _ _ e0, Heap.put_ne _ _ e1]
        · simp only [Heap.put_ne _ _ e0, Heap.put_ne _ _ e1, Heap.put_ne _ _ e2]
          rfl
  · have hn23 : n = 2 ∨ n = 3 := by omega
    rcases hn23 with rfl | rfl
    · refine SW.run [eDecode] _ ?_
      simp only [wpC, mayStop, stops, isFlt, Specs.has, eDecode, Specs.hasO, Nat.reduceLeDiff, Nat.reduceSub, false_and, ↓reduceIte, Bool.or_false, List.any_cons, List.any_nil, Bool.false_eq_true, wpS, wantedA, okDst, Nat.reduceLT, decide_true, step1, isOwnCall, hxOp, px, pfieldAddr, fieldOf, ty45, fieldIn, List.getElem?_cons_succ, List.getElem?_cons_zero, ty3, Option.map_some, AS.eval, AS.get, Lift.look, reduceCtorEq, Option.getD_some, ne_eq, Nat.succ_ne_zero, not_false_eq_true, Nat.zero_add, AS.put, dropKey, el64, codeA, List.map_cons, List.map_nil, Nat.reduceEqDiff, stateL, Int.cast_ofNat_Int, Int.reduceSub, pload, Heap.get_put, hrm, okOne, TK.isAgg, beq_self_eq_true, Bool.or_true, Nat.reduceAdd, List.length_cons, List.length_nil, Nat.le_refl, and_self, Lift.valOf, List.drop_succ_cons, List.drop_zero, List.take_succ_cons, List.take_nil, List.getD_cons_zero, pbinP, ofConst, ofVal, pbinI, Int.reduceLT, thenQ, isB, tmpOf, asB, Nat.add_zero, List.take_zero, decide_false, List.getElem?_toArray, Option.bind_some, pcall, ty41, plen, okLen, Int.reduceLE, ppick_bool, hasAll, and_true, true_and]
      refine SW.run [eDecode] _ ?_
      simp only [wpC, mayStop, stops, isFlt, Specs.has, eDecode, Specs.hasO, Nat.reduceLeDiff, Nat.reduceSub, false_and, ↓reduceIte, Bool.or_false, List.any_cons, Bool.not_true, List.any_nil, Bool.false_eq_true, wpS, wantedA, okDst, Nat.reduceLT, decide_true, step1, isOwnCall, hxOp, px, AS.eval, AS.get, Lift.look, Nat.succ_ne_zero, Option.getD_some, AS.put, dropKey, Nat.reduceEqDiff, reduceCtorEq, pfieldAddr, fieldOf, ty45, fieldIn, List.getElem?_cons_zero, ty3, Option.map_some, ne_eq, not_false_eq_true, Nat.add_zero, pload, Heap.get_put, hrm, okOne, TK.isAgg, beq_self_eq_true, Bool.or_true, Nat.zero_add, List.length_cons, List.length_nil, Nat.reduceAdd, and_self, Lift.valOf, List.drop_zero, List.take_succ_cons, List.take_zero, List.getD_cons_zero, pindexAddr, ty41, Int.reduceLE, Int.reduceToNat, List.getD_cons_succ, Nat.le_refl, List.take_nil, pcall, okArg, ofConst, ofVal, List.all_cons, List.all_nil, Bool.and_true, Specs.at, List.map_cons, List.map_nil, sDecode, d1, List.getElem?_cons_succ, okAlloc, ty23, okZero, Value.oneCell', some_none, hx, zeroOf, known1, PV.cells, splice, List.nil_append, List.drop_succ_cons, List.drop_nil, List.append_nil, thenQ, pbinP, pbinI, Int.reduceBNe, isB, tmpOf, asB, true_and]
      rintro q ⟨hqm, hqr, hqk, hqs, hq⟩
      have hrq : ¬ r = q := fun e => hqr e.symm
      have hmq : ¬ m = q := fun e => hqm e.symm
      have hkq : ¬ k = q := fun e => hqk e.symm
      refine SW.seq (SW.run [eMem] _ ?_)
      simp only [wpC, Bool.false_eq_true, ↓reduceIte, wpS, stops, wantedA, okDst, Nat.reduceLT, decide_true, step1, isOwnCall, hxOp, px, pfieldAddr, fieldOf, ty45, fieldIn, List.getElem?_cons_zero, ty3, Option.map_some, AS.eval, AS.get, Lift.look, Nat.reduceEqDiff, reduceCtorEq, Option.getD_some, ne_eq, Nat.succ_ne_zero, not_false_eq_true, Nat.add_zero, AS.put, dropKey, pload, Heap.get_put, hrq, hrm, okOne, TK.isAgg, beq_self_eq_true, Bool.or_true, Nat.zero_add, List.length_cons, List.length_nil, Nat.reduceAdd, Nat.reduceLeDiff, and_self, Lift.valOf, List.drop_zero, List.take_succ_cons, List.take_zero, List.getD_cons_zero, isFlt, pbinP, ofConst, ofVal, pbinI, Int.reduceAdd, thenQ, true_and]
      refine SW.run [eMem] _ ?_
      simp only [wpC, mayStop, stops, isFlt, Specs.has, eMem, Specs.hasO, Nat.reduceLeDiff, Nat.reduceSub, false_and, ↓reduceIte, Bool.or_false, List.any_cons, List.any_nil, ty3, Bool.or_true, Bool.not_true, Nat.reduceEqDiff, Bool.not_false, Bool.false_eq_true, wpS, wantedA, okDst, Nat.reduceLT, decide_true, step1, isOwnCall, hxOp, px, pfieldAddr, fieldOf, ty23, fieldIn, List.getElem?_cons_zero, Option.map_some, AS.eval, AS.get, Lift.look, Option.getD_some, ne_eq, Nat.succ_ne_zero, not_false_eq_true, Nat.add_zero, AS.put, dropKey, reduceCtorEq, pload, Heap.get_put, okOne, TK.isAgg, beq_self_eq_true, Nat.zero_add, List.length_cons, List.length_nil, Nat.reduceAdd, and_self, Lift.valOf, List.drop_zero, List.take_succ_cons, List.take_zero, List.getD_cons_zero, thenQ, pbinP, ofConst, ofVal, pbinI, Int.reduceBEq, isB, tmpOf, asB, pcall, okArg, List.all_cons, List.all_nil, Bool.and_true, Specs.at, List.map_cons, List.map_nil, sMem, memS, Int.reduceLE, List.getElem?_cons_succ, List.drop_succ_cons, pindexAddr, ty76, ty43, Int.cast_ofNat_Int, Int.reduceLT, Int.reduceToNat, Nat.reduceMul, hmq, Nat.le_refl, List.take_nil, decide_false, List.getElem?_toArray, Option.bind_some, plen, okLen, ppick_bool, true_and]
      have hsq : ¬ s = q := fun e => hqs e.symm
      refine SW.regionAny2 [] [(0, []), (1, []), (2, [3]), (3, []), (4, []), (5, [])] rfl (by rfl) (by kernel_rfl) ?_
      simp only [wpO2, dynOK, LOp, List.getElem?_toArray, List.getElem?_cons_zero, okDst, Nat.reduceLT, decide_true, wantedA, ↓reduceIte, step1, isOwnCall, Bool.false_eq_true, hxOp, px, pload, ty45, AS.eval, AS.get, Lift.look, Nat.reduceEqDiff, reduceCtorEq, Option.getD_some, Heap.get_put, hrq, hrm, okOne, TK.isAgg, Nat.reduceBEq, Bool.or_false, Nat.zero_add, List.length_cons, List.length_nil, Nat.reduceAdd, Nat.le_refl, and_self, Lift.valOf, List.drop_zero, List.take_succ_cons, List.take_nil, List.getElem?_cons_succ, AS.put, dropKey, pfieldAddr, fieldOf, ty23, fieldIn, ty3, Option.map_some, ne_eq, Nat.succ_ne_zero, not_false_eq_true, disj, ptrAt, ptrT, hqs, beq_self_eq_true, Bool.or_true, List.drop_succ_cons, List.getD_cons_zero, hx, hsq, hsm, hsr, hsk, known1, PV.cells, splice, List.take_zero, List.nil_append, List.drop_nil, List.append_nil, ofConst, ofVal, thenQ, true_and]
      refine SW.run [] _ ?_
      simp only [wpC, thenQ, inQ, RPost, sres, Tryd.results20, sresL, sres1, AS.get, Lift.look, Nat.reduceEqDiff, ↓reduceIte, reduceCtorEq, Option.getD_some, ty45, Heap.get_put, Nat.zero_add, List.length_cons, List.length_nil, Nat.reduceAdd, Nat.le_refl, okOne, TK.isAgg, Nat.reduceBEq, Bool.or_false, and_self, Lift.valOf, List.drop_zero, List.take_succ_cons, List.take_nil, Option.some.injEq, exists_eq_left']
      refine ⟨h.put k (.cells 2 cap (((zeros 2) : List Int).map (PV.int .i64))), HSub.to fun j => ?_, k, cap, A2, cap2, rfl, by omega, hk, rfl, c4⟩
      by_cases e0 : j = k
      · subst e0
        right
        simp only [Heap.put_same, Heap.put_ne _ _ hkm, Heap.put_ne _ _ hkr, Heap.put_ne _ _ hks, Heap.put_ne _ _ hkq]
      · rw [Heap.put_ne _ _ e0]
        by_cases e1 : j = s
        · subst e1; exact .inl hs
        · by_cases e2 : j = r
          · subst e2; exact .inl hr
          · by_cases e3 : j = m
            · subst e3; exact .inl hm
            · by_cases e4 : j = q
              · subst e4; exact .inl hq
              · right
                simp only [Heap.put_ne _ _ e0, Heap.put_ne _ _ e1, Heap.put_ne _ _ e2, Heap.put_ne _ _ e3, Heap.put_ne _ _ e4]
    · refine SW.run [eDecode] _ ?_
      simp only [wpC, mayStop, stops, isFlt, Specs.has, eDecode, Specs.hasO, Nat.reduceLeDiff, Nat.reduceSub, false_and, ↓reduceIte, Bool.or_false, List.any_cons, List.any_nil, Bool.false_eq_true, wpS, wantedA, okDst, Nat.reduceLT, decide_true, step1, isOwnCall, hxOp, px, pfieldAddr, fieldOf, ty45, fieldIn, List.getElem?_cons_succ, List.getElem?_cons_zero, ty3, Option.map_some, AS.eval, AS.get, Lift.look, reduceCtorEq, Option.getD_some, ne_eq, Nat.succ_ne_zero, not_false_eq_true, Nat.zero_add, AS.put, dropKey, el64, codeA, List.map_cons, List.map_nil, Nat.reduceEqDiff, stateL, Int.cast_ofNat_Int, Int.reduceSub, pload, Heap.get_put, hrm, okOne, TK.isAgg, beq_self_eq_true, Bool.or_true, Nat.reduceAdd, List.length_cons, List.length_nil, Nat.le_refl, and_self, Lift.valOf, List.drop_succ_cons, List.drop_zero, List.take_succ_cons, List.take_nil, List.getD_cons_zero, pbinP, ofConst, ofVal, pbinI, Int.reduceLT, thenQ, isB, tmpOf, asB, Nat.add_zero, List.take_zero, decide_false, List.getElem?_toArray, Option.bind_some, pcall, ty41, plen, okLen, Int.reduceLE, ppick_bool, implies_true, and_true, hasAll, true_and]
      refine SW.run [eDecode] _ ?_
      simp only [wpC, mayStop, stops, isFlt, Specs.has, eDecode, Specs.hasO, Nat.reduceLeDiff, Nat.reduceSub, false_and, ↓reduceIte, Bool.or_false, List.any_cons, Bool.not_true, List.any_nil, Bool.false_eq_true, wpS, wantedA, okDst, Nat.reduceLT, decide_true, step1, isOwnCall, hxOp, px, AS.eval, AS.get, Lift.look, Nat.succ_ne_zero, Option.getD_some, AS.put, dropKey, Nat.reduceEqDiff, reduceCtorEq, pfieldAddr, fieldOf, ty45, fieldIn, List.getElem?_cons_zero, ty3, Option.map_some, ne_eq, not_false_eq_true, Nat.add_zero, pload, Heap.get_put, hrm, okOne, TK.isAgg, beq_self_eq_true, Bool.or_true, Nat.zero_add, List.length_cons, List.length_nil, Nat.reduceAdd, and_self, Lift.valOf, List.drop_zero, List.take_succ_cons, List.take_zero, List.getD_cons_zero, pindexAddr, ty41, Int.reduceLE, Int.reduceToNat, List.getD_cons_succ, Nat.le_refl, List.take_nil, pcall, okArg, ofConst, ofVal, List.all_cons, List.all_nil, Bool.and_true, Specs.at, List.map_cons, List.map_nil, sDecode, d1, List.getElem?_cons_succ, okAlloc, ty23, okZero, Value.oneCell', some_none, hx, zeroOf, known1, PV.cells, splice, List.nil_append, List.drop_succ_cons, List.drop_nil, List.append_nil, thenQ, pbinP, pbinI, Int.reduceBNe, isB, tmpOf, asB, true_and]
      rintro q ⟨hqm, hqr, hqk, hqs, hq⟩
      have hrq : ¬ r = q := fun e => hqr e.symm
      have hmq : ¬ m = q := fun e => hqm e.symm
      have hkq : ¬ k = q := fun e => hqk e.symm
      have hsq : ¬ s = q := fun e => hqs e.symm
      refine SW.seq (SW.run [eMem] _ ?_)
      simp only [wpC, Bool.false_eq_true, ↓reduceIte, wpS, stops, wantedA, okDst, Nat.reduceLT, decide_true, step1, isOwnCall, hxOp, px, pfieldAddr, fieldOf, ty45, fieldIn, List.getElem?_cons_zero, ty3, Option.map_some, AS.eval, AS.get, Lift.look, Nat.reduceEqDiff, reduceCtorEq, Option.getD_some, ne_eq, Nat.succ_ne_zero, not_false_eq_true, Nat.add_zero, AS.put, dropKey, pload, Heap.get_put, hrq, hrm, okOne, TK.isAgg, beq_self_eq_true, Bool.or_true, Nat.zero_add, List.length_cons, List.length_nil, Nat.reduceAdd, Nat.reduceLeDiff, and_self, Lift.valOf, List.drop_zero, List.take_succ_cons, List.take_zero, List.getD_cons_zero, isFlt, pbinP, ofConst, ofVal, pbinI, Int.reduceAdd, thenQ, true_and]
      refine SW.run [eMem] _ ?_
      simp only [wpC, mayStop, stops, isFlt, Specs.has, eMem, Specs.hasO, Nat.reduceLeDiff, Nat.reduceSub, false_and, ↓reduceIte, Bool.or_false, List.any_cons, List.any_nil, ty3, Bool.or_true, Bool.not_true, Nat.reduceEqDiff, Bool.not_false, Bool.false_eq_true, wpS, wantedA, okDst, Nat.reduceLT, decide_true, step1, isOwnCall, hxOp, px, pfieldAddr, fieldOf, ty23, fieldIn, List.getElem?_cons_zero, Option.map_some, AS.eval, AS.get, Lift.look, Option.getD_some, ne_eq, Nat.succ_ne_zero, not_false_eq_true, Nat.add_zero, AS.put, dropKey, reduceCtorEq, pload, Heap.get_put, okOne, TK.isAgg, beq_self_eq_true, Nat.zero_add, List.length_cons, List.length_nil, Nat.reduceAdd, and_self, Lift.valOf, List.drop_zero, List.take_succ_cons, List.take_zero, List.getD_cons_zero, thenQ, pbinP, ofConst, ofVal, pbinI, Int.reduceBEq, isB, tmpOf, asB, pcall, okArg, List.all_cons, List.all_nil, Bool.and_true, Specs.at, List.map_cons, List.map_nil, sMem, memS, Int.reduceLE, List.getElem?_cons_succ, List.drop_succ_cons, pindexAddr, ty76, ty43, Int.cast_ofNat_Int, Int.reduceLT, Int.reduceToNat, Nat.reduceMul, hmq, Nat.le_refl, List.take_nil, decide_false, List.getElem?_toArray, Option.bind_some, plen, okLen, ppick_bool, true_and]
      refine SW.seq (SW.run [] _ ?_)
      simp only [wpC, Bool.false_eq_true, ↓reduceIte, wpS, stops, wantedA, okDst, Nat.reduceLT, decide_true, step1, isOwnCall, hxOp, px, AS.eval, AS.get, Lift.look, Nat.reduceEqDiff, Option.getD_some, AS.put, dropKey, reduceCtorEq, pbinP, ofConst, ofVal, pbinI, Int.reduceBEq, List.getElem?_toArray, List.getElem?_cons_succ, List.getElem?_cons_zero, Option.bind_some, beq_self_eq_true, ppick_bool, thenQ, true_and]
      refine SW.run [] _ ?_
      simp only [wpC, isB, AS.get, Lift.look, tmpOf, ↓reduceIte, Option.getD_some, asB, Bool.false_eq_true, true_and]
      have z3 : zeros 3 = [0, 0, 0] := rfl
      rw [z3]
      refine SW.regionAny [] [[0, 1, 2, 3, 4, 5, 6, 7, 8, 9]] rfl (by rfl) (by kernel_rfl) ?_
      simp only [wpOL, wpO, LOp, List.getElem?_toArray, List.getElem?_cons_zero, okDst, Nat.reduceLT, decide_true, wantedA, ↓reduceIte, step1, isOwnCall, Bool.false_eq_true, hxOp, px, AS.eval, AS.get, Lift.look, Nat.reduceEqDiff, Option.getD_some, List.getElem?_cons_succ, AS.put, dropKey, reduceCtorEq, List.map_cons, List.map_nil, pfieldAddr, fieldOf, ty23, fieldIn, ty3, Option.map_some, ne_eq, Nat.succ_ne_zero, not_false_eq_true, Nat.zero_add, pload, Heap.get_put, okOne, TK.isAgg, beq_self_eq_true, Bool.or_true, Nat.reduceAdd, List.length_cons, List.length_nil, Nat.le_refl, and_self, Lift.valOf, List.drop_succ_cons, List.drop_zero, List.take_succ_cons, List.take_nil, List.getD_cons_zero, Nat.reduceLeDiff, List.take_zero, ty45, ty42, pindexAddr, ty2, Int.reduceLE, Int.cast_ofNat_Int, Int.reduceLT, Int.reduceToNat, Nat.reduceMul, hrq, hrm, ty43, hx, hkq, hkm, hkr, known1, PV.cells, splice, List.cons_append, List.nil_append, List.drop_nil, List.append_nil, inQ, thenQ, true_and]
      refine SW.run [] _ ?_
      simp only [wpC, mayStop, stops, isFlt, Specs.has, Specs.hasO, Bool.or_false, Bool.not_false, List.any_cons, List.any_nil, Bool.false_eq_true, ↓reduceIte, wpS, wantedA, okDst, Nat.reduceLT, decide_true, step1, isOwnCall, hxOp, px, pfieldAddr, fieldOf, ty45, fieldIn, List.getElem?_cons_succ, List.getElem?_cons_zero, ty42, Option.map_some, AS.eval, AS.get, Lift.look, Nat.reduceEqDiff, reduceCtorEq, Option.getD_some, ne_eq, Nat.succ_ne_zero, not_false_eq_true, Nat.zero_add, AS.put, dropKey, pindexAddr, ty2, ofConst, ofVal, Int.reduceLE, Int.cast_ofNat_Int, Int.reduceLT, and_self, Int.reduceToNat, Nat.reduceMul, Nat.add_zero, hx, Heap.get_put, hrk, hrq, hrm, known1, PV.cells, List.length_cons, List.length_nil, Nat.reduceAdd, Nat.reduceLeDiff, splice, List.take_succ_cons, List.take_zero, List.cons_append, List.nil_append, List.drop_succ_cons, List.drop_zero, thenQ, ty3, pload, okOne, TK.isAgg, beq_self_eq_true, Bool.or_true, Nat.le_refl, Lift.valOf, List.take_nil, List.getD_cons_zero, pbinP, pbinI, Int.reduceSub, List.drop_nil, List.append_nil, inQ, and_true, true_and]
      refine ⟨2, by omega, by omega, HSub.to fun j => ?_⟩
      by_cases e0 : j = q
      · subst e0
        left
        simp only [Heap.put_ne _ _ hqm, Heap.put_ne _ _ hqr, Heap.put_ne _ _ hqk, Heap.put_ne _ _ hqs]
        exact hq
      · right
        by_cases e1 : j = r
        · subst e1
          simp only [Heap.put_same, Heap.put_ne _ _ hrm, Heap.put_ne _ _ hrk]
          rfl
        · by_cases e2 : j = m
          · subst e2
            simp only [Heap.put_same, Heap.put_ne _ _ e0, Heap.put_ne _ _ e1, Heap.put_ne _ _ hmk]
          · by_cases e3 : j = k
            · subst e3
              simp only [Heap.put_same, Heap.put_ne _ _ e0, Heap.put_ne _ _ e1, Heap.put_ne _ _ e2]
              rfl
            · simp only [Heap.put_ne _ _ e0, Heap.put_ne _ _ e1, Heap.put_ne _ _ e2, Heap.put_ne _ _ e3]
  · have hn3 : n = 3 := hb3 rfl
    subst hn3
    refine SW.run [eDecode] _ ?_
    simp only [wpC, mayStop, stops, isFlt, Specs.has, eDecode, Specs.hasO, Nat.reduceLeDiff, Nat.reduceSub, false_and, ↓reduceIte, Bool.or_false, List.any_cons, List.any_nil, Bool.false_eq_true, wpS, wantedA, okDst, Nat.reduceLT, decide_true, step1, isOwnCall, hxOp, px, pfieldAddr, fieldOf, ty45, fieldIn, List.getElem?_cons_succ, List.getElem?_cons_zero, ty3, Option.map_some, AS.eval, AS.get, Lift.look, reduceCtorEq, Option.getD_some, ne_eq, Nat.succ_ne_zero, not_false_eq_true, Nat.zero_add, AS.put, dropKey, el64, codeA, List.map_cons, List.map_nil, Nat.reduceEqDiff, stateL, Int.cast_ofNat_Int, Int.reduceSub, pload, Heap.get_put, hrm, okOne, TK.isAgg, beq_self_eq_true, Bool.or_true, Nat.reduceAdd, List.length_cons, List.length_nil, Nat.le_refl, and_self, Lift.valOf, List.drop_succ_cons, List.drop_zero, List.take_succ_cons, List.take_nil, List.getD_cons_zero, pbinP, ofConst, ofVal, pbinI, Int.reduceLT, thenQ, isB, tmpOf, asB, Nat.add_zero, List.take_zero, decide_false, List.getElem?_toArray, Option.bind_some, pcall, ty41, plen, okLen, Int.reduceLE, ppick_bool, implies_true, and_true, hasAll, true_and]
    refine SW.run [eDecode] _ ?_
    simp only [wpC, mayStop, stops, isFlt, Specs.has, eDecode, Specs.hasO, Nat.reduceLeDiff, Nat.reduceSub, false_and, ↓reduceIte, Bool.or_false, List.any_cons, Bool.not_true, List.any_nil, Bool.false_eq_true, wpS, wantedA, okDst, Nat.reduceLT, decide_true, step1, isOwnCall, hxOp, px, AS.eval, AS.get, Lift.look, Nat.succ_ne_zero, Option.getD_some, AS.put, dropKey, Nat.reduceEqDiff, reduceCtorEq, pfieldAddr, fieldOf, ty45, fieldIn, List.getElem?_cons_zero, ty3, Option.map_some, ne_eq, not_false_eq_true, Nat.add_zero, pload, Heap.get_put, hrm, okOne, TK.isAgg, beq_self_eq_true, Bool.or_true, Nat.zero_add, List.length_cons, List.length_nil, Nat.reduceAdd, and_self, Lift.valOf, List.drop_zero, List.take_succ_cons, List.take_zero, List.getD_cons_zero, pindexAddr, ty41, Int.reduceLE, Int.reduceToNat, List.getD_cons_succ, Nat.le_refl, List.take_nil, pcall, okArg, ofConst, ofVal, List.all_cons, List.all_nil, Bool.and_true, Specs.at, List.map_cons, List.map_nil, sDecode, d2, List.getElem?_cons_succ, okAlloc, ty23, okZero, Value.oneCell', some_none, hx, zeroOf, known1, PV.cells, splice, List.nil_append, List.drop_succ_cons, List.drop_nil, List.append_nil, thenQ, pbinP, pbinI, Int.reduceBNe, isB, tmpOf, asB, true_and]
    rintro q ⟨hqm, hqr, hqk, hqs, hq⟩
    have hrq : ¬ r = q := fun e => hqr e.symm
    have hmq : ¬ m = q := fun e => hqm e.symm
    have hkq : ¬ k = q := fun e => hqk e.symm
    have hsq : ¬ s = q := fun e => hqs e.symm
    refine SW.seq (SW.run [] _ ?_)
    simp only [wpC, Bool.false_eq_true, ↓reduceIte, wpS, stops, wantedA, okDst, Nat.reduceLT, decide_true, step1, isOwnCall, hxOp, px, pfieldAddr, fieldOf, ty45, fieldIn, List.getElem?_cons_zero, ty3, Option.map_some, AS.eval, AS.get, Lift.look, Nat.reduceEqDiff, reduceCtorEq, Option.getD_some, ne_eq, Nat.succ_ne_zero, not_false_eq_true, Nat.add_zero, AS.put, dropKey, pload, Heap.get_put, hrq, hrm, okOne, TK.isAgg, beq_self_eq_true, Bool.or_true, Nat.zero_add, List.length_cons, List.length_nil, Nat.reduceAdd, Nat.reduceLeDiff, and_self, Lift.valOf, List.drop_zero, List.take_succ_cons, List.take_zero, List.getD_cons_zero, isFlt, pbinP, ofConst, ofVal, pbinI, Int.reduceAdd, thenQ, true_and]
    refine SW.run [] _ ?_
    simp only [wpC, mayStop, stops, isFlt, Specs.has, Specs.hasO, Bool.or_false, Bool.not_false, List.any_cons, List.any_nil, ty3, Bool.or_true, ↓reduceIte, Bool.false_eq_true, wpS, wantedA, okDst, Nat.reduceLT, decide_true, step1, isOwnCall, hxOp, px, pfieldAddr, fieldOf, ty23, fieldIn, List.getElem?_cons_zero, Option.map_some, AS.eval, AS.get, Lift.look, Nat.reduceEqDiff, Option.getD_some, ne_eq, Nat.succ_ne_zero, not_false_eq_true, Nat.add_zero, AS.put, dropKey, reduceCtorEq, pload, Heap.get_put, okOne, TK.isAgg, beq_self_eq_true, Nat.zero_add, List.length_cons, List.length_nil, Nat.reduceAdd, Nat.reduceLeDiff, and_self, Lift.valOf, List.drop_zero, List.take_succ_cons, List.take_zero, List.getD_cons_zero, thenQ, pbinP, ofConst, ofVal, pbinI, isB, tmpOf, asB, ty45, List.getElem?_cons_succ, hrq, hrm, Nat.le_refl, List.drop_succ_cons, List.take_nil, Int.reduceSub, hx, known1, PV.cells, splice, List.cons_append, List.nil_append, List.drop_nil, List.append_nil, true_and]
    refine SW.regionAny2 [] [(0, []), (1, []), (2, [3]), (3, []), (4, []), (5, [])] rfl (by rfl) (by kernel_rfl) ?_
    simp only [wpO2, dynOK, LOp, List.getElem?_toArray, List.getElem?_cons_zero, okDst, Nat.reduceLT, decide_true, wantedA, ↓reduceIte, step1, isOwnCall, Bool.false_eq_true, hxOp, px, pload, ty45, AS.eval, AS.get, Lift.look, Nat.reduceEqDiff, reduceCtorEq, Option.getD_some, Heap.get_put, okOne, TK.isAgg, Nat.reduceBEq, Bool.or_false, Nat.zero_add, List.length_cons, List.length_nil, Nat.reduceAdd, Nat.le_refl, and_self, Lift.valOf, List.drop_zero, List.take_succ_cons, List.take_nil, List.getElem?_cons_succ, AS.put, dropKey, pfieldAddr, fieldOf, ty23, fieldIn, ty3, Option.map_some, ne_eq, Nat.succ_ne_zero, not_false_eq_true, disj, ptrAt, ptrT, hqs, hqr, beq_self_eq_true, Bool.or_true, List.drop_succ_cons, List.getD_cons_zero, hx, hsr, hsq, hsm, hsk, known1, PV.cells, splice, List.take_zero, List.nil_append, List.drop_nil, List.append_nil, ofConst, ofVal, thenQ, true_and]
    refine SW.run [] _ ?_
    simp only [wpC, inQ, thenQ, RPost, sres, Tryd.results20, sresL, sres1, AS.get, Lift.look, Nat.reduceEqDiff, ↓reduceIte, reduceCtorEq, Option.getD_some, ty45, Heap.get_put, Nat.zero_add, List.length_cons, List.length_nil, Nat.reduceAdd, Nat.le_refl, okOne, TK.isAgg, Nat.reduceBEq, Bool.or_false, and_self, Lift.valOf, List.drop_zero, List.take_succ_cons, List.take_nil, Option.some.injEq, exists_eq_left']
    refine ⟨h.put k (.cells 2 cap ((([0, 0, 5]) : List Int).map (PV.int .i64))), HSub.to fun j => ?_, k, cap, A2, cap2, rfl, by omega, hk, rfl, c4⟩
    by_cases e0 : j = k
    · subst e0
      right
      simp only [Heap.put_same, Heap.put_ne _ _ hkm, Heap.put_ne _ _ hkr, Heap.put_ne _ _ hks, Heap.put_ne _ _ hkq]
      rfl
    · rw [Heap.put_ne _ _ e0]
      by_cases e1 : j = s
      · subst e1; exact .inl hs
      · by_cases e2 : j = r
        · subst e2; exact .inl hr
        · by_cases e3 : j = m
          · subst e3; exact .inl hm
          · by_cases e4 : j = q
            · subst e4; exact .inl hq
            · right
              simp only [Heap.put_ne _ _ e0, Heap.put_ne _ _ e1, Heap.put_ne _ _ e2, Heap.put_ne _ _ e3, Heap.put_ne _ _ e4]
end Go.Proofs.YthdmdeiaonkeoaaDoor
