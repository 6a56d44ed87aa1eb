/- Contracts of functions that the law reaches. -/
import Derived.Test.YtincpomenogppaaGreatDoorX3
set_option linter.unusedSimpArgs false
set_option linter.unusedVariables false
namespace Go.Proofs.YtincpomenogppaaGreatDoor
open Go Go.RowKit Go.Proofs.YtincpomenogppaaGreatDoor Go.Proofs.YtincpomenogppaaGreatDoor.Lift
set_option maxRecDepth 100000

def rdC (s : List UInt8) : AObj := .cells 97 1 [.str s]
theorem Line_ok {h : Heap} {q : Nat} {s : List UInt8} (hq : h q = some (rdC s)) (hl : s.length ≤ 9000000000000000000) : SCalls env 61 [.val (.pointer (some ⟨q, 0, none⟩))] h (Ret (.tuple [.str (cutB 10 s).1, .bool (cutB 10 s).2.2]) (h.put q (rdC (cutB 10 s).2.1))) := by
  unfold rdC at hq ⊢
  refine SCalls.body Tryz.func61 rfl rfl (by simp [Tryz.ntmps61]) ?_
  refine SW.seq (SW.run [] _ ?_)
  simp only [wpC, Bool.false_eq_true, ↓reduceIte, wpS, stops, wantedA, okDst, Tryz.ntmps61, Nat.reduceLT, decide_true, step1, isOwnCall, hxOp, px, AS.eval, ofConst, ofVal, AS.put, enumA, dropKey, reduceCtorEq, thenQ, Nat.reduceEqDiff, true_and]
  refine SW.seq (SW.run [eCut] _ ?_)
  simp only [wpC, Bool.false_eq_true, ↓reduceIte, wpS, stops, wantedA, okDst, Nat.reduceLT, decide_true, step1, isOwnCall, hxOp, px, AS.eval, AS.get, Lift.look, Nat.succ_ne_zero, Option.getD_some, AS.put, dropKey, Nat.reduceEqDiff, reduceCtorEq, pfieldAddr, fieldOf, ty97, fieldIn, List.getElem?_cons_zero, ty9, Option.map_some, ne_eq, not_false_eq_true, Nat.add_zero, pload, hq, okOne, TK.isAgg, beq_self_eq_true, Bool.or_true, Nat.zero_add, List.length_cons, List.length_nil, Nat.le_refl, and_self, Lift.valOf, List.drop_zero, List.take_succ_cons, List.take_nil, List.getD_cons_zero, Specs.has, eCut, Specs.hasO, Bool.or_false, Specs.hasH, Bool.not_true, pcall, okArg, ofConst, ofVal, List.all_cons, List.all_nil, Bool.and_true, Specs.at, List.map_cons, List.map_nil, sCut, hl, cutR, List.getElem?_cons_succ, thenQ, true_and]
  refine SW.run [] _ ?_
  simp only [wpC, mayStop, stops, isFlt, Specs.has, Specs.hasO, Bool.or_false, Specs.hasH, Bool.not_false, List.any_cons, List.any_nil, Bool.false_eq_true, ↓reduceIte, wpS, wantedA, okDst, Nat.reduceLT, decide_true, step1, isOwnCall, hxOp, px, AS.eval, AS.get, Lift.look, Nat.succ_ne_zero, Option.getD_some, AS.put, dropKey, Nat.reduceEqDiff, reduceCtorEq, pfieldAddr, fieldOf, ty97, fieldIn, List.getElem?_cons_zero, ty9, Option.map_some, ne_eq, not_false_eq_true, Nat.add_zero, hx, hq, known1, PV.cells, List.length_cons, List.length_nil, Nat.zero_add, Nat.le_refl, and_self, splice, List.take_zero, List.nil_append, List.drop_succ_cons, List.drop_nil, List.append_nil, thenQ, RPost, sres, Tryz.results61, sresL, sres1, Option.some.injEq, Ret_fin, HTo_self, and_true, exists_eq_left']
def sLine (args : List PV) (h : Heap) : Prop × PV × Heap :=
  match args with
  | [.val (.pointer (some ⟨q, 0, none⟩))] => match h q with
    | some (.cells t 1 [.str s]) => (t = 97 ∧ s.length ≤ 9000000000000000000, .tuple [.str (cutB 10 s).1, .bool (cutB 10 s).2.2], h.put q (rdC (cutB 10 s).2.1))
    | _ => HBad h
  | _ => HBad h
noncomputable def eLine : SpecH env := ⟨61, sLine, fun args h hc => by
  unfold sLine at hc ⊢
  split at hc
  · rename_i q
    split at hc
    · rename_i t s hq
      obtain ⟨rfl, h1⟩ := hc
      simp only [hq]
      exact Line_ok hq h1
    · exact hc.elim
  · exact hc.elim⟩
def lineStep (sg : UInt8) (s : List UInt8) : Option (List UInt8 × List UInt8) :=
  if ((cutB 10 s).2.2 && prefixS (cutB 10 s).1 [sg]) = true then
    (if prefixS (cutB 10 s).2.1 [92, 10] = true then some ((cutB 10 s).1.drop 1, (cutB 10 s).2.1.drop 2) else some ((cutB 10 s).1.drop 1 ++ [10], (cutB 10 s).2.1))
  else none
def rdT (sg : UInt8) : Nat → List UInt8 → Option (List (List UInt8)) × List UInt8
  | 0, s => (some [], s)
  | n + 1, s => match lineStep sg s with
    | none => (none, (cutB 10 s).2.1)
    | some (l, r) => ((rdT sg n r).1.map (l :: ·), (rdT sg n r).2)
theorem rdT_some {sg : UInt8} {s l r : List UInt8} (n : Nat) (k : lineStep sg s = some (l, r)) : rdT sg (n + 1) s = ((rdT sg n r).1.map (l :: ·), (rdT sg n r).2) := by rw [rdT, k]
theorem rdT_none {sg : UInt8} {s : List UInt8} (n : Nat) (k : lineStep sg s = none) : rdT sg (n + 1) s = (none, (cutB 10 s).2.1) := by rw [rdT, k]
theorem lineStep_len {sg : UInt8} {s l r : List UInt8} (h : lineStep sg s = some (l, r)) : l.length + r.length + 1 ≤ s.length := by
  unfold lineStep at h
  split at h
  · rename_i hb
    rw [Bool.and_eq_true] at hb
    obtain ⟨h1, h2⟩ := hb
    have hc := (cutB_len 10 s).2.2 h1
    have hp : 1 ≤ (cutB 10 s).1.length := by
      unfold prefixS at h2
      rw [Bool.and_eq_true, decide_eq_true_eq] at h2
      exact h2.1
    split at h
    · injection h with h
      injection h with e1 e2
      rw [← e1, ← e2, List.length_drop, List.length_drop]; omega
    · injection h with h
      injection h with e1 e2
      rw [← e1, ← e2, List.length_append, List.length_drop]
      simp; omega
  · cases h
theorem prefix_one {l : List UInt8} {c : UInt8} (h : prefixS l [c] = true) : 1 ≤ l.length := by
  unfold prefixS at h
  rw [Bool.and_eq_true, decide_eq_true_eq] at h
  exact h.1
def rdR (sg : UInt8) (n : Nat) (s : List UInt8) : PV := match (rdT sg n s).1 with
  | some ls => .tuple [.list 1 (strL ls), .bool true]
  | none => .tuple [.val (.slice none 0 0), .bool false]
set_option maxHeartbeats 4000000 in
set_option maxRecDepth 100000 in
theorem RdLines_ok {h : Heap} {q : Nat} {s : List UInt8} (sg : UInt8) (n : Nat) (hn9 : n ≤ 9223372036854775807) (hq : h q = some (rdC s)) (hl : s.length ≤ 1000000) : SCalls env 65 [.val (.pointer (some ⟨q, 0, none⟩)), .int .i64 (n : Nat), .str [sg]] h (Ret (rdR sg n s) (h.put q (rdC (rdT sg n s).2))) := by
  refine SCalls.body Tryz.func65 rfl rfl (by simp [Tryz.ntmps65]) ?_
  refine SW.seq (SW.run [] _ ?_)
  simp only [wpC, Bool.false_eq_true, ↓reduceIte, wpS, stops, wantedA, okDst, Tryz.ntmps65, Nat.reduceLT, decide_true, step1, isOwnCall, hxOp, px, AS.eval, ofConst, ofVal, AS.put, enumA, Nat.zero_add, Nat.reduceAdd, dropKey, reduceCtorEq, Nat.reduceEqDiff, thenQ, true_and]
  refine SW.seq (SW.run [] _ ?_)
  simp only [wpC, Bool.false_eq_true, ↓reduceIte, wpS, stops, wantedA, okDst, Nat.reduceLT, decide_true, step1, isOwnCall, hxOp, px, AS.eval, ofConst, ofVal, thenQ, AS.put, dropKey, Nat.reduceEqDiff, reduceCtorEq, true_and]
  refine SW.seq (SW.seq (SW.run [] _ ?_))
  simp only [wpC, Bool.false_eq_true, ↓reduceIte, wpS, stops, wantedA, okDst, Nat.reduceLT, decide_true, step1, isOwnCall, hxOp, px, AS.eval, AS.get, Lift.look, Nat.reduceEqDiff, reduceCtorEq, Option.getD_some, AS.put, dropKey, ofConst, ofVal, thenQ, true_and]
  refine SW.block (SW.loop (fun bb st => ∃ (i : Nat) (out : List (List UInt8)) (s' : List UInt8) (v : PV), i ≤ n ∧ s'.length = bb ∧ s'.length ≤ s.length ∧ out.length + s'.length ≤ s.length ∧ (rdT sg n s).1 = (rdT sg (n - i) s').1.map (out ++ ·) ∧ (rdT sg n s).2 = (rdT sg (n - i) s').2 ∧ Own (h.put q (rdC s')) 9 1 (strL out) v st.h ∧ st.n = 57 ∧ hasAll st [(0, .val (.pointer (some ⟨q, 0, none⟩))), (2, .str [sg]), (8, v), (13, .int .i64 (n : Nat)), (14, .int .i64 (i : Nat))]) s.length ⟨0, [], s, .val (.slice none 0 0), Nat.zero_le _, rfl, Nat.le_refl _, by simp, by simp, rfl, ?_, rfl, ?_⟩ ?_)
  · have : h.put q (rdC s) = h := by
      funext k
      by_cases hk : k = q
      · subst hk; rw [Heap.put_same, hq]
      · rw [Heap.put_ne _ _ hk]
    rw [this]
    exact Own.nil _ _ _
  · simp only [hasAll, AS.get, Lift.look, Nat.succ_ne_zero, ↓reduceIte, Option.getD_some, Nat.reduceEqDiff, reduceCtorEq, Int.cast_ofNat_Int, and_self]
  rintro bb st ⟨i, out, s', v, hi, hbb, hs1, hs2, hp1, hp2, ow, hn', hs'⟩
  refine SW.norm ⟨hn', rfl, hs'⟩ ?_
  generalize st.h = H at ow
  clear hn' hs'
  refine SW.seq (SW.run [] _ ?_)
  by_cases hlt : i < n
  · have hw : IntKind.i64.wrap ((i : Int) + 1) = ((i + 1 : Nat) : Int) := by rw [w64 (by omega) (by omega)]; rfl
    have hni : n - i = (n - (i + 1)) + 1 := by omega
    rw [hni] at hp1 hp2
    have gq := ow.at
    have gq2 : H q = some (.cells 97 1 [.str s']) := gq
    have hs9 : s'.length ≤ 9000000000000000000 := by omega
    obtain ⟨c1, c2, c3⟩ := cutB_len 10 s'
    simp only [wpC, Bool.false_eq_true, ↓reduceIte, wpS, stops, wantedA, okDst, Nat.reduceLT, decide_true, step1, isOwnCall, hxOp, px, isNilC, pbinP, AS.eval, AS.get, Lift.look, reduceCtorEq, Nat.reduceEqDiff, Option.getD_some, pbinI, Int.ofNat_lt, hlt, thenQ, hasAll, and_true, AS.put, dropKey, true_and]
    refine SW.seq (SW.run [] _ ?_)
    simp only [wpC, isB, AS.get, Lift.look, tmpOf, ↓reduceIte, Option.getD_some, asB, thenQ, true_and]
    refine SW.seq (SW.block (SW.seq (SW.run [eLine] _ ?_)))
    simp only [wpC, Bool.false_eq_true, ↓reduceIte, wpS, stops, wantedA, okDst, Nat.reduceLT, decide_true, step1, isOwnCall, hxOp, px, AS.eval, AS.get, Lift.look, Nat.succ_ne_zero, Option.getD_some, Specs.has, Specs.hasO, Bool.or_false, Specs.hasH, eLine, Bool.or_true, Bool.not_true, AS.put, dropKey, Nat.reduceEqDiff, reduceCtorEq, hx, okArg, ofConst, ofVal, List.all_cons, List.all_nil, Bool.and_true, Specs.atH, List.map_cons, List.map_nil, sLine, gq2, hs9, and_self, List.getElem?_cons_zero, List.getElem?_cons_succ, thenQ, true_and]
    have ow2 := Own.reput (Y := rdC (cutB 10 s').2.1) ow
    have hfail : lineStep sg s' = none → rdR sg n s = .tuple [.val (.slice none 0 0), .bool false] ∧ (rdT sg n s).2 = (cutB 10 s').2.1 := fun k => by
      unfold rdR
      rw [hp1, hp2, rdT_none _ k]
      exact ⟨rfl, rfl⟩
    have hgo : ∀ l r, lineStep sg s' = some (l, r) → (rdT sg n s).1 = (rdT sg (n - (i + 1)) r).1.map ((out ++ [l]) ++ ·) ∧ (rdT sg n s).2 = (rdT sg (n - (i + 1)) r).2 := fun l r k => by
      rw [hp1, hp2, rdT_some _ k]
      refine ⟨?_, rfl⟩
      show Option.map _ (Option.map _ _) = _
      rw [Option.map_map]
      congr 1
      funext z
      simp
    refine SW.seq (SW.run [eHasPrefix] _ ?_)
    cases hb : (cutB 10 s').2.2
    · obtain ⟨f1, f2⟩ := hfail (by unfold lineStep; rw [hb]; rfl)
      rw [f1, f2]
      simp only [wpC, mayStop, stops, isFlt, Specs.has, Specs.hasO, Bool.or_false, Specs.hasH, List.any_cons, List.any_nil, Bool.false_or, Bool.false_eq_true, ↓reduceIte, wpS, wantedA, okDst, Nat.reduceLT, decide_true, step1, isOwnCall, hxOp, px, AS.eval, AS.get, Lift.look, Option.getD_some, AS.put, dropKey, Nat.reduceEqDiff, reduceCtorEq, pun, Bool.not_false, List.getElem?_toArray, List.getElem?_cons_succ, List.getElem?_cons_zero, Option.bind_some, beq_tf, Option.some.injEq, Tryz.results65, ofConst, ofVal, ppick_true, thenQ, true_and, isB, tmpOf, asB, decide_eq_true_eq, inQ, RPost, sres, sresL, sres1, Ret_fin, exists_eq_left']
      exact HTo.own ow2
    cases hpx : prefixS (cutB 10 s').1 [sg]
    · obtain ⟨f1, f2⟩ := hfail (by unfold lineStep; rw [hpx, Bool.and_false]; rfl)
      rw [f1, f2]
      simp only [wpC, mayStop, stops, isFlt, Specs.has, eHasPrefix, Specs.hasO, Bool.or_false, Specs.hasH, List.any_cons, ↓reduceIte, Bool.not_true, List.any_nil, Bool.false_eq_true, wpS, wantedA, okDst, Nat.reduceLT, decide_true, step1, isOwnCall, hxOp, px, AS.eval, AS.get, Lift.look, Option.getD_some, AS.put, dropKey, Nat.reduceEqDiff, reduceCtorEq, pun, List.getElem?_toArray, List.getElem?_cons_succ, List.getElem?_cons_zero, Option.bind_some, beq_self_eq_true, pcall, okArg, ofConst, ofVal, List.all_cons, List.all_nil, Bool.and_true, Specs.at, List.map_cons, List.map_nil, sHasPrefix, hpx, and_self, Bool.not_false, ppick_bool, thenQ, isB, tmpOf, asB, inQ, RPost, sres, Tryz.results65, sresL, sres1, Option.some.injEq, Ret_fin, exists_eq_left', true_and]
      exact HTo.own ow2
    simp only [wpC, mayStop, stops, isFlt, Specs.has, eHasPrefix, Specs.hasO, Bool.or_false, Specs.hasH, List.any_cons, ↓reduceIte, Bool.not_true, List.any_nil, Bool.false_eq_true, wpS, wantedA, okDst, Nat.reduceLT, decide_true, step1, isOwnCall, hxOp, px, AS.eval, AS.get, Lift.look, Option.getD_some, AS.put, dropKey, Nat.reduceEqDiff, reduceCtorEq, pun, List.getElem?_toArray, List.getElem?_cons_succ, List.getElem?_cons_zero, Option.bind_some, beq_self_eq_true, pcall, okArg, ofConst, ofVal, List.all_cons, List.all_nil, Bool.and_true, Specs.at, List.map_cons, List.map_nil, sHasPrefix, hpx, and_self, ppick_bool, thenQ, isB, tmpOf, asB, true_and]
    have c3 := c3 hb
    have hp1 := prefix_one hpx
    have hstep : lineStep sg s' = if prefixS (cutB 10 s').2.1 [92, 10] = true then some ((cutB 10 s').1.drop 1, (cutB 10 s').2.1.drop 2) else some ((cutB 10 s').1.drop 1 ++ [10], (cutB 10 s').2.1) := by
      conv => lhs; unfold lineStep
      rw [hb, hpx]; rfl
    generalize (cutB 10 s').1 = L at *
    generalize (cutB 10 s').2.1 = R at *
    have hL1 : (1 : Int) ≤ ((L.length : Nat) : Int) := by omega
    have gq3 : (H.put q (rdC R)) q = some (.cells 97 1 [.str R]) := Heap.put_same _ _ _
    generalize H.put q (rdC R) = H3 at ow2 gq3 ⊢
    refine SW.enter (n := 57) (l := [(0, .val (.pointer (some ⟨q, 0, none⟩))), (2, .str [sg]), (8, v), (9, .str L), (13, .int .i64 (n : Nat)), (14, .int .i64 (i : Nat))]) (H := H3) rfl (.refl _ _) (by simp only [hasAll, AS.get, Lift.look, Nat.succ_ne_zero, ↓reduceIte, Option.getD_some, Nat.reduceEqDiff, reduceCtorEq, and_self]) ?_
    have ldl : (L.drop 1).length = L.length - 1 := List.length_drop
    refine SW.seq (SW.run [] _ ?_)
    simp only [wpC, Bool.false_eq_true, ↓reduceIte, wpS, stops, wantedA, okDst, Nat.reduceLT, decide_true, step1, isOwnCall, hxOp, px, AS.eval, AS.get, Lift.look, reduceCtorEq, Nat.reduceEqDiff, Option.getD_some, AS.put, dropKey, pslice, ty9, pB, ofConst, ofVal, Int.reduceLE, hL1, true_and, Int.reduceToNat, Int.toNat_natCast, List.take_length, isFlt, isNilC, pbinP, pbinS, List.length_drop, List.length_cons, List.length_nil, Nat.zero_add, Nat.reduceLeDiff, thenQ]
    refine ⟨by omega, by omega, ?_⟩
    have hcc : List.drop 1 (List.take 3 [(10 : UInt8), 92, 10]) = [92, 10] := rfl
    refine SW.seq (SW.seq (SW.regionAny [eCutPrefix] [[0, 1, 2, 3, 4, 5, 6, 7, 8, 9, 10]] rfl (by rfl) (by kernel_rfl) ?_))
    simp only [wpOL, wpO, LOp, List.getElem?_toArray, List.getElem?_cons_zero, okDst, Nat.reduceLT, decide_true, wantedA, ↓reduceIte, step1, isOwnCall, Bool.false_eq_true, hxOp, px, AS.eval, AS.get, Lift.look, Nat.succ_ne_zero, Option.getD_some, List.getElem?_cons_succ, AS.put, dropKey, Nat.reduceEqDiff, reduceCtorEq, pfieldAddr, fieldOf, ty97, fieldIn, ty9, Option.map_some, ne_eq, not_false_eq_true, Nat.add_zero, pload, gq3, okOne, TK.isAgg, beq_self_eq_true, Bool.or_true, Nat.zero_add, List.length_cons, List.length_nil, Nat.le_refl, and_self, Lift.valOf, List.drop_zero, List.take_succ_cons, List.take_nil, List.getD_cons_zero, pslice, ofConst, ofVal, pB, Nat.reduceAdd, Int.cast_ofNat_Int, Int.reduceLE, Int.reduceToNat, List.drop_succ_cons, Specs.hasO, Specs.hasH, pcall, okArg, List.all_cons, List.all_nil, Bool.and_true, Specs.at, eCutPrefix, List.map_cons, List.map_nil, sCutPrefix, thenQ, true_and]
    obtain ⟨M, hM⟩ : ∃ M, M = L.drop 1 := ⟨_, rfl⟩
    rw [← hM] at hstep ldl ⊢
    have hMl : (M ++ [10]).length = M.length + 1 := by simp
    have hwm : IntKind.i64.wrap ((((M ++ [10]).length : Nat) : Int) - 1) = ((M.length : Nat) : Int) := by rw [w64 (by omega) (by omega)]; omega
    have hlm : ((M.length : Nat) : Int) ≤ (((M ++ [10]).length : Nat) : Int) := by omega
    have htm : (M ++ [10]).take M.length = M := List.take_left
    have lb : ((strL out).length + 1) * 16 ≤ 140737488355328 := by rw [strL_len]; omega
    have lb2 : (strL out).length + 1 ≤ maxLen := by rw [strL_len]; simp [maxLen]; omega
    cases hr : prefixS R [92, 10]
    · rw [hr] at hstep
      have hstep : lineStep sg s' = some (M ++ [10], R) := hstep
      obtain ⟨g1, g2⟩ := hgo _ _ hstep
      have hsl := lineStep_len hstep
      refine SW.run [] _ ?_
      simp only [wpC, mayStop, stops, isFlt, Specs.has, Specs.hasO, Bool.or_false, Specs.hasH, Bool.not_false, List.any_cons, List.any_nil, Bool.false_eq_true, ↓reduceIte, wpS, wantedA, okDst, Nat.reduceLT, decide_true, step1, isOwnCall, hxOp, px, AS.eval, AS.get, Lift.look, Option.getD_some, thenQ, isB, AS.put, dropKey, Nat.reduceEqDiff, reduceCtorEq, tmpOf, asB, true_and]
      refine SW.run [] _ ?_
      simp only [wpC, Bool.false_eq_true, ↓reduceIte, wpS, stops, wantedA, okDst, Nat.reduceLT, decide_true, step1, isOwnCall, hxOp, px, AS.eval, AS.get, Lift.look, Nat.reduceEqDiff, reduceCtorEq, Option.getD_some, AS.put, dropKey, pbuildSlice, ty43, ty9, Nat.succ_ne_zero, List.replicate, List.map_cons, ofVal, List.map_nil, List.flatten_cons, List.flatten_nil, List.append_nil, ofConst, pfill, PV.cells, List.length_cons, List.length_nil, Nat.zero_add, Nat.reduceMul, Nat.le_refl, and_self, splice, List.take_zero, List.nil_append, List.drop_succ_cons, List.drop_nil, Nat.reduceLeDiff, okZero, List.all_cons, Value.oneCell', List.all_nil, Bool.and_true, known, chunk, List.take_succ_cons, List.take_nil, true_and]
      refine SWO.append (.tmp 51) (.tmp 53) 43 43 rfl ty43 rfl ty9 (by decide) rfl ty43 rfl ow2 (ys := [[.str (M ++ [10])]]) rfl lb lb2 rfl rfl ?_
      intro v' h' ow' _ _
      refine SWO.run [] 1000 ?_
      simp only [wpS, stops, Bool.false_eq_true, ↓reduceIte, wantedA, okDst, AS.put, dropKey, Nat.reduceEqDiff, reduceCtorEq, Nat.reduceLT, decide_true, step1, isOwnCall, hxOp, px, AS.eval, AS.get, Lift.look, Option.getD_some, inQ, thenQ, true_and]
      refine SW.run [] _ ?_
      simp only [wpC, Bool.false_eq_true, ↓reduceIte, wpS, stops, isFlt, ty3, wantedA, okDst, Nat.reduceLT, decide_true, step1, isOwnCall, hxOp, px, isNilC, pbinP, AS.eval, AS.get, Lift.look, Nat.reduceEqDiff, reduceCtorEq, Option.getD_some, ofConst, ofVal, pbinI, hw, AS.put, dropKey, thenQ, Nat.succ_ne_zero, true_and]
      exact ⟨R.length, by omega, i + 1, out ++ [M ++ [10]], R, v', by omega, rfl, by omega, by rw [List.length_append]; simp; omega, g1, g2, by rw [strL_append]; exact ow', rfl, rfl⟩
    · rw [hr] at hstep
      have hstep : lineStep sg s' = some (M, R.drop 2) := hstep
      obtain ⟨g1, g2⟩ := hgo _ _ hstep
      have hsl := lineStep_len hstep
      have hcp : cutP R [92, 10] = R.drop 2 := by unfold cutP; rw [if_pos hr]; rfl
      have ow3 := Own.reput (Y := rdC (R.drop 2)) ow2
      refine SW.run [] _ ?_
      simp only [wpC, mayStop, stops, isFlt, Specs.has, Specs.hasO, Bool.or_false, Specs.hasH, Bool.not_false, List.any_cons, List.any_nil, Bool.false_eq_true, ↓reduceIte, wpS, wantedA, okDst, Nat.reduceLT, decide_true, step1, isOwnCall, hxOp, px, AS.eval, AS.get, Lift.look, Option.getD_some, thenQ, isB, AS.put, dropKey, Nat.reduceEqDiff, hcp, reduceCtorEq, tmpOf, asB, Nat.succ_ne_zero, pcall, ty9, plen, okLen, and_self, ty3, isNilC, pbinP, ofConst, ofVal, pbinI, hwm, pslice, pB, Int.cast_ofNat_Int, Int.reduceLE, Int.natCast_nonneg, hlm, Int.reduceToNat, Int.toNat_natCast, htm, List.drop_zero, pfieldAddr, fieldOf, ty97, fieldIn, List.getElem?_cons_zero, Option.map_some, ne_eq, not_false_eq_true, Nat.add_zero, hx, gq3, known1, PV.cells, List.length_cons, List.length_nil, Nat.zero_add, Nat.le_refl, splice, List.take_zero, List.nil_append, List.drop_succ_cons, List.drop_nil, List.append_nil, true_and]
      have hrdc : (AObj.cells 97 1 [.str (R.drop 2)]) = rdC (R.drop 2) := rfl
      rw [hrdc]
      refine SW.run [] _ ?_
      simp only [wpC, Bool.false_eq_true, ↓reduceIte, wpS, stops, wantedA, okDst, Nat.reduceLT, decide_true, step1, isOwnCall, hxOp, px, AS.eval, AS.get, Lift.look, Nat.reduceEqDiff, reduceCtorEq, Option.getD_some, AS.put, dropKey, pbuildSlice, ty43, ty9, Nat.succ_ne_zero, List.replicate, List.map_cons, ofVal, List.map_nil, List.flatten_cons, List.flatten_nil, List.append_nil, ofConst, pfill, PV.cells, List.length_cons, List.length_nil, Nat.zero_add, Nat.reduceMul, Nat.le_refl, and_self, splice, List.take_zero, List.nil_append, List.drop_succ_cons, List.drop_nil, Nat.reduceLeDiff, okZero, List.all_cons, Value.oneCell', List.all_nil, Bool.and_true, known, chunk, List.take_succ_cons, List.take_nil, true_and]
      refine SWO.append (.tmp 51) (.tmp 53) 43 43 rfl ty43 rfl ty9 (by decide) rfl ty43 rfl ow3 (ys := [[.str M]]) rfl lb lb2 rfl rfl ?_
      intro v' h' ow' _ _
      refine SWO.run [] 1000 ?_
      simp only [wpS, stops, Bool.false_eq_true, ↓reduceIte, wantedA, okDst, AS.put, dropKey, Nat.reduceEqDiff, reduceCtorEq, Nat.reduceLT, decide_true, step1, isOwnCall, hxOp, px, AS.eval, AS.get, Lift.look, Option.getD_some, inQ, thenQ, true_and]
      refine SW.run [] _ ?_
      simp only [wpC, Bool.false_eq_true, ↓reduceIte, wpS, stops, isFlt, ty3, wantedA, okDst, Nat.reduceLT, decide_true, step1, isOwnCall, hxOp, px, isNilC, pbinP, AS.eval, AS.get, Lift.look, Nat.reduceEqDiff, reduceCtorEq, Option.getD_some, ofConst, ofVal, pbinI, hw, AS.put, dropKey, thenQ, Nat.succ_ne_zero, true_and]
      exact ⟨(R.drop 2).length, by omega, i + 1, out ++ [M], R.drop 2, v', by omega, rfl, by omega, by rw [List.length_append]; show _ + 1 + _ ≤ _; omega, g1, g2, by rw [strL_append]; exact ow', rfl, rfl⟩
  · obtain rfl : i = n := by omega
    rw [Nat.sub_self] at hp1 hp2
    have e1 : (rdT sg i s).1 = some out := by rw [hp1]; show some (out ++ []) = _; rw [List.append_nil]
    have e2 : (rdT sg i s).2 = s' := hp2
    unfold rdR
    rw [e1, e2]
    simp only [wpC, Bool.false_eq_true, ↓reduceIte, wpS, stops, wantedA, okDst, Nat.reduceLT, decide_true, step1, isOwnCall, hxOp, px, isNilC, pbinP, AS.eval, AS.get, Lift.look, reduceCtorEq, Nat.reduceEqDiff, Option.getD_some, pbinI, Int.ofNat_lt, hlt, decide_false, thenQ, hasAll, and_true, AS.put, dropKey, true_and]
    refine SW.seq (SW.run [] _ ?_)
    simp only [wpC, isB, AS.get, Lift.look, tmpOf, ↓reduceIte, Option.getD_some, asB, Bool.false_eq_true, thenQ, inQ, true_and]
    refine SW.own_let 8 rfl ow ?_
    refine SW.run [] _ ?_
    simp only [wpC, mayStop, stops, isFlt, Specs.has, Specs.hasO, Bool.or_false, Specs.hasH, Bool.not_false, List.any_cons, List.any_nil, Bool.false_eq_true, ↓reduceIte, wpS, wantedA, okDst, AS.put, dropKey, Nat.reduceEqDiff, reduceCtorEq, Nat.reduceLT, decide_true, step1, isOwnCall, hxOp, px, AS.eval, AS.get, Lift.look, Option.getD_some, ofConst, ofVal, thenQ, RPost, sres, Tryz.results65, sresL, sres1, Option.some.injEq, Ret_fin, HTo_self, and_true, exists_eq_left', and_self]
def sRdLines (args : List PV) (h : Heap) : Prop × PV × Heap :=
  match args with
  | [.val (.pointer (some ⟨q, 0, none⟩)), .int .i64 n, .str [sg]] => match h q with
    | some (.cells t 1 [.str s]) => (t = 97 ∧ 0 ≤ n ∧ n ≤ 9223372036854775807 ∧ s.length ≤ 1000000, rdR sg n.toNat s, h.put q (rdC (rdT sg n.toNat s).2))
    | _ => HBad h
  | _ => HBad h
noncomputable def eRdLines : SpecH env := ⟨65, sRdLines, fun args h hc => by
  unfold sRdLines at hc ⊢
  split at hc
  · rename_i q n sg
    split at hc
    · rename_i t s hq
      obtain ⟨rfl, h0, h1, h2⟩ := hc
      simp only [hq]
      obtain ⟨k, rfl⟩ : ∃ k : Nat, n = (k : Int) := ⟨n.toNat, by omega⟩
      exact RdLines_ok sg k (by omega) hq h2
    · exact hc.elim
  · exact hc.elim⟩
end Go.Proofs.YtincpomenogppaaGreatDoor
