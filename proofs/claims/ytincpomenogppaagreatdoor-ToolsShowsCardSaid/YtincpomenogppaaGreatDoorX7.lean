/- Contracts of functions that the law reaches. -/
import Derived.Test.YtincpomenogppaaGreatDoorX6
set_option linter.unusedSimpArgs false
set_option linter.unusedVariables false
namespace Go.Proofs.YtincpomenogppaaGreatDoor
open Go Go.RowKit Go.Proofs.YtincpomenogppaaGreatDoor Go.Proofs.YtincpomenogppaaGreatDoor.Lift
set_option maxRecDepth 100000

theorem map_cons_app {α : Type} (o : Option (List α)) (out : List α) (e : α) : (o.map (e :: ·)).map (out ++ ·) = o.map ((out ++ [e]) ++ ·) := by
  rw [Option.map_map]
  congr 1
  funext z
  simp
def edC (a b : Int) (c d : PV) : AObj := .cells 79 4 [.int .i64 a, .int .i64 b, c, d]
theorem splitG_short (c : UInt8) : ∀ l : List UInt8, ∀ w ∈ splitG c 0 l, w.length ≤ l.length
  | [], w, h => by
    have h : w ∈ [[]] := h
    rw [List.mem_singleton.1 h]; exact Nat.le_refl _
  | b :: l, w, h => by
    have ih := splitG_short c l
    unfold splitG at h
    split at h
    · rcases List.mem_cons.1 h with rfl | h
      · simp
      · have := ih w h; rw [List.length_cons]; omega
    · split at h
      · rw [List.mem_singleton.1 h]; simp
      · rename_i x xs e
        rw [e] at ih
        rcases List.mem_cons.1 h with rfl | h
        · have := ih x (List.mem_cons_self ..)
          rw [List.length_cons, List.length_cons]; omega
        · have := ih w (List.mem_cons_of_mem _ h); rw [List.length_cons]; omega
set_option maxHeartbeats 16000000 in
set_option maxRecDepth 100000 in
theorem ReadQ_ok (s : List UInt8) (hs : s.length ≤ 1000000) (h : Heap) : SCalls env 12 [.str s] h (fun en h' => ∃ p, en = .ret p ∧ readQ s p ∧ h' = h) := by
  refine SCalls.body Tryz.func12 rfl rfl (by simp [Tryz.ntmps12]) ?_
  obtain ⟨Q, hQ⟩ : ∃ Q : PV → Prop, Q = readQ s := ⟨_, rfl⟩
  rw [← hQ]
  have hbad : (readS s = ([], 2)) → Q (.tuple [.val (.slice none 0 0), .int .i64 2]) := fun k => by
    rw [hQ]; unfold readQ; rw [k]; exact ⟨_, rfl, .inr ⟨rfl, rfl⟩⟩
  refine SW.seq (SW.run [] _ ?_)
  simp only [wpC, Bool.false_eq_true, ↓reduceIte, wpS, stops, wantedA, okDst, Tryz.ntmps12, Nat.reduceLT, decide_true, step1, isOwnCall, hxOp, px, AS.eval, ofConst, ofVal, AS.put, enumA, dropKey, reduceCtorEq, thenQ, Nat.reduceEqDiff, true_and]
  refine SW.seq (SW.run [] _ ?_)
  simp only [wpC, Bool.false_eq_true, ↓reduceIte, wpS, stops, wantedA, okDst, Nat.reduceLT, decide_true, step1, isOwnCall, hxOp, px, AS.eval, ofConst, ofVal, thenQ, AS.put, dropKey, Nat.reduceEqDiff, reduceCtorEq, true_and]
  refine SW.seq (SW.seq (SW.run [] _ ?_))
  simp only [wpC, Bool.false_eq_true, ↓reduceIte, wpS, stops, wantedA, okDst, Nat.reduceLT, decide_true, step1, isOwnCall, hxOp, px, AS.eval, AS.get, Lift.look, Nat.succ_ne_zero, Option.getD_some, AS.put, dropKey, Nat.reduceEqDiff, reduceCtorEq, pbuild, ty97, List.map_cons, ofVal, List.map_nil, ofConst, pfill, placeOf, List.getElem?_cons_zero, ty9, Option.map_some, PV.cells, List.length_cons, List.length_nil, Nat.zero_add, Nat.le_refl, and_self, splice, List.take_zero, List.nil_append, List.drop_succ_cons, List.drop_nil, List.append_nil, List.all_cons, Option.isSome_some, List.all_nil, Bool.and_true, okZero, Value.oneCell', known, known1, thenQ, true_and]
  intro q hq
  have e0 : h.put q (rdC s) = h.put q (.cells 97 1 [.str s]) := rfl
  refine SW.block (SW.loop (fun bb st => ∃ (out : List Ed) (s' : List UInt8) (v : PV) (h1 : Heap) (f : Nat), s'.length = bb ∧ s'.length ≤ f ∧ szS out + s'.length ≤ s.length ∧ (∀ e ∈ out, e.num) ∧ parseT (s.length + 1) s = (parseT (f + 1) s').map (out ++ ·) ∧ Lift.Inc h h1 ∧ h1 q = some (rdC s') ∧ Own h1 79 4 (edL out) v st.h ∧ st.n = 107 ∧ hasAll st [(0, .str s), (4, v), (5, .val (.pointer (some ⟨q, 0, none⟩)))]) s.length ⟨[], s, .val (.slice none 0 0), h.put q (rdC s), s.length, rfl, Nat.le_refl _, by show 0 + _ ≤ _; omega, by simp, by simp, Inc.over (incSelf h) hq _, Heap.put_same _ _ _, Own.nil _ _ _, rfl, ?_⟩ ?_)
  · simp only [hasAll, AS.get, Lift.look, Nat.succ_ne_zero, ↓reduceIte, Option.getD_some, Nat.reduceEqDiff, and_self]
  rintro bb st ⟨out, s', v, h1, f, hbb, hf, hsz, hnum, hpt, inc, h1q, ow, hn', hs'⟩
  refine SW.norm ⟨hn', rfl, hs'⟩ ?_
  generalize st.h = H at ow
  clear hn' hs' e0
  have gq0 := ow.base h1q
  have gq : H q = some (.cells 97 1 [.str s']) := gq0
  have hrs : readS s = (match parseT (s.length + 1) s with | none => ([], 2) | some es => if showS es = (s, 0) then (es, 0) else ([], 2)) := rfl
  refine SW.seq (SW.run [] _ ?_)
  by_cases hne : s' = []
  · have hb0 : (s' == ([] : List UInt8)) = true := by rw [hne]; rfl
    rw [hne, parseT_nil] at hpt
    have hpt : parseT (s.length + 1) s = some out := by rw [hpt]; show some (out ++ []) = _; rw [List.append_nil]
    rw [hpt] at hrs
    have hrs : readS s = (if showS out = (s, 0) then (out, 0) else ([], 2)) := hrs
    obtain ⟨ft1, ft2, ft3⟩ := fit_of hnum (k := s.length) (by omega) hs
    simp only [wpC, mayStop, stops, isFlt, Specs.has, Specs.hasO, Bool.or_false, Specs.hasH, Bool.not_false, List.any_cons, List.any_nil, Bool.false_eq_true, ↓reduceIte, wpS, wantedA, okDst, Nat.reduceLT, decide_true, step1, isOwnCall, hxOp, px, AS.eval, AS.get, Lift.look, reduceCtorEq, Nat.reduceEqDiff, Option.getD_some, AS.put, dropKey, pfieldAddr, fieldOf, ty97, fieldIn, List.getElem?_cons_zero, ty9, Option.map_some, ne_eq, Nat.succ_ne_zero, not_false_eq_true, Nat.add_zero, pload, gq, okOne, TK.isAgg, beq_self_eq_true, Bool.or_true, Nat.zero_add, List.length_cons, List.length_nil, Nat.le_refl, and_self, Lift.valOf, List.drop_zero, List.take_succ_cons, List.take_nil, List.getD_cons_zero, isNilC, pbinP, ofConst, ofVal, pbinS, hb0, Bool.not_true, thenQ, isB, tmpOf, asB, inQ, true_and]
    refine SW.own_let 4 rfl ow ?_
    obtain ⟨S, k, hSk⟩ : ∃ S k, showS out = (S, k) := ⟨_, _, rfl⟩
    have hR : showR out = .tuple [.str S, .int .i64 k] := by unfold showR; rw [hSk]
    rw [hSk] at hrs
    refine SW.seq (SW.run [eShow] _ ?_)
    cases hk : (k != 0)
    · have hk0 : k = 0 := by simpa using hk
      cases hS : (S == s)
      · have hS0 : S ≠ s := by simpa using hS
        have hrs : readS s = ([], 2) := by rw [hrs, if_neg]; intro e; exact hS0 (congrArg Prod.fst e)
        simp only [wpC, mayStop, stops, isFlt, Specs.has, eShow, Specs.hasO, Bool.or_false, Specs.hasH, List.any_cons, ↓reduceIte, Bool.not_true, List.any_nil, Bool.false_eq_true, wpS, wantedA, okDst, AS.put, dropKey, Nat.reduceEqDiff, reduceCtorEq, Nat.reduceLT, decide_true, step1, isOwnCall, hxOp, px, AS.eval, AS.get, Lift.look, Option.getD_some, pcall, okArg, ofConst, ofVal, List.all_cons, List.all_nil, Bool.and_true, Specs.at, List.map_cons, List.map_nil, sShow, unE_el, ft2, ft3, and_self, and_true, hR, true_and, List.getElem?_cons_zero, List.getElem?_cons_succ, thenQ, isNilC, pbinP, pbinI, hk, List.getElem?_toArray, Option.bind_some, beq_self_eq_true, Nat.succ_ne_zero, pbinS, hS, Bool.not_false, ppick_bool, isB, tmpOf, asB, RPost, sres, Tryz.results12, sresL, sres1, Option.some.injEq, exists_eq_left']
        exact ⟨ft1, h, Inc.to inc, _, rfl, hbad hrs, rfl⟩
      · have hS0 : S = s := by simpa using hS
        have hrs : readS s = (out, 0) := by rw [hrs, if_pos (by rw [hS0, hk0])]
        simp only [wpC, mayStop, stops, isFlt, Specs.has, eShow, Specs.hasO, Bool.or_false, Specs.hasH, List.any_cons, ↓reduceIte, Bool.not_true, List.any_nil, Bool.false_eq_true, wpS, wantedA, okDst, AS.put, dropKey, Nat.reduceEqDiff, reduceCtorEq, Nat.reduceLT, decide_true, step1, isOwnCall, hxOp, px, AS.eval, AS.get, Lift.look, Option.getD_some, pcall, okArg, ofConst, ofVal, List.all_cons, List.all_nil, Bool.and_true, Specs.at, List.map_cons, List.map_nil, sShow, unE_el, ft2, ft3, and_self, and_true, hR, true_and, List.getElem?_cons_zero, List.getElem?_cons_succ, thenQ, isNilC, pbinP, pbinI, hk, List.getElem?_toArray, Option.bind_some, beq_self_eq_true, Nat.succ_ne_zero, pbinS, hS, ppick_bool, isB, tmpOf, asB]
        refine ⟨ft1, ?_⟩
        refine SW.run [] _ ?_
        simp only [wpC, mayStop, stops, isFlt, Specs.has, Specs.hasO, Bool.or_false, Specs.hasH, Bool.not_false, List.any_cons, List.any_nil, Bool.false_eq_true, ↓reduceIte, wpS, wantedA, okDst, Nat.reduceLT, decide_true, step1, isOwnCall, hxOp, px, AS.eval, AS.get, Lift.look, Nat.reduceEqDiff, Option.getD_some, AS.put, dropKey, reduceCtorEq, ofConst, ofVal, thenQ, RPost, sres, Tryz.results12, sresL, sres1, Option.some.injEq, exists_eq_left', true_and]
        refine ⟨h, Inc.to inc, _, rfl, ?_, rfl⟩
        rw [hQ]; unfold readQ; rw [hrs]
        exact ⟨_, rfl, .inl rfl⟩
    · have hk0 : k ≠ 0 := by simpa using hk
      have hrs : readS s = ([], 2) := by rw [hrs, if_neg]; intro e; exact hk0 (congrArg Prod.snd e)
      simp only [wpC, mayStop, stops, isFlt, Specs.has, eShow, Specs.hasO, Bool.or_false, Specs.hasH, List.any_cons, ↓reduceIte, Bool.not_true, List.any_nil, Bool.false_eq_true, wpS, wantedA, okDst, AS.put, dropKey, Nat.reduceEqDiff, reduceCtorEq, Nat.reduceLT, decide_true, step1, isOwnCall, hxOp, px, AS.eval, AS.get, Lift.look, Option.getD_some, pcall, okArg, ofConst, ofVal, List.all_cons, List.all_nil, Bool.and_true, Specs.at, List.map_cons, List.map_nil, sShow, unE_el, ft2, ft3, and_self, and_true, hR, true_and, List.getElem?_cons_zero, List.getElem?_cons_succ, thenQ, isNilC, pbinP, pbinI, hk, List.getElem?_toArray, Option.bind_some, beq_tf, Option.some.injEq, ppick_true, isB, tmpOf, asB, RPost, sres, Tryz.results12, sresL, sres1, exists_eq_left']
      exact ⟨ft1, h, Inc.to inc, _, rfl, hbad hrs, rfl⟩
  have hb0 : (s' == ([] : List UInt8)) = false := by simpa using hne
  have hl9 : s'.length ≤ 9000000000000000000 := by omega
  obtain ⟨c1, c2, c3⟩ := cutB_len 10 s'
  simp only [wpC, mayStop, stops, isFlt, Specs.has, Specs.hasO, Bool.or_false, Specs.hasH, Bool.not_false, List.any_cons, List.any_nil, Bool.false_eq_true, ↓reduceIte, wpS, wantedA, okDst, Nat.reduceLT, decide_true, step1, isOwnCall, hxOp, px, AS.eval, AS.get, Lift.look, reduceCtorEq, Nat.reduceEqDiff, Option.getD_some, AS.put, dropKey, pfieldAddr, fieldOf, ty97, fieldIn, List.getElem?_cons_zero, ty9, Option.map_some, ne_eq, Nat.succ_ne_zero, not_false_eq_true, Nat.add_zero, pload, gq, okOne, TK.isAgg, beq_self_eq_true, Bool.or_true, Nat.zero_add, List.length_cons, List.length_nil, Nat.le_refl, and_self, Lift.valOf, List.drop_zero, List.take_succ_cons, List.take_nil, List.getD_cons_zero, isNilC, pbinP, ofConst, ofVal, pbinS, hb0, thenQ, isB, tmpOf, asB, hasAll, and_true, true_and]
  have ow2 := Own.over ow (q := q) (by rw [h1q]; simp) (rdC (cutB 10 s').2.1)
  have inc2 : Lift.Inc h (h1.put q (rdC (cutB 10 s').2.1)) := Inc.over inc hq _
  have h1q2 : (h1.put q (rdC (cutB 10 s').2.1)) q = some (rdC (cutB 10 s').2.1) := Heap.put_same _ _ _
  refine SW.block (SW.seq (SW.run [eLine] _ ?_))
  simp only [wpC, Bool.false_eq_true, ↓reduceIte, wpS, stops, wantedA, okDst, Nat.reduceLT, decide_true, step1, isOwnCall, hxOp, px, AS.eval, AS.get, Lift.look, Nat.reduceEqDiff, reduceCtorEq, Option.getD_some, Specs.has, Specs.hasO, Bool.or_false, Specs.hasH, eLine, Bool.or_true, Bool.not_true, AS.put, dropKey, hx, okArg, ofConst, ofVal, List.all_cons, List.all_nil, Bool.and_true, Specs.atH, List.map_cons, List.map_nil, sLine, gq, hl9, and_self, List.getElem?_cons_zero, List.getElem?_cons_succ, thenQ, true_and]
  rw [show (H.put q (rdC (cutB 10 s').2.1)) = H.put q (rdC (cutB 10 s').2.1) from rfl]
  have hfail : parse1 s' = none → readS s = ([], 2) := fun k => by
    rw [hrs, hpt, parseT_none hne k]; rfl
  have incH : Lift.Inc h (H.put q (rdC (cutB 10 s').2.1)) := fun k X ek => ow2.inc k X (inc2 k X ek)
  refine SW.seq (SW.run [eCutPrefix] _ ?_)
  simp only [wpC, Bool.false_eq_true, ↓reduceIte, wpS, stops, wantedA, okDst, Nat.reduceLT, decide_true, step1, isOwnCall, hxOp, px, AS.eval, AS.get, Lift.look, Nat.reduceEqDiff, Option.getD_some, Specs.has, eCutPrefix, Specs.hasO, Bool.or_false, Specs.hasH, Bool.not_true, AS.put, dropKey, reduceCtorEq, pcall, okArg, ofConst, ofVal, List.all_cons, List.all_nil, Bool.and_true, Specs.at, List.map_cons, List.map_nil, sCutPrefix, and_self, List.getElem?_cons_zero, List.getElem?_cons_succ, thenQ, true_and]
  have hcl : (cutP (cutB 10 s').1 [64]).length ≤ 1000000 := by
    unfold cutP
    split
    · rw [List.length_drop]; omega
    · omega
  refine SW.seq (SW.run [eSplit] _ ?_)
  simp only [wpC, Bool.false_eq_true, ↓reduceIte, wpS, stops, wantedA, okDst, Nat.reduceLT, decide_true, step1, isOwnCall, hxOp, px, AS.eval, AS.get, Lift.look, Nat.reduceEqDiff, Option.getD_some, Specs.has, eSplit, Specs.hasO, Bool.or_false, Specs.hasH, Bool.not_true, AS.put, dropKey, reduceCtorEq, pcall, okArg, ofConst, ofVal, List.all_cons, List.all_nil, Bool.and_true, Specs.at, List.map_cons, List.map_nil, sSplit, hcl, and_self, thenQ, true_and]
  have hwo : splitG 32 0 (cutP (cutB 10 s').1 [64]) = wordsOf s' := rfl
  rw [hwo]
  refine SW.seq (SW.run [] _ ?_)
  have hw4 : ((((wordsOf s').length : Nat) : Int) != 4) = !decide ((wordsOf s').length = 4) := by
    by_cases k : (wordsOf s').length = 4
    · rw [k]; rfl
    · simp [k]; omega
  have hhead : headB s' = ((cutB 10 s').2.2 && (prefixS (cutB 10 s').1 [64] && decide ((wordsOf s').length = 4))) := rfl
  cases hh : headB s'
  · have hrs := hfail (by unfold parse1; rw [hh]; rfl)
    rw [hh] at hhead
    cases b1 : (cutB 10 s').2.2
    · simp only [wpC, mayStop, stops, isFlt, Specs.has, Specs.hasO, Bool.or_false, Specs.hasH, Bool.not_false, List.any_cons, List.any_nil, Bool.false_eq_true, ↓reduceIte, wpS, wantedA, okDst, Nat.reduceLT, decide_true, step1, isOwnCall, hxOp, px, AS.eval, AS.get, Lift.look, Nat.reduceEqDiff, Option.getD_some, AS.put, dropKey, reduceCtorEq, pun, List.getElem?_toArray, List.getElem?_cons_succ, List.getElem?_cons_zero, Option.bind_some, beq_tf, Option.some.injEq, ofConst, ofVal, ppick_true, thenQ, isB, tmpOf, asB, inQ, RPost, sres, Tryz.results12, sresL, sres1, exists_eq_left', true_and]
      exact ⟨h, Inc.to incH, _, rfl, hbad hrs, rfl⟩
    cases b2 : prefixS (cutB 10 s').1 [64]
    · simp only [wpC, mayStop, stops, isFlt, Specs.has, Specs.hasO, Bool.or_false, Specs.hasH, Bool.not_false, List.any_cons, List.any_nil, Bool.false_eq_true, ↓reduceIte, wpS, wantedA, okDst, Nat.reduceLT, decide_true, step1, isOwnCall, hxOp, px, AS.eval, AS.get, Lift.look, Nat.reduceEqDiff, Option.getD_some, AS.put, dropKey, reduceCtorEq, pun, Bool.not_true, List.getElem?_toArray, List.getElem?_cons_succ, List.getElem?_cons_zero, Option.bind_some, beq_self_eq_true, ofConst, ofVal, ppick_bool, beq_tf, Option.some.injEq, ppick_true, thenQ, isB, tmpOf, asB, inQ, RPost, sres, Tryz.results12, sresL, sres1, exists_eq_left', true_and]
      exact ⟨h, Inc.to incH, _, rfl, hbad hrs, rfl⟩
    rw [b1, b2] at hhead
    have b3 : decide ((wordsOf s').length = 4) = false := hhead.symm
    simp only [wpC, mayStop, stops, isFlt, Specs.has, Specs.hasO, Bool.or_false, Specs.hasH, Bool.not_false, List.any_cons, List.any_nil, Bool.false_eq_true, ↓reduceIte, wpS, wantedA, okDst, Nat.reduceLT, decide_true, step1, isOwnCall, hxOp, px, AS.eval, AS.get, Lift.look, Nat.reduceEqDiff, Option.getD_some, AS.put, dropKey, reduceCtorEq, pun, Bool.not_true, List.getElem?_toArray, List.getElem?_cons_succ, List.getElem?_cons_zero, Option.bind_some, beq_self_eq_true, ofConst, ofVal, ppick_bool, pcall, ty43, plen, strL_len, okLen, and_self, isNilC, pbinP, pbinI, hw4, b3, thenQ, isB, tmpOf, asB, inQ, RPost, sres, Tryz.results12, sresL, sres1, Option.some.injEq, exists_eq_left', true_and]
    exact ⟨h, Inc.to incH, _, rfl, hbad hrs, rfl⟩
  rw [hh] at hhead
  have hhead2 := hhead.symm
  rw [Bool.and_eq_true, Bool.and_eq_true] at hhead2
  obtain ⟨b1, b2, b3⟩ := hhead2
  have hwl : (wordsOf s').length = 4 := by simpa using b3
  simp only [wpC, mayStop, stops, isFlt, Specs.has, Specs.hasO, Bool.or_false, Specs.hasH, Bool.not_false, List.any_cons, List.any_nil, Bool.false_eq_true, ↓reduceIte, wpS, wantedA, okDst, Nat.reduceLT, decide_true, step1, isOwnCall, hxOp, px, AS.eval, AS.get, Lift.look, Nat.reduceEqDiff, b1, Option.getD_some, AS.put, dropKey, b2, reduceCtorEq, pun, Bool.not_true, List.getElem?_toArray, List.getElem?_cons_succ, List.getElem?_cons_zero, Option.bind_some, beq_self_eq_true, ofConst, ofVal, ppick_bool, pcall, ty43, plen, strL_len, okLen, and_self, isNilC, pbinP, pbinI, hw4, b3, thenQ, isB, tmpOf, asB, true_and]
  have hwsh : ∀ w ∈ wordsOf s', w.length ≤ 281474976710656 := fun w hw => by
    have := splitG_short 32 _ w hw
    omega
  have hfail2 : (wordsOf s').all numB = false → readS s = ([], 2) := fun k => hfail (by unfold parse1; rw [hh, k]; rfl)
  have hp1 : (wordsOf s').all numB = true → parse1 s' = (match (rdT 45 (nOf s' 1).toNat (cutB 10 s').2.1).1 with
      | none => none
      | some d => match (rdT 43 (nOf s' 3).toNat (rdT 45 (nOf s' 1).toNat (cutB 10 s').2.1).2).1 with
        | none => none
        | some n => some (⟨nOf s' 0, nOf s' 2, d, n⟩, (rdT 43 (nOf s' 3).toNat (rdT 45 (nOf s' 1).toNat (cutB 10 s').2.1).2).2)) := fun k => by
    conv => lhs; unfold parse1
    rw [hh, k]; rfl
  have hnOf : ∀ i, nOf s' i = atoiR ((wordsOf s').getD i []) := fun _ => rfl
  generalize wordsOf s' = ws at *
  generalize (cutB 10 s').2.1 = R at *
  have gq5 : (H.put q (rdC R)) q = some (rdC R) := Heap.put_same _ _ _
  generalize H.put q (rdC R) = H3 at ow2 gq5 incH ⊢
  generalize h1.put q (rdC R) = h3 at ow2 inc2 h1q2 ⊢
  refine SW.enter (n := 107) (l := [(0, .str s), (4, v), (5, .val (.pointer (some ⟨q, 0, none⟩))), (10, .list 1 (strL ws))]) (H := H3) rfl (.refl _ _) (by simp only [hasAll, AS.get, Lift.look, Nat.succ_ne_zero, ↓reduceIte, Option.getD_some, Nat.reduceEqDiff, reduceCtorEq, and_self]) ?_
  refine SW.seq (SW.run [] _ ?_)
  simp only [wpC, Bool.false_eq_true, ↓reduceIte, wpS, stops, wantedA, okDst, Nat.reduceLT, decide_true, step1, okAlloc, ty101, okZero, List.all_cons, Value.oneCell', List.all_nil, Bool.and_true, thenQ, AS.put, dropKey, reduceCtorEq, Nat.reduceEqDiff, zeroOf, List.map_cons, ofVal, List.map_nil, List.length_cons, List.length_nil, Nat.zero_add, Nat.reduceAdd, true_and]
  intro r hr
  have hrq : ¬ r = q := fun e => by subst e; rw [gq5] at hr; cases hr
  have hqr : ¬ q = r := fun e => hrq e.symm
  have hr3 : h3 r = none := incFresh ow2.inc hr
  refine SW.seq (SW.seq (SW.run [] _ ?_))
  simp only [wpC, Bool.false_eq_true, ↓reduceIte, wpS, stops, wantedA, okDst, Nat.reduceLT, decide_true, step1, isOwnCall, hxOp, px, AS.eval, AS.get, Lift.look, Nat.reduceEqDiff, reduceCtorEq, Option.getD_some, AS.put, dropKey, pcall, ty43, plen, strL_len, hwl, okLen, and_self, Int.cast_ofNat_Int, ofConst, ofVal, thenQ, true_and]
  refine SW.block (SW.loopK 107 (fun i : Nat => [(0, .str s), (4, v), (5, .val (.pointer (some ⟨q, 0, none⟩))), (11, .val (.pointer (some ⟨r, 0, none⟩))), (48, .list 1 (strL ws)), (49, .int .i64 4), (50, .int .i64 (i : Nat))]) (fun i => H3.put r (.cells 101 4 (arrN ws i))) (fun i => i ≤ 4 ∧ (ws.take i).all numB = true) (fun i => 4 - i) 0 ⟨by omega, rfl⟩ ?_ ?_)
  · simp only [Has, hasAll, AS.get, Lift.look, Nat.succ_ne_zero, ↓reduceIte, Option.getD_some, Nat.reduceEqDiff, reduceCtorEq, Int.cast_ofNat_Int, and_self, and_true, true_and]
    rfl
  rintro i ⟨hi, hall⟩
  refine SW.seq (SW.run [] _ ?_)
  by_cases hlt : i < 4
  · have hw : IntKind.i64.wrap ((i : Int) + 1) = ((i + 1 : Nat) : Int) := by rw [w64 (by omega) (by omega)]; rfl
    have hlw : i < ws.length := by omega
    have hg := strL_at hlw
    have hws9 := hwsh _ (List.getElem_mem hlw)
    have hset := arrN_set hwl hlt
    have hgD : ws.getD i [] = ws[i] := by rw [List.getD_eq_getElem?_getD, List.getElem?_eq_getElem hlw]; rfl
    rw [hgD] at hset
    have hlt' : (i : Int) < 4 := by omega
    simp only [wpC, Bool.false_eq_true, ↓reduceIte, wpS, stops, wantedA, okDst, Nat.reduceLT, decide_true, step1, isOwnCall, hxOp, px, isNilC, pbinP, AS.eval, AS.get, Lift.look, reduceCtorEq, Nat.reduceEqDiff, Option.getD_some, pbinI, hlt', thenQ, Has, hasAll, and_true, AS.put, dropKey, true_and]
    refine SW.seq (SW.run [] _ ?_)
    simp only [wpC, isB, AS.get, Lift.look, tmpOf, ↓reduceIte, Option.getD_some, asB, thenQ, true_and]
    refine SW.seq (SW.block (SW.seq (SW.run [] _ ?_)))
    simp only [wpC, Bool.false_eq_true, ↓reduceIte, wpS, stops, wantedA, okDst, Nat.reduceLT, decide_true, step1, isOwnCall, hxOp, px, AS.eval, AS.get, Lift.look, Nat.reduceEqDiff, reduceCtorEq, Option.getD_some, AS.put, dropKey, pindexAddr, ty43, ty9, ne_eq, Nat.succ_ne_zero, not_false_eq_true, Int.natCast_nonneg, Int.toNat_natCast, strL_len, hlw, and_self, hg, pload, okOne, TK.isAgg, beq_self_eq_true, Bool.or_true, List.length_cons, List.length_nil, Nat.zero_add, Nat.le_refl, Lift.valOf, List.take_succ_cons, List.take_nil, List.getD_cons_zero, thenQ, true_and]
    refine SW.seq (SW.run [eNumber] _ ?_)
    have hal := arrN_len hwl hi
    have hal2 : i * 1 + 1 ≤ (arrN ws i).length := by omega
    simp only [wpC, Bool.false_eq_true, ↓reduceIte, wpS, stops, wantedA, okDst, Nat.reduceLT, decide_true, step1, isOwnCall, hxOp, px, AS.eval, AS.get, Lift.look, Nat.reduceEqDiff, Option.getD_some, AS.put, dropKey, reduceCtorEq, Specs.has, eNumber, Specs.hasO, Bool.or_false, Specs.hasH, Bool.not_true, pcall, okArg, ofConst, ofVal, List.all_cons, List.all_nil, Bool.and_true, Specs.at, List.map_cons, List.map_nil, sNumber, hws9, and_self, List.getElem?_cons_zero, List.getElem?_cons_succ, pindexAddr, ty101, ty3, Int.natCast_nonneg, Int.cast_ofNat_Int, hlt', Int.toNat_natCast, Nat.zero_add, hx, Heap.get_put, known1, PV.cells, List.length_cons, List.length_nil, hal2, splice, thenQ, true_and]
    have hput : List.take (i * 1) (arrN ws i) ++ [.int .i64 (atoiR ws[i])] ++ List.drop (i * 1 + 1) (arrN ws i) = arrN ws (i + 1) := by rw [Nat.mul_one]; exact hset
    rw [Heap.put_put, hput]
    refine SW.run [] _ ?_
    cases hb : numB ws[i]
    · have hrs := hfail2 (by rw [List.all_eq_false]; exact ⟨_, List.getElem_mem hlw, by rw [hb]; simp⟩)
      simp only [wpC, mayStop, stops, isFlt, Specs.has, Specs.hasO, Bool.or_false, Specs.hasH, Bool.not_false, List.any_cons, List.any_nil, Bool.false_eq_true, ↓reduceIte, wpS, wantedA, okDst, Nat.reduceLT, decide_true, step1, isOwnCall, hxOp, px, AS.eval, AS.get, Lift.look, Option.getD_some, AS.put, dropKey, Nat.reduceEqDiff, reduceCtorEq, pun, thenQ, isB, tmpOf, asB, ofConst, ofVal, inQ, RPost, sres, Tryz.results12, sresL, sres1, Option.some.injEq, exists_eq_left', true_and]
      exact ⟨h, Inc.to (Inc.over incH (incFresh incH hr) _), _, rfl, hbad hrs, rfl⟩
    · simp only [wpC, mayStop, stops, isFlt, Specs.has, Specs.hasO, Bool.or_false, Specs.hasH, Bool.not_false, List.any_cons, List.any_nil, Bool.false_eq_true, ↓reduceIte, wpS, wantedA, okDst, Nat.reduceLT, decide_true, step1, isOwnCall, hxOp, px, AS.eval, AS.get, Lift.look, Option.getD_some, AS.put, dropKey, Nat.reduceEqDiff, reduceCtorEq, pun, Bool.not_true, thenQ, isB, tmpOf, asB, inQ, true_and]
      refine SW.run [] _ ?_
      simp only [wpC, Bool.false_eq_true, ↓reduceIte, wpS, stops, isFlt, ty3, wantedA, okDst, Nat.reduceLT, decide_true, step1, isOwnCall, hxOp, px, isNilC, pbinP, AS.eval, AS.get, Lift.look, Nat.reduceEqDiff, reduceCtorEq, Option.getD_some, ofConst, ofVal, pbinI, hw, AS.put, dropKey, thenQ, Nat.succ_ne_zero, true_and]
      exact ⟨i + 1, ⟨by omega, by rw [List.take_succ_eq_append_getElem hlw, List.all_append, hall]; simp [hb]⟩, by omega, rfl, rfl⟩
  have hi4 : i = 4 := by omega
  subst hi4
  rw [List.take_of_length_le (by omega)] at hall
  have hp1 := hp1 hall
  have harr : arrN ws 4 = [.int .i64 (nOf s' 0), .int .i64 (nOf s' 1), .int .i64 (nOf s' 2), .int .i64 (nOf s' 3)] := by
    rw [hnOf, hnOf, hnOf, hnOf]
    match ws, hwl with
    | [a, b, c, d], _ => rfl
  have hn0 : ∀ i, i < 4 → 0 ≤ nOf s' i ∧ nOf s' i ≤ 9223372036854775807 := fun i hi => by
    have hlw : i < ws.length := by omega
    have hgD : ws.getD i [] = ws[i] := by rw [List.getD_eq_getElem?_getD, List.getElem?_eq_getElem hlw]; rfl
    rw [hnOf, hgD]
    rw [List.all_eq_true] at hall
    have := hall _ (List.getElem_mem hlw)
    unfold numB at this
    rw [Bool.and_eq_true, decide_eq_true_eq] at this
    exact ⟨this.1, (atoiR_bounds _).2⟩
  rw [harr]
  have ow4 := Own.putx ow2 hr (.cells 101 4 [.int .i64 (nOf s' 0), .int .i64 (nOf s' 1), .int .i64 (nOf s' 2), .int .i64 (nOf s' 3)])
  have inc4 : Lift.Inc h (h3.put r (.cells 101 4 [.int .i64 (nOf s' 0), .int .i64 (nOf s' 1), .int .i64 (nOf s' 2), .int .i64 (nOf s' 3)])) := Inc.over inc2 (incFresh inc2 hr3) _
  have b1q : (h3.put r (.cells 101 4 [.int .i64 (nOf s' 0), .int .i64 (nOf s' 1), .int .i64 (nOf s' 2), .int .i64 (nOf s' 3)])) q = some (rdC R) := by rw [Heap.put_ne _ _ hqr]; exact h1q2
  have b1r : (h3.put r (.cells 101 4 [.int .i64 (nOf s' 0), .int .i64 (nOf s' 1), .int .i64 (nOf s' 2), .int .i64 (nOf s' 3)])) r = some (.cells 101 4 [.int .i64 (nOf s' 0), .int .i64 (nOf s' 1), .int .i64 (nOf s' 2), .int .i64 (nOf s' 3)]) := Heap.put_same _ _ _
  generalize h3.put r (.cells 101 4 [.int .i64 (nOf s' 0), .int .i64 (nOf s' 1), .int .i64 (nOf s' 2), .int .i64 (nOf s' 3)]) = h4 at ow4 inc4 b1q b1r
  generalize H3.put r (.cells 101 4 [.int .i64 (nOf s' 0), .int .i64 (nOf s' 1), .int .i64 (nOf s' 2), .int .i64 (nOf s' 3)]) = H4 at ow4 ⊢
  have a0 := hn0 0 (by omega)
  have a1 := hn0 1 (by omega)
  have a2 := hn0 2 (by omega)
  have a3 := hn0 3 (by omega)
  generalize nOf s' 0 = n0 at *
  generalize nOf s' 1 = n1 at *
  generalize nOf s' 2 = n2 at *
  generalize nOf s' 3 = n3 at *
  have gq6 := ow4.base b1q
  have gr6 := ow4.base b1r
  clear ow2 inc2 h1q2 hr3 gq5
  simp only [wpC, Bool.false_eq_true, ↓reduceIte, wpS, stops, wantedA, okDst, Nat.reduceLT, decide_true, step1, isOwnCall, hxOp, px, isNilC, pbinP, AS.eval, AS.get, Lift.look, reduceCtorEq, Nat.reduceEqDiff, Int.cast_ofNat_Int, Option.getD_some, pbinI, Int.reduceLT, decide_false, thenQ, Nat.reduceSub, Has, hasAll, and_true, AS.put, dropKey, true_and]
  refine SW.seq (SW.run [] _ ?_)
  simp only [wpC, isB, AS.get, Lift.look, tmpOf, ↓reduceIte, Option.getD_some, asB, Bool.false_eq_true, thenQ, inQ, true_and]
  refine SW.seq (SW.run [] _ ?_)
  simp only [wpC, Bool.false_eq_true, ↓reduceIte, wpS, stops, wantedA, okDst, Nat.reduceLT, decide_true, step1, isOwnCall, hxOp, px, pindexAddr, ty101, ty3, AS.eval, AS.get, Lift.look, Nat.reduceEqDiff, reduceCtorEq, Option.getD_some, ofConst, ofVal, Int.reduceLE, Int.cast_ofNat_Int, Int.reduceLT, and_self, Int.reduceToNat, Nat.reduceMul, Nat.add_zero, AS.put, dropKey, pload, gr6, okOne, TK.isAgg, beq_self_eq_true, Bool.or_true, Nat.zero_add, List.length_cons, List.length_nil, Nat.reduceAdd, Nat.reduceLeDiff, Lift.valOf, List.drop_zero, List.take_succ_cons, List.take_zero, List.getD_cons_zero, List.drop_succ_cons, pbuild, ty79, List.map_cons, List.map_nil, pfill, placeOf, List.getElem?_cons_zero, Option.map_some, PV.cells, List.getElem?_cons_succ, splice, List.nil_append, List.cons_append, List.all_cons, Option.isSome_some, ty43, List.all_nil, Bool.and_true, okZero, Value.oneCell', known, okAlloc, hx, zeroOf, Heap.get_put, known1, Nat.le_refl, List.drop_nil, List.append_nil, thenQ, true_and]
  intro p hpn
  rw [Heap.put_put]
  have hpq : ¬ p = q := fun e => by subst e; rw [gq6] at hpn; cases hpn
  have hqp : ¬ q = p := fun e => hpq e.symm
  have hpr : ¬ p = r := fun e => by subst e; rw [gr6] at hpn; cases hpn
  have hrp : ¬ r = p := fun e => hpr e.symm
  have hp4 : h4 p = none := incFresh ow4.inc hpn
  have hph : h p = none := incFresh inc4 hp4
  have ow5 := Own.putx ow4 hpn (edC n0 n2 (.val (.slice none 0 0)) (.val (.slice none 0 0)))
  have inc5 : Lift.Inc h (h4.put p (edC n0 n2 (.val (.slice none 0 0)) (.val (.slice none 0 0)))) := Inc.over inc4 hph _
  have b2q : (h4.put p (edC n0 n2 (.val (.slice none 0 0)) (.val (.slice none 0 0)))) q = some (rdC R) := by rw [Heap.put_ne _ _ hqp]; exact b1q
  have b2r : (h4.put p (edC n0 n2 (.val (.slice none 0 0)) (.val (.slice none 0 0)))) r = some (.cells 101 4 [.int .i64 n0, .int .i64 n1, .int .i64 n2, .int .i64 n3]) := by rw [Heap.put_ne _ _ hrp]; exact b1r
  have b2p : (h4.put p (edC n0 n2 (.val (.slice none 0 0)) (.val (.slice none 0 0)))) p = some (edC n0 n2 (.val (.slice none 0 0)) (.val (.slice none 0 0))) := Heap.put_same _ _ _
  generalize h4.put p (edC n0 n2 (.val (.slice none 0 0)) (.val (.slice none 0 0))) = h5 at ow5 inc5 b2q b2r b2p
  rw [show (AObj.cells 79 4 [.int .i64 n0, .int .i64 n2, .val (.slice none 0 0), .val (.slice none 0 0)]) = edC n0 n2 (.val (.slice none 0 0)) (.val (.slice none 0 0)) from rfl]
  generalize H4.put p (edC n0 n2 (.val (.slice none 0 0)) (.val (.slice none 0 0))) = H5 at ow5 ⊢
  clear ow4 inc4 b1q b1r gq6 gr6 hp4
  have gq7 : H5 q = some (.cells 97 1 [.str R]) := ow5.base b2q
  have gr7 := ow5.base b2r
  have gp7 : H5 p = some (.cells 79 4 [.int .i64 n0, .int .i64 n2, .val (.slice none 0 0), .val (.slice none 0 0)]) := ow5.base b2p
  refine SW.enter (n := 107) (l := [(0, .str s), (4, v), (5, .val (.pointer (some ⟨q, 0, none⟩))), (11, .val (.pointer (some ⟨r, 0, none⟩))), (14, .val (.pointer (some ⟨p, 0, none⟩)))]) (H := H5) rfl (.refl _ _) (by simp only [hasAll, AS.get, Lift.look, Nat.succ_ne_zero, ↓reduceIte, Option.getD_some, Nat.reduceEqDiff, reduceCtorEq, and_self]) ?_
  have hR6 : R.length ≤ 1000000 := by omega
  obtain ⟨R2, hR2⟩ : ∃ R2, R2 = (rdT 45 n1.toNat R).2 := ⟨_, rfl⟩
  have incA : ∀ {hb Hb : Heap}, Own hb 79 4 (edL out) v Hb → Lift.Inc h hb → Lift.Inc h Hb := fun o i k X ek => o.inc k X (i k X ek)
  cases hd : (rdT 45 n1.toNat R).1 with
  | none =>
    rw [hd] at hp1
    have hrs := hfail hp1
    have hrd : rdR 45 n1.toNat R = .tuple [.val (.slice none 0 0), .bool false] := by unfold rdR; rw [hd]
    refine SW.seq (SW.seq (SW.run [eRdLines] _ ?_))
    simp only [wpC, Bool.false_eq_true, ↓reduceIte, wpS, stops, wantedA, okDst, Nat.reduceLT, decide_true, step1, isOwnCall, hxOp, px, AS.eval, AS.get, Lift.look, reduceCtorEq, Nat.reduceEqDiff, Option.getD_some, AS.put, dropKey, pindexAddr, ty101, ty3, ofConst, ofVal, Int.reduceLE, Int.cast_ofNat_Int, Int.reduceLT, and_self, Int.reduceToNat, Nat.reduceMul, Nat.zero_add, pload, gr7, okOne, TK.isAgg, beq_self_eq_true, Bool.or_true, Nat.reduceAdd, List.length_cons, List.length_nil, Nat.reduceLeDiff, Lift.valOf, List.drop_succ_cons, List.drop_zero, List.take_succ_cons, List.take_zero, List.getD_cons_zero, Specs.has, Specs.hasO, Bool.or_false, Specs.hasH, eRdLines, Bool.not_true, hx, okArg, List.all_cons, List.all_nil, Bool.and_true, Specs.atH, List.map_cons, List.map_nil, sRdLines, gq7, a1.1, a1.2, hR6, hrd, rdC, List.getElem?_cons_zero, List.getElem?_cons_succ, pfieldAddr, fieldOf, ty79, fieldIn, ty43, Option.map_some, ne_eq, Nat.succ_ne_zero, not_false_eq_true, Heap.get_put, hpq, gp7, known1, PV.cells, splice, List.cons_append, List.nil_append, thenQ, true_and]
    refine SW.run [] _ ?_
    simp only [wpC, mayStop, stops, isFlt, Specs.has, Specs.hasO, Bool.or_false, Specs.hasH, Bool.not_false, List.any_cons, List.any_nil, Bool.false_eq_true, ↓reduceIte, wpS, wantedA, okDst, Nat.reduceLT, decide_true, step1, isOwnCall, hxOp, px, AS.eval, AS.get, Lift.look, Option.getD_some, AS.put, dropKey, Nat.reduceEqDiff, reduceCtorEq, pun, thenQ, isB, tmpOf, asB, ofConst, ofVal, inQ, RPost, sres, Tryz.results12, sresL, sres1, Option.some.injEq, exists_eq_left', true_and]
    exact ⟨h, Inc.to (Inc.over (Inc.over (incA ow5 inc5) hq _) hph _), _, rfl, hbad hrs, rfl⟩
  | some d =>
    rw [hd, ← hR2] at hp1
    have hrd : rdR 45 n1.toNat R = .tuple [.list 1 (strL d), .bool true] := by unfold rdR; rw [hd]
    refine SW.seq (SW.seq (SW.run [eRdLines] _ ?_))
    simp only [wpC, Bool.false_eq_true, ↓reduceIte, wpS, stops, wantedA, okDst, Nat.reduceLT, decide_true, step1, isOwnCall, hxOp, px, AS.eval, AS.get, Lift.look, reduceCtorEq, Nat.reduceEqDiff, Option.getD_some, AS.put, dropKey, pindexAddr, ty101, ty3, ofConst, ofVal, Int.reduceLE, Int.cast_ofNat_Int, Int.reduceLT, and_self, Int.reduceToNat, Nat.reduceMul, Nat.zero_add, pload, gr7, okOne, TK.isAgg, beq_self_eq_true, Bool.or_true, Nat.reduceAdd, List.length_cons, List.length_nil, Nat.reduceLeDiff, Lift.valOf, List.drop_succ_cons, List.drop_zero, List.take_succ_cons, List.take_zero, List.getD_cons_zero, Specs.has, Specs.hasO, Bool.or_false, Specs.hasH, eRdLines, Bool.not_true, hx, okArg, List.all_cons, List.all_nil, Bool.and_true, Specs.atH, List.map_cons, List.map_nil, sRdLines, gq7, a1.1, a1.2, hR6, hrd, rdC, ← hR2, List.getElem?_cons_zero, List.getElem?_cons_succ, pfieldAddr, fieldOf, ty79, fieldIn, ty43, Option.map_some, ne_eq, Nat.succ_ne_zero, not_false_eq_true, Heap.get_put, hpq, gp7, known1, PV.cells, splice, List.cons_append, List.nil_append, thenQ, true_and]
    have ow6 := Own.over (Own.over ow5 (q := q) (by rw [b2q]; simp) (rdC R2)) (q := p) (by rw [Heap.put_ne _ _ hpq, b2p]; simp) (edC n0 n2 (.list 1 (strL d)) (.val (.slice none 0 0)))
    have inc6 : Lift.Inc h ((h5.put q (rdC R2)).put p (edC n0 n2 (.list 1 (strL d)) (.val (.slice none 0 0)))) := Inc.over (Inc.over inc5 hq _) hph _
    have b3q : ((h5.put q (rdC R2)).put p (edC n0 n2 (.list 1 (strL d)) (.val (.slice none 0 0)))) q = some (rdC R2) := by rw [Heap.put_ne _ _ hqp, Heap.put_same]
    have b3p : ((h5.put q (rdC R2)).put p (edC n0 n2 (.list 1 (strL d)) (.val (.slice none 0 0)))) p = some (edC n0 n2 (.list 1 (strL d)) (.val (.slice none 0 0))) := Heap.put_same _ _ _
    have b3r : ((h5.put q (rdC R2)).put p (edC n0 n2 (.list 1 (strL d)) (.val (.slice none 0 0)))) r = some (.cells 101 4 [.int .i64 n0, .int .i64 n1, .int .i64 n2, .int .i64 n3]) := by rw [Heap.put_ne _ _ hrp, Heap.put_ne _ _ hrq]; exact b2r
    rw [show (H5.put q (AObj.cells 97 1 [.str R2])).put p (AObj.cells 79 4 [.int .i64 n0, .int .i64 n2, .list 1 (strL d), .val (.slice none 0 0)]) = (H5.put q (rdC R2)).put p (edC n0 n2 (.list 1 (strL d)) (.val (.slice none 0 0))) from rfl]
    generalize (h5.put q (rdC R2)).put p (edC n0 n2 (.list 1 (strL d)) (.val (.slice none 0 0))) = h6 at ow6 inc6 b3q b3p b3r
    generalize (H5.put q (rdC R2)).put p (edC n0 n2 (.list 1 (strL d)) (.val (.slice none 0 0))) = H6 at ow6 ⊢
    have gq8 : H6 q = some (.cells 97 1 [.str R2]) := ow6.base b3q
    have gr8 := ow6.base b3r
    have gp8 : H6 p = some (.cells 79 4 [.int .i64 n0, .int .i64 n2, .list 1 (strL d), .val (.slice none 0 0)]) := ow6.base b3p
    clear gq7 gr7 gp7 b2q b2p b2r
    have sd := rdT_size 45 _ _ _ hd
    rw [← hR2] at sd
    have hR26 : R2.length ≤ 1000000 := by omega
    refine SW.run [] _ ?_
    simp only [wpC, mayStop, stops, isFlt, Specs.has, Specs.hasO, Bool.or_false, Specs.hasH, Bool.not_false, List.any_cons, List.any_nil, Bool.false_eq_true, ↓reduceIte, wpS, wantedA, okDst, Nat.reduceLT, decide_true, step1, isOwnCall, hxOp, px, AS.eval, AS.get, Lift.look, Option.getD_some, AS.put, dropKey, Nat.reduceEqDiff, reduceCtorEq, pun, Bool.not_true, thenQ, isB, tmpOf, asB, true_and]
    refine SW.enter (n := 107) (l := [(0, .str s), (4, v), (5, .val (.pointer (some ⟨q, 0, none⟩))), (11, .val (.pointer (some ⟨r, 0, none⟩))), (14, .val (.pointer (some ⟨p, 0, none⟩)))]) (H := H6) rfl (.refl _ _) (by simp only [hasAll, AS.get, Lift.look, Nat.succ_ne_zero, ↓reduceIte, Option.getD_some, Nat.reduceEqDiff, reduceCtorEq, and_self]) ?_
    obtain ⟨R3, hR3⟩ : ∃ R3, R3 = (rdT 43 n3.toNat R2).2 := ⟨_, rfl⟩
    cases hn : (rdT 43 n3.toNat R2).1 with
    | none =>
      rw [hn] at hp1
      have hrs := hfail hp1
      have hrd : rdR 43 n3.toNat R2 = .tuple [.val (.slice none 0 0), .bool false] := by unfold rdR; rw [hn]
      refine SW.seq (SW.seq (SW.run [eRdLines] _ ?_))
      simp only [wpC, Bool.false_eq_true, ↓reduceIte, wpS, stops, wantedA, okDst, Nat.reduceLT, decide_true, step1, isOwnCall, hxOp, px, AS.eval, AS.get, Lift.look, reduceCtorEq, Nat.reduceEqDiff, Option.getD_some, AS.put, dropKey, pindexAddr, ty101, ty3, ofConst, ofVal, Int.reduceLE, Int.cast_ofNat_Int, Int.reduceLT, and_self, Int.reduceToNat, Nat.reduceMul, Nat.zero_add, pload, gr8, okOne, TK.isAgg, beq_self_eq_true, Bool.or_true, Nat.reduceAdd, List.length_cons, List.length_nil, Nat.le_refl, Lift.valOf, List.drop_succ_cons, List.drop_zero, List.take_succ_cons, List.take_nil, List.getD_cons_zero, Specs.has, Specs.hasO, Bool.or_false, Specs.hasH, eRdLines, Bool.not_true, hx, okArg, List.all_cons, List.all_nil, Bool.and_true, Specs.atH, List.map_cons, List.map_nil, sRdLines, gq8, a3.1, a3.2, hR26, hrd, rdC, List.getElem?_cons_zero, List.getElem?_cons_succ, pfieldAddr, fieldOf, ty79, fieldIn, ty43, Option.map_some, ne_eq, Nat.succ_ne_zero, not_false_eq_true, Heap.get_put, hpq, gp8, known1, PV.cells, splice, List.take_zero, List.cons_append, List.nil_append, List.drop_nil, List.append_nil, thenQ, true_and]
      refine SW.run [] _ ?_
      simp only [wpC, mayStop, stops, isFlt, Specs.has, Specs.hasO, Bool.or_false, Specs.hasH, Bool.not_false, List.any_cons, List.any_nil, Bool.false_eq_true, ↓reduceIte, wpS, wantedA, okDst, Nat.reduceLT, decide_true, step1, isOwnCall, hxOp, px, AS.eval, AS.get, Lift.look, Option.getD_some, AS.put, dropKey, Nat.reduceEqDiff, reduceCtorEq, pun, thenQ, isB, tmpOf, asB, ofConst, ofVal, inQ, RPost, sres, Tryz.results12, sresL, sres1, Option.some.injEq, exists_eq_left', true_and]
      exact ⟨h, Inc.to (Inc.over (Inc.over (incA ow6 inc6) hq _) hph _), _, rfl, hbad hrs, rfl⟩
    | some n =>
      rw [hn, ← hR3] at hp1
      have hp1 : parse1 s' = some (⟨n0, n2, d, n⟩, R3) := hp1
      have hrd : rdR 43 n3.toNat R2 = .tuple [.list 1 (strL n), .bool true] := by unfold rdR; rw [hn]
      refine SW.seq (SW.seq (SW.run [eRdLines] _ ?_))
      simp only [wpC, Bool.false_eq_true, ↓reduceIte, wpS, stops, wantedA, okDst, Nat.reduceLT, decide_true, step1, isOwnCall, hxOp, px, AS.eval, AS.get, Lift.look, reduceCtorEq, Nat.reduceEqDiff, Option.getD_some, AS.put, dropKey, pindexAddr, ty101, ty3, ofConst, ofVal, Int.reduceLE, Int.cast_ofNat_Int, Int.reduceLT, and_self, Int.reduceToNat, Nat.reduceMul, Nat.zero_add, pload, gr8, okOne, TK.isAgg, beq_self_eq_true, Bool.or_true, Nat.reduceAdd, List.length_cons, List.length_nil, Nat.le_refl, Lift.valOf, List.drop_succ_cons, List.drop_zero, List.take_succ_cons, List.take_nil, List.getD_cons_zero, Specs.has, Specs.hasO, Bool.or_false, Specs.hasH, eRdLines, Bool.not_true, hx, okArg, List.all_cons, List.all_nil, Bool.and_true, Specs.atH, List.map_cons, List.map_nil, sRdLines, gq8, a3.1, a3.2, hR26, hrd, rdC, ← hR3, List.getElem?_cons_zero, List.getElem?_cons_succ, pfieldAddr, fieldOf, ty79, fieldIn, ty43, Option.map_some, ne_eq, Nat.succ_ne_zero, not_false_eq_true, Heap.get_put, hpq, gp8, known1, PV.cells, splice, List.take_zero, List.cons_append, List.nil_append, List.drop_nil, List.append_nil, thenQ, true_and]
      have ow7 := Own.over (Own.over ow6 (q := q) (by rw [b3q]; simp) (rdC R3)) (q := p) (by rw [Heap.put_ne _ _ hpq, b3p]; simp) (edC n0 n2 (.list 1 (strL d)) (.list 1 (strL n)))
      have inc7 : Lift.Inc h ((h6.put q (rdC R3)).put p (edC n0 n2 (.list 1 (strL d)) (.list 1 (strL n)))) := Inc.over (Inc.over inc6 hq _) hph _
      have b4q : ((h6.put q (rdC R3)).put p (edC n0 n2 (.list 1 (strL d)) (.list 1 (strL n)))) q = some (rdC R3) := by rw [Heap.put_ne _ _ hqp, Heap.put_same]
      have b4p : ((h6.put q (rdC R3)).put p (edC n0 n2 (.list 1 (strL d)) (.list 1 (strL n)))) p = some (edC n0 n2 (.list 1 (strL d)) (.list 1 (strL n))) := Heap.put_same _ _ _
      rw [show (H6.put q (AObj.cells 97 1 [.str R3])).put p (AObj.cells 79 4 [.int .i64 n0, .int .i64 n2, .list 1 (strL d), .list 1 (strL n)]) = (H6.put q (rdC R3)).put p (edC n0 n2 (.list 1 (strL d)) (.list 1 (strL n))) from rfl]
      generalize (h6.put q (rdC R3)).put p (edC n0 n2 (.list 1 (strL d)) (.list 1 (strL n))) = h7 at ow7 inc7 b4q b4p
      generalize (H6.put q (rdC R3)).put p (edC n0 n2 (.list 1 (strL d)) (.list 1 (strL n))) = H7 at ow7 ⊢
      have gp9 : H7 p = some (.cells 79 4 [.int .i64 n0, .int .i64 n2, .list 1 (strL d), .list 1 (strL n)]) := ow7.base b4p
      obtain ⟨z1, z2⟩ := parse1_size hp1
      have hol : out.length ≤ 1000000 := by have := (szS_len out).1; omega
      refine SW.run [] _ ?_
      simp only [wpC, mayStop, stops, isFlt, Specs.has, Specs.hasO, Bool.or_false, Specs.hasH, Bool.not_false, List.any_cons, List.any_nil, Bool.false_eq_true, ↓reduceIte, wpS, wantedA, okDst, Nat.reduceLT, decide_true, step1, isOwnCall, hxOp, px, AS.eval, AS.get, Lift.look, Option.getD_some, AS.put, dropKey, Nat.reduceEqDiff, reduceCtorEq, pun, Bool.not_true, thenQ, isB, tmpOf, asB, true_and]
      refine SW.run [] _ ?_
      simp only [wpC, Bool.false_eq_true, ↓reduceIte, wpS, stops, wantedA, okDst, Nat.reduceLT, decide_true, step1, isOwnCall, hxOp, px, AS.eval, AS.get, Lift.look, Nat.reduceEqDiff, reduceCtorEq, Option.getD_some, AS.put, dropKey, pload, ty79, gp9, okOne, TK.isAgg, Nat.reduceBEq, Bool.or_false, Nat.zero_add, List.length_cons, List.length_nil, Nat.reduceAdd, Nat.le_refl, and_self, Lift.valOf, List.drop_zero, List.take_succ_cons, List.take_nil, pbuildSlice, ty28, Nat.succ_ne_zero, List.replicate, List.map_cons, ofVal, List.map_nil, List.flatten_cons, List.flatten_nil, List.append_nil, ofConst, pfill, PV.cells, Nat.reduceMul, splice, List.take_zero, List.nil_append, List.drop_succ_cons, List.drop_nil, Nat.reduceLeDiff, okZero, List.all_cons, Value.oneCell', List.all_nil, Bool.and_true, known, chunk, true_and]
      refine SWO.append (.tmp 90) (.tmp 92) 28 28 rfl ty28 rfl ty79 (by decide) rfl ty28 rfl ow7 (ys := [edV ⟨n0, n2, d, n⟩]) rfl (by rw [edL_len]; show (_ + 1) * 64 ≤ _; omega) (by rw [edL_len]; simp [maxLen]; omega) rfl rfl ?_
      intro v8 h8 ow8 _ _
      refine SWO.run [] 1000 ?_
      simp only [wpS, stops, Bool.false_eq_true, ↓reduceIte, wantedA, okDst, AS.put, dropKey, Nat.reduceEqDiff, reduceCtorEq, Nat.reduceLT, decide_true, step1, isOwnCall, hxOp, px, AS.eval, AS.get, Lift.look, Option.getD_some, inQ, thenQ, Nat.succ_ne_zero, and_true, true_and]
      have hsp : 0 < s'.length := List.length_pos_iff.2 hne
      obtain ⟨f', rfl⟩ : ∃ f', f = f' + 1 := ⟨f - 1, by omega⟩
      have hz1 : 1 ≤ szE ⟨n0, n2, d, n⟩ := by unfold szE; omega
      have hsa : szS (out ++ [⟨n0, n2, d, n⟩]) = szS out + szE ⟨n0, n2, d, n⟩ := by unfold szS; simp
      refine ⟨R3.length, by omega, out ++ [⟨n0, n2, d, n⟩], R3, v8, h7, f', rfl, by omega, by omega, ?_, ?_, inc7, b4q, by rw [edL_append]; exact ow8, rfl⟩
      · intro e he
        rcases List.mem_append.1 he with he | he
        · exact hnum e he
        · rw [List.mem_singleton.1 he]; exact z2
      · rw [hpt, parseT_some hne hp1, map_cons_app]
def readR (s : List UInt8) : PV := .tuple [.list 4 (edL (readS s).1), .int .i64 (readS s).2]
theorem Read_ok (s : List UInt8) (hs : s.length ≤ 1000000) (h : Heap) : SCalls env 12 [.str s] h (Ret (readR s) h) := by
  refine (ReadQ_ok s hs h).letGo fun e h' ⟨p, e1, hp, e2⟩ => ?_
  obtain ⟨v, rfl, hv⟩ := hp
  rcases hv with rfl | ⟨rfl, hn⟩
  · exact ⟨_, _, h, e1, by rw [e2]; exact LetGo.refl _ _, rfl, rfl⟩
  · refine ⟨_, _, h, e1, by rw [e2]; exact (Own.nil h 79 4).letGoT _, ?_, rfl⟩
    unfold readR
    rw [hn]
    rfl
def sRead : List PV → Prop × PV
  | [.str s] => (s.length ≤ 1000000, readR s)
  | _ => PBad
noncomputable def eRead : SpecE env := ⟨12, sRead, fun args h hc => by
  unfold sRead at hc ⊢
  split at hc
  · rename_i s; exact .inl (Read_ok s hc h)
  · exact hc.elim⟩
end Go.Proofs.YtincpomenogppaaGreatDoor
