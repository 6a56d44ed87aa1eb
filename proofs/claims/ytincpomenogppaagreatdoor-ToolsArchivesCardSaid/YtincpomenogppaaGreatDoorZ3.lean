/- Contracts of functions that the law reaches. -/
import Derived.Test.YtincpomenogppaaGreatDoorZ2
import Derived.Test.YtincpomenogppaaGreatDoorLiftH
set_option linter.unusedSimpArgs false
set_option linter.unusedVariables false
namespace Go.Proofs.YtincpomenogppaaGreatDoor
open Go Go.RowKit Go.Proofs.YtincpomenogppaaGreatDoor Go.Proofs.YtincpomenogppaaGreatDoor.Lift
set_option maxRecDepth 100000

def arrK (k : Nat) (ws : List (List UInt8)) (i : Nat) : List PV := (ws.take i).map (fun w => PV.int .i64 (atoiR w)) ++ List.replicate (k - i) (.int .i64 0)
theorem arrK_len {k : Nat} {ws : List (List UInt8)} {i : Nat} (hl : ws.length = k) (h : i ≤ k) : (arrK k ws i).length = k := by
  unfold arrK
  rw [List.length_append, List.length_map, List.length_take, List.length_replicate]; omega
theorem arrK_set {k : Nat} {ws : List (List UInt8)} {i : Nat} (hl : ws.length = k) (h : i < ws.length) : List.take i (arrK k ws i) ++ [.int .i64 (atoiR ws[i])] ++ List.drop (i + 1) (arrK k ws i) = arrK k ws (i + 1) := by
  have h1 : ((ws.take i).map (fun w => PV.int .i64 (atoiR w))).length = i := by rw [List.length_map, List.length_take]; omega
  have h2 : k - i = (k - (i + 1)) + 1 := by omega
  unfold arrK
  rw [List.take_left' h1, List.drop_append, h1, List.drop_of_length_le (by omega), List.take_succ_eq_append_getElem h, List.map_append, h2, List.replicate_succ, show i + 1 - i = 1 by omega]
  simp
def unpQ (s : List UInt8) (p : PV) : Prop := ∃ v, p = .tuple [v, .int .i64 (unpS s).2] ∧ (v = .list 4 (mbL (unpS s).1) ∨ (v = .val (.slice none 0 0) ∧ (unpS s).1 = []))
theorem mbL_append (a b : List Mb) : mbL (a ++ b) = mbL a ++ mbL b := List.map_append
theorem WrongOwn_ok {h0 H : Heap} {t : TypeId} {v : PV} (l : List Mb) (e : Mb) (n : Int) (ow : Own h0 t 4 (mbL l) v H) (hl : l.length ≤ 1000000) (hn : e.n.length ≤ 1000000000) : SCalls env 82 [v, .agg (mbV e), .int .i64 n] H (Ret (.int .i64 (wrongS l e n)) H) :=
  SCalls.lendOwn [] [.agg (mbV e), .int .i64 n] (Wrong_ok l e n hl hn noHeap) (plain_int _ _) ow
set_option maxHeartbeats 16000000 in
set_option maxRecDepth 100000 in
theorem UnpackQ_ok (s : List UInt8) (hs : s.length ≤ 1000000) (h : Heap) : SCalls env 31 [.str s] h (fun en h' => ∃ p, en = .ret p ∧ unpQ s p ∧ h' = h) := by
  refine SCalls.body Tryz.func31 rfl rfl (by simp [Tryz.ntmps31]) ?_
  obtain ⟨Q, hQ⟩ : ∃ Q : PV → Prop, Q = unpQ s := ⟨_, rfl⟩
  rw [← hQ]
  have hbad : ∀ e, (unpS s = ([], e)) → Q (.tuple [.val (.slice none 0 0), .int .i64 e]) := fun e k => by
    rw [hQ]; unfold unpQ; rw [k]; exact ⟨_, rfl, .inr ⟨rfl, rfl⟩⟩
  have hmg : ([33, 97, 99, 104, 101, 114, 111, 110, 10] : List UInt8) = magicS := rfl
  refine SW.seq (SW.run [] _ ?_)
  simp only [wpC, Bool.false_eq_true, ↓reduceIte, wpS, stops, wantedA, okDst, Tryz.ntmps31, Nat.reduceLT, decide_true, step1, isOwnCall, hxOp, px, AS.eval, ofConst, ofVal, AS.put, enumA, dropKey, reduceCtorEq, thenQ, Nat.reduceEqDiff, true_and]
  refine SW.seq (SW.run [eCutPrefix] _ ?_)
  simp only [wpC, Bool.false_eq_true, ↓reduceIte, wpS, stops, wantedA, okDst, Nat.reduceLT, decide_true, step1, isOwnCall, hxOp, px, AS.eval, AS.get, Lift.look, Nat.succ_ne_zero, Option.getD_some, Specs.has, eCutPrefix, Specs.hasO, Bool.or_false, Specs.hasH, Bool.not_true, AS.put, dropKey, Nat.reduceEqDiff, reduceCtorEq, pcall, okArg, ofConst, ofVal, List.all_cons, List.all_nil, Bool.and_true, Specs.at, List.map_cons, List.map_nil, sCutPrefix, and_self, List.getElem?_cons_zero, List.getElem?_cons_succ, thenQ, true_and]
  rw [hmg]
  refine SW.seq (SW.run [] _ ?_)
  cases hp : prefixS s magicS
  · have hrs : unpS s = ([], 2) := by unfold unpS; rw [hp]; rfl
    simp only [wpC, mayStop, stops, isFlt, Specs.has, Specs.hasO, Bool.or_false, Specs.hasH, Bool.not_false, List.any_cons, List.any_nil, Bool.false_eq_true, ↓reduceIte, wpS, wantedA, okDst, Nat.reduceLT, decide_true, step1, isOwnCall, hxOp, px, AS.eval, AS.get, Lift.look, Option.getD_some, AS.put, dropKey, Nat.reduceEqDiff, reduceCtorEq, pun, thenQ, isB, tmpOf, asB, ofConst, ofVal, RPost, sres, Tryz.results31, sresL, sres1, Option.some.injEq, exists_eq_left', true_and]
    exact ⟨h, .refl _ _, _, rfl, hbad _ hrs, rfl⟩
  have hcp : cutP s magicS = s.drop 9 := by unfold cutP; rw [hp]; rfl
  have hrs : unpS s = unpF (s.length + 1) [] (s.drop 9) := by unfold unpS; rw [hp]; rfl
  have hdl : (s.drop 9).length ≤ s.length := by rw [List.length_drop]; omega
  simp only [wpC, mayStop, stops, isFlt, Specs.has, Specs.hasO, Bool.or_false, Specs.hasH, Bool.not_false, List.any_cons, List.any_nil, Bool.false_eq_true, ↓reduceIte, wpS, wantedA, okDst, Nat.reduceLT, decide_true, step1, isOwnCall, hxOp, px, AS.eval, AS.get, Lift.look, Option.getD_some, AS.put, dropKey, Nat.reduceEqDiff, hcp, reduceCtorEq, pun, Bool.not_true, thenQ, isB, tmpOf, asB, true_and]
  generalize s.drop 9 = s0 at hrs hdl ⊢
  refine SW.seq (SW.run [] _ ?_)
  simp only [wpC, Bool.false_eq_true, ↓reduceIte, wpS, stops, wantedA, okDst, Nat.reduceLT, decide_true, step1, isOwnCall, hxOp, px, AS.eval, ofConst, ofVal, thenQ, AS.put, dropKey, Nat.reduceEqDiff, reduceCtorEq, true_and]
  refine SW.seq (SW.block (SW.loop (fun bb st => ∃ (out : List Mb) (s' : List UInt8) (v : PV) (h1 : Heap) (f : Nat), s'.length = bb ∧ s'.length ≤ f ∧ out.length + s'.length ≤ s.length ∧ unpS s = unpF (f + 1) out s' ∧ Lift.Inc h h1 ∧ Own h1 58 4 (mbL out) v st.h ∧ st.n = 97 ∧ hasAll st [(4, .str s'), (6, v)]) s0.length ⟨[], s0, .val (.slice none 0 0), h, s.length, rfl, hdl, by show 0 + _ ≤ _; omega, hrs, incSelf h, Own.nil _ _ _, rfl, ?_⟩ ?_))
  · simp only [hasAll, AS.get, Lift.look, Nat.reduceEqDiff, ↓reduceIte, Option.getD_some, and_self]
  clear hrs hdl hcp hp hmg
  rintro bb st ⟨out, s', v, h1, f, hbb, hf, hsz, hrs, inc, ow, hn', hs'⟩
  refine SW.norm ⟨hn', rfl, hs'⟩ ?_
  generalize st.h = H at ow
  clear hn' hs'
  refine SW.seq (SW.run [] _ ?_)
  by_cases hne : s' = []
  · have hb0 : (s' == ([] : List UInt8)) = true := by rw [hne]; rfl
    rw [hne, unpF_nil] at hrs
    simp only [wpC, mayStop, stops, isFlt, Specs.has, Specs.hasO, Bool.or_false, Specs.hasH, Bool.not_false, List.any_cons, List.any_nil, Bool.false_eq_true, ↓reduceIte, wpS, wantedA, okDst, Nat.reduceLT, decide_true, step1, isOwnCall, hxOp, px, AS.eval, AS.get, Lift.look, Option.getD_some, AS.put, dropKey, Nat.reduceEqDiff, isNilC, pbinP, ofConst, ofVal, pbinS, hb0, Bool.not_true, thenQ, isB, tmpOf, asB, inQ, true_and]
    refine SW.own_let 6 rfl ow ?_
    refine SW.seq (SW.run [] _ ?_)
    simp only [wpC, Bool.false_eq_true, ↓reduceIte, wpS, stops, wantedA, okDst, AS.put, dropKey, Nat.reduceEqDiff, Nat.reduceLT, decide_true, step1, isOwnCall, hxOp, px, AS.eval, AS.get, Lift.look, Option.getD_some, ofConst, ofVal, thenQ, true_and]
    refine SW.run [] _ ?_
    simp only [wpC, RPost, sres, Tryz.results31, sresL, sres1, AS.get, Lift.look, Nat.reduceEqDiff, ↓reduceIte, Option.getD_some, Option.some.injEq, exists_eq_left']
    refine ⟨h, Inc.to inc, _, rfl, ?_, rfl⟩
    rw [hQ]; unfold unpQ; rw [hrs]
    exact ⟨_, rfl, .inl rfl⟩
  have hb0 : (s' == ([] : List UInt8)) = false := by simpa using hne
  have hl9 : s'.length ≤ 9000000000000000000 := by omega
  obtain ⟨c1, c2, c3⟩ := cutB_len 10 s'
  obtain ⟨f, rfl⟩ : ∃ f', f = f' + 1 := ⟨f - 1, by have := List.length_pos_iff.2 hne; omega⟩
  have incH : Lift.Inc h H := fun k X ek => ow.inc k X (inc k X ek)
  have hfail : ∀ e, unp1 out s' = .inr e → unpS s = ([], e) := fun e k => by rw [hrs, unpF_err hne k]
  simp only [wpC, mayStop, stops, isFlt, Specs.has, Specs.hasO, Bool.or_false, Specs.hasH, Bool.not_false, List.any_cons, List.any_nil, Bool.false_eq_true, ↓reduceIte, wpS, wantedA, okDst, Nat.reduceLT, decide_true, step1, isOwnCall, hxOp, px, AS.eval, AS.get, Lift.look, Option.getD_some, AS.put, dropKey, Nat.reduceEqDiff, isNilC, pbinP, ofConst, ofVal, pbinS, hb0, thenQ, isB, tmpOf, asB, hasAll, and_true, true_and]
  refine SW.block (SW.seq (SW.run [eCut] _ ?_))
  simp only [wpC, Bool.false_eq_true, ↓reduceIte, wpS, stops, wantedA, okDst, Nat.reduceLT, decide_true, step1, isOwnCall, hxOp, px, AS.eval, AS.get, Lift.look, Nat.reduceEqDiff, Option.getD_some, Specs.has, eCut, Specs.hasO, Bool.or_false, Specs.hasH, Bool.not_true, AS.put, dropKey, pcall, okArg, ofConst, ofVal, List.all_cons, List.all_nil, Bool.and_true, Specs.at, List.map_cons, List.map_nil, sCut, hl9, cutR, and_self, List.getElem?_cons_zero, List.getElem?_cons_succ, thenQ, true_and]
  refine SW.seq (SW.run [] _ ?_)
  cases b1 : (cutB 10 s').2.2
  · have hr := hfail 16 (by unfold unp1; rw [b1]; rfl)
    simp only [wpC, mayStop, stops, isFlt, Specs.has, Specs.hasO, Bool.or_false, Specs.hasH, Bool.not_false, List.any_cons, List.any_nil, Bool.false_eq_true, ↓reduceIte, wpS, wantedA, okDst, Nat.reduceLT, decide_true, step1, isOwnCall, hxOp, px, AS.eval, AS.get, Lift.look, Option.getD_some, AS.put, dropKey, Nat.reduceEqDiff, pun, thenQ, isB, tmpOf, asB, ofConst, ofVal, inQ, RPost, sres, Tryz.results31, sresL, sres1, Option.some.injEq, exists_eq_left', true_and]
    exact ⟨h, Inc.to incH, _, rfl, hbad _ hr, rfl⟩
  have c3 := c3 b1
  simp only [wpC, mayStop, stops, isFlt, Specs.has, Specs.hasO, Bool.or_false, Specs.hasH, Bool.not_false, List.any_cons, List.any_nil, Bool.false_eq_true, ↓reduceIte, wpS, wantedA, okDst, Nat.reduceLT, decide_true, step1, isOwnCall, hxOp, px, AS.eval, AS.get, Lift.look, Option.getD_some, AS.put, dropKey, Nat.reduceEqDiff, pun, Bool.not_true, thenQ, isB, tmpOf, asB, true_and]
  have hcl : (cutB 10 s').1.length ≤ 1000000 := by omega
  refine SW.seq (SW.run [eSplit] _ ?_)
  simp only [wpC, Bool.false_eq_true, ↓reduceIte, wpS, stops, wantedA, okDst, Nat.reduceLT, decide_true, step1, isOwnCall, hxOp, px, AS.eval, AS.get, Lift.look, Nat.reduceEqDiff, Option.getD_some, Specs.has, eSplit, Specs.hasO, Bool.or_false, Specs.hasH, Bool.not_true, AS.put, dropKey, pcall, okArg, ofConst, ofVal, List.all_cons, List.all_nil, Bool.and_true, Specs.at, List.map_cons, List.map_nil, sSplit, hcl, and_self, thenQ, true_and]
  have hu1 : unp1 out s' = (match hdA (cutB 10 s').1 with
      | none => .inr 2
      | some (a, x, y, z) =>
        if wrongS out ⟨a, x, y, []⟩ z ≠ 0 then .inr (wrongS out ⟨a, x, y, []⟩ z) else
        if ((cutB 10 s').2.1.length : Int) ≤ z then .inr 16 else
        if (cutB 10 s').2.1.getD z.toNat 0 ≠ 10 then .inr 2 else .inl (⟨a, x, y, (cutB 10 s').2.1.take z.toNat⟩, (cutB 10 s').2.1.drop (z.toNat + 1))) := by
    conv => lhs; unfold unp1
    rw [b1]; rfl
  have hhd : hdA (cutB 10 s').1 = (if (splitG 32 0 (cutB 10 s').1).length = 4 ∧ ((splitG 32 0 (cutB 10 s').1).drop 1).all numB = true then some ((splitG 32 0 (cutB 10 s').1).getD 0 [], atoiR ((splitG 32 0 (cutB 10 s').1).getD 1 []), atoiR ((splitG 32 0 (cutB 10 s').1).getD 2 []), atoiR ((splitG 32 0 (cutB 10 s').1).getD 3 [])) else none) := rfl
  have hwsh : ∀ w ∈ splitG 32 0 (cutB 10 s').1, w.length ≤ 1000000 := fun w hw => by
    have := splitG_short 32 _ w hw
    omega
  generalize hdA (cutB 10 s').1 = D at hu1 hhd
  generalize splitG 32 0 (cutB 10 s').1 = ws at hhd hwsh ⊢
  obtain ⟨B, hB⟩ : ∃ B, B = (cutB 10 s').2.1 := ⟨_, rfl⟩
  rw [← hB] at hu1 c2 c3 ⊢
  have hw4 : (((ws.length : Nat) : Int) != 4) = !decide (ws.length = 4) := by
    by_cases k : ws.length = 4
    · rw [k]; rfl
    · simp [k]; omega
  have hbad2 : D = none → unpS s = ([], 2) := fun k => hfail 2 (by rw [hu1, k])
  refine SW.seq (SW.run [] _ ?_)
  by_cases hwl : ws.length = 4
  case neg =>
    have hr := hbad2 (by rw [hhd, if_neg (fun k => hwl k.1)])
    simp only [wpC, mayStop, stops, isFlt, Specs.has, Specs.hasO, Bool.or_false, Specs.hasH, Bool.not_false, List.any_cons, List.any_nil, Bool.false_eq_true, ↓reduceIte, wpS, wantedA, okDst, Nat.reduceLT, decide_true, step1, isOwnCall, hxOp, px, AS.eval, AS.get, Lift.look, Option.getD_some, AS.put, dropKey, Nat.reduceEqDiff, pcall, ty43, plen, strL_len, okLen, and_self, isNilC, pbinP, ofConst, ofVal, pbinI, hw4, hwl, decide_false, thenQ, isB, tmpOf, asB, inQ, RPost, sres, Tryz.results31, sresL, sres1, Option.some.injEq, exists_eq_left', true_and]
    exact ⟨h, Inc.to incH, _, rfl, hbad _ hr, rfl⟩
  simp only [wpC, mayStop, stops, isFlt, Specs.has, Specs.hasO, Bool.or_false, Specs.hasH, Bool.not_false, List.any_cons, List.any_nil, Bool.false_eq_true, ↓reduceIte, wpS, wantedA, okDst, Nat.reduceLT, decide_true, step1, isOwnCall, hxOp, px, AS.eval, AS.get, Lift.look, Option.getD_some, AS.put, dropKey, Nat.reduceEqDiff, pcall, ty43, plen, strL_len, hwl, okLen, and_self, Int.cast_ofNat_Int, isNilC, pbinP, ofConst, ofVal, pbinI, Int.reduceBNe, thenQ, isB, tmpOf, asB, true_and]
  refine SW.enter (n := 97) (l := [(6, v), (8, .str B), (10, .list 1 (strL ws))]) (H := H) rfl (.refl _ _) (by simp only [hasAll, AS.get, Lift.look, Nat.reduceEqDiff, ↓reduceIte, Option.getD_some, and_self]) ?_
  refine SW.seq (SW.run [] _ ?_)
  simp only [wpC, Bool.false_eq_true, ↓reduceIte, wpS, stops, wantedA, okDst, Nat.reduceLT, decide_true, step1, okAlloc, ty120, okZero, List.all_cons, Value.oneCell', List.all_nil, Bool.and_true, thenQ, AS.put, dropKey, Nat.reduceEqDiff, zeroOf, List.map_cons, ofVal, List.map_nil, List.length_cons, List.length_nil, Nat.zero_add, Nat.reduceAdd, true_and]
  intro r hr
  obtain ⟨ws1, hws1⟩ : ∃ ws1, ws1 = ws.drop 1 := ⟨_, rfl⟩
  have hwsh1 : ∀ w ∈ ws1, w.length ≤ 1000000 := fun w hw => hwsh w (List.mem_of_mem_drop (by rw [hws1] at hw; exact hw))
  have hl3 : ws1.length = 3 := by rw [hws1, List.length_drop]; omega
  refine SW.seq (SW.seq (SW.run [] _ ?_))
  have h14 : (1 : Int) ≤ ((ws.length : Nat) : Int) := by omega
  have hdr : List.drop 1 (strL ws) = strL ws1 := by rw [hws1, strL_drop]
  simp only [wpC, Bool.false_eq_true, ↓reduceIte, wpS, stops, wantedA, okDst, Nat.reduceLT, decide_true, step1, isOwnCall, hxOp, px, AS.eval, AS.get, Lift.look, Nat.reduceEqDiff, Option.getD_some, AS.put, dropKey, pslice, ty43, ty9, pB, ofConst, ofVal, strL_len, hwl, Int.cast_ofNat_Int, Int.reduceLE, and_self, Int.reduceToNat, pcall, plen, List.length_drop, List.length_take, okLen, thenQ, true_and]
  have htk : List.take 4 (strL ws) = strL ws := by rw [List.take_of_length_le (by rw [strL_len]; omega)]
  rw [htk, hdr, show ((min 4 4 - 1 : Nat) : Int) = 3 from rfl]
  refine SW.block (SW.loopK 97 (fun i : Nat => [(6, v), (8, .str B), (10, .list 1 (strL ws)), (11, .val (.pointer (some ⟨r, 0, none⟩))), (39, .list 1 (strL ws1)), (40, .int .i64 3), (41, .int .i64 (i : Nat))]) (fun i => H.put r (.cells 120 3 (arrK 3 ws1 i))) (fun i => i ≤ 3 ∧ (ws1.take i).all numB = true) (fun i => 3 - i) 0 ⟨by omega, rfl⟩ ?_ ?_)
  · simp only [Has, hasAll, AS.get, Lift.look, Nat.reduceEqDiff, ↓reduceIte, Option.getD_some, Int.cast_ofNat_Int, and_self, and_true, true_and]
    rfl
  rintro i ⟨hi, hall⟩
  refine SW.seq (SW.run [] _ ?_)
  by_cases hlt : i < 3
  · have hw : IntKind.i64.wrap ((i : Int) + 1) = ((i + 1 : Nat) : Int) := by rw [w64 (by omega) (by omega)]; rfl
    have hlw : i < ws1.length := by omega
    have hg := strL_at hlw
    have hws9 : ws1[i].length ≤ 281474976710656 := by have := hwsh1 _ (List.getElem_mem hlw); omega
    have hset := arrK_set hl3 hlw
    have hlt' : (i : Int) < 3 := by omega
    simp only [wpC, Bool.false_eq_true, ↓reduceIte, wpS, stops, wantedA, okDst, Nat.reduceLT, decide_true, step1, isOwnCall, hxOp, px, isNilC, pbinP, AS.eval, AS.get, Lift.look, Nat.reduceEqDiff, Option.getD_some, pbinI, hlt', thenQ, Has, hasAll, and_true, AS.put, dropKey, true_and]
    refine SW.seq (SW.run [] _ ?_)
    simp only [wpC, isB, AS.get, Lift.look, tmpOf, ↓reduceIte, Option.getD_some, asB, thenQ, true_and]
    refine SW.seq (SW.block (SW.seq (SW.run [] _ ?_)))
    simp only [wpC, Bool.false_eq_true, ↓reduceIte, wpS, stops, wantedA, okDst, Nat.reduceLT, decide_true, step1, isOwnCall, hxOp, px, AS.eval, AS.get, Lift.look, Nat.reduceEqDiff, Option.getD_some, AS.put, dropKey, pindexAddr, ty43, ty9, ne_eq, Nat.succ_ne_zero, not_false_eq_true, Int.natCast_nonneg, Int.toNat_natCast, strL_len, hlw, and_self, hg, pload, okOne, TK.isAgg, beq_self_eq_true, Bool.or_true, List.length_cons, List.length_nil, Nat.zero_add, Nat.le_refl, Lift.valOf, List.take_succ_cons, List.take_nil, List.getD_cons_zero, thenQ, true_and]
    refine SW.seq (SW.run [eNumber] _ ?_)
    have hal := arrK_len hl3 hi
    have hal2 : i * 1 + 1 ≤ (arrK 3 ws1 i).length := by omega
    simp only [wpC, Bool.false_eq_true, ↓reduceIte, wpS, stops, wantedA, okDst, Nat.reduceLT, decide_true, step1, isOwnCall, hxOp, px, AS.eval, AS.get, Lift.look, Nat.reduceEqDiff, Option.getD_some, AS.put, dropKey, Specs.has, eNumber, Specs.hasO, Bool.or_false, Specs.hasH, Bool.not_true, pcall, okArg, ofConst, ofVal, List.all_cons, List.all_nil, Bool.and_true, Specs.at, List.map_cons, List.map_nil, sNumber, hws9, and_self, List.getElem?_cons_zero, List.getElem?_cons_succ, pindexAddr, ty120, ty3, Int.natCast_nonneg, Int.cast_ofNat_Int, hlt', Int.toNat_natCast, Nat.zero_add, hx, Heap.get_put, known1, PV.cells, List.length_cons, List.length_nil, hal2, splice, thenQ, true_and]
    have hput : List.take (i * 1) (arrK 3 ws1 i) ++ [.int .i64 (atoiR ws1[i])] ++ List.drop (i * 1 + 1) (arrK 3 ws1 i) = arrK 3 ws1 (i + 1) := by rw [Nat.mul_one]; exact hset
    rw [Heap.put_put, hput]
    refine SW.run [] _ ?_
    cases hb : numB ws1[i]
    · have hre := hbad2 (by
        rw [hhd, if_neg]
        rintro ⟨_, k⟩
        rw [← hws1, List.all_eq_true] at k
        have := k _ (List.getElem_mem hlw)
        rw [hb] at this; cases this)
      simp only [wpC, mayStop, stops, isFlt, Specs.has, Specs.hasO, Bool.or_false, Specs.hasH, Bool.not_false, List.any_cons, List.any_nil, Bool.false_eq_true, ↓reduceIte, wpS, wantedA, okDst, Nat.reduceLT, decide_true, step1, isOwnCall, hxOp, px, AS.eval, AS.get, Lift.look, Option.getD_some, AS.put, dropKey, Nat.reduceEqDiff, pun, thenQ, isB, tmpOf, asB, ofConst, ofVal, inQ, RPost, sres, Tryz.results31, sresL, sres1, Option.some.injEq, exists_eq_left', true_and]
      exact ⟨h, Inc.to (Inc.over incH (incFresh incH hr) _), _, rfl, hbad _ hre, rfl⟩
    · simp only [wpC, mayStop, stops, isFlt, Specs.has, Specs.hasO, Bool.or_false, Specs.hasH, Bool.not_false, List.any_cons, List.any_nil, Bool.false_eq_true, ↓reduceIte, wpS, wantedA, okDst, Nat.reduceLT, decide_true, step1, isOwnCall, hxOp, px, AS.eval, AS.get, Lift.look, Option.getD_some, AS.put, dropKey, Nat.reduceEqDiff, pun, Bool.not_true, thenQ, isB, tmpOf, asB, inQ, true_and]
      refine SW.run [] _ ?_
      simp only [wpC, Bool.false_eq_true, ↓reduceIte, wpS, stops, isFlt, ty3, wantedA, okDst, Nat.reduceLT, decide_true, step1, isOwnCall, hxOp, px, isNilC, pbinP, AS.eval, AS.get, Lift.look, Nat.reduceEqDiff, Option.getD_some, ofConst, ofVal, pbinI, hw, AS.put, dropKey, thenQ, true_and]
      exact ⟨i + 1, ⟨by omega, by rw [List.take_succ_eq_append_getElem hlw, List.all_append, hall]; simp [hb]⟩, by omega, rfl, rfl⟩
  have hi3 : i = 3 := by omega
  subst hi3
  rw [List.take_of_length_le (by omega)] at hall
  obtain ⟨wa, w1, w2, w3, rfl⟩ : ∃ wa w1 w2 w3, ws = [wa, w1, w2, w3] := by
    match ws, hwl with
    | [a, b, c, d], _ => exact ⟨a, b, c, d, rfl⟩
  have hws1 : ws1 = [w1, w2, w3] := hws1
  subst hws1
  have hwa : wa.length ≤ 1000000 := hwsh wa (List.mem_cons_self ..)
  have hD : D = some (wa, atoiR w1, atoiR w2, atoiR w3) := by rw [hhd, if_pos ⟨rfl, hall⟩]; rfl
  have hn : inR (atoiR w1) ∧ inR (atoiR w2) ∧ inR (atoiR w3) := by
    simp only [List.all_cons, List.all_nil, Bool.and_true, Bool.and_eq_true] at hall
    exact ⟨(numB_inv hall.1).1, (numB_inv hall.2.1).1, (numB_inv hall.2.2).1⟩
  obtain ⟨hx, hy, hz⟩ := hn
  have harr : arrK 3 [w1, w2, w3] 3 = [.int .i64 (atoiR w1), .int .i64 (atoiR w2), .int .i64 (atoiR w3)] := rfl
  rw [harr]
  clear harr hall hhd hbad2 hwsh hwsh1 htk hdr h14 hw4
  generalize atoiR w1 = x at *
  generalize atoiR w2 = y at *
  generalize atoiR w3 = z at *
  rw [hD] at hu1
  clear hD
  have hu1 : unp1 out s' = if wrongS out ⟨wa, x, y, []⟩ z ≠ 0 then .inr (wrongS out ⟨wa, x, y, []⟩ z) else
        if (B.length : Int) ≤ z then .inr 16 else
        if B.getD z.toNat 0 ≠ 10 then .inr 2 else .inl (⟨wa, x, y, B.take z.toNat⟩, B.drop (z.toNat + 1)) := hu1
  have ow2 := Own.putx ow hr (.cells 120 3 [.int .i64 x, .int .i64 y, .int .i64 z])
  have hr1 : h1 r = none := incFresh ow.inc hr
  have inc2 : Lift.Inc h (h1.put r (.cells 120 3 [.int .i64 x, .int .i64 y, .int .i64 z])) := Inc.over inc (incFresh inc hr1) _
  have gr1 : (h1.put r (.cells 120 3 [.int .i64 x, .int .i64 y, .int .i64 z])) r = some (.cells 120 3 [.int .i64 x, .int .i64 y, .int .i64 z]) := Heap.put_same _ _ _
  generalize h1.put r (.cells 120 3 [.int .i64 x, .int .i64 y, .int .i64 z]) = h2 at ow2 inc2 gr1
  generalize H.put r (.cells 120 3 [.int .i64 x, .int .i64 y, .int .i64 z]) = H2 at ow2 ⊢
  have gr2 := ow2.base gr1
  simp only [wpC, Bool.false_eq_true, ↓reduceIte, wpS, stops, wantedA, okDst, Nat.reduceLT, decide_true, step1, isOwnCall, hxOp, px, isNilC, pbinP, AS.eval, AS.get, Lift.look, Nat.reduceEqDiff, Int.cast_ofNat_Int, Option.getD_some, pbinI, Int.reduceLT, decide_false, thenQ, Nat.reduceSub, Has, hasAll, and_true, AS.put, dropKey, true_and]
  refine SW.seq (SW.run [] _ ?_)
  simp only [wpC, isB, AS.get, Lift.look, tmpOf, ↓reduceIte, Option.getD_some, asB, Bool.false_eq_true, thenQ, inQ, true_and]
  refine SW.enter (n := 97) (l := [(6, v), (8, .str B), (10, .list 1 (strL [wa, w1, w2, w3])), (11, .val (.pointer (some ⟨r, 0, none⟩)))]) (H := H2) rfl (.refl _ _) (by simp only [hasAll, AS.get, Lift.look, Nat.reduceEqDiff, ↓reduceIte, Option.getD_some, and_self]) ?_
  have hg0 : (strL [wa, w1, w2, w3]).getD 0 [] = [.str wa] := rfl
  have hgl : (strL [wa, w1, w2, w3]).length = 4 := rfl
  generalize strL [wa, w1, w2, w3] = WS at hg0 hgl ⊢
  refine SW.seq (SW.regionAny [] [[0, 1, 2, 3, 4, 5, 6, 7, 8, 9]] rfl (by rfl) (by kernel_rfl) ?_)
  simp only [wpOL, wpO, LOp, List.getElem?_toArray, List.getElem?_cons_zero, okDst, Nat.reduceLT, decide_true, wantedA, ↓reduceIte, step1, isOwnCall, Bool.false_eq_true, hxOp, px, AS.eval, AS.get, Lift.look, Nat.reduceEqDiff, Option.getD_some, List.getElem?_cons_succ, AS.put, dropKey, pindexAddr, ty43, ty9, ofConst, ofVal, ne_eq, Nat.succ_ne_zero, not_false_eq_true, Int.reduceLE, Int.reduceToNat, hgl, and_self, hg0, pload, okOne, TK.isAgg, beq_self_eq_true, Bool.or_true, List.length_cons, List.length_nil, Nat.zero_add, Nat.le_refl, Lift.valOf, List.take_succ_cons, List.take_nil, List.getD_cons_zero, ty120, ty3, Int.cast_ofNat_Int, Int.reduceLT, Nat.reduceMul, Nat.add_zero, gr2, Nat.reduceAdd, Nat.reduceLeDiff, List.drop_zero, List.take_zero, List.drop_succ_cons, pbuild, ty58, List.map_cons, List.map_nil, pfill, placeOf, Option.map_some, PV.cells, splice, List.nil_append, List.cons_append, List.all_cons, Option.isSome_some, List.all_nil, Bool.and_true, okZero, Value.oneCell', known, okAlloc, Lift.hx, zeroOf, Heap.get_put, known1, List.drop_nil, List.append_nil, thenQ, true_and]
  intro p hp
  rw [Heap.put_put]
  have hpr : ¬ p = r := fun e => by subst e; rw [gr2] at hp; cases hp
  have hrp : ¬ r = p := fun e => hpr e.symm
  have ow3 := Own.putx ow2 hp (.cells 58 4 [.str wa, .int .i64 x, .int .i64 y, .str []])
  have hp2 : h2 p = none := incFresh ow2.inc hp
  have hph : h p = none := incFresh inc2 hp2
  have inc3 : Lift.Inc h (h2.put p (.cells 58 4 [.str wa, .int .i64 x, .int .i64 y, .str []])) := Inc.over inc2 hph _
  have gp3 : (h2.put p (.cells 58 4 [.str wa, .int .i64 x, .int .i64 y, .str []])) p = some (.cells 58 4 [.str wa, .int .i64 x, .int .i64 y, .str []]) := Heap.put_same _ _ _
  have gr3 : (h2.put p (.cells 58 4 [.str wa, .int .i64 x, .int .i64 y, .str []])) r = some (.cells 120 3 [.int .i64 x, .int .i64 y, .int .i64 z]) := by rw [Heap.put_ne _ _ hrp]; exact gr1
  generalize h2.put p (.cells 58 4 [.str wa, .int .i64 x, .int .i64 y, .str []]) = h3 at ow3 inc3 gp3 gr3
  generalize H2.put p (.cells 58 4 [.str wa, .int .i64 x, .int .i64 y, .str []]) = H3 at ow3 ⊢
  have gp4 := ow3.base gp3
  have gr4 := ow3.base gr3
  have incH3 : Lift.Inc h H3 := fun k X ek => ow3.inc k X (inc3 k X ek)
  clear ow ow2 inc2 gr1 gr2 hr1 hp2 inc
  refine SW.enter (n := 97) (l := [(6, v), (8, .str B), (11, .val (.pointer (some ⟨r, 0, none⟩))), (14, .val (.pointer (some ⟨p, 0, none⟩)))]) (H := H3) rfl (.refl _ _) (by simp only [hasAll, AS.get, Lift.look, Nat.reduceEqDiff, ↓reduceIte, Option.getD_some, and_self]) ?_
  refine SW.seq (SW.seq (SW.run [] _ ?_))
  simp only [wpC, Bool.false_eq_true, ↓reduceIte, wpS, stops, wantedA, okDst, Nat.reduceLT, decide_true, step1, isOwnCall, hxOp, px, AS.eval, AS.get, Lift.look, Option.getD_some, AS.put, dropKey, Nat.reduceEqDiff, pload, ty58, gp4, okOne, TK.isAgg, Nat.reduceBEq, Bool.or_false, Nat.zero_add, List.length_cons, List.length_nil, Nat.reduceAdd, Nat.le_refl, and_self, Lift.valOf, List.drop_zero, List.take_succ_cons, List.take_nil, pindexAddr, ty120, ty3, ofConst, ofVal, Int.reduceLE, Int.cast_ofNat_Int, Int.reduceLT, Int.reduceToNat, Nat.reduceMul, gr4, beq_self_eq_true, Bool.or_true, List.drop_succ_cons, List.getD_cons_zero, Specs.has, Specs.hasO, Specs.hasH, Bool.not_false, true_and]
  obtain ⟨A0, N0, rfl⟩ := ow3.slice
  refine SWO.callRet (.func 82) #[.tmp 64, .tmp 65, .tmp 67] _ 82 #[] #[] rfl rfl rfl rfl rfl rfl (WrongOwn_ok out ⟨wa, x, y, []⟩ z ow3 (by omega) (by show wa.length ≤ _; omega)) rfl rfl ?_
  refine SWO.run [] 1000 ?_
  simp only [wpS, stops, Bool.false_eq_true, ↓reduceIte, wantedA, okDst, AS.put, dropKey, Nat.reduceEqDiff, Nat.reduceLT, decide_true, step1, isOwnCall, hxOp, px, AS.eval, AS.get, Lift.look, Option.getD_some, thenQ, true_and]
  generalize wrongS out ⟨wa, x, y, []⟩ z = W at hu1 ⊢
  refine SW.run [] _ ?_
  by_cases h0 : W = 0
  case neg =>
    have h0' : (W != 0) = true := by simpa using h0
    have hre := hfail W (by rw [hu1, if_pos h0])
    simp only [wpC, mayStop, stops, isFlt, Specs.has, Specs.hasO, Bool.or_false, Specs.hasH, Bool.not_false, List.any_cons, List.any_nil, Bool.false_eq_true, ↓reduceIte, wpS, wantedA, okDst, Nat.reduceLT, decide_true, step1, isOwnCall, hxOp, px, AS.eval, AS.get, Lift.look, Option.getD_some, AS.put, dropKey, Nat.reduceEqDiff, isNilC, pbinP, ofConst, ofVal, pbinI, h0', thenQ, isB, tmpOf, asB, inQ, RPost, sres, Tryz.results31, sresL, sres1, Option.some.injEq, exists_eq_left', true_and]
    exact ⟨h, Inc.to incH3, _, rfl, hbad _ hre, rfl⟩
  subst h0
  rw [if_neg (by simp)] at hu1
  simp only [wpC, mayStop, stops, isFlt, Specs.has, Specs.hasO, Bool.or_false, Specs.hasH, Bool.not_false, List.any_cons, List.any_nil, Bool.false_eq_true, ↓reduceIte, wpS, wantedA, okDst, Nat.reduceLT, decide_true, step1, isOwnCall, hxOp, px, AS.eval, AS.get, Lift.look, Option.getD_some, AS.put, dropKey, Nat.reduceEqDiff, isNilC, pbinP, ofConst, ofVal, pbinI, bne_self_eq_false, thenQ, isB, tmpOf, asB, true_and]
  obtain ⟨zn, rfl, hzn⟩ := inR_nat hz
  rw [Int.toNat_natCast] at hu1
  refine SW.seq (SW.run [] _ ?_)
  by_cases hle : ((B.length : Nat) : Int) ≤ ((zn : Nat) : Int)
  · have hre := hfail 16 (by rw [hu1, if_pos hle])
    simp only [wpC, mayStop, stops, isFlt, Specs.has, Specs.hasO, Bool.or_false, Specs.hasH, Bool.not_false, List.any_cons, List.any_nil, Bool.false_eq_true, ↓reduceIte, wpS, wantedA, okDst, Nat.reduceLT, decide_true, step1, isOwnCall, hxOp, px, AS.eval, AS.get, Lift.look, Nat.reduceEqDiff, Option.getD_some, AS.put, dropKey, pcall, ty9, plen, okLen, and_self, pindexAddr, ty120, ty3, ofConst, ofVal, Int.reduceLE, Int.cast_ofNat_Int, Int.reduceLT, Int.reduceToNat, Nat.reduceMul, Nat.zero_add, pload, gr4, okOne, TK.isAgg, beq_self_eq_true, Bool.or_true, Nat.reduceAdd, List.length_cons, List.length_nil, Nat.le_refl, Lift.valOf, List.drop_succ_cons, List.drop_zero, List.take_succ_cons, List.take_nil, List.getD_cons_zero, isNilC, pbinP, pbinI, hle, thenQ, isB, tmpOf, asB, inQ, RPost, sres, Tryz.results31, sresL, sres1, Option.some.injEq, exists_eq_left', true_and]
    exact ⟨h, Inc.to incH3, _, rfl, hbad _ hre, rfl⟩
  rw [if_neg hle] at hu1
  simp only [wpC, mayStop, stops, isFlt, Specs.has, Specs.hasO, Bool.or_false, Specs.hasH, Bool.not_false, List.any_cons, List.any_nil, Bool.false_eq_true, ↓reduceIte, wpS, wantedA, okDst, Nat.reduceLT, decide_true, step1, isOwnCall, hxOp, px, AS.eval, AS.get, Lift.look, Nat.reduceEqDiff, Option.getD_some, AS.put, dropKey, pcall, ty9, plen, okLen, and_self, pindexAddr, ty120, ty3, ofConst, ofVal, Int.reduceLE, Int.cast_ofNat_Int, Int.reduceLT, Int.reduceToNat, Nat.reduceMul, Nat.zero_add, pload, gr4, okOne, TK.isAgg, beq_self_eq_true, Bool.or_true, Nat.reduceAdd, List.length_cons, List.length_nil, Nat.le_refl, Lift.valOf, List.drop_succ_cons, List.drop_zero, List.take_succ_cons, List.take_nil, List.getD_cons_zero, isNilC, pbinP, pbinI, hle, decide_false, thenQ, isB, tmpOf, asB, true_and]
  have hzl : zn < B.length := by omega
  have hzl' : ((zn : Nat) : Int) < ((B.length : Nat) : Int) := by omega
  refine SW.seq (SW.run [] _ ?_)
  by_cases h10 : B.getD zn 0 = 10
  case neg =>
    have hb : (((((B.getD zn 0).toNat : Nat) : Int)) != 10) = true := by
      have := byte10 (B.getD zn 0)
      simp only [bne, this]
      simpa using h10
    have hre := hfail 2 (by rw [hu1, if_pos h10])
    simp only [wpC, mayStop, stops, isFlt, Specs.has, Specs.hasO, Bool.or_false, Specs.hasH, Bool.not_false, List.any_cons, List.any_nil, Bool.false_eq_true, ↓reduceIte, wpS, wantedA, okDst, Nat.reduceLT, decide_true, step1, isOwnCall, hxOp, px, AS.eval, AS.get, Lift.look, Nat.reduceEqDiff, Option.getD_some, AS.put, dropKey, pindexAddr, ty120, ty3, ofConst, ofVal, Int.reduceLE, Int.cast_ofNat_Int, Int.reduceLT, and_self, Int.reduceToNat, Nat.reduceMul, Nat.zero_add, pload, gr4, okOne, TK.isAgg, beq_self_eq_true, Bool.or_true, Nat.reduceAdd, List.length_cons, List.length_nil, Nat.le_refl, Lift.valOf, List.drop_succ_cons, List.drop_zero, List.take_succ_cons, List.take_nil, List.getD_cons_zero, pindex, ty9, Int.natCast_nonneg, Int.toNat_natCast, hzl, isNilC, pbinP, pbinI, hb, thenQ, isB, tmpOf, asB, inQ, RPost, sres, Tryz.results31, sresL, sres1, Option.some.injEq, exists_eq_left', true_and]
    exact ⟨h, Inc.to incH3, _, rfl, hbad _ hre, rfl⟩
  have hb : (((((B.getD zn 0).toNat : Nat) : Int)) != 10) = false := by rw [h10]; rfl
  rw [if_neg (by simpa using h10)] at hu1
  simp only [wpC, mayStop, stops, isFlt, Specs.has, Specs.hasO, Bool.or_false, Specs.hasH, Bool.not_false, List.any_cons, List.any_nil, Bool.false_eq_true, ↓reduceIte, wpS, wantedA, okDst, Nat.reduceLT, decide_true, step1, isOwnCall, hxOp, px, AS.eval, AS.get, Lift.look, Nat.reduceEqDiff, Option.getD_some, AS.put, dropKey, pindexAddr, ty120, ty3, ofConst, ofVal, Int.reduceLE, Int.cast_ofNat_Int, Int.reduceLT, and_self, Int.reduceToNat, Nat.reduceMul, Nat.zero_add, pload, gr4, okOne, TK.isAgg, beq_self_eq_true, Bool.or_true, Nat.reduceAdd, List.length_cons, List.length_nil, Nat.le_refl, Lift.valOf, List.drop_succ_cons, List.drop_zero, List.take_succ_cons, List.take_nil, List.getD_cons_zero, pindex, ty9, Int.natCast_nonneg, Int.toNat_natCast, hzl, isNilC, pbinP, pbinI, hb, thenQ, isB, tmpOf, asB, true_and]
  have hw1 : IntKind.i64.wrap ((zn : Int) + 1) = ((zn + 1 : Nat) : Int) := by rw [w64 (by omega) (by omega)]; rfl
  have hz1' : ((zn + 1 : Nat) : Int) ≤ ((B.length : Nat) : Int) := by omega
  have hz0' : ((zn : Nat) : Int) ≤ ((B.length : Nat) : Int) := by omega
  refine SW.enter (n := 97) (l := [(6, .val (.slice A0 (mbL out).length N0)), (8, .str B), (11, .val (.pointer (some ⟨r, 0, none⟩))), (14, .val (.pointer (some ⟨p, 0, none⟩)))]) (H := H3) rfl (.refl _ _) (by simp only [hasAll, AS.get, Lift.look, Nat.reduceEqDiff, ↓reduceIte, Option.getD_some, and_self]) ?_
  refine SW.seq (SW.regionAny3 [] [(0, []), (1, []), (2, []), (3, []), (9, []), (4, []), (5, []), (6, [10]), (7, []), (8, []), (10, []), (11, [])] rfl rfl (by kernel_rfl) ?_)
  simp only [wpO2, dynOK, LOp, List.getElem?_toArray, List.getElem?_cons_zero, okDst, Nat.reduceLT, decide_true, wantedA, ↓reduceIte, step1, isOwnCall, Bool.false_eq_true, hxOp, px, AS.eval, AS.get, Lift.look, Nat.reduceEqDiff, Option.getD_some, List.getElem?_cons_succ, AS.put, dropKey, pindexAddr, ty120, ty3, ofConst, ofVal, Int.reduceLE, Int.cast_ofNat_Int, Int.reduceLT, and_self, Int.reduceToNat, Nat.reduceMul, Nat.zero_add, pload, gr4, okOne, TK.isAgg, beq_self_eq_true, Bool.or_true, Nat.reduceAdd, List.length_cons, List.length_nil, Nat.le_refl, Lift.valOf, List.drop_succ_cons, List.drop_zero, List.take_succ_cons, List.take_nil, List.getD_cons_zero, pslice, ty9, pB, Int.natCast_nonneg, hz0', Int.toNat_natCast, pfieldAddr, fieldOf, ty58, fieldIn, Option.map_some, ne_eq, Nat.succ_ne_zero, not_false_eq_true, disj, ptrAt, ptrT, hrp, isNilC, pbinP, pbinI, hw1, hz1', true_and, Lift.hx, gp4, known1, PV.cells, splice, List.take_zero, List.cons_append, List.nil_append, List.drop_nil, List.append_nil, thenQ]
  refine ⟨Int.le_refl _, ?_⟩
  rw [List.take_length]
  have ow4 := Own.over ow3 (q := p) (by rw [gp3]; simp) (.cells 58 4 [.str wa, .int .i64 x, .int .i64 y, .str (B.take zn)])
  have inc4 : Lift.Inc h (h3.put p (.cells 58 4 [.str wa, .int .i64 x, .int .i64 y, .str (B.take zn)])) := Inc.over inc3 hph _
  have gp5 : (h3.put p (.cells 58 4 [.str wa, .int .i64 x, .int .i64 y, .str (B.take zn)])) p = some (.cells 58 4 [.str wa, .int .i64 x, .int .i64 y, .str (B.take zn)]) := Heap.put_same _ _ _
  generalize h3.put p (.cells 58 4 [.str wa, .int .i64 x, .int .i64 y, .str (B.take zn)]) = h4 at ow4 inc4 gp5
  generalize H3.put p (.cells 58 4 [.str wa, .int .i64 x, .int .i64 y, .str (B.take zn)]) = H4 at ow4 ⊢
  have gp6 := ow4.base gp5
  have hdl : (B.drop (zn + 1)).length = B.length - (zn + 1) := List.length_drop
  refine SW.run [] _ ?_
  simp only [wpC, Bool.false_eq_true, ↓reduceIte, wpS, stops, wantedA, okDst, Nat.reduceLT, decide_true, step1, isOwnCall, hxOp, px, AS.eval, AS.get, Lift.look, Nat.reduceEqDiff, Option.getD_some, AS.put, dropKey, pload, ty58, gp6, okOne, TK.isAgg, Nat.reduceBEq, Bool.or_false, Nat.zero_add, List.length_cons, List.length_nil, Nat.reduceAdd, Nat.le_refl, and_self, Lift.valOf, List.drop_zero, List.take_succ_cons, List.take_nil, pbuildSlice, ty52, Nat.succ_ne_zero, List.replicate, List.map_cons, ofVal, List.map_nil, List.flatten_cons, List.flatten_nil, List.append_nil, ofConst, pfill, PV.cells, Nat.reduceMul, splice, List.take_zero, List.nil_append, List.drop_succ_cons, List.drop_nil, Nat.reduceLeDiff, okZero, List.all_cons, Value.oneCell', List.all_nil, Bool.and_true, known, chunk, true_and]
  refine SWO.append (.tmp 92) (.tmp 94) 52 52 rfl ty52 rfl ty58 (by decide) rfl ty52 rfl ow4 (ys := [mbV ⟨wa, x, y, B.take zn⟩]) rfl (by rw [mbL_len]; show (_ + 1) * 48 ≤ _; omega) (by rw [mbL_len]; simp [maxLen]; omega) rfl rfl ?_
  intro v8 h8 ow8 _ _
  refine SWO.run [] 1000 ?_
  simp only [wpS, stops, Bool.false_eq_true, ↓reduceIte, wantedA, okDst, AS.put, dropKey, Nat.reduceEqDiff, Nat.reduceLT, decide_true, step1, isOwnCall, hxOp, px, AS.eval, AS.get, Lift.look, Option.getD_some, inQ, thenQ, true_and]
  exact ⟨(B.drop (zn + 1)).length, by omega, out ++ [⟨wa, x, y, B.take zn⟩], B.drop (zn + 1), v8, h4, f, rfl, by omega, by rw [List.length_append, List.length_singleton]; omega, by rw [hrs, unpF_ok hne hu1], inc4, by rw [mbL_append]; exact ow8, rfl, rfl⟩
def unpR (s : List UInt8) : PV := .tuple [.list 4 (mbL (unpS s).1), .int .i64 (unpS s).2]
theorem Unpack_ok (s : List UInt8) (hs : s.length ≤ 1000000) (h : Heap) : SCalls env 31 [.str s] h (Ret (unpR s) h) := by
  refine (UnpackQ_ok s hs h).letGo fun e h' ⟨p, e1, hp, e2⟩ => ?_
  obtain ⟨v, rfl, hv⟩ := hp
  rcases hv with rfl | ⟨rfl, hn⟩
  · exact ⟨_, _, h, e1, by rw [e2]; exact LetGo.refl _ _, rfl, rfl⟩
  · refine ⟨_, _, h, e1, by rw [e2]; exact (Own.nil h 58 4).letGoT _, ?_, rfl⟩
    unfold unpR
    rw [hn]
    rfl
def sUnpack : List PV → Prop × PV
  | [.str s] => (s.length ≤ 1000000, unpR s)
  | _ => PBad
noncomputable def eUnpack : SpecE env := ⟨31, sUnpack, fun args h hc => by
  unfold sUnpack at hc ⊢
  split at hc
  · rename_i s; exact .inl (Unpack_ok s hc h)
  · exact hc.elim⟩
end Go.Proofs.YtincpomenogppaaGreatDoor

namespace Go.Proofs.YtincpomenogppaaGreatDoor
open Go Go.RowKit Go.Proofs.YtincpomenogppaaGreatDoor Go.Proofs.YtincpomenogppaaGreatDoor.Lift
set_option maxRecDepth 100000

theorem cut_lt {c : UInt8} {l : List UInt8} {j : Nat} (h : j < (cutB c l).1.length) : ∃ hj : j < l.length, l[j] ≠ c := by
  obtain ⟨f1, f2, f3⟩ := cutB_app c l
  generalize (cutB c l).1 = p at *
  generalize (if (cutB c l).2.2 = true then c :: (cutB c l).2.1 else []) = q at *
  subst f2
  refine ⟨by rw [List.length_append]; omega, ?_⟩
  rw [List.getElem_append_left h]
  exact fun e => f1 (e ▸ List.getElem_mem h)
theorem cut_hit {c : UInt8} {l : List UInt8} (h : (cutB c l).2.2 = true) : ∃ hj : (cutB c l).1.length < l.length, l[(cutB c l).1.length] = c := by
  obtain ⟨f1, f2, f3⟩ := cutB_app c l
  rw [if_pos h] at f2
  generalize (cutB c l).1 = p at *
  generalize (cutB c l).2.1 = q at *
  clear h f3
  subst f2
  refine ⟨by rw [List.length_append, List.length_cons]; omega, ?_⟩
  rw [List.getElem_append_right (Nat.le_refl _)]
  simp
theorem cut_miss {c : UInt8} {l : List UInt8} (h : (cutB c l).2.2 = false) : (cutB c l).1.length = l.length := by
  obtain ⟨f1, f2, f3⟩ := cutB_app c l
  rw [h] at f2
  rw [if_neg (by simp), List.append_nil] at f2
  rw [← f2]
theorem cut_pre (c : UInt8) (l : List UInt8) : (cutB c l).1 = l.take (cutB c l).1.length := by
  obtain ⟨f1, f2, f3⟩ := cutB_app c l
  have key : ∀ (a t : List UInt8), l = a ++ t → a = l.take a.length := by
    intro a t e
    rw [e, List.take_left]
  exact key _ _ f2
theorem cut_post {c : UInt8} {l : List UInt8} (h : (cutB c l).2.2 = true) : (cutB c l).2.1 = l.drop ((cutB c l).1.length + 1) := by
  obtain ⟨f1, f2, f3⟩ := cutB_app c l
  rw [if_pos h] at f2
  have key : ∀ (a t : List UInt8), l = a ++ c :: t → t = l.drop (a.length + 1) := by
    intro a t e
    rw [e, ← List.drop_drop, List.drop_left]
    rfl
  exact key _ _ f2
def arrJ (ns : List Int) : List PV := ns.map (fun n => PV.int .i64 n) ++ List.replicate (3 - ns.length) (.int .i64 0)
theorem arrJ_len {ns : List Int} (h : ns.length ≤ 3) : (arrJ ns).length = 3 := by
  unfold arrJ
  rw [List.length_append, List.length_map, List.length_replicate]; omega
theorem arrJ_set {ns : List Int} (n : Int) (h : ns.length < 3) : List.take ns.length (arrJ ns) ++ [.int .i64 n] ++ List.drop (ns.length + 1) (arrJ ns) = arrJ (ns ++ [n]) := by
  have h1 : (ns.map (fun n => PV.int .i64 n)).length = ns.length := List.length_map _
  unfold arrJ
  rw [List.take_left' h1, List.drop_append, h1, List.drop_of_length_le (by omega), List.map_append, List.length_append, List.length_singleton]
  have h2 : 3 - ns.length = (3 - (ns.length + 1)) + 1 := by omega
  rw [h2, List.replicate_succ, show ns.length + 1 - ns.length = 1 by omega]
  simp
theorem arrJ_get {ns : List Int} (n : Int) (h : ns.length < 3) : ((arrJ (ns ++ [n])).drop (ns.length * 1)).take 1 = [.int .i64 n] := by
  have h1 : (ns.map (fun n => PV.int .i64 n)).length = ns.length := List.length_map _
  unfold arrJ
  rw [Nat.mul_one, List.map_append, List.append_assoc, List.drop_left' h1]
  rfl
theorem mbL_flat_at : ∀ {l : List Mb} {i : Nat} (h : i < l.length), (mbL l).flatten.drop (i * 4) = mbV l[i] ++ (mbL (l.drop (i + 1))).flatten
  | x :: l, 0, _ => rfl
  | x :: l, i + 1, h => by
    have ih := mbL_flat_at (l := l) (i := i) (by simpa using h)
    have e : (mbL (x :: l)).flatten = mbV x ++ (mbL l).flatten := rfl
    rw [e, Nat.succ_mul, Nat.add_comm (i * 4) 4, ← List.drop_drop]
    have e2 : (mbV x ++ (mbL l).flatten).drop 4 = (mbL l).flatten := rfl
    rw [e2, ih]
    rfl
theorem mbL_flat_len (l : List Mb) : (mbL l).flatten.length = l.length * 4 := by
  induction l with
  | nil => rfl
  | cons x l ih =>
    have e : (mbL (x :: l)).flatten = mbV x ++ (mbL l).flatten := rfl
    rw [e, List.length_append, ih, List.length_cons, Nat.succ_mul]
    show 4 + _ = _
    omega
theorem hasN_take {l : List Mb} {x : Mb} {i : Nat} (h : i < l.length) : hasN (l.take (i + 1)) x = (hasN (l.take i) x || (l[i].n == x.n)) := by
  unfold hasN
  rw [List.take_succ_eq_append_getElem h, List.any_append]
  simp
theorem hasN_hit {l : List Mb} {x : Mb} {i : Nat} (h : i < l.length) (e : (l[i].n == x.n) = true) : hasN l x = true := by
  unfold hasN
  rw [List.any_eq_true]
  exact ⟨_, List.getElem_mem h, e⟩
end Go.Proofs.YtincpomenogppaaGreatDoor
