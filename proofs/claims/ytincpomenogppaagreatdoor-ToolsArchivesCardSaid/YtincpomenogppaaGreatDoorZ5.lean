/- Contracts of functions that the law reaches. -/
import Derived.Test.YtincpomenogppaaGreatDoorZ3
set_option linter.unusedSimpArgs false
set_option linter.unusedVariables false
namespace Go.Proofs.YtincpomenogppaaGreatDoor
open Go Go.RowKit Go.Proofs.YtincpomenogppaaGreatDoor Go.Proofs.YtincpomenogppaaGreatDoor.Lift
set_option maxRecDepth 100000

def n3C (ns : List PV) : AObj := .cells 120 3 ns
def mbC (a : List UInt8) (x y : Int) (d : List UInt8) : AObj := .cells 50 4 [.str a, .int .i64 x, .int .i64 y, .str d]
set_option maxHeartbeats 16000000 in
set_option maxRecDepth 100000 in
theorem RUnpackQ_ok (s : List UInt8) (hs : s.length ≤ 1000000) (h : Heap) : SCalls env 33 [.str s] h (fun en h' => ∃ p, en = .ret p ∧ unpQ s p ∧ h' = h) := by
  refine SCalls.body Tryz.func33 rfl rfl (by simp [Tryz.ntmps33]) ?_
  obtain ⟨Q, hQ⟩ : ∃ Q : PV → Prop, Q = unpQ s := ⟨_, rfl⟩
  rw [← hQ]
  have hbad : ∀ e, (unpS s = ([], e)) → Q (.tuple [.val (.slice none 0 0), .int .i64 e]) := fun e k => by
    rw [hQ]; unfold unpQ; rw [k]; exact ⟨_, rfl, .inr ⟨rfl, rfl⟩⟩
  have hmg : ([33, 97, 99, 104, 101, 114, 111, 110, 10] : List UInt8) = magicS := rfl
  refine SW.seq (SW.run [] _ ?_)
  simp only [wpC, Bool.false_eq_true, ↓reduceIte, wpS, stops, wantedA, okDst, Tryz.ntmps33, Nat.reduceLT, decide_true, step1, isOwnCall, hxOp, px, AS.eval, ofConst, ofVal, AS.put, enumA, dropKey, reduceCtorEq, thenQ, Nat.reduceEqDiff, true_and]
  refine SW.seq (SW.run [] _ ?_)
  simp only [wpC, Bool.false_eq_true, ↓reduceIte, wpS, stops, wantedA, okDst, Nat.reduceLT, decide_true, step1, isOwnCall, hxOp, px, AS.eval, ofConst, ofVal, thenQ, AS.put, dropKey, Nat.reduceEqDiff, reduceCtorEq, true_and]
  rw [hmg]
  have hml : magicS.length = 9 := rfl
  have hpx : prefixS s magicS = (decide (9 ≤ s.length) && (s.take 9 == magicS)) := rfl
  refine SW.seq (SW.run [] _ ?_)
  by_cases hp9 : 9 ≤ s.length
  case neg =>
    have hrs : unpS s = ([], 2) := by unfold unpS; rw [hpx, decide_eq_false hp9]; rfl
    have hp9' : ((s.length : Nat) : Int) < 9 := by omega
    simp only [wpC, mayStop, stops, isFlt, Specs.has, Specs.hasO, Bool.or_false, Specs.hasH, Bool.not_false, List.any_cons, List.any_nil, Bool.false_eq_true, ↓reduceIte, wpS, wantedA, okDst, Nat.reduceLT, decide_true, step1, isOwnCall, hxOp, px, AS.eval, AS.get, Lift.look, Nat.succ_ne_zero, Option.getD_some, AS.put, dropKey, Nat.reduceEqDiff, reduceCtorEq, pcall, ty9, plen, okLen, and_self, hml, Int.cast_ofNat_Int, isNilC, pbinP, pbinI, hp9', List.getElem?_toArray, List.getElem?_cons_succ, List.getElem?_cons_zero, Option.bind_some, beq_tf, Option.some.injEq, ofConst, ofVal, ppick_true, thenQ, isB, tmpOf, asB, RPost, sres, Tryz.results33, sresL, sres1, exists_eq_left', true_and]
    exact ⟨h, .refl _ _, _, rfl, hbad _ hrs, rfl⟩
  have hp9' : ¬ ((s.length : Nat) : Int) < 9 := by omega
  have hp9'' : (9 : Int) ≤ ((s.length : Nat) : Int) := by omega
  cases hpm : (s.take 9 == magicS)
  · have hrs : unpS s = ([], 2) := by unfold unpS; rw [hpx, hpm, Bool.and_false]; rfl
    simp only [wpC, mayStop, stops, isFlt, Specs.has, Specs.hasO, Bool.or_false, Specs.hasH, Bool.not_false, List.any_cons, List.any_nil, Bool.false_eq_true, ↓reduceIte, wpS, wantedA, okDst, Nat.reduceLT, decide_true, step1, isOwnCall, hxOp, px, AS.eval, AS.get, Lift.look, Nat.succ_ne_zero, Option.getD_some, AS.put, dropKey, Nat.reduceEqDiff, reduceCtorEq, pcall, ty9, plen, okLen, and_self, hml, Int.cast_ofNat_Int, isNilC, pbinP, pbinI, hp9', decide_false, List.getElem?_toArray, List.getElem?_cons_succ, List.getElem?_cons_zero, Option.bind_some, beq_self_eq_true, pslice, pB, Int.reduceLE, hp9'', Int.reduceToNat, List.drop_zero, pbinS, hpm, ofConst, ofVal, ppick_bool, thenQ, isB, tmpOf, asB, RPost, sres, Tryz.results33, sresL, sres1, Option.some.injEq, exists_eq_left', true_and]
    exact ⟨h, .refl _ _, _, rfl, hbad _ hrs, rfl⟩
  have hrs : unpS s = unpF (s.length + 1) [] (s.drop 9) := by unfold unpS; rw [hpx, hpm, decide_eq_true hp9]; rfl
  simp only [wpC, mayStop, stops, isFlt, Specs.has, Specs.hasO, Bool.or_false, Specs.hasH, Bool.not_false, List.any_cons, List.any_nil, Bool.false_eq_true, ↓reduceIte, wpS, wantedA, okDst, Nat.reduceLT, decide_true, step1, isOwnCall, hxOp, px, AS.eval, AS.get, Lift.look, Nat.succ_ne_zero, Option.getD_some, AS.put, dropKey, Nat.reduceEqDiff, reduceCtorEq, pcall, ty9, plen, okLen, and_self, hml, Int.cast_ofNat_Int, isNilC, pbinP, pbinI, hp9', decide_false, List.getElem?_toArray, List.getElem?_cons_succ, List.getElem?_cons_zero, Option.bind_some, beq_self_eq_true, pslice, pB, Int.reduceLE, hp9'', Int.reduceToNat, List.drop_zero, pbinS, hpm, Bool.not_true, ofConst, ofVal, ppick_bool, thenQ, isB, tmpOf, asB, true_and]
  refine SW.seq (SW.run [] _ ?_)
  simp only [wpC, Bool.false_eq_true, ↓reduceIte, wpS, stops, wantedA, okDst, Nat.reduceLT, decide_true, step1, isOwnCall, hxOp, px, AS.eval, ofConst, ofVal, thenQ, AS.put, dropKey, Nat.reduceEqDiff, reduceCtorEq, true_and]
  refine SW.seq (SW.run [] _ ?_)
  simp only [wpC, Bool.false_eq_true, ↓reduceIte, wpS, stops, wantedA, okDst, Nat.reduceLT, decide_true, step1, isOwnCall, hxOp, px, AS.eval, AS.get, Lift.look, Nat.reduceEqDiff, Option.getD_some, AS.put, dropKey, reduceCtorEq, pcall, ty9, plen, hml, okLen, and_self, Int.cast_ofNat_Int, thenQ, true_and]
  clear hp9' hp9'' hpm hpx hml hmg
  refine SW.seq (SW.block (SW.loop (fun bb st => ∃ (out : List Mb) (a : Nat) (v : PV) (h1 : Heap) (f : Nat), a ≤ s.length ∧ s.length - a = bb ∧ s.length - a ≤ f ∧ out.length ≤ a ∧ unpS s = unpF (f + 1) out (s.drop a) ∧ Lift.Inc h h1 ∧ Own h1 50 4 (mbL out) v st.h ∧ st.n = 166 ∧ hasAll st [(0, .str s), (5, v), (6, .int .i64 (a : Nat))]) (s.length - 9) ⟨[], 9, .val (.slice none 0 0), h, s.length, hp9, rfl, by omega, by show 0 ≤ 9; omega, hrs, incSelf h, Own.nil _ _ _, rfl, ?_⟩ ?_))
  · simp only [hasAll, AS.get, Lift.look, Nat.succ_ne_zero, ↓reduceIte, Option.getD_some, Nat.reduceEqDiff, Int.cast_ofNat_Int, and_self]
  clear hrs hp9
  rintro bb st ⟨out, a, v, h1, f, ha, hbb, hf, hsz, hrs, inc, ow, hn', hs'⟩
  refine SW.norm ⟨hn', rfl, hs'⟩ ?_
  generalize st.h = H at ow
  clear hn' hs'
  refine SW.seq (SW.run [] _ ?_)
  by_cases hlt : a < s.length
  case neg =>
    have hlt' : ¬ (a : Int) < (s.length : Int) := by omega
    have hd0 : s.drop a = [] := List.drop_of_length_le (by omega)
    rw [hd0, unpF_nil] at hrs
    simp only [wpC, mayStop, stops, isFlt, Specs.has, Specs.hasO, Bool.or_false, Specs.hasH, Bool.not_false, List.any_cons, List.any_nil, Bool.false_eq_true, ↓reduceIte, wpS, wantedA, okDst, Nat.reduceLT, decide_true, step1, isOwnCall, hxOp, px, AS.eval, AS.get, Lift.look, reduceCtorEq, Nat.reduceEqDiff, Option.getD_some, AS.put, dropKey, Nat.succ_ne_zero, pcall, ty9, plen, okLen, and_self, isNilC, pbinP, pbinI, hlt', decide_false, thenQ, isB, tmpOf, asB, inQ, true_and]
    refine SW.own_let 5 rfl ow ?_
    refine SW.seq (SW.run [] _ ?_)
    simp only [wpC, Bool.false_eq_true, ↓reduceIte, wpS, stops, wantedA, okDst, AS.put, dropKey, Nat.reduceEqDiff, reduceCtorEq, Nat.reduceLT, decide_true, step1, isOwnCall, hxOp, px, AS.eval, AS.get, Lift.look, Option.getD_some, ofConst, ofVal, thenQ, true_and]
    refine SW.run [] _ ?_
    simp only [wpC, RPost, sres, Tryz.results33, sresL, sres1, AS.get, Lift.look, Nat.reduceEqDiff, ↓reduceIte, Option.getD_some, Option.some.injEq, exists_eq_left']
    refine ⟨h, Inc.to inc, _, rfl, ?_, rfl⟩
    rw [hQ]; unfold unpQ; rw [hrs]
    exact ⟨_, rfl, .inl rfl⟩
  have hlt' : (a : Int) < (s.length : Int) := by omega
  have hdl : (s.drop a).length = s.length - a := List.length_drop
  have hne : s.drop a ≠ [] := List.length_pos_iff.1 (by omega)
  obtain ⟨f, rfl⟩ : ∃ f', f = f' + 1 := ⟨f - 1, by omega⟩
  have incH : Lift.Inc h H := fun k X ek => ow.inc k X (inc k X ek)
  have hfail : ∀ e, unp1 out (s.drop a) = .inr e → unpS s = ([], e) := fun e k => by rw [hrs, unpF_err hne k]
  obtain ⟨A0, N0, rfl⟩ := ow.slice
  rw [mbL_len]
  simp only [wpC, mayStop, stops, isFlt, Specs.has, Specs.hasO, Bool.or_false, Specs.hasH, Bool.not_false, List.any_cons, List.any_nil, Bool.false_eq_true, ↓reduceIte, wpS, wantedA, okDst, Nat.reduceLT, decide_true, step1, isOwnCall, hxOp, px, AS.eval, AS.get, Lift.look, reduceCtorEq, Nat.reduceEqDiff, Option.getD_some, AS.put, dropKey, Nat.succ_ne_zero, pcall, ty9, plen, okLen, and_self, isNilC, pbinP, pbinI, hlt', thenQ, isB, tmpOf, asB, hasAll, and_true, true_and]
  refine SW.block (SW.seq (SW.run [] _ ?_))
  simp only [wpC, Bool.false_eq_true, ↓reduceIte, wpS, stops, wantedA, okDst, Nat.reduceLT, decide_true, step1, isOwnCall, hxOp, px, AS.eval, AS.get, Lift.look, Nat.reduceEqDiff, reduceCtorEq, Option.getD_some, AS.put, dropKey, thenQ, true_and]
  -- the line's end
  obtain ⟨D, hD⟩ : ∃ D, D = (cutB 10 (s.drop a)).1.length := ⟨_, rfl⟩
  obtain ⟨c1, c2, c3⟩ := cutB_len 10 (s.drop a)
  rw [← hD, hdl] at c1
  refine SW.seq (SW.block (SW.loopK 166 (fun e : Nat => [(0, .str s), (5, .val (.slice A0 out.length N0)), (6, .int .i64 (a : Nat)), (7, .int .i64 (e : Nat))]) (fun _ => H) (fun e => a ≤ e ∧ e ≤ a + D) (fun e => a + D - e) a ⟨Nat.le_refl _, Nat.le_add_right _ _⟩ ?_ ?_))
  · simp only [Has, hasAll, AS.get, Lift.look, Nat.succ_ne_zero, ↓reduceIte, Option.getD_some, Nat.reduceEqDiff, reduceCtorEq, and_self]
  rintro e ⟨e1, e2⟩
  by_cases hgo : e < a + D
  · obtain ⟨hj, hc⟩ := cut_lt (c := 10) (l := s.drop a) (j := e - a) (by omega)
    rw [List.getElem_drop] at hc
    have hes : e < s.length := by omega
    have hc2 : s[e] ≠ 10 := by have e9 : a + (e - a) = e := by omega
                               simpa only [e9] using hc
    have hgt : s.getD e 0 = s[e] := by rw [List.getD_eq_getElem?_getD, List.getElem?_eq_getElem hes]; rfl
    have hes' : (e : Int) < (s.length : Int) := by omega
    have hb : ((((s[e].toNat : Nat) : Int)) != 10) = true := by
      have := byte10 s[e]
      simp only [bne, this]
      simpa using hc2
    have hw : IntKind.i64.wrap ((e : Int) + 1) = ((e + 1 : Nat) : Int) := by rw [w64 (by omega) (by omega)]; rfl
    refine SW.seq (SW.run [] _ ?_)
    simp only [wpC, mayStop, stops, isFlt, Specs.has, Specs.hasO, Bool.or_false, Specs.hasH, Bool.not_false, List.any_cons, List.any_nil, Bool.false_eq_true, ↓reduceIte, wpS, wantedA, okDst, Nat.reduceLT, decide_true, step1, isOwnCall, hxOp, px, AS.eval, AS.get, Lift.look, reduceCtorEq, Nat.reduceEqDiff, Option.getD_some, AS.put, dropKey, Nat.succ_ne_zero, pcall, ty9, plen, okLen, and_self, isNilC, pbinP, pbinI, hes', List.getElem?_toArray, List.getElem?_cons_succ, List.getElem?_cons_zero, Option.bind_some, beq_self_eq_true, pindex, Int.natCast_nonneg, Int.toNat_natCast, hes, hgt, ofConst, ofVal, hb, ppick_bool, thenQ, isB, tmpOf, asB, Has, hasAll, and_true, true_and]
    refine SW.block (SW.run [] _ ?_)
    simp only [wpC, Bool.false_eq_true, ↓reduceIte, wpS, stops, wantedA, okDst, Nat.reduceLT, decide_true, step1, isOwnCall, hxOp, px, AS.eval, AS.get, Lift.look, Nat.reduceEqDiff, reduceCtorEq, Option.getD_some, isFlt, ty3, AS.put, dropKey, isNilC, pbinP, ofConst, ofVal, pbinI, hw, inQ, thenQ, Nat.succ_ne_zero, true_and]
    exact ⟨e + 1, ⟨by omega, by omega⟩, by omega, rfl⟩
  have he : e = a + D := by omega
  subst he
  refine SW.seq (SW.meet1 166 [(0, .str s), (5, .val (.slice A0 out.length N0)), (6, .int .i64 (a : Nat)), (7, .int .i64 ((a + D : Nat) : Int)), (44, .bool false)] H ?_ ?_)
  · refine SW.run [] _ ?_
    cases hfl : (cutB 10 (s.drop a)).2.2
    · have := cut_miss hfl
      have hes' : ¬ (((a + D : Nat) : Int)) < (s.length : Int) := by omega
      simp only [wpC, Bool.false_eq_true, ↓reduceIte, wpS, stops, wantedA, okDst, Nat.reduceLT, decide_true, step1, isOwnCall, hxOp, px, AS.eval, AS.get, Lift.look, reduceCtorEq, Nat.reduceEqDiff, Option.getD_some, AS.put, dropKey, Nat.succ_ne_zero, pcall, ty9, plen, okLen, and_self, isNilC, pbinP, pbinI, hes', decide_false, List.getElem?_toArray, List.getElem?_cons_succ, List.getElem?_cons_zero, Option.bind_some, beq_ft, Option.some.injEq, ofConst, ofVal, ppick_false, thenQ, Meet, HTo_self, hasAll]
    · obtain ⟨hj, hc⟩ := cut_hit hfl
      rw [List.getElem_drop] at hc
      have hes : a + D < s.length := by omega
      have hc2 : s[a + D] = 10 := by rw [← hc]; congr 1; omega
      have hgt : s.getD (a + D) 0 = 10 := by rw [List.getD_eq_getElem?_getD, List.getElem?_eq_getElem hes]; exact hc2
      have hes' : (((a + D : Nat) : Int)) < (s.length : Int) := by omega
      simp only [wpC, Bool.false_eq_true, ↓reduceIte, wpS, stops, wantedA, okDst, Nat.reduceLT, decide_true, step1, isOwnCall, hxOp, px, AS.eval, AS.get, Lift.look, reduceCtorEq, Nat.reduceEqDiff, Option.getD_some, AS.put, dropKey, Nat.succ_ne_zero, pcall, ty9, plen, okLen, and_self, isNilC, pbinP, pbinI, hes', List.getElem?_toArray, List.getElem?_cons_succ, List.getElem?_cons_zero, Option.bind_some, beq_self_eq_true, pindex, Int.natCast_nonneg, Int.toNat_natCast, hes, hgt, ofConst, ofVal, ppick_bool, thenQ, Meet, HTo_self, hasAll, and_true, true_and]
      rfl
  refine SW.run [] _ ?_
  simp only [wpC, isB, AS.get, Lift.look, tmpOf, reduceCtorEq, ↓reduceIte, Nat.reduceEqDiff, Option.getD_some, asB, Bool.false_eq_true, thenQ, inQ, true_and]
  refine SW.seq (SW.run [] _ ?_)
  cases hfl : (cutB 10 (s.drop a)).2.2
  · have := cut_miss hfl
    have heq : ((((a + D : Nat) : Int)) == ((s.length : Nat) : Int)) = true := by
      rw [beq_iff_eq]; omega
    have hre := hfail 16 (by unfold unp1; rw [hfl]; rfl)
    simp only [wpC, mayStop, stops, isFlt, Specs.has, Specs.hasO, Bool.or_false, Specs.hasH, Bool.not_false, List.any_cons, List.any_nil, Bool.false_eq_true, ↓reduceIte, wpS, wantedA, okDst, Nat.reduceLT, decide_true, step1, isOwnCall, hxOp, px, AS.eval, AS.get, Lift.look, reduceCtorEq, Nat.reduceEqDiff, Option.getD_some, AS.put, dropKey, Nat.succ_ne_zero, pcall, ty9, plen, okLen, and_self, isNilC, pbinP, pbinI, heq, thenQ, isB, tmpOf, asB, ofConst, ofVal, inQ, RPost, sres, Tryz.results33, sresL, sres1, Option.some.injEq, exists_eq_left', true_and]
    exact ⟨h, Inc.to incH, _, rfl, hbad _ hre, rfl⟩
  have c3 := c3 hfl
  rw [← hD, hdl] at c3
  have heq : ((((a + D : Nat) : Int)) == ((s.length : Nat) : Int)) = false := by
    rw [beq_eq_false_iff_ne]; omega
  simp only [wpC, mayStop, stops, isFlt, Specs.has, Specs.hasO, Bool.or_false, Specs.hasH, Bool.not_false, List.any_cons, List.any_nil, Bool.false_eq_true, ↓reduceIte, wpS, wantedA, okDst, Nat.reduceLT, decide_true, step1, isOwnCall, hxOp, px, AS.eval, AS.get, Lift.look, reduceCtorEq, Nat.reduceEqDiff, Option.getD_some, AS.put, dropKey, Nat.succ_ne_zero, pcall, ty9, plen, okLen, and_self, isNilC, pbinP, pbinI, heq, thenQ, isB, tmpOf, asB, true_and]
  have hline : List.drop a (List.take (a + D) s) = (cutB 10 (s.drop a)).1 := by
    rw [List.drop_take, show a + D - a = D by omega, hD, ← cut_pre]
  have hle1 : ((a : Nat) : Int) ≤ ((a + D : Nat) : Int) := by omega
  have hle2 : ((a + D : Nat) : Int) ≤ ((s.length : Nat) : Int) := by omega
  refine SW.seq (SW.run [] _ ?_)
  simp only [wpC, Bool.false_eq_true, ↓reduceIte, wpS, stops, wantedA, okDst, Nat.reduceLT, decide_true, step1, isOwnCall, hxOp, px, AS.eval, AS.get, Lift.look, Nat.succ_ne_zero, Option.getD_some, AS.put, dropKey, Nat.reduceEqDiff, reduceCtorEq, pslice, ty9, pB, Int.natCast_nonneg, hle1, hle2, and_self, Int.toNat_natCast, hline, thenQ, true_and]
  have hu1 : unp1 out (s.drop a) = (match hdA (cutB 10 (s.drop a)).1 with
      | none => .inr 2
      | some (a', x, y, z) =>
        if wrongS out ⟨a', x, y, []⟩ z ≠ 0 then .inr (wrongS out ⟨a', x, y, []⟩ z) else
        if ((cutB 10 (s.drop a)).2.1.length : Int) ≤ z then .inr 16 else
        if (cutB 10 (s.drop a)).2.1.getD z.toNat 0 ≠ 10 then .inr 2 else .inl (⟨a', x, y, (cutB 10 (s.drop a)).2.1.take z.toNat⟩, (cutB 10 (s.drop a)).2.1.drop (z.toNat + 1))) := by
    conv => lhs; unfold unp1
    rw [hfl]; rfl
  have hB : (cutB 10 (s.drop a)).2.1 = s.drop (a + D + 1) := by rw [cut_post hfl, ← hD, List.drop_drop]; congr 1
  rw [hB] at hu1
  rw [← hd_same] at hu1
  obtain ⟨p, hp⟩ : ∃ p, p = (cutB 10 (s.drop a)).1 := ⟨_, rfl⟩
  rw [← hp] at hu1 hD ⊢
  clear hp hline heq hle1 hle2 hB hfl c2 e1 e2 hgo
  have hpl : p.length = D := hD.symm
  refine SW.enter (n := 166) (l := [(0, .str s), (5, .val (.slice A0 out.length N0)), (6, .int .i64 (a : Nat)), (7, .int .i64 ((a + D : Nat) : Int)), (8, .str p)]) (H := H) rfl (.refl _ _) (by simp only [hasAll, AS.get, Lift.look, Nat.succ_ne_zero, ↓reduceIte, Option.getD_some, Nat.reduceEqDiff, reduceCtorEq, and_self]) ?_
  refine SW.seq (SW.run [] _ ?_)
  simp only [wpC, Bool.false_eq_true, ↓reduceIte, wpS, stops, wantedA, okDst, Nat.reduceLT, decide_true, step1, isOwnCall, hxOp, px, AS.eval, ofConst, ofVal, thenQ, AS.put, dropKey, reduceCtorEq, Nat.reduceEqDiff, true_and]
  -- the name's end
  obtain ⟨K, hK⟩ : ∃ K, K = (cutB 32 p).1.length := ⟨_, rfl⟩
  have k1 := (cutB_len 32 p).1
  rw [← hK] at k1
  refine SW.seq (SW.block (SW.loopK 166 (fun e : Nat => [(0, .str s), (5, .val (.slice A0 out.length N0)), (6, .int .i64 (a : Nat)), (7, .int .i64 ((a + D : Nat) : Int)), (8, .str p), (9, .int .i64 (e : Nat))]) (fun _ => H) (fun e => e ≤ K) (fun e => K - e) 0 (Nat.zero_le _) ?_ ?_))
  · simp only [Has, hasAll, AS.get, Lift.look, Nat.succ_ne_zero, ↓reduceIte, Option.getD_some, Nat.reduceEqDiff, reduceCtorEq, Int.cast_ofNat_Int, and_self]
  intro e e2
  by_cases hgo : e < K
  · obtain ⟨hes, hc2⟩ := cut_lt (c := 32) (l := p) (j := e) (by omega)
    have hgt : p.getD e 0 = p[e] := by rw [List.getD_eq_getElem?_getD, List.getElem?_eq_getElem hes]; rfl
    have hes' : (e : Int) < (p.length : Int) := by omega
    have hb : ((((p[e].toNat : Nat) : Int)) != 32) = true := by
      have := byte_lit p[e] 32 (n := 32) rfl
      simp only [bne, this]
      simpa using hc2
    have hw : IntKind.i64.wrap ((e : Int) + 1) = ((e + 1 : Nat) : Int) := by rw [w64 (by omega) (by omega)]; rfl
    refine SW.seq (SW.run [] _ ?_)
    simp only [wpC, mayStop, stops, isFlt, Specs.has, Specs.hasO, Bool.or_false, Specs.hasH, Bool.not_false, List.any_cons, List.any_nil, Bool.false_eq_true, ↓reduceIte, wpS, wantedA, okDst, Nat.reduceLT, decide_true, step1, isOwnCall, hxOp, px, AS.eval, AS.get, Lift.look, reduceCtorEq, Nat.reduceEqDiff, Option.getD_some, AS.put, dropKey, pcall, ty9, plen, okLen, and_self, isNilC, pbinP, pbinI, hes', List.getElem?_toArray, List.getElem?_cons_succ, List.getElem?_cons_zero, Option.bind_some, beq_self_eq_true, pindex, Int.natCast_nonneg, Int.toNat_natCast, hes, hgt, ofConst, ofVal, hb, ppick_bool, thenQ, isB, tmpOf, asB, Has, hasAll, and_true, true_and]
    refine SW.block (SW.run [] _ ?_)
    simp only [wpC, Bool.false_eq_true, ↓reduceIte, wpS, stops, wantedA, okDst, Nat.reduceLT, decide_true, step1, isOwnCall, hxOp, px, AS.eval, AS.get, Lift.look, Nat.reduceEqDiff, reduceCtorEq, Option.getD_some, isFlt, ty3, AS.put, dropKey, isNilC, pbinP, ofConst, ofVal, pbinI, hw, inQ, thenQ, Nat.succ_ne_zero, true_and]
    exact ⟨e + 1, by omega, by omega, rfl⟩
  have he : e = K := by omega
  subst he
  refine SW.seq (SW.meet1 166 [(0, .str s), (5, .val (.slice A0 out.length N0)), (6, .int .i64 (a : Nat)), (7, .int .i64 ((a + D : Nat) : Int)), (8, .str p), (9, .int .i64 (e : Nat)), (64, .bool false)] H ?_ ?_)
  · refine SW.run [] _ ?_
    cases hfl : (cutB 32 p).2.2
    · have := cut_miss hfl
      have hes' : ¬ ((e : Nat) : Int) < (p.length : Int) := by omega
      simp only [wpC, Bool.false_eq_true, ↓reduceIte, wpS, stops, wantedA, okDst, Nat.reduceLT, decide_true, step1, isOwnCall, hxOp, px, AS.eval, AS.get, Lift.look, reduceCtorEq, Nat.reduceEqDiff, Option.getD_some, AS.put, dropKey, pcall, ty9, plen, okLen, and_self, isNilC, pbinP, pbinI, hes', decide_false, List.getElem?_toArray, List.getElem?_cons_succ, List.getElem?_cons_zero, Option.bind_some, beq_ft, Option.some.injEq, ofConst, ofVal, ppick_false, thenQ, Meet, HTo_self, hasAll, Nat.succ_ne_zero]
    · obtain ⟨hj, hc⟩ := cut_hit hfl
      have hes : e < p.length := by omega
      have hc2 : p[e] = 32 := by rw [← hc]; congr 1
      have hgt : p.getD e 0 = 32 := by rw [List.getD_eq_getElem?_getD, List.getElem?_eq_getElem hes]; exact hc2
      have hes' : ((e : Nat) : Int) < (p.length : Int) := by omega
      simp only [wpC, Bool.false_eq_true, ↓reduceIte, wpS, stops, wantedA, okDst, Nat.reduceLT, decide_true, step1, isOwnCall, hxOp, px, AS.eval, AS.get, Lift.look, reduceCtorEq, Nat.reduceEqDiff, Option.getD_some, AS.put, dropKey, pcall, ty9, plen, okLen, and_self, isNilC, pbinP, pbinI, hes', List.getElem?_toArray, List.getElem?_cons_succ, List.getElem?_cons_zero, Option.bind_some, beq_self_eq_true, pindex, Int.natCast_nonneg, Int.toNat_natCast, hes, hgt, ofConst, ofVal, ppick_bool, thenQ, Meet, HTo_self, hasAll, Nat.succ_ne_zero, and_true, true_and]
      rfl
  refine SW.run [] _ ?_
  simp only [wpC, isB, AS.get, Lift.look, tmpOf, reduceCtorEq, ↓reduceIte, Nat.reduceEqDiff, Option.getD_some, asB, Bool.false_eq_true, thenQ, inQ, true_and]
  have hnm : List.take e p = (cutB 32 p).1 := by rw [hK, ← cut_pre]
  have hle1 : ((e : Nat) : Int) ≤ ((p.length : Nat) : Int) := by omega
  refine SW.seq (SW.run [] _ ?_)
  simp only [wpC, Bool.false_eq_true, ↓reduceIte, wpS, stops, wantedA, okDst, Nat.reduceLT, decide_true, step1, isOwnCall, hxOp, px, AS.eval, AS.get, Lift.look, reduceCtorEq, Nat.reduceEqDiff, Option.getD_some, AS.put, dropKey, pslice, ty9, pB, Int.cast_ofNat_Int, Int.reduceLE, Int.natCast_nonneg, hle1, and_self, Int.reduceToNat, Int.toNat_natCast, hnm, List.drop_zero, pbuild, ty50, List.map_cons, ofVal, List.map_nil, ofConst, pfill, placeOf, List.getElem?_cons_zero, Option.map_some, PV.cells, List.length_cons, List.length_nil, Nat.zero_add, Nat.reduceAdd, Nat.reduceLeDiff, splice, List.take_zero, List.nil_append, List.drop_succ_cons, List.cons_append, List.all_cons, Option.isSome_some, ty3, List.all_nil, Bool.and_true, okZero, Value.oneCell', known, okAlloc, hx, zeroOf, Heap.get_put, known1, Nat.le_refl, List.drop_nil, List.append_nil, thenQ, true_and]
  intro q hq
  rw [Heap.put_put]
  obtain ⟨na, hna⟩ : ∃ na, na = (cutB 32 p).1 := ⟨_, rfl⟩
  rw [← hna]
  have hnal : na.length ≤ 1000000 := by rw [hna, ← hK]; omega
  have hhd : hdB p = hdM na (decs 3 (p.drop e)) := by unfold hdB; rw [← hK, ← hna]
  generalize hdB p = HD at hu1 hhd
  clear hna hnm hle1 hgo e2
  have hbad2 : HD = none → unpS s = ([], 2) := fun k => hfail 2 (by rw [hu1, k])
  rw [show AObj.cells 50 4 [.str na, .int .i64 0, .int .i64 0, .str []] = mbC na 0 0 [] from rfl]
  have hq1 : h1 q = none := incFresh ow.inc hq
  have hqh : h q = none := incFresh inc hq1
  have ow2 := Own.putx ow hq (mbC na 0 0 [])
  have inc2 : Lift.Inc h (h1.put q (mbC na 0 0 [])) := Inc.over inc hqh _
  have gq2 : (h1.put q (mbC na 0 0 [])) q = some (mbC na 0 0 []) := Heap.put_same _ _ _
  generalize h1.put q (mbC na 0 0 []) = h2 at ow2 inc2 gq2
  generalize H.put q (mbC na 0 0 []) = H2 at ow2 ⊢
  have incH2 : Lift.Inc h H2 := fun k X ek => ow2.inc k X (inc2 k X ek)
  have gq3 := ow2.base gq2
  clear ow inc hq1
  refine SW.enter (n := 166) (l := [(0, .str s), (5, .val (.slice A0 out.length N0)), (6, .int .i64 (a : Nat)), (7, .int .i64 ((a + D : Nat) : Int)), (8, .str p), (9, .int .i64 (e : Nat)), (10, .val (.pointer (some ⟨q, 0, none⟩)))]) (H := H2) rfl (.refl _ _) (by simp only [hasAll, AS.get, Lift.look, Nat.succ_ne_zero, ↓reduceIte, Option.getD_some, Nat.reduceEqDiff, reduceCtorEq, and_self]) ?_
  refine SW.seq (SW.run [] _ ?_)
  simp only [wpC, Bool.false_eq_true, ↓reduceIte, wpS, stops, wantedA, okDst, Nat.reduceLT, decide_true, step1, okAlloc, ty120, okZero, List.all_cons, Value.oneCell', List.all_nil, Bool.and_true, thenQ, AS.put, dropKey, reduceCtorEq, Nat.reduceEqDiff, zeroOf, List.map_cons, ofVal, List.map_nil, List.length_cons, List.length_nil, Nat.zero_add, Nat.reduceAdd, true_and]
  intro r hr
  have hrq : ¬ r = q := fun e => by subst e; rw [gq3] at hr; cases hr
  have hqr : ¬ q = r := fun e => hrq e.symm
  refine SW.seq (SW.seq (SW.run [] _ ?_))
  simp only [wpC, Bool.false_eq_true, ↓reduceIte, wpS, stops, wantedA, okDst, Nat.reduceLT, decide_true, step1, isOwnCall, hxOp, px, AS.eval, ofConst, ofVal, thenQ, AS.put, dropKey, Nat.reduceEqDiff, reduceCtorEq, true_and]
  refine SW.block (SW.loopK 166 (fun x : List Int × Nat => [(0, .str s), (5, .val (.slice A0 out.length N0)), (6, .int .i64 (a : Nat)), (7, .int .i64 ((a + D : Nat) : Int)), (8, .str p), (9, .int .i64 (x.2 : Nat)), (10, .val (.pointer (some ⟨q, 0, none⟩))), (11, .val (.pointer (some ⟨r, 0, none⟩))), (12, .int .i64 (x.1.length : Nat))]) (fun x => H2.put r (n3C (arrJ x.1))) (fun x => x.1.length ≤ 3 ∧ x.2 ≤ p.length ∧ decs 3 (p.drop e) = (decs (3 - x.1.length) (p.drop x.2)).map (fun y => (x.1 ++ y.1, y.2)) ∧ ∀ n ∈ x.1, inR n) (fun x => 3 - x.1.length) ([], e) ⟨by show 0 ≤ 3; omega, k1, by show decs 3 (p.drop e) = (decs 3 (p.drop e)).map fun y => ([] ++ y.1, y.2); cases decs 3 (p.drop e) <;> rfl, fun n hn => nomatch hn⟩ ?_ ?_)
  · simp only [Has, hasAll, AS.get, Lift.look, Nat.succ_ne_zero, ↓reduceIte, Option.getD_some, Nat.reduceEqDiff, reduceCtorEq, List.length_nil, Int.cast_ofNat_Int, and_self, and_true, true_and]
    rfl
  rintro ⟨ns, k2⟩ ⟨i1, i2, i3, i4⟩
  have i1 : ns.length ≤ 3 := i1
  have i2 : k2 ≤ p.length := i2
  have i3 : decs 3 (p.drop e) = (decs (3 - ns.length) (p.drop k2)).map (fun y => (ns ++ y.1, y.2)) := i3
  have i4 : ∀ n ∈ ns, inR n := i4
  have incN : ∀ x, Lift.Inc h (H2.put r x) := fun x => Inc.over incH2 (incFresh incH2 hr) _
  refine SW.seq (SW.run [] _ ?_)
  by_cases hl3 : ns.length < 3
  · have hl3' : ((ns.length : Nat) : Int) < 3 := by omega
    have hw : IntKind.i64.wrap (((ns.length : Nat) : Int) + 1) = ((ns.length + 1 : Nat) : Int) := by rw [w64 (by omega) (by omega)]; rfl
    have hwa : IntKind.i64.wrap (((k2 : Nat) : Int) + 1) = ((k2 + 1 : Nat) : Int) := by rw [w64 (by omega) (by omega)]; rfl
    have h31 : 3 - ns.length = (3 - (ns.length + 1)) + 1 := by omega
    rw [h31] at i3
    simp only [wpC, mayStop, stops, isFlt, Specs.has, Specs.hasO, Bool.or_false, Specs.hasH, Bool.not_false, List.any_cons, List.any_nil, Bool.false_eq_true, ↓reduceIte, wpS, wantedA, okDst, Nat.reduceLT, decide_true, step1, isOwnCall, hxOp, px, AS.eval, AS.get, Lift.look, reduceCtorEq, Nat.reduceEqDiff, Option.getD_some, AS.put, dropKey, isNilC, pbinP, ofConst, ofVal, pbinI, hl3', thenQ, isB, tmpOf, asB, Has, hasAll, and_true, true_and]
    refine SW.seq (SW.block (SW.seq (SW.run [] _ ?_)))
    by_cases hhead : (p.drop k2).head? = some 32
    case neg =>
      have hre := hbad2 (by rw [hhd, i3, decs, if_neg hhead]; rfl)
      by_cases hkl : k2 < p.length
      · have hgt : p.getD k2 0 = p[k2] := by rw [List.getD_eq_getElem?_getD, List.getElem?_eq_getElem hkl]; rfl
        have hkl' : ¬ ((p.length : Nat) : Int) ≤ ((k2 : Nat) : Int) := by omega
        have hkl2 : ((k2 : Nat) : Int) < ((p.length : Nat) : Int) := by omega
        have hb : ((((p[k2].toNat : Nat) : Int)) != 32) = true := by
          have := byte_lit p[k2] 32 (n := 32) rfl
          have h32 : p[k2] ≠ 32 := fun e => hhead (by rw [List.drop_eq_getElem_cons hkl, List.head?_cons, e])
          simp only [bne, this]
          simpa using h32
        simp only [wpC, mayStop, stops, isFlt, Specs.has, Specs.hasO, Bool.or_false, Specs.hasH, Bool.not_false, List.any_cons, List.any_nil, Bool.false_eq_true, ↓reduceIte, wpS, wantedA, okDst, Nat.reduceLT, decide_true, step1, isOwnCall, hxOp, px, AS.eval, AS.get, Lift.look, Nat.reduceEqDiff, reduceCtorEq, Option.getD_some, AS.put, dropKey, pcall, ty9, plen, okLen, and_self, isNilC, pbinP, pbinI, hkl', decide_false, List.getElem?_toArray, List.getElem?_cons_succ, List.getElem?_cons_zero, Option.bind_some, beq_self_eq_true, pindex, Int.natCast_nonneg, Int.toNat_natCast, hkl, hgt, ofConst, ofVal, hb, ppick_bool, thenQ, isB, tmpOf, asB, inQ, RPost, sres, Tryz.results33, sresL, sres1, Option.some.injEq, exists_eq_left', true_and]
        exact ⟨h, Inc.to (incN _), _, rfl, hbad _ hre, rfl⟩
      · have hkl' : ((p.length : Nat) : Int) ≤ ((k2 : Nat) : Int) := by omega
        simp only [wpC, mayStop, stops, isFlt, Specs.has, Specs.hasO, Bool.or_false, Specs.hasH, Bool.not_false, List.any_cons, List.any_nil, Bool.false_eq_true, ↓reduceIte, wpS, wantedA, okDst, Nat.reduceLT, decide_true, step1, isOwnCall, hxOp, px, AS.eval, AS.get, Lift.look, Nat.reduceEqDiff, reduceCtorEq, Option.getD_some, AS.put, dropKey, pcall, ty9, plen, okLen, and_self, isNilC, pbinP, pbinI, hkl', List.getElem?_toArray, List.getElem?_cons_succ, List.getElem?_cons_zero, Option.bind_some, beq_tf, Option.some.injEq, ofConst, ofVal, ppick_true, thenQ, isB, tmpOf, asB, inQ, RPost, sres, Tryz.results33, sresL, sres1, exists_eq_left', true_and]
        exact ⟨h, Inc.to (incN _), _, rfl, hbad _ hre, rfl⟩
    have hkl : k2 < p.length := by
      by_cases k : k2 < p.length
      · exact k
      · rw [List.drop_of_length_le (by omega)] at hhead; cases hhead
    have hgt : p.getD k2 0 = 32 := by
      rw [List.drop_eq_getElem_cons hkl] at hhead
      injection hhead with hhead
      rw [List.getD_eq_getElem?_getD, List.getElem?_eq_getElem hkl]; exact hhead
    have hkl' : ¬ ((p.length : Nat) : Int) ≤ ((k2 : Nat) : Int) := by omega
    have hkl2 : ((k2 : Nat) : Int) < ((p.length : Nat) : Int) := by omega
    have hb32 : (((UInt8.toNat 32 : Nat) : Int) != 32) = false := by decide
    simp only [wpC, mayStop, stops, isFlt, Specs.has, Specs.hasO, Bool.or_false, Specs.hasH, Bool.not_false, List.any_cons, List.any_nil, Bool.false_eq_true, ↓reduceIte, wpS, wantedA, okDst, Nat.reduceLT, decide_true, step1, isOwnCall, hxOp, px, AS.eval, AS.get, Lift.look, Nat.reduceEqDiff, reduceCtorEq, Option.getD_some, AS.put, dropKey, pcall, ty9, plen, okLen, and_self, isNilC, pbinP, pbinI, hkl', decide_false, List.getElem?_toArray, List.getElem?_cons_succ, List.getElem?_cons_zero, Option.bind_some, beq_self_eq_true, pindex, Int.natCast_nonneg, Int.toNat_natCast, hkl, hgt, ofConst, ofVal, hb32, ppick_bool, thenQ, isB, tmpOf, asB, true_and]
    refine SW.seq (SW.run [] _ ?_)
    simp only [wpC, Bool.false_eq_true, ↓reduceIte, wpS, stops, wantedA, okDst, Nat.reduceLT, decide_true, step1, isOwnCall, hxOp, px, AS.eval, AS.get, Lift.look, Nat.reduceEqDiff, reduceCtorEq, Option.getD_some, isFlt, ty3, AS.put, dropKey, isNilC, pbinP, ofConst, ofVal, pbinI, hwa, thenQ, true_and]
    have hdd : (p.drop k2).drop 1 = p.drop (k2 + 1) := by rw [List.drop_drop]
    obtain ⟨k, hk⟩ : ∃ k, k = (rnumF 0 (p.drop (k2 + 1))).2 := ⟨_, rfl⟩
    obtain ⟨n, hn⟩ : ∃ n, n = decB (p.drop (k2 + 1)) := ⟨_, rfl⟩
    have hkl3 := rnumF_len (p.drop (k2 + 1)) 0
    rw [← hk, List.length_drop] at hkl3
    have hrr : decR p (k2 + 1) = .tuple [.int .i64 n, .int .i64 ((k2 + 1 + k : Nat) : Int)] := by unfold decR; rw [← hn, ← hk]
    have b0 : (0 : Int) ≤ ((k2 + 1 : Nat) : Int) := by omega
    have b1 : ((k2 + 1 : Nat) : Int) ≤ ((p.length : Nat) : Int) := by omega
    have hp6 : p.length ≤ 1000000 := by omega
    have hal := arrJ_len i1
    have hal2 : ns.length * 1 + 1 ≤ (arrJ ns).length := by omega
    have hset := arrJ_set n hl3
    have hput : List.take (ns.length * 1) (arrJ ns) ++ [.int .i64 n] ++ List.drop (ns.length * 1 + 1) (arrJ ns) = arrJ (ns ++ [n]) := by rw [Nat.mul_one]; exact hset
    have hget := arrJ_get n hl3
    have hal3 : ns.length * 1 + 1 ≤ (arrJ (ns ++ [n])).length := by rw [arrJ_len (by rw [List.length_append]; simp; omega)]; omega
    have hkd : (p.drop (k2 + 1)).drop k = p.drop (k2 + 1 + k) := List.drop_drop
    refine SW.seq (SW.run [eRDecimal] _ ?_)
    simp only [wpC, Bool.false_eq_true, ↓reduceIte, wpS, stops, wantedA, okDst, Nat.reduceLT, decide_true, step1, isOwnCall, hxOp, px, AS.eval, AS.get, Lift.look, Nat.reduceEqDiff, reduceCtorEq, Option.getD_some, AS.put, dropKey, n3C, Specs.has, eRDecimal, Specs.hasO, Bool.or_false, Specs.hasH, Bool.not_true, pcall, okArg, ofConst, ofVal, List.all_cons, List.all_nil, Bool.and_true, Specs.at, List.map_cons, List.map_nil, sRDecimal, hp6, b0, b1, and_self, Int.toNat_natCast, hrr, List.getElem?_cons_zero, List.getElem?_cons_succ, pindexAddr, ty120, ty3, Int.natCast_nonneg, Int.cast_ofNat_Int, hl3', Nat.zero_add, hx, Heap.get_put, known1, PV.cells, List.length_cons, List.length_nil, hal2, splice, thenQ, true_and]
    rw [Heap.put_put, hput]
    refine SW.run [] _ ?_
    by_cases hneg : n < 0
    · have hre := hbad2 (by rw [hhd, i3, decs, if_pos hhead, hdd, ← hn, if_pos hneg]; rfl)
      simp only [wpC, mayStop, stops, isFlt, Specs.has, Specs.hasO, Bool.or_false, Specs.hasH, Bool.not_false, List.any_cons, List.any_nil, Bool.false_eq_true, ↓reduceIte, wpS, wantedA, okDst, Nat.reduceLT, decide_true, step1, isOwnCall, hxOp, px, AS.eval, AS.get, Lift.look, Nat.reduceEqDiff, reduceCtorEq, Option.getD_some, AS.put, dropKey, pindexAddr, ty120, ty3, Int.natCast_nonneg, Int.cast_ofNat_Int, hl3', and_self, Int.toNat_natCast, Nat.zero_add, pload, Heap.get_put, okOne, TK.isAgg, beq_self_eq_true, Bool.or_true, hal3, Lift.valOf, hget, List.getD_cons_zero, isNilC, pbinP, ofConst, ofVal, pbinI, hneg, thenQ, isB, tmpOf, asB, inQ, RPost, sres, Tryz.results33, sresL, sres1, Option.some.injEq, exists_eq_left', true_and]
      exact ⟨h, Inc.to (incN _), _, rfl, hbad _ hre, rfl⟩
    simp only [wpC, mayStop, stops, isFlt, Specs.has, Specs.hasO, Bool.or_false, Specs.hasH, Bool.not_false, List.any_cons, List.any_nil, Bool.false_eq_true, ↓reduceIte, wpS, wantedA, okDst, Nat.reduceLT, decide_true, step1, isOwnCall, hxOp, px, AS.eval, AS.get, Lift.look, Nat.reduceEqDiff, reduceCtorEq, Option.getD_some, AS.put, dropKey, pindexAddr, ty120, ty3, Int.natCast_nonneg, Int.cast_ofNat_Int, hl3', and_self, Int.toNat_natCast, Nat.zero_add, pload, Heap.get_put, okOne, TK.isAgg, beq_self_eq_true, Bool.or_true, hal3, Lift.valOf, hget, List.getD_cons_zero, isNilC, pbinP, ofConst, ofVal, pbinI, hneg, decide_false, thenQ, isB, tmpOf, asB, inQ, true_and]
    refine SW.run [] _ ?_
    simp only [wpC, Bool.false_eq_true, ↓reduceIte, wpS, stops, wantedA, okDst, Nat.reduceLT, decide_true, step1, isOwnCall, hxOp, px, AS.eval, AS.get, Lift.look, Nat.reduceEqDiff, reduceCtorEq, Option.getD_some, isFlt, ty3, AS.put, dropKey, isNilC, pbinP, ofConst, ofVal, pbinI, hw, thenQ, Nat.succ_ne_zero, true_and]
    have hin : inR n := by have := (decB_inv (c := p.drop (k2 + 1)) (by rw [← hn]; omega)).1; rwa [← hn] at this
    refine ⟨(ns ++ [n], k2 + 1 + k), ⟨by show (ns ++ [n]).length ≤ 3; rw [List.length_append]; simp; omega, by show k2 + 1 + k ≤ _; omega, ?_, ?_⟩, by show 3 - (ns ++ [n]).length < _; rw [List.length_append]; simp; omega, by simp, rfl, by simp⟩
    · show decs 3 (p.drop e) = (decs (3 - (ns ++ [n]).length) (p.drop (k2 + 1 + k))).map (fun y => ((ns ++ [n]) ++ y.1, y.2))
      rw [i3, decs, if_pos hhead, hdd, ← hn, if_neg hneg, ← hk, hkd, Option.map_map, List.length_append, List.length_singleton]
      congr 1
      funext y
      simp
    · intro m hm
      rcases List.mem_append.1 hm with hm | hm
      · exact i4 m hm
      · rw [List.mem_singleton.1 hm]; exact hin
  have hns : ns.length = 3 := by omega
  rw [hns] at i3
  have i3 : decs 3 (p.drop e) = some (ns ++ [], p.drop k2) := i3
  rw [List.append_nil] at i3
  have hl3' : ¬ ((ns.length : Nat) : Int) < 3 := by omega
  simp only [wpC, mayStop, stops, isFlt, Specs.has, Specs.hasO, Bool.or_false, Specs.hasH, Bool.not_false, List.any_cons, List.any_nil, Bool.false_eq_true, ↓reduceIte, wpS, wantedA, okDst, Nat.reduceLT, decide_true, step1, isOwnCall, hxOp, px, AS.eval, AS.get, Lift.look, reduceCtorEq, Nat.reduceEqDiff, Option.getD_some, AS.put, dropKey, isNilC, pbinP, ofConst, ofVal, pbinI, hl3', decide_false, thenQ, isB, tmpOf, asB, inQ, true_and]
  obtain ⟨x, y, z, rfl⟩ : ∃ x y z, ns = [x, y, z] := by
    match ns, hns with
    | [a, b, c], _ => exact ⟨a, b, c, rfl⟩
  have hx := i4 x (by simp)
  have hy := i4 y (by simp)
  have hz := i4 z (by simp)
  rw [i3] at hhd
  refine SW.seq (SW.run [] _ ?_)
  by_cases hk2 : k2 = p.length
  case neg =>
    have hre := hbad2 (by
      rw [hhd]
      show (if p.drop k2 = [] then some (na, x, y, z) else none) = none
      rw [if_neg]
      intro k
      have := congrArg List.length k
      rw [List.length_drop, List.length_nil] at this
      omega)
    have hb : (((k2 : Nat) : Int) != ((p.length : Nat) : Int)) = true := by simp; omega
    simp only [wpC, mayStop, stops, isFlt, Specs.has, Specs.hasO, Bool.or_false, Specs.hasH, Bool.not_false, List.any_cons, List.any_nil, Bool.false_eq_true, ↓reduceIte, wpS, wantedA, okDst, Nat.reduceLT, decide_true, step1, isOwnCall, hxOp, px, AS.eval, AS.get, Lift.look, Nat.reduceEqDiff, reduceCtorEq, Option.getD_some, AS.put, dropKey, List.length_cons, List.length_nil, Nat.zero_add, Nat.reduceAdd, Int.cast_ofNat_Int, pcall, ty9, plen, okLen, and_self, isNilC, pbinP, pbinI, hb, thenQ, isB, tmpOf, asB, ofConst, ofVal, inQ, RPost, sres, Tryz.results33, sresL, sres1, Option.some.injEq, exists_eq_left', true_and]
    exact ⟨h, Inc.to (incN _), _, rfl, hbad _ hre, rfl⟩
  subst hk2
  rw [List.drop_length] at hhd
  have hhd : HD = some (na, x, y, z) := hhd
  rw [hhd] at hu1
  have hu1 : unp1 out (s.drop a) = if wrongS out ⟨na, x, y, []⟩ z ≠ 0 then .inr (wrongS out ⟨na, x, y, []⟩ z) else
        if ((s.drop (a + D + 1)).length : Int) ≤ z then .inr 16 else
        if (s.drop (a + D + 1)).getD z.toNat 0 ≠ 10 then .inr 2 else .inl (⟨na, x, y, (s.drop (a + D + 1)).take z.toNat⟩, (s.drop (a + D + 1)).drop (z.toNat + 1)) := hu1
  clear hhd hbad2 i3 i4 hns hl3 hl3' i1
  simp only [wpC, mayStop, stops, isFlt, Specs.has, Specs.hasO, Bool.or_false, Specs.hasH, Bool.not_false, List.any_cons, List.any_nil, Bool.false_eq_true, ↓reduceIte, wpS, wantedA, okDst, Nat.reduceLT, decide_true, step1, isOwnCall, hxOp, px, AS.eval, AS.get, Lift.look, Nat.reduceEqDiff, reduceCtorEq, Option.getD_some, AS.put, dropKey, List.length_cons, List.length_nil, Nat.zero_add, Nat.reduceAdd, Int.cast_ofNat_Int, pcall, ty9, plen, okLen, and_self, isNilC, pbinP, pbinI, bne_self_eq_false, thenQ, isB, tmpOf, asB, true_and]
  have harr : arrJ [x, y, z] = [.int .i64 x, .int .i64 y, .int .i64 z] := rfl
  rw [harr]
  have hr2 : h2 r = none := incFresh ow2.inc hr
  have ow3 := Own.putx ow2 hr (n3C [.int .i64 x, .int .i64 y, .int .i64 z])
  have inc3 : Lift.Inc h (h2.put r (n3C [.int .i64 x, .int .i64 y, .int .i64 z])) := Inc.over inc2 (incFresh inc2 hr2) _
  have b1r : (h2.put r (n3C [.int .i64 x, .int .i64 y, .int .i64 z])) r = some (n3C [.int .i64 x, .int .i64 y, .int .i64 z]) := Heap.put_same _ _ _
  have b1q : (h2.put r (n3C [.int .i64 x, .int .i64 y, .int .i64 z])) q = some (mbC na 0 0 []) := by rw [Heap.put_ne _ _ hqr]; exact gq2
  generalize h2.put r (n3C [.int .i64 x, .int .i64 y, .int .i64 z]) = h3 at ow3 inc3 b1r b1q
  generalize H2.put r (n3C [.int .i64 x, .int .i64 y, .int .i64 z]) = H3 at ow3 ⊢
  have c1r : H3 r = some (.cells 120 3 [.int .i64 x, .int .i64 y, .int .i64 z]) := ow3.base b1r
  have c1q : H3 q = some (.cells 50 4 [.str na, .int .i64 0, .int .i64 0, .str []]) := ow3.base b1q
  clear ow2 inc2 gq2 gq3 hr2 incN incH2
  refine SW.enter (n := 166) (l := [(0, .str s), (5, .val (.slice A0 out.length N0)), (6, .int .i64 (a : Nat)), (7, .int .i64 ((a + D : Nat) : Int)), (10, .val (.pointer (some ⟨q, 0, none⟩))), (11, .val (.pointer (some ⟨r, 0, none⟩)))]) (H := H3) rfl (.refl _ _) (by simp only [hasAll, AS.get, Lift.look, Nat.succ_ne_zero, ↓reduceIte, Option.getD_some, Nat.reduceEqDiff, reduceCtorEq, and_self]) ?_
  refine SW.seq (SW.regionAny3 [] [(0, []), (1, []), (4, []), (2, []), (3, [5]), (5, []), (6, []), (7, [])] rfl rfl (by kernel_rfl) ?_)
  simp only [wpO2, dynOK, LOp, List.getElem?_toArray, List.getElem?_cons_zero, okDst, Nat.reduceLT, decide_true, wantedA, ↓reduceIte, step1, isOwnCall, Bool.false_eq_true, hxOp, px, pindexAddr, ty120, ty3, AS.eval, AS.get, Lift.look, reduceCtorEq, Nat.reduceEqDiff, Option.getD_some, ofConst, ofVal, Int.reduceLE, Int.cast_ofNat_Int, Int.reduceLT, and_self, Int.reduceToNat, Nat.reduceMul, Nat.add_zero, List.getElem?_cons_succ, AS.put, dropKey, pload, c1r, okOne, TK.isAgg, beq_self_eq_true, Bool.or_true, Nat.zero_add, List.length_cons, List.length_nil, Nat.reduceAdd, Nat.reduceLeDiff, Lift.valOf, List.drop_zero, List.take_succ_cons, List.take_zero, List.getD_cons_zero, pfieldAddr, fieldOf, ty50, fieldIn, Option.map_some, ne_eq, Nat.succ_ne_zero, not_false_eq_true, disj, ptrAt, ptrT, hrq, List.drop_succ_cons, Lift.hx, c1q, known1, PV.cells, splice, List.cons_append, List.nil_append, Heap.get_put, thenQ, true_and]
  have ow4 := Own.over ow3 (q := q) (by rw [b1q]; simp) (mbC na x y [])
  have inc4 : Lift.Inc h (h3.put q (mbC na x y [])) := Inc.over inc3 hqh _
  have b2q : (h3.put q (mbC na x y [])) q = some (mbC na x y []) := Heap.put_same _ _ _
  have b2r : (h3.put q (mbC na x y [])) r = some (n3C [.int .i64 x, .int .i64 y, .int .i64 z]) := by rw [Heap.put_ne _ _ hrq]; exact b1r
  rw [Heap.put_put, show (AObj.cells 50 4 [.str na, .int .i64 x, .int .i64 y, .str []]) = mbC na x y [] from rfl]
  generalize h3.put q (mbC na x y []) = h4 at ow4 inc4 b2q b2r
  generalize H3.put q (mbC na x y []) = H4 at ow4 ⊢
  have d1r : H4 r = some (.cells 120 3 [.int .i64 x, .int .i64 y, .int .i64 z]) := ow4.base b2r
  have d1q : H4 q = some (.cells 50 4 [.str na, .int .i64 x, .int .i64 y, .str []]) := ow4.base b2q
  have incH4 : Lift.Inc h H4 := fun k X ek => ow4.inc k X (inc4 k X ek)
  clear ow3 inc3 b1q b1r c1r c1q
  refine SW.enter (n := 166) (l := [(0, .str s), (5, .val (.slice A0 out.length N0)), (6, .int .i64 (a : Nat)), (7, .int .i64 ((a + D : Nat) : Int)), (10, .val (.pointer (some ⟨q, 0, none⟩))), (11, .val (.pointer (some ⟨r, 0, none⟩)))]) (H := H4) rfl (.refl _ _) (by simp only [hasAll, AS.get, Lift.look, Nat.succ_ne_zero, ↓reduceIte, Option.getD_some, Nat.reduceEqDiff, reduceCtorEq, and_self]) ?_
  have hwr : wrongS out ⟨na, x, y, []⟩ z = if namedS na = false then 8 else if hasN out ⟨na, x, y, []⟩ = true then 5 else if 1048576 < z then 3 else 0 := by
    unfold wrongS
    split
    · rfl
    · split
      · rfl
      · rw [if_neg (by show ¬ (x < 0 ∨ y < 0); have := hx.1; have := hy.1; omega)]
  generalize wrongS out ⟨na, x, y, []⟩ z = W at hu1 hwr
  have hfw : W ≠ 0 → unpS s = ([], W) := fun k => hfail W (by rw [hu1, if_pos k])
  have hna9 : na.length ≤ 1000000000 := by omega
  refine SW.seq (SW.run [eRName] _ ?_)
  cases hnm : namedS na
  · rw [hnm, if_pos rfl] at hwr
    have hre := hfw (by rw [hwr]; decide)
    rw [hwr] at hre
    simp only [wpC, mayStop, stops, isFlt, Specs.has, eRName, Specs.hasO, Bool.or_false, Specs.hasH, List.any_cons, ↓reduceIte, Bool.not_true, List.any_nil, Bool.false_eq_true, wpS, wantedA, okDst, Nat.reduceLT, decide_true, step1, isOwnCall, hxOp, px, pfieldAddr, fieldOf, ty50, fieldIn, List.getElem?_cons_zero, ty9, Option.map_some, AS.eval, AS.get, Lift.look, reduceCtorEq, Nat.reduceEqDiff, Option.getD_some, ne_eq, Nat.succ_ne_zero, not_false_eq_true, Nat.add_zero, AS.put, dropKey, pload, d1q, okOne, TK.isAgg, beq_self_eq_true, Bool.or_true, Nat.zero_add, List.length_cons, List.length_nil, Nat.reduceAdd, Nat.reduceLeDiff, and_self, Lift.valOf, List.drop_zero, List.take_succ_cons, List.take_zero, List.getD_cons_zero, pcall, okArg, ofConst, ofVal, List.all_cons, List.all_nil, Bool.and_true, Specs.at, List.map_cons, List.map_nil, sLB, hna9, hnm, pun, Bool.not_false, thenQ, isB, tmpOf, asB, inQ, RPost, sres, Tryz.results33, sresL, sres1, Option.some.injEq, exists_eq_left', true_and]
    exact ⟨h, Inc.to incH4, _, rfl, hbad _ hre, rfl⟩
  rw [hnm, if_neg (by simp)] at hwr
  simp only [wpC, mayStop, stops, isFlt, Specs.has, eRName, Specs.hasO, Bool.or_false, Specs.hasH, List.any_cons, ↓reduceIte, Bool.not_true, List.any_nil, Bool.false_eq_true, wpS, wantedA, okDst, Nat.reduceLT, decide_true, step1, isOwnCall, hxOp, px, pfieldAddr, fieldOf, ty50, fieldIn, List.getElem?_cons_zero, ty9, Option.map_some, AS.eval, AS.get, Lift.look, reduceCtorEq, Nat.reduceEqDiff, Option.getD_some, ne_eq, Nat.succ_ne_zero, not_false_eq_true, Nat.add_zero, AS.put, dropKey, pload, d1q, okOne, TK.isAgg, beq_self_eq_true, Bool.or_true, Nat.zero_add, List.length_cons, List.length_nil, Nat.reduceAdd, Nat.reduceLeDiff, and_self, Lift.valOf, List.drop_zero, List.take_succ_cons, List.take_zero, List.getD_cons_zero, pcall, okArg, ofConst, ofVal, List.all_cons, List.all_nil, Bool.and_true, Specs.at, List.map_cons, List.map_nil, sLB, hna9, hnm, pun, thenQ, isB, tmpOf, asB, true_and]
  refine SW.seq (SW.seq (SW.run [] _ ?_))
  simp only [wpC, Bool.false_eq_true, ↓reduceIte, wpS, stops, wantedA, okDst, Nat.reduceLT, decide_true, step1, isOwnCall, hxOp, px, AS.eval, ofConst, ofVal, thenQ, AS.put, dropKey, Nat.reduceEqDiff, reduceCtorEq, true_and]
  refine SW.block (SW.loopK 166 (fun i : Nat => [(0, .str s), (5, .val (.slice A0 out.length N0)), (6, .int .i64 (a : Nat)), (7, .int .i64 ((a + D : Nat) : Int)), (10, .val (.pointer (some ⟨q, 0, none⟩))), (11, .val (.pointer (some ⟨r, 0, none⟩))), (14, .int .i64 (i : Nat))]) (fun _ => H4) (fun i => i ≤ out.length ∧ hasN (out.take i) ⟨na, x, y, []⟩ = false) (fun i => out.length - i) 0 ⟨Nat.zero_le _, rfl⟩ ?_ ?_)
  · simp only [Has, hasAll, AS.get, Lift.look, Nat.succ_ne_zero, ↓reduceIte, Option.getD_some, Nat.reduceEqDiff, reduceCtorEq, Int.cast_ofNat_Int, and_self]
  rintro i ⟨hi, hno⟩
  refine SW.seq (SW.run [] _ ?_)
  by_cases hlt : i < out.length
  · have hlt' : ((i : Nat) : Int) < ((out.length : Nat) : Int) := by omega
    have hw : IntKind.i64.wrap (((i : Nat) : Int) + 1) = ((i + 1 : Nat) : Int) := by rw [w64 (by omega) (by omega)]; rfl
    simp only [wpC, mayStop, stops, isFlt, Specs.has, Specs.hasO, Bool.or_false, Specs.hasH, Bool.not_false, List.any_cons, List.any_nil, Bool.false_eq_true, ↓reduceIte, wpS, wantedA, okDst, Nat.reduceLT, decide_true, step1, isOwnCall, hxOp, px, AS.eval, AS.get, Lift.look, reduceCtorEq, Nat.reduceEqDiff, Option.getD_some, AS.put, dropKey, pcall, ty48, plen, okLen, and_self, isNilC, pbinP, pbinI, hlt', thenQ, isB, tmpOf, asB, Has, hasAll, and_true, true_and]
    rcases ow4 with ⟨_, hx0, _⟩ | ⟨r0, cap, hv0, o1, o2, o3, o4, o5⟩
    · have : out = [] := List.map_eq_nil_iff.1 hx0
      subst this
      simp at hlt
    injection hv0 with hv0
    injection hv0 with hv1 hv2 hv3
    subst hv1
    have g0 : H4 r0 = some (.cells 50 (cap * 4) (mbL out).flatten) := by rw [o4]; exact Heap.put_same _ _ _
    have hfl := mbL_flat_at hlt
    have hfn := mbL_flat_len out
    have hroom : i * 4 + 1 ≤ (mbL out).flatten.length := by omega
    refine SW.seq (SW.block (SW.seq (SW.regionAny [] [[0, 1, 2, 3, 4, 5, 6, 7]] rfl (by rfl) (by kernel_rfl) ?_)))
    have hel : (List.take 1 (List.drop (i * 4) (mbL out).flatten)).getD 0 .any = .str out[i].n := by rw [hfl]; rfl
    simp only [wpOL, wpO, LOp, List.getElem?_toArray, List.getElem?_cons_zero, okDst, Nat.reduceLT, decide_true, wantedA, ↓reduceIte, step1, isOwnCall, Bool.false_eq_true, hxOp, px, AS.eval, AS.get, Lift.look, Nat.reduceEqDiff, reduceCtorEq, Option.getD_some, List.getElem?_cons_succ, AS.put, dropKey, pindexAddr, ty48, ty50, Int.natCast_nonneg, hlt', and_self, Int.toNat_natCast, Nat.zero_add, pfieldAddr, fieldOf, fieldIn, ty9, Option.map_some, ne_eq, Nat.succ_ne_zero, not_false_eq_true, Nat.add_zero, pload, g0, okOne, TK.isAgg, beq_self_eq_true, Bool.or_true, hroom, Lift.valOf, hel, d1q, List.length_cons, List.length_nil, Nat.reduceAdd, Nat.reduceLeDiff, List.drop_zero, List.take_succ_cons, List.take_zero, List.getD_cons_zero, isNilC, pbinP, pbinS, thenQ, true_and]
    refine SW.run [] _ ?_
    cases heq : (out[i].n == na)
    · simp only [wpC, isB, AS.get, Lift.look, tmpOf, ↓reduceIte, Option.getD_some, asB, Bool.false_eq_true, inQ, thenQ, true_and]
      refine SW.run [] _ ?_
      simp only [wpC, Bool.false_eq_true, ↓reduceIte, wpS, stops, wantedA, okDst, Nat.reduceLT, decide_true, step1, isOwnCall, hxOp, px, AS.eval, AS.get, Lift.look, Nat.reduceEqDiff, reduceCtorEq, Option.getD_some, isFlt, ty3, AS.put, dropKey, isNilC, pbinP, ofConst, ofVal, pbinI, hw, thenQ, Nat.succ_ne_zero, true_and]
      exact ⟨i + 1, ⟨by omega, by rw [hasN_take hlt, hno]; exact heq⟩, by omega, rfl⟩
    · have hh := hasN_hit (x := ⟨na, x, y, []⟩) hlt heq
      rw [hh, if_pos rfl] at hwr
      have hre := hfw (by rw [hwr]; decide)
      rw [hwr] at hre
      simp only [wpC, isB, AS.get, Lift.look, tmpOf, ↓reduceIte, Option.getD_some, asB, mayStop, stops, isFlt, Specs.has, Specs.hasO, Bool.or_false, Specs.hasH, Bool.not_false, List.any_cons, List.any_nil, Bool.false_eq_true, wpS, wantedA, okDst, Nat.reduceLT, decide_true, step1, isOwnCall, hxOp, px, AS.eval, ofConst, ofVal, AS.put, dropKey, Nat.reduceEqDiff, reduceCtorEq, thenQ, inQ, RPost, sres, Tryz.results33, sresL, sres1, Option.some.injEq, exists_eq_left', true_and]
      exact ⟨h, Inc.to incH4, _, rfl, hbad _ hre, rfl⟩
  have hlt' : ¬ ((i : Nat) : Int) < ((out.length : Nat) : Int) := by omega
  rw [List.take_of_length_le (by omega)] at hno
  rw [hno, if_neg (by simp)] at hwr
  simp only [wpC, mayStop, stops, isFlt, Specs.has, Specs.hasO, Bool.or_false, Specs.hasH, Bool.not_false, List.any_cons, List.any_nil, Bool.false_eq_true, ↓reduceIte, wpS, wantedA, okDst, Nat.reduceLT, decide_true, step1, isOwnCall, hxOp, px, AS.eval, AS.get, Lift.look, reduceCtorEq, Nat.reduceEqDiff, Option.getD_some, AS.put, dropKey, pcall, ty48, plen, okLen, and_self, isNilC, pbinP, pbinI, hlt', decide_false, thenQ, isB, tmpOf, asB, inQ, true_and]
  obtain ⟨zn, rfl, hzn⟩ := inR_nat hz
  refine SW.seq (SW.run [] _ ?_)
  by_cases hbig : (1048576 : Int) < ((zn : Nat) : Int)
  · rw [if_pos hbig] at hwr
    have hre := hfw (by rw [hwr]; decide)
    rw [hwr] at hre
    simp only [wpC, mayStop, stops, isFlt, Specs.has, Specs.hasO, Bool.or_false, Specs.hasH, Bool.not_false, List.any_cons, List.any_nil, Bool.false_eq_true, ↓reduceIte, wpS, wantedA, okDst, Nat.reduceLT, decide_true, step1, isOwnCall, hxOp, px, pindexAddr, ty120, ty3, AS.eval, AS.get, Lift.look, Nat.reduceEqDiff, reduceCtorEq, Option.getD_some, ofConst, ofVal, Int.reduceLE, Int.cast_ofNat_Int, Int.reduceLT, and_self, Int.reduceToNat, Nat.reduceMul, Nat.zero_add, AS.put, dropKey, pload, d1r, okOne, TK.isAgg, beq_self_eq_true, Bool.or_true, Nat.reduceAdd, List.length_cons, List.length_nil, Nat.le_refl, Lift.valOf, List.drop_succ_cons, List.drop_zero, List.take_succ_cons, List.take_nil, List.getD_cons_zero, isNilC, pbinP, pbinI, hbig, thenQ, isB, tmpOf, asB, inQ, RPost, sres, Tryz.results33, sresL, sres1, Option.some.injEq, exists_eq_left', true_and]
    exact ⟨h, Inc.to incH4, _, rfl, hbad _ hre, rfl⟩
  rw [if_neg hbig] at hwr
  subst hwr
  rw [if_neg (by simp), Int.toNat_natCast] at hu1
  simp only [wpC, mayStop, stops, isFlt, Specs.has, Specs.hasO, Bool.or_false, Specs.hasH, Bool.not_false, List.any_cons, List.any_nil, Bool.false_eq_true, ↓reduceIte, wpS, wantedA, okDst, Nat.reduceLT, decide_true, step1, isOwnCall, hxOp, px, pindexAddr, ty120, ty3, AS.eval, AS.get, Lift.look, Nat.reduceEqDiff, reduceCtorEq, Option.getD_some, ofConst, ofVal, Int.reduceLE, Int.cast_ofNat_Int, Int.reduceLT, and_self, Int.reduceToNat, Nat.reduceMul, Nat.zero_add, AS.put, dropKey, pload, d1r, okOne, TK.isAgg, beq_self_eq_true, Bool.or_true, Nat.reduceAdd, List.length_cons, List.length_nil, Nat.le_refl, Lift.valOf, List.drop_succ_cons, List.drop_zero, List.take_succ_cons, List.take_nil, List.getD_cons_zero, isNilC, pbinP, pbinI, hbig, decide_false, thenQ, isB, tmpOf, asB, true_and]
  obtain ⟨R, hR⟩ : ∃ R, R = s.drop (a + D + 1) := ⟨_, rfl⟩
  have hRl : R.length = s.length - (a + D + 1) := by rw [hR, List.length_drop]
  rw [← hR] at hu1
  have hw1 : IntKind.i64.wrap (((a + D : Nat) : Int) + 1) = ((a + D + 1 : Nat) : Int) := by rw [w64 (by omega) (by omega)]; rfl
  refine SW.seq (SW.run [] _ ?_)
  simp only [wpC, Bool.false_eq_true, ↓reduceIte, wpS, stops, wantedA, okDst, Nat.reduceLT, decide_true, step1, isOwnCall, hxOp, px, AS.eval, AS.get, Lift.look, Nat.reduceEqDiff, reduceCtorEq, Option.getD_some, isFlt, ty3, AS.put, dropKey, isNilC, pbinP, ofConst, ofVal, pbinI, hw1, thenQ, true_and]
  have hw2 : IntKind.i64.wrap (((s.length : Nat) : Int) - ((a + D + 1 : Nat) : Int)) = ((R.length : Nat) : Int) := by rw [w64 (by omega) (by omega)]; omega
  refine SW.seq (SW.run [] _ ?_)
  by_cases hend : ((R.length : Nat) : Int) < ((zn : Nat) : Int)
  · have hre := hfail 16 (by rw [hu1, if_pos (by omega)])
    simp only [wpC, mayStop, stops, isFlt, Specs.has, Specs.hasO, Bool.or_false, Specs.hasH, Bool.not_false, List.any_cons, ty3, List.any_nil, Bool.false_eq_true, ↓reduceIte, wpS, wantedA, okDst, Nat.reduceLT, decide_true, step1, isOwnCall, hxOp, px, pindexAddr, ty120, AS.eval, AS.get, Lift.look, Nat.reduceEqDiff, reduceCtorEq, Option.getD_some, ofConst, ofVal, Int.reduceLE, Int.cast_ofNat_Int, Int.reduceLT, and_self, Int.reduceToNat, Nat.reduceMul, Nat.zero_add, AS.put, dropKey, pload, d1r, okOne, TK.isAgg, beq_self_eq_true, Bool.or_true, Nat.reduceAdd, List.length_cons, List.length_nil, Nat.le_refl, Lift.valOf, List.drop_succ_cons, List.drop_zero, List.take_succ_cons, List.take_nil, List.getD_cons_zero, Nat.succ_ne_zero, pcall, ty9, plen, okLen, isNilC, pbinP, pbinI, hw2, hend, thenQ, isB, tmpOf, asB, inQ, RPost, sres, Tryz.results33, sresL, sres1, Option.some.injEq, exists_eq_left', true_and]
    exact ⟨h, Inc.to incH4, _, rfl, hbad _ hre, rfl⟩
  simp only [wpC, mayStop, stops, isFlt, Specs.has, Specs.hasO, Bool.or_false, Specs.hasH, Bool.not_false, List.any_cons, ty3, List.any_nil, Bool.false_eq_true, ↓reduceIte, wpS, wantedA, okDst, Nat.reduceLT, decide_true, step1, isOwnCall, hxOp, px, pindexAddr, ty120, AS.eval, AS.get, Lift.look, Nat.reduceEqDiff, reduceCtorEq, Option.getD_some, ofConst, ofVal, Int.reduceLE, Int.cast_ofNat_Int, Int.reduceLT, and_self, Int.reduceToNat, Nat.reduceMul, Nat.zero_add, AS.put, dropKey, pload, d1r, okOne, TK.isAgg, beq_self_eq_true, Bool.or_true, Nat.reduceAdd, List.length_cons, List.length_nil, Nat.le_refl, Lift.valOf, List.drop_succ_cons, List.drop_zero, List.take_succ_cons, List.take_nil, List.getD_cons_zero, Nat.succ_ne_zero, pcall, ty9, plen, okLen, isNilC, pbinP, pbinI, hw2, hend, decide_false, thenQ, isB, tmpOf, asB, true_and]
  have hw3 : IntKind.i64.wrap (((a + D + 1 : Nat) : Int) + ((zn : Nat) : Int)) = ((a + D + 1 + zn : Nat) : Int) := by rw [w64 (by omega) (by omega)]; omega
  have hle1 : ((a + D + 1 : Nat) : Int) ≤ ((a + D + 1 + zn : Nat) : Int) := by omega
  have hle2 : ((a + D + 1 + zn : Nat) : Int) ≤ ((s.length : Nat) : Int) := by omega
  have hdat : List.drop (a + D + 1) (List.take (a + D + 1 + zn) s) = R.take zn := by rw [List.drop_take, hR]; congr 1; omega
  refine SW.enter (n := 166) (l := [(0, .str s), (5, .val (.slice A0 out.length N0)), (6, .int .i64 ((a + D + 1 : Nat) : Int)), (10, .val (.pointer (some ⟨q, 0, none⟩))), (11, .val (.pointer (some ⟨r, 0, none⟩)))]) (H := H4) rfl (.refl _ _) (by simp only [hasAll, AS.get, Lift.look, Nat.succ_ne_zero, ↓reduceIte, Option.getD_some, Nat.reduceEqDiff, reduceCtorEq, and_self]) ?_
  refine SW.seq (SW.run [] _ ?_)
  simp only [wpC, Bool.false_eq_true, ↓reduceIte, wpS, stops, wantedA, okDst, Nat.reduceLT, decide_true, step1, isOwnCall, hxOp, px, AS.eval, AS.get, Lift.look, Option.getD_some, AS.put, dropKey, reduceCtorEq, Nat.reduceEqDiff, pindexAddr, ty120, ty3, ofConst, ofVal, Int.reduceLE, Int.cast_ofNat_Int, Int.reduceLT, and_self, Int.reduceToNat, Nat.reduceMul, Nat.zero_add, pload, d1r, okOne, TK.isAgg, beq_self_eq_true, Bool.or_true, Nat.reduceAdd, List.length_cons, List.length_nil, Nat.le_refl, Lift.valOf, List.drop_succ_cons, List.drop_zero, List.take_succ_cons, List.take_nil, List.getD_cons_zero, isFlt, isNilC, pbinP, pbinI, hw3, pslice, ty9, pB, Int.natCast_nonneg, hle1, hle2, Int.toNat_natCast, hdat, pfieldAddr, fieldOf, ty50, fieldIn, List.getElem?_cons_succ, List.getElem?_cons_zero, Option.map_some, ne_eq, Nat.succ_ne_zero, not_false_eq_true, Lift.hx, d1q, known1, PV.cells, splice, List.take_zero, List.cons_append, List.nil_append, List.drop_nil, List.append_nil, thenQ, true_and]
  have ow5 := Own.over ow4 (q := q) (by rw [b2q]; simp) (mbC na x y (R.take zn))
  have inc5 : Lift.Inc h (h4.put q (mbC na x y (R.take zn))) := Inc.over inc4 hqh _
  have b3q : (h4.put q (mbC na x y (R.take zn))) q = some (mbC na x y (R.take zn)) := Heap.put_same _ _ _
  have b3r : (h4.put q (mbC na x y (R.take zn))) r = some (n3C [.int .i64 x, .int .i64 y, .int .i64 (zn : Nat)]) := by rw [Heap.put_ne _ _ hrq]; exact b2r
  rw [show (AObj.cells 50 4 [.str na, .int .i64 x, .int .i64 y, .str (R.take zn)]) = mbC na x y (R.take zn) from rfl]
  generalize h4.put q (mbC na x y (R.take zn)) = h5 at ow5 inc5 b3q b3r
  generalize H4.put q (mbC na x y (R.take zn)) = H5 at ow5 ⊢
  have d2r : H5 r = some (.cells 120 3 [.int .i64 x, .int .i64 y, .int .i64 (zn : Nat)]) := ow5.base b3r
  have d2q : H5 q = some (.cells 50 4 [.str na, .int .i64 x, .int .i64 y, .str (R.take zn)]) := ow5.base b3q
  have incH5 : Lift.Inc h H5 := fun k X ek => ow5.inc k X (inc5 k X ek)
  refine SW.seq (SW.run [] _ ?_)
  simp only [wpC, Bool.false_eq_true, ↓reduceIte, wpS, stops, wantedA, okDst, Nat.reduceLT, decide_true, step1, isOwnCall, hxOp, px, AS.eval, AS.get, Lift.look, Nat.reduceEqDiff, reduceCtorEq, Option.getD_some, AS.put, dropKey, pindexAddr, ty120, ty3, ofConst, ofVal, Int.reduceLE, Int.cast_ofNat_Int, Int.reduceLT, and_self, Int.reduceToNat, Nat.reduceMul, Nat.zero_add, pload, d2r, okOne, TK.isAgg, beq_self_eq_true, Bool.or_true, Nat.reduceAdd, List.length_cons, List.length_nil, Nat.le_refl, Lift.valOf, List.drop_succ_cons, List.drop_zero, List.take_succ_cons, List.take_nil, List.getD_cons_zero, isFlt, isNilC, pbinP, pbinI, hw3, thenQ, true_and]
  refine SW.seq (SW.run [] _ ?_)
  by_cases hend2 : R.length ≤ zn
  · have hre := hfail 16 (by rw [hu1, if_pos (by omega)])
    have hge : ((s.length : Nat) : Int) ≤ ((a + D + 1 + zn : Nat) : Int) := by omega
    simp only [wpC, mayStop, stops, isFlt, Specs.has, Specs.hasO, Bool.or_false, Specs.hasH, Bool.not_false, List.any_cons, List.any_nil, Bool.false_eq_true, ↓reduceIte, wpS, wantedA, okDst, Nat.reduceLT, decide_true, step1, isOwnCall, hxOp, px, AS.eval, AS.get, Lift.look, Option.getD_some, AS.put, dropKey, Nat.reduceEqDiff, reduceCtorEq, Nat.succ_ne_zero, pcall, ty9, plen, okLen, and_self, isNilC, pbinP, pbinI, hge, thenQ, isB, tmpOf, asB, ofConst, ofVal, inQ, RPost, sres, Tryz.results33, sresL, sres1, Option.some.injEq, exists_eq_left', true_and]
    exact ⟨h, Inc.to incH5, _, rfl, hbad _ hre, rfl⟩
  have hge : ¬ ((s.length : Nat) : Int) ≤ ((a + D + 1 + zn : Nat) : Int) := by omega
  have hgl : ((a + D + 1 + zn : Nat) : Int) < ((s.length : Nat) : Int) := by omega
  have hgl2 : a + D + 1 + zn < s.length := by omega
  rw [if_neg (by omega)] at hu1
  simp only [wpC, mayStop, stops, isFlt, Specs.has, Specs.hasO, Bool.or_false, Specs.hasH, Bool.not_false, List.any_cons, List.any_nil, Bool.false_eq_true, ↓reduceIte, wpS, wantedA, okDst, Nat.reduceLT, decide_true, step1, isOwnCall, hxOp, px, AS.eval, AS.get, Lift.look, Option.getD_some, AS.put, dropKey, Nat.reduceEqDiff, reduceCtorEq, Nat.succ_ne_zero, pcall, ty9, plen, okLen, and_self, isNilC, pbinP, pbinI, hge, decide_false, thenQ, isB, tmpOf, asB, true_and]
  have hRg : s.getD (a + D + 1 + zn) 0 = R.getD zn 0 := by
    rw [hR, List.getD_eq_getElem?_getD, List.getD_eq_getElem?_getD, List.getElem?_drop]
  refine SW.seq (SW.run [] _ ?_)
  by_cases h10 : R.getD zn 0 = 10
  case neg =>
    have hb : (((((R.getD zn 0).toNat : Nat) : Int)) != 10) = true := by
      have := byte10 (R.getD zn 0)
      simp only [bne, this]
      simpa using h10
    have hre := hfail 2 (by rw [hu1, if_pos h10])
    simp only [wpC, mayStop, stops, isFlt, Specs.has, Specs.hasO, Bool.or_false, Specs.hasH, Bool.not_false, List.any_cons, List.any_nil, Bool.false_eq_true, ↓reduceIte, wpS, wantedA, okDst, Nat.reduceLT, decide_true, step1, isOwnCall, hxOp, px, AS.eval, AS.get, Lift.look, Nat.succ_ne_zero, Option.getD_some, AS.put, dropKey, Nat.reduceEqDiff, reduceCtorEq, pindex, ty9, Int.natCast_nonneg, Int.toNat_natCast, hgl2, and_self, hRg, isNilC, pbinP, ofConst, ofVal, pbinI, hb, thenQ, isB, tmpOf, asB, inQ, RPost, sres, Tryz.results33, sresL, sres1, Option.some.injEq, exists_eq_left', true_and]
    exact ⟨h, Inc.to incH5, _, rfl, hbad _ hre, rfl⟩
  have hb : (((((R.getD zn 0).toNat : Nat) : Int)) != 10) = false := by rw [h10]; rfl
  rw [if_neg (by simpa using h10)] at hu1
  simp only [wpC, mayStop, stops, isFlt, Specs.has, Specs.hasO, Bool.or_false, Specs.hasH, Bool.not_false, List.any_cons, List.any_nil, Bool.false_eq_true, ↓reduceIte, wpS, wantedA, okDst, Nat.reduceLT, decide_true, step1, isOwnCall, hxOp, px, AS.eval, AS.get, Lift.look, Nat.succ_ne_zero, Option.getD_some, AS.put, dropKey, Nat.reduceEqDiff, reduceCtorEq, pindex, ty9, Int.natCast_nonneg, Int.toNat_natCast, hgl2, and_self, hRg, isNilC, pbinP, ofConst, ofVal, pbinI, hb, thenQ, isB, tmpOf, asB, true_and]
  have hw4 : IntKind.i64.wrap (((a + D + 1 + zn : Nat) : Int) + 1) = ((a + D + 1 + zn + 1 : Nat) : Int) := by rw [w64 (by omega) (by omega)]; rfl
  refine SW.seq (SW.run [] _ ?_)
  simp only [wpC, Bool.false_eq_true, ↓reduceIte, wpS, stops, wantedA, okDst, Nat.reduceLT, decide_true, step1, isOwnCall, hxOp, px, AS.eval, AS.get, Lift.look, Nat.reduceEqDiff, Option.getD_some, isFlt, ty3, AS.put, dropKey, reduceCtorEq, isNilC, pbinP, ofConst, ofVal, pbinI, hw4, thenQ, true_and]
  refine SW.run [] _ ?_
  simp only [wpC, Bool.false_eq_true, ↓reduceIte, wpS, stops, wantedA, okDst, Nat.reduceLT, decide_true, step1, isOwnCall, hxOp, px, AS.eval, AS.get, Lift.look, Nat.reduceEqDiff, reduceCtorEq, Option.getD_some, AS.put, dropKey, pload, ty50, d2q, okOne, TK.isAgg, Nat.reduceBEq, Bool.or_false, Nat.zero_add, List.length_cons, List.length_nil, Nat.reduceAdd, Nat.le_refl, and_self, Lift.valOf, List.drop_zero, List.take_succ_cons, List.take_nil, pbuildSlice, ty48, Nat.succ_ne_zero, List.replicate, List.map_cons, ofVal, List.map_nil, List.flatten_cons, List.flatten_nil, List.append_nil, ofConst, pfill, PV.cells, Nat.reduceMul, splice, List.take_zero, List.nil_append, List.drop_succ_cons, List.drop_nil, Nat.reduceLeDiff, okZero, List.all_cons, Value.oneCell', List.all_nil, Bool.and_true, known, chunk, true_and]
  rw [mbL_len] at ow5
  refine SWO.append (.tmp 161) (.tmp 163) 48 48 rfl ty48 rfl ty50 (by decide) rfl ty48 rfl ow5 (ys := [mbV ⟨na, x, y, R.take zn⟩]) rfl (by rw [mbL_len]; show (_ + 1) * 48 ≤ _; omega) (by rw [mbL_len]; simp [maxLen]; omega) rfl rfl ?_
  intro v8 h8 ow8 _ _
  refine SWO.run [] 1000 ?_
  simp only [wpS, stops, Bool.false_eq_true, ↓reduceIte, wantedA, okDst, AS.put, dropKey, Nat.reduceEqDiff, reduceCtorEq, Nat.reduceLT, decide_true, step1, isOwnCall, hxOp, px, AS.eval, AS.get, Lift.look, Option.getD_some, inQ, thenQ, Nat.succ_ne_zero, true_and]
  exact ⟨s.length - (a + D + 1 + zn + 1), by omega, out ++ [⟨na, x, y, R.take zn⟩], a + D + 1 + zn + 1, v8, h5, f, by omega, rfl, by omega, by rw [List.length_append, List.length_singleton]; omega, by rw [hrs, unpF_ok hne hu1, hR, List.drop_drop]; congr 2, inc5, by rw [mbL_append]; exact ow8, rfl, rfl⟩
theorem RUnpack_ok (s : List UInt8) (hs : s.length ≤ 1000000) (h : Heap) : SCalls env 33 [.str s] h (Ret (unpR s) h) := by
  refine (RUnpackQ_ok s hs h).letGo fun e h' ⟨p, e1, hp, e2⟩ => ?_
  obtain ⟨v, rfl, hv⟩ := hp
  rcases hv with rfl | ⟨rfl, hn⟩
  · exact ⟨_, _, h, e1, by rw [e2]; exact LetGo.refl _ _, rfl, rfl⟩
  · refine ⟨_, _, h, e1, by rw [e2]; exact (Own.nil h 50 4).letGoT _, ?_, rfl⟩
    unfold unpR
    rw [hn]
    rfl
noncomputable def eRUnpack : SpecE env := ⟨33, sUnpack, fun args h hc => by
  unfold sUnpack at hc ⊢
  split at hc
  · rename_i s; exact .inl (RUnpack_ok s hc h)
  · exact hc.elim⟩
end Go.Proofs.YtincpomenogppaaGreatDoor
