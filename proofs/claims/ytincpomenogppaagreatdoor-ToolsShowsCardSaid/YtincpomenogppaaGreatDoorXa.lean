/- Contracts of functions that the law reaches. -/
import Derived.Test.YtincpomenogppaaGreatDoorX9
set_option linter.unusedSimpArgs false
set_option linter.unusedVariables false
namespace Go.Proofs.YtincpomenogppaaGreatDoor
open Go Go.RowKit Go.Proofs.YtincpomenogppaaGreatDoor Go.Proofs.YtincpomenogppaaGreatDoor.Lift
set_option maxRecDepth 100000

def edR (a b : Int) (c d : PV) : AObj := .cells 77 4 [.int .i64 a, .int .i64 b, c, d]
def numC (ns : List PV) : AObj := .cells 101 4 ns
set_option maxHeartbeats 16000000 in
set_option maxRecDepth 100000 in
theorem RReadQ_ok (s : List UInt8) (hs : s.length ≤ 1000000) (h : Heap) : SCalls env 14 [.str s] h (fun en h' => ∃ p, en = .ret p ∧ rreadQ s p ∧ h' = h) := by
  refine SCalls.body Tryz.func14 rfl rfl (by simp [Tryz.ntmps14]) ?_
  obtain ⟨Q, hQ⟩ : ∃ Q : PV → Prop, Q = rreadQ s := ⟨_, rfl⟩
  rw [← hQ]
  have hbad : (rreadS s = ([], 2)) → Q (.tuple [.val (.slice none 0 0), .int .i64 2]) := fun k => by
    rw [hQ]; unfold rreadQ; rw [k]; exact ⟨_, rfl, .inr ⟨rfl, rfl⟩⟩
  have hrs : rreadS s = (match parseR s.length (s.length + 1) s with | none => ([], 2) | some es => if showS es = (s, 0) then (es, 0) else ([], 2)) := rfl
  refine SW.seq (SW.run [] _ ?_)
  simp only [wpC, Bool.false_eq_true, ↓reduceIte, wpS, stops, wantedA, okDst, Tryz.ntmps14, Nat.reduceLT, decide_true, step1, isOwnCall, hxOp, px, AS.eval, ofConst, ofVal, AS.put, enumA, dropKey, reduceCtorEq, thenQ, Nat.reduceEqDiff, true_and]
  refine SW.seq (SW.run [] _ ?_)
  simp only [wpC, Bool.false_eq_true, ↓reduceIte, wpS, stops, wantedA, okDst, Nat.reduceLT, decide_true, step1, isOwnCall, hxOp, px, AS.eval, ofConst, ofVal, thenQ, AS.put, dropKey, Nat.reduceEqDiff, reduceCtorEq, true_and]
  refine SW.seq (SW.run [] _ ?_)
  simp only [wpC, Bool.false_eq_true, ↓reduceIte, wpS, stops, wantedA, okDst, Nat.reduceLT, decide_true, step1, isOwnCall, hxOp, px, AS.eval, ofConst, ofVal, thenQ, AS.put, dropKey, Nat.reduceEqDiff, reduceCtorEq, true_and]
  refine SW.seq (SW.block (SW.loop (fun bb st => ∃ (out : List Ed) (a : Nat) (v : PV) (h1 : Heap) (f : Nat), a ≤ s.length ∧ s.length - a = bb ∧ s.length - a ≤ f ∧ szS out ≤ a ∧ (∀ e ∈ out, e.num) ∧ parseR s.length (s.length + 1) s = (parseR s.length (f + 1) (s.drop a)).map (out ++ ·) ∧ Lift.Inc h h1 ∧ Own h1 77 4 (edL out) v st.h ∧ st.n = 167 ∧ hasAll st [(0, .str s), (4, v), (5, .int .i64 (a : Nat))]) s.length ⟨[], 0, .val (.slice none 0 0), h, s.length, Nat.zero_le _, rfl, Nat.le_refl _, Nat.le_refl _, by simp, by simp, incSelf h, Own.nil _ _ _, rfl, ?_⟩ ?_))
  · simp only [hasAll, AS.get, Lift.look, Nat.succ_ne_zero, ↓reduceIte, Option.getD_some, Nat.reduceEqDiff, Int.cast_ofNat_Int, and_self]
  rintro bb st ⟨out, a, v, h1, f, ha, hbb, hf, hsz, hnum, hpt, inc, ow, hn', hs'⟩
  refine SW.norm ⟨hn', rfl, hs'⟩ ?_
  generalize st.h = H at ow
  clear hn' hs'
  refine SW.seq (SW.run [] _ ?_)
  by_cases hlt : a < s.length
  case neg =>
    have hlt' : ¬ (a : Int) < (s.length : Int) := by omega
    have hd0 : s.drop a = [] := List.drop_of_length_le (by omega)
    rw [hd0, parseR_nil] at hpt
    have hpt : parseR s.length (s.length + 1) s = some out := by rw [hpt]; show some (out ++ []) = _; rw [List.append_nil]
    rw [hpt] at hrs
    have hrs : rreadS s = (if showS out = (s, 0) then (out, 0) else ([], 2)) := hrs
    obtain ⟨ft1, ft2, ft3⟩ := fit_of hnum (k := s.length) (by omega) hs
    simp only [wpC, mayStop, stops, isFlt, Specs.has, Specs.hasO, Bool.or_false, Specs.hasH, Bool.not_false, List.any_cons, List.any_nil, Bool.false_eq_true, ↓reduceIte, wpS, wantedA, okDst, Nat.reduceLT, decide_true, step1, isOwnCall, hxOp, px, AS.eval, AS.get, Lift.look, reduceCtorEq, Nat.reduceEqDiff, Option.getD_some, AS.put, dropKey, Nat.succ_ne_zero, pcall, ty9, plen, okLen, and_self, isNilC, pbinP, pbinI, hlt', decide_false, thenQ, isB, tmpOf, asB, inQ, true_and]
    refine SW.own_let 4 rfl ow ?_
    obtain ⟨S, k, hSk⟩ : ∃ S k, showS out = (S, k) := ⟨_, _, rfl⟩
    have hR : showR out = .tuple [.str S, .int .i64 k] := by unfold showR; rw [hSk]
    rw [hSk] at hrs
    refine SW.seq (SW.run [eRShow out] _ ?_)
    simp only [wpC, Bool.false_eq_true, ↓reduceIte, wpS, stops, wantedA, okDst, AS.put, dropKey, Nat.reduceEqDiff, reduceCtorEq, Nat.reduceLT, decide_true, step1, isOwnCall, hxOp, px, AS.eval, AS.get, Lift.look, Option.getD_some, Specs.has, eRShow, Specs.hasO, Bool.or_false, Specs.hasH, Bool.not_true, pcall, okArg, ofConst, ofVal, List.all_cons, List.all_nil, Bool.and_true, Specs.at, List.map_cons, List.map_nil, sRShow, ft2, ft3, and_self, and_true, true_and, hR, List.getElem?_cons_zero, List.getElem?_cons_succ, thenQ]
    refine ⟨ft1, ?_⟩
    refine SW.seq (SW.run [] _ ?_)
    cases hk : (k != 0)
    · have hk0 : k = 0 := by simpa using hk
      cases hS : (S == s)
      · have hS0 : S ≠ s := by simpa using hS
        have hrs : rreadS s = ([], 2) := by rw [hrs, if_neg]; intro e; exact hS0 (congrArg Prod.fst e)
        simp only [wpC, mayStop, stops, isFlt, Specs.has, Specs.hasO, Bool.or_false, Specs.hasH, Bool.not_false, List.any_cons, List.any_nil, Bool.false_eq_true, ↓reduceIte, wpS, wantedA, okDst, Nat.reduceLT, decide_true, step1, isOwnCall, hxOp, px, AS.eval, AS.get, Lift.look, Option.getD_some, AS.put, dropKey, Nat.reduceEqDiff, reduceCtorEq, isNilC, pbinP, ofConst, ofVal, pbinI, hk, List.getElem?_toArray, List.getElem?_cons_succ, List.getElem?_cons_zero, Option.bind_some, beq_self_eq_true, Nat.succ_ne_zero, pbinS, hS, ppick_bool, thenQ, isB, tmpOf, asB, RPost, sres, Tryz.results14, sresL, sres1, Option.some.injEq, exists_eq_left', true_and]
        exact ⟨h, Inc.to inc, _, rfl, hbad hrs, rfl⟩
      · have hS0 : S = s := by simpa using hS
        have hrs : rreadS s = (out, 0) := by rw [hrs, if_pos (by rw [hS0, hk0])]
        simp only [wpC, mayStop, stops, isFlt, Specs.has, Specs.hasO, Bool.or_false, Specs.hasH, Bool.not_false, List.any_cons, List.any_nil, Bool.false_eq_true, ↓reduceIte, wpS, wantedA, okDst, Nat.reduceLT, decide_true, step1, isOwnCall, hxOp, px, AS.eval, AS.get, Lift.look, Option.getD_some, AS.put, dropKey, Nat.reduceEqDiff, reduceCtorEq, isNilC, pbinP, ofConst, ofVal, pbinI, hk, List.getElem?_toArray, List.getElem?_cons_succ, List.getElem?_cons_zero, Option.bind_some, beq_self_eq_true, Nat.succ_ne_zero, pbinS, hS, Bool.not_true, ppick_bool, thenQ, isB, tmpOf, asB, true_and]
        refine SW.run [] _ ?_
        simp only [wpC, mayStop, stops, isFlt, Specs.has, Specs.hasO, Bool.or_false, Specs.hasH, Bool.not_false, List.any_cons, List.any_nil, Bool.false_eq_true, ↓reduceIte, wpS, wantedA, okDst, Nat.reduceLT, decide_true, step1, isOwnCall, hxOp, px, AS.eval, AS.get, Lift.look, Nat.reduceEqDiff, Option.getD_some, AS.put, dropKey, reduceCtorEq, ofConst, ofVal, thenQ, RPost, sres, Tryz.results14, sresL, sres1, Option.some.injEq, exists_eq_left', true_and]
        refine ⟨h, Inc.to inc, _, rfl, ?_, rfl⟩
        rw [hQ]; unfold rreadQ; rw [hrs]
        exact ⟨_, rfl, .inl rfl⟩
    · have hk0 : k ≠ 0 := by simpa using hk
      have hrs : rreadS s = ([], 2) := by rw [hrs, if_neg]; intro e; exact hk0 (congrArg Prod.snd e)
      simp only [wpC, mayStop, stops, isFlt, Specs.has, Specs.hasO, Bool.or_false, Specs.hasH, Bool.not_false, List.any_cons, List.any_nil, Bool.false_eq_true, ↓reduceIte, wpS, wantedA, okDst, Nat.reduceLT, decide_true, step1, isOwnCall, hxOp, px, AS.eval, AS.get, Lift.look, Option.getD_some, AS.put, dropKey, Nat.reduceEqDiff, reduceCtorEq, isNilC, pbinP, ofConst, ofVal, pbinI, hk, List.getElem?_toArray, List.getElem?_cons_succ, List.getElem?_cons_zero, Option.bind_some, beq_tf, Option.some.injEq, ppick_true, thenQ, isB, tmpOf, asB, RPost, sres, Tryz.results14, sresL, sres1, exists_eq_left', true_and]
      exact ⟨h, Inc.to inc, _, rfl, hbad hrs, rfl⟩
  have hlt' : (a : Int) < (s.length : Int) := by omega
  have hgt : s.getD a 0 = s[a] := by rw [List.getD_eq_getElem?_getD, List.getElem?_eq_getElem hlt]; rfl
  have hca : s.drop a = s[a] :: s.drop (a + 1) := List.drop_eq_getElem_cons hlt
  have hne : s.drop a ≠ [] := by rw [hca]; exact List.cons_ne_nil _ _
  have hhd : (s.drop a).head? = some s[a] := by rw [hca]; rfl
  have hcl : (s.drop a).length = s.length - a := List.length_drop
  have incH : Lift.Inc h H := fun k X ek => ow.inc k X (inc k X ek)
  have hfail : parse1R s.length (s.drop a) = none → rreadS s = ([], 2) := fun k => by
    rw [hrs, hpt, parseR_none hne k]; rfl
  simp only [wpC, mayStop, stops, isFlt, Specs.has, Specs.hasO, Bool.or_false, Specs.hasH, Bool.not_false, List.any_cons, List.any_nil, Bool.false_eq_true, ↓reduceIte, wpS, wantedA, okDst, Nat.reduceLT, decide_true, step1, isOwnCall, hxOp, px, AS.eval, AS.get, Lift.look, reduceCtorEq, Nat.reduceEqDiff, Option.getD_some, AS.put, dropKey, Nat.succ_ne_zero, pcall, ty9, plen, okLen, and_self, isNilC, pbinP, pbinI, hlt', thenQ, isB, tmpOf, asB, hasAll, and_true, true_and]
  refine SW.block (SW.seq (SW.run [] _ ?_))
  obtain ⟨b, hb⟩ : ∃ b, b = s[a] := ⟨_, rfl⟩
  rw [← hb] at hgt hhd
  have hb64 : (((b.toNat : Nat) : Int) == 64) = (b == 64) := byte_lit b 64 rfl
  cases h64 : (b == 64)
  · have hrs := hfail (by unfold parse1R; rw [hhd, if_neg]; intro k; injection k with k; rw [k] at h64; cases h64)
    simp only [wpC, mayStop, stops, isFlt, Specs.has, Specs.hasO, Bool.or_false, Specs.hasH, Bool.not_false, List.any_cons, List.any_nil, Bool.false_eq_true, ↓reduceIte, wpS, wantedA, okDst, Nat.reduceLT, decide_true, step1, isOwnCall, hxOp, px, AS.eval, AS.get, Lift.look, Nat.succ_ne_zero, Option.getD_some, AS.put, dropKey, Nat.reduceEqDiff, reduceCtorEq, pindex, ty9, Int.natCast_nonneg, Int.toNat_natCast, hlt, and_self, hgt, isNilC, pbinP, ofConst, ofVal, pbinI, bne, hb64, h64, thenQ, isB, tmpOf, asB, inQ, RPost, sres, Tryz.results14, sresL, sres1, Option.some.injEq, exists_eq_left', true_and]
    exact ⟨h, Inc.to incH, _, rfl, hbad hrs, rfl⟩
  have hb2 : b = 64 := by simpa using h64
  rw [hb2] at hhd
  simp only [wpC, mayStop, stops, isFlt, Specs.has, Specs.hasO, Bool.or_false, Specs.hasH, Bool.not_false, List.any_cons, List.any_nil, Bool.false_eq_true, ↓reduceIte, wpS, wantedA, okDst, Nat.reduceLT, decide_true, step1, isOwnCall, hxOp, px, AS.eval, AS.get, Lift.look, Nat.succ_ne_zero, Option.getD_some, AS.put, dropKey, Nat.reduceEqDiff, reduceCtorEq, pindex, ty9, Int.natCast_nonneg, Int.toNat_natCast, hlt, and_self, hgt, isNilC, pbinP, ofConst, ofVal, pbinI, bne, hb64, h64, Bool.not_true, thenQ, isB, tmpOf, asB, true_and]
  refine SW.enter (n := 167) (l := [(0, .str s), (4, v), (5, .int .i64 (a : Nat))]) (H := H) rfl (.refl _ _) (by simp only [hasAll, AS.get, Lift.look, Nat.succ_ne_zero, ↓reduceIte, Option.getD_some, Nat.reduceEqDiff, reduceCtorEq, and_self]) ?_
  refine SW.seq (SW.run [] _ ?_)
  simp only [wpC, Bool.false_eq_true, ↓reduceIte, wpS, stops, wantedA, okDst, Nat.reduceLT, decide_true, step1, okAlloc, ty101, okZero, List.all_cons, Value.oneCell', List.all_nil, Bool.and_true, thenQ, AS.put, dropKey, reduceCtorEq, Nat.reduceEqDiff, zeroOf, List.map_cons, ofVal, List.map_nil, List.length_cons, List.length_nil, Nat.zero_add, Nat.reduceAdd, true_and]
  intro r hr
  have hr1 : h1 r = none := incFresh ow.inc hr
  have hrh : h r = none := incFresh inc hr1
  refine SW.seq (SW.run [] _ ?_)
  simp only [wpC, mayStop, stops, isFlt, Specs.has, Specs.hasO, Bool.or_false, Specs.hasH, Bool.not_false, List.any_cons, List.any_nil, Bool.false_eq_true, ↓reduceIte, wpS, wantedA, okDst, Nat.reduceLT, decide_true, step1, isOwnCall, hxOp, px, AS.eval, ofConst, ofVal, thenQ, AS.put, dropKey, Nat.reduceEqDiff, reduceCtorEq, true_and]
  refine SW.loopK 167 (fun x : List Int × Nat => [(0, .str s), (4, v), (5, .int .i64 (x.2 : Nat)), (6, .val (.pointer (some ⟨r, 0, none⟩))), (7, .int .i64 (x.1.length : Nat))]) (fun x => H.put r (numC (arrI x.1))) (fun x => x.1.length ≤ 4 ∧ a ≤ x.2 ∧ x.2 < s.length ∧ rnums 4 (s.drop a) = (rnums (4 - x.1.length) (s.drop x.2)).map (fun y => (x.1 ++ y.1, y.2)) ∧ ∀ n ∈ x.1, 0 ≤ n ∧ n ≤ 9223372036854775807) (fun x => 4 - x.1.length) ([], a) ⟨by show 0 ≤ 4; omega, Nat.le_refl _, hlt, by simp, by simp⟩ ?_ ?_
  · simp only [Has, hasAll, AS.get, Lift.look, Nat.succ_ne_zero, ↓reduceIte, Option.getD_some, Nat.reduceEqDiff, reduceCtorEq, List.length_nil, Int.cast_ofNat_Int, and_self, and_true, true_and]
    rfl
  rintro ⟨ns, a2⟩ ⟨i1, i2, i3, i4, i5⟩
  have i1 : ns.length ≤ 4 := i1
  have i2 : a ≤ a2 := i2
  have i3 : a2 < s.length := i3
  have i4 : rnums 4 (s.drop a) = (rnums (4 - ns.length) (s.drop a2)).map (fun y => (ns ++ y.1, y.2)) := i4
  have i5 : ∀ n ∈ ns, 0 ≤ n ∧ n ≤ 9223372036854775807 := i5
  have incN : ∀ x, Lift.Inc h (H.put r x) := fun x => Inc.over incH (incFresh incH hr) _
  refine SW.seq (SW.run [] _ ?_)
  by_cases hl4 : ns.length < 4
  · have hl4' : ((ns.length : Nat) : Int) < 4 := by omega
    have hw : IntKind.i64.wrap (((ns.length : Nat) : Int) + 1) = ((ns.length + 1 : Nat) : Int) := by rw [w64 (by omega) (by omega)]; rfl
    have hwa : IntKind.i64.wrap (((a2 : Nat) : Int) + 1) = ((a2 + 1 : Nat) : Int) := by rw [w64 (by omega) (by omega)]; rfl
    have h41 : 4 - ns.length = (4 - (ns.length + 1)) + 1 := by omega
    rw [h41] at i4
    have hdd : (s.drop a2).drop 1 = s.drop (a2 + 1) := by rw [List.drop_drop]
    obtain ⟨k, hk⟩ : ∃ k, k = (rnumF 0 (s.drop (a2 + 1))).2 := ⟨_, rfl⟩
    obtain ⟨n, hn⟩ : ∃ n, n = rnum (s.drop (a2 + 1)) := ⟨_, rfl⟩
    have hkl := rnumF_len (s.drop (a2 + 1)) 0
    rw [← hk, List.length_drop] at hkl
    have hnm := rnum_max (s.drop (a2 + 1))
    rw [← hn] at hnm
    have hrr : rnumR s (a2 + 1) = .tuple [.int .i64 n, .int .i64 ((a2 + 1 + k : Nat) : Int)] := by unfold rnumR; rw [← hn, ← hk]
    have b0 : (0 : Int) ≤ ((a2 + 1 : Nat) : Int) := by omega
    have b1 : ((a2 + 1 : Nat) : Int) ≤ ((s.length : Nat) : Int) := by omega
    have hal := arrI_len i1
    have hal2 : ns.length * 1 + 1 ≤ (arrI ns).length := by omega
    have hset := arrI_set n hl4
    have hput : List.take (ns.length * 1) (arrI ns) ++ [.int .i64 n] ++ List.drop (ns.length * 1 + 1) (arrI ns) = arrI (ns ++ [n]) := by rw [Nat.mul_one]; exact hset
    have hget := arrI_get n hl4
    have hal3 : ns.length * 1 + 1 ≤ (arrI (ns ++ [n])).length := by rw [arrI_len (by rw [List.length_append]; simp; omega)]; omega
    have hkd : (s.drop (a2 + 1)).drop k = s.drop (a2 + 1 + k) := List.drop_drop
    simp only [wpC, mayStop, stops, isFlt, Specs.has, Specs.hasO, Bool.or_false, Specs.hasH, Bool.not_false, List.any_cons, List.any_nil, Bool.false_eq_true, ↓reduceIte, wpS, wantedA, okDst, Nat.reduceLT, decide_true, step1, isOwnCall, hxOp, px, AS.eval, AS.get, Lift.look, reduceCtorEq, Nat.reduceEqDiff, Option.getD_some, AS.put, dropKey, isNilC, pbinP, ofConst, ofVal, pbinI, hl4', thenQ, isB, tmpOf, asB, Has, hasAll, and_true, true_and]
    refine SW.seq (SW.block (SW.seq (SW.run [eRNumber] _ ?_)))
    simp only [wpC, Bool.false_eq_true, ↓reduceIte, wpS, stops, wantedA, okDst, Nat.reduceLT, decide_true, step1, isOwnCall, hxOp, px, AS.eval, AS.get, Lift.look, Nat.reduceEqDiff, reduceCtorEq, Option.getD_some, AS.put, dropKey, numC, Nat.succ_ne_zero, isFlt, ty3, isNilC, pbinP, ofConst, ofVal, pbinI, hwa, Specs.has, eRNumber, Specs.hasO, Bool.or_false, Specs.hasH, Bool.not_true, pcall, okArg, List.all_cons, List.all_nil, Bool.and_true, Specs.at, List.map_cons, List.map_nil, sRNumber, hs, b0, b1, and_self, Int.toNat_natCast, hrr, List.getElem?_cons_zero, List.getElem?_cons_succ, pindexAddr, ty101, Int.natCast_nonneg, Int.cast_ofNat_Int, hl4', Nat.zero_add, hx, Heap.get_put, known1, PV.cells, List.length_cons, List.length_nil, hal2, splice, thenQ, true_and]
    rw [Heap.put_put, hput]
    refine SW.run [] _ ?_
    by_cases hbadn : n < 0 ∨ s.length ≤ a2 + 1 + k
    · have hrs := hfail (by
        have hz : rnum ((s.drop a2).drop 1) < 0 ∨ ((s.drop a2).drop 1).drop (rnumF 0 ((s.drop a2).drop 1)).2 = [] := by
          rw [hdd, ← hk, ← hn, hkd]
          rcases hbadn with z | z
          · exact .inl z
          · exact .inr (List.drop_of_length_le z)
        rw [rnums_bad _ hz] at i4
        have i4 : rnums 4 (s.drop a) = none := i4
        unfold parse1R
        rw [hhd, if_pos rfl, i4])
      by_cases hn0 : n < 0
      · simp only [wpC, mayStop, stops, isFlt, Specs.has, Specs.hasO, Bool.or_false, Specs.hasH, Bool.not_false, List.any_cons, List.any_nil, Bool.false_eq_true, ↓reduceIte, wpS, wantedA, okDst, Nat.reduceLT, decide_true, step1, isOwnCall, hxOp, px, AS.eval, AS.get, Lift.look, Nat.reduceEqDiff, reduceCtorEq, Option.getD_some, AS.put, dropKey, pindexAddr, ty101, ty3, Int.natCast_nonneg, Int.cast_ofNat_Int, hl4', and_self, Int.toNat_natCast, Nat.zero_add, pload, Heap.get_put, okOne, TK.isAgg, beq_self_eq_true, Bool.or_true, hal3, Lift.valOf, hget, List.getD_cons_zero, isNilC, pbinP, ofConst, ofVal, pbinI, hn0, List.getElem?_toArray, List.getElem?_cons_succ, List.getElem?_cons_zero, Option.bind_some, beq_tf, Option.some.injEq, ppick_true, thenQ, isB, tmpOf, asB, inQ, RPost, sres, Tryz.results14, sresL, sres1, exists_eq_left', true_and]
        exact ⟨h, Inc.to (incN _), _, rfl, hbad hrs, rfl⟩
      · have hge : ((s.length : Nat) : Int) ≤ ((a2 + 1 + k : Nat) : Int) := by omega
        simp only [wpC, mayStop, stops, isFlt, Specs.has, Specs.hasO, Bool.or_false, Specs.hasH, Bool.not_false, List.any_cons, List.any_nil, Bool.false_eq_true, ↓reduceIte, wpS, wantedA, okDst, Nat.reduceLT, decide_true, step1, isOwnCall, hxOp, px, AS.eval, AS.get, Lift.look, Nat.reduceEqDiff, reduceCtorEq, Option.getD_some, AS.put, dropKey, pindexAddr, ty101, ty3, Int.natCast_nonneg, Int.cast_ofNat_Int, hl4', and_self, Int.toNat_natCast, Nat.zero_add, pload, Heap.get_put, okOne, TK.isAgg, beq_self_eq_true, Bool.or_true, hal3, Lift.valOf, hget, List.getD_cons_zero, isNilC, pbinP, ofConst, ofVal, pbinI, hn0, decide_false, List.getElem?_toArray, List.getElem?_cons_succ, List.getElem?_cons_zero, Option.bind_some, Nat.succ_ne_zero, pcall, ty9, plen, okLen, hge, ppick_bool, thenQ, isB, tmpOf, asB, inQ, RPost, sres, Tryz.results14, sresL, sres1, Option.some.injEq, exists_eq_left', true_and]
        exact ⟨h, Inc.to (incN _), _, rfl, hbad hrs, rfl⟩
    · have hn0 : ¬ n < 0 := fun z => hbadn (.inl z)
      have hge : ¬ ((s.length : Nat) : Int) ≤ ((a2 + 1 + k : Nat) : Int) := by omega
      have hz : ¬ (rnum ((s.drop a2).drop 1) < 0 ∨ ((s.drop a2).drop 1).drop (rnumF 0 ((s.drop a2).drop 1)).2 = []) := by
        rw [hdd, ← hk, ← hn, hkd]
        rintro (z | z)
        · exact hn0 z
        · have := congrArg List.length z
          rw [List.length_drop] at this
          simp at this
          omega
      rw [rnums_ok _ hz, hdd, ← hk, ← hn, hkd] at i4
      simp only [wpC, mayStop, stops, isFlt, Specs.has, Specs.hasO, Bool.or_false, Specs.hasH, Bool.not_false, List.any_cons, List.any_nil, Bool.false_eq_true, ↓reduceIte, wpS, wantedA, okDst, Nat.reduceLT, decide_true, step1, isOwnCall, hxOp, px, AS.eval, AS.get, Lift.look, Nat.reduceEqDiff, reduceCtorEq, Option.getD_some, AS.put, dropKey, pindexAddr, ty101, ty3, Int.natCast_nonneg, Int.cast_ofNat_Int, hl4', and_self, Int.toNat_natCast, Nat.zero_add, pload, Heap.get_put, okOne, TK.isAgg, beq_self_eq_true, Bool.or_true, hal3, Lift.valOf, hget, List.getD_cons_zero, isNilC, pbinP, ofConst, ofVal, pbinI, hn0, decide_false, List.getElem?_toArray, List.getElem?_cons_succ, List.getElem?_cons_zero, Option.bind_some, Nat.succ_ne_zero, pcall, ty9, plen, okLen, hge, ppick_bool, thenQ, isB, tmpOf, asB, inQ, true_and]
      refine SW.run [] _ ?_
      simp only [wpC, Bool.false_eq_true, ↓reduceIte, wpS, stops, wantedA, okDst, Nat.reduceLT, decide_true, step1, isOwnCall, hxOp, px, AS.eval, AS.get, Lift.look, Nat.reduceEqDiff, reduceCtorEq, Option.getD_some, isFlt, ty3, AS.put, dropKey, isNilC, pbinP, ofConst, ofVal, pbinI, hw, thenQ, Nat.succ_ne_zero, true_and]
      have hln : (ns ++ [n]).length = ns.length + 1 := by simp
      refine ⟨(ns ++ [n], a2 + 1 + k), ⟨by show (ns ++ [n]).length ≤ 4; omega, by show a ≤ a2 + 1 + k; omega, by show a2 + 1 + k < _; omega, ?_, ?_⟩, by show 4 - (ns ++ [n]).length < _; omega, rfl, rfl, by show PV.int .i64 ((ns.length + 1 : Nat) : Int) = PV.int .i64 (((ns ++ [n]).length : Nat) : Int); rw [hln]⟩
      · show _ = (rnums (4 - (ns ++ [n]).length) (s.drop (a2 + 1 + k))).map _
        rw [i4, hln, Option.map_map]
        congr 1
        funext y
        simp
      · intro z hz2
        rcases List.mem_append.1 hz2 with hz2 | hz2
        · exact i5 z hz2
        · rw [List.mem_singleton.1 hz2]; exact ⟨by omega, hnm⟩
  have hl44 : ns.length = 4 := by omega
  obtain ⟨n0, n1, n2, n3, rfl⟩ : ∃ n0 n1 n2 n3, ns = [n0, n1, n2, n3] := by
    match ns, hl44 with
    | [n0, n1, n2, n3], _ => exact ⟨n0, n1, n2, n3, rfl⟩
  have i4 : rnums 4 (s.drop a) = some ([n0, n1, n2, n3], s.drop a2) := by rw [i4]; rfl
  have q0 := i5 n0 (by simp)
  have q1 := i5 n1 (by simp)
  have q2 := i5 n2 (by simp)
  have q3 := i5 n3 (by simp)
  have hp1 : parse1R s.length (s.drop a) = if (s.length : Int) < n1 ∨ (s.length : Int) < n3 then none else
      match rlines (n1.toNat + n3.toNat) ((s.drop a2).drop 1) with
      | none => none
      | some (ls, r) => some (⟨n0, n2, ls.take n1.toNat, ls.drop n1.toNat⟩, r) := by
    conv => lhs; unfold parse1R
    rw [hhd, if_pos rfl, i4]
    rfl
  have harr : arrI [n0, n1, n2, n3] = [.int .i64 n0, .int .i64 n1, .int .i64 n2, .int .i64 n3] := rfl
  have hl43 : ¬ (([n0, n1, n2, n3].length : Nat) : Int) < 4 := by show ¬ ((4 : Nat) : Int) < 4; omega
  simp only [wpC, mayStop, stops, isFlt, Specs.has, Specs.hasO, Bool.or_false, Specs.hasH, Bool.not_false, List.any_cons, List.any_nil, Bool.false_eq_true, ↓reduceIte, wpS, wantedA, okDst, Nat.reduceLT, decide_true, step1, isOwnCall, hxOp, px, AS.eval, AS.get, Lift.look, reduceCtorEq, Nat.reduceEqDiff, List.length_cons, List.length_nil, Nat.zero_add, Nat.reduceAdd, Int.cast_ofNat_Int, Option.getD_some, AS.put, dropKey, isNilC, pbinP, ofConst, ofVal, pbinI, Int.reduceLT, decide_false, thenQ, isB, tmpOf, asB, inQ, true_and]
  rw [harr]
  have ow2 := Own.putx ow hr (numC [.int .i64 n0, .int .i64 n1, .int .i64 n2, .int .i64 n3])
  have inc2 : Lift.Inc h (h1.put r (numC [.int .i64 n0, .int .i64 n1, .int .i64 n2, .int .i64 n3])) := Inc.over inc hrh _
  have b1r : (h1.put r (numC [.int .i64 n0, .int .i64 n1, .int .i64 n2, .int .i64 n3])) r = some (numC [.int .i64 n0, .int .i64 n1, .int .i64 n2, .int .i64 n3]) := Heap.put_same _ _ _
  generalize h1.put r (numC [.int .i64 n0, .int .i64 n1, .int .i64 n2, .int .i64 n3]) = h2 at ow2 inc2 b1r
  generalize H.put r (numC [.int .i64 n0, .int .i64 n1, .int .i64 n2, .int .i64 n3]) = H2 at ow2 ⊢
  have gr2 : H2 r = some (.cells 101 4 [.int .i64 n0, .int .i64 n1, .int .i64 n2, .int .i64 n3]) := ow2.base b1r
  have incA : ∀ {hb Hb : Heap}, Own hb 77 4 (edL out) v Hb → Lift.Inc h hb → Lift.Inc h Hb := fun o i k X ek => o.inc k X (i k X ek)
  refine SW.enter (n := 167) (l := [(0, .str s), (4, v), (5, .int .i64 (a2 : Nat)), (6, .val (.pointer (some ⟨r, 0, none⟩)))]) (H := H2) rfl (.refl _ _) (by simp only [hasAll, AS.get, Lift.look, Nat.succ_ne_zero, ↓reduceIte, Option.getD_some, Nat.reduceEqDiff, reduceCtorEq, and_self]) ?_
  refine SW.seq (SW.run [] _ ?_)
  by_cases hbig : (s.length : Int) < n1 ∨ (s.length : Int) < n3
  · have hrs := hfail (by rw [hp1, if_pos hbig])
    by_cases z1 : (s.length : Int) < n1
    · simp only [wpC, mayStop, stops, isFlt, Specs.has, Specs.hasO, Bool.or_false, Specs.hasH, Bool.not_false, List.any_cons, List.any_nil, Bool.false_eq_true, ↓reduceIte, wpS, wantedA, okDst, Nat.reduceLT, decide_true, step1, isOwnCall, hxOp, px, pindexAddr, ty101, ty3, AS.eval, AS.get, Lift.look, reduceCtorEq, Nat.reduceEqDiff, Option.getD_some, ofConst, ofVal, Int.reduceLE, Int.cast_ofNat_Int, Int.reduceLT, and_self, Int.reduceToNat, Nat.reduceMul, Nat.zero_add, AS.put, dropKey, pload, gr2, okOne, TK.isAgg, beq_self_eq_true, Bool.or_true, Nat.reduceAdd, List.length_cons, List.length_nil, Nat.reduceLeDiff, Lift.valOf, List.drop_succ_cons, List.drop_zero, List.take_succ_cons, List.take_zero, List.getD_cons_zero, Nat.succ_ne_zero, pcall, ty9, plen, okLen, isNilC, pbinP, pbinI, z1, List.getElem?_toArray, List.getElem?_cons_succ, List.getElem?_cons_zero, Option.bind_some, beq_tf, Option.some.injEq, ppick_true, thenQ, isB, tmpOf, asB, inQ, RPost, sres, Tryz.results14, sresL, sres1, exists_eq_left', true_and]
      exact ⟨h, Inc.to (incA ow2 inc2), _, rfl, hbad hrs, rfl⟩
    · have z3 := hbig.resolve_left z1
      simp only [wpC, mayStop, stops, isFlt, Specs.has, Specs.hasO, Bool.or_false, Specs.hasH, Bool.not_false, List.any_cons, List.any_nil, Bool.false_eq_true, ↓reduceIte, wpS, wantedA, okDst, Nat.reduceLT, decide_true, step1, isOwnCall, hxOp, px, pindexAddr, ty101, ty3, AS.eval, AS.get, Lift.look, reduceCtorEq, Nat.reduceEqDiff, Option.getD_some, ofConst, ofVal, Int.reduceLE, Int.cast_ofNat_Int, Int.reduceLT, and_self, Int.reduceToNat, Nat.reduceMul, Nat.zero_add, AS.put, dropKey, pload, gr2, okOne, TK.isAgg, beq_self_eq_true, Bool.or_true, Nat.reduceAdd, List.length_cons, List.length_nil, Nat.reduceLeDiff, Lift.valOf, List.drop_succ_cons, List.drop_zero, List.take_succ_cons, List.take_zero, List.getD_cons_zero, Nat.succ_ne_zero, pcall, ty9, plen, okLen, isNilC, pbinP, pbinI, z1, decide_false, List.getElem?_toArray, List.getElem?_cons_succ, List.getElem?_cons_zero, Option.bind_some, Nat.le_refl, List.take_nil, z3, ppick_bool, thenQ, isB, tmpOf, asB, inQ, RPost, sres, Tryz.results14, sresL, sres1, Option.some.injEq, exists_eq_left', true_and]
      exact ⟨h, Inc.to (incA ow2 inc2), _, rfl, hbad hrs, rfl⟩
  rw [if_neg hbig] at hp1
  have z1 : ¬ (s.length : Int) < n1 := fun k => hbig (.inl k)
  have z3 : ¬ (s.length : Int) < n3 := fun k => hbig (.inr k)
  obtain ⟨N1, rfl⟩ : ∃ N1 : Nat, n1 = (N1 : Int) := ⟨n1.toNat, by omega⟩
  obtain ⟨N3, rfl⟩ : ∃ N3 : Nat, n3 = (N3 : Int) := ⟨n3.toNat, by omega⟩
  rw [Int.toNat_natCast, Int.toNat_natCast, List.drop_drop] at hp1
  have hwa : IntKind.i64.wrap (((a2 : Nat) : Int) + 1) = ((a2 + 1 : Nat) : Int) := by rw [w64 (by omega) (by omega)]; rfl
  simp only [wpC, mayStop, stops, isFlt, Specs.has, Specs.hasO, Bool.or_false, Specs.hasH, Bool.not_false, List.any_cons, List.any_nil, Bool.false_eq_true, ↓reduceIte, wpS, wantedA, okDst, Nat.reduceLT, decide_true, step1, isOwnCall, hxOp, px, pindexAddr, ty101, ty3, AS.eval, AS.get, Lift.look, reduceCtorEq, Nat.reduceEqDiff, Option.getD_some, ofConst, ofVal, Int.reduceLE, Int.cast_ofNat_Int, Int.reduceLT, and_self, Int.reduceToNat, Nat.reduceMul, Nat.zero_add, AS.put, dropKey, pload, gr2, okOne, TK.isAgg, beq_self_eq_true, Bool.or_true, Nat.reduceAdd, List.length_cons, List.length_nil, Nat.reduceLeDiff, Lift.valOf, List.drop_succ_cons, List.drop_zero, List.take_succ_cons, List.take_zero, List.getD_cons_zero, Nat.succ_ne_zero, pcall, ty9, plen, okLen, isNilC, pbinP, pbinI, z1, decide_false, List.getElem?_toArray, List.getElem?_cons_succ, List.getElem?_cons_zero, Option.bind_some, Nat.le_refl, List.take_nil, z3, ppick_bool, thenQ, isB, tmpOf, asB, true_and]
  refine SW.seq (SW.run [] _ ?_)
  simp only [wpC, Bool.false_eq_true, ↓reduceIte, wpS, stops, wantedA, okDst, Nat.reduceLT, decide_true, step1, isOwnCall, hxOp, px, pindexAddr, ty101, ty3, AS.eval, AS.get, Lift.look, Nat.reduceEqDiff, reduceCtorEq, Option.getD_some, ofConst, ofVal, Int.reduceLE, Int.cast_ofNat_Int, Int.reduceLT, and_self, Int.reduceToNat, Nat.reduceMul, Nat.add_zero, AS.put, dropKey, pload, gr2, okOne, TK.isAgg, beq_self_eq_true, Bool.or_true, Nat.zero_add, List.length_cons, List.length_nil, Nat.reduceAdd, Nat.reduceLeDiff, Lift.valOf, List.drop_zero, List.take_succ_cons, List.take_zero, List.getD_cons_zero, List.drop_succ_cons, pbuild, ty77, List.map_cons, List.map_nil, pfill, placeOf, List.getElem?_cons_zero, Option.map_some, PV.cells, List.getElem?_cons_succ, splice, List.nil_append, List.cons_append, List.all_cons, Option.isSome_some, ty43, List.all_nil, Bool.and_true, okZero, Value.oneCell', known, okAlloc, hx, zeroOf, Heap.get_put, known1, Nat.le_refl, List.drop_nil, List.append_nil, thenQ, true_and]
  intro p hpn
  rw [Heap.put_put]
  have hpr : ¬ p = r := fun e => by subst e; rw [gr2] at hpn; cases hpn
  have hrp : ¬ r = p := fun e => hpr e.symm
  have hp2 : h2 p = none := incFresh ow2.inc hpn
  have hph : h p = none := incFresh inc2 hp2
  rw [show (AObj.cells 77 4 [.int .i64 n0, .int .i64 n2, .val (.slice none 0 0), .val (.slice none 0 0)]) = edR n0 n2 (.val (.slice none 0 0)) (.val (.slice none 0 0)) from rfl]
  have ow3 := Own.putx ow2 hpn (edR n0 n2 (.val (.slice none 0 0)) (.val (.slice none 0 0)))
  have inc3 : Lift.Inc h (h2.put p (edR n0 n2 (.val (.slice none 0 0)) (.val (.slice none 0 0)))) := Inc.over inc2 hph _
  have b2r : (h2.put p (edR n0 n2 (.val (.slice none 0 0)) (.val (.slice none 0 0)))) r = some (numC [.int .i64 n0, .int .i64 (N1 : Nat), .int .i64 n2, .int .i64 (N3 : Nat)]) := by rw [Heap.put_ne _ _ hrp]; exact b1r
  have b2p : (h2.put p (edR n0 n2 (.val (.slice none 0 0)) (.val (.slice none 0 0)))) p = some (edR n0 n2 (.val (.slice none 0 0)) (.val (.slice none 0 0))) := Heap.put_same _ _ _
  generalize h2.put p (edR n0 n2 (.val (.slice none 0 0)) (.val (.slice none 0 0))) = h3 at ow3 inc3 b2r b2p
  generalize H2.put p (edR n0 n2 (.val (.slice none 0 0)) (.val (.slice none 0 0))) = H3 at ow3 ⊢
  clear ow2 inc2 b1r gr2 incN i5 i4 hl43 hl44 hl4 harr
  refine SW.seq (SW.run [] _ ?_)
  simp only [wpC, Bool.false_eq_true, ↓reduceIte, wpS, stops, wantedA, okDst, Nat.reduceLT, decide_true, step1, isOwnCall, hxOp, px, AS.eval, AS.get, Lift.look, Nat.reduceEqDiff, reduceCtorEq, Option.getD_some, isFlt, ty3, AS.put, dropKey, isNilC, pbinP, ofConst, ofVal, pbinI, hwa, thenQ, true_and]
  refine SW.seq (SW.run [] _ ?_)
  simp only [wpC, mayStop, stops, isFlt, Specs.has, Specs.hasO, Bool.or_false, Specs.hasH, Bool.not_false, List.any_cons, List.any_nil, Bool.false_eq_true, ↓reduceIte, wpS, wantedA, okDst, Nat.reduceLT, decide_true, step1, isOwnCall, hxOp, px, AS.eval, ofConst, ofVal, thenQ, AS.put, dropKey, Nat.reduceEqDiff, reduceCtorEq, true_and]
  refine SW.enter (n := 167) (l := [(0, .str s), (4, v), (5, .int .i64 ((a2 + 1 : Nat) : Int)), (6, .val (.pointer (some ⟨r, 0, none⟩))), (8, .val (.pointer (some ⟨p, 0, none⟩))), (9, .int .i64 0)]) (H := H3) rfl (.refl _ _) (by simp only [hasAll, AS.get, Lift.look, Nat.succ_ne_zero, ↓reduceIte, Option.getD_some, Nat.reduceEqDiff, reduceCtorEq, and_self]) ?_
  obtain ⟨c5, hc5⟩ : ∃ c5, c5 = s.drop (a2 + 1) := ⟨_, rfl⟩
  rw [← hc5] at hp1
  refine SW.loop (fun bb st => ∃ (i a3 : Nat) (ls : List (List UInt8)) (vd vi : PV) (k1 hA hD : Heap), i ≤ N1 + N3 ∧ ls.length = i ∧ a2 + 1 ≤ a3 ∧ a3 ≤ s.length ∧ s.length - a3 = bb ∧ 2 * i ≤ a3 ∧ rlines (N1 + N3) c5 = (rlines (N1 + N3 - i) (s.drop a3)).map (fun x => (ls ++ x.1, x.2)) ∧ Lift.Inc h k1 ∧ k1 p = some (edR n0 n2 vd vi) ∧ k1 r = some (numC [.int .i64 n0, .int .i64 (N1 : Nat), .int .i64 n2, .int .i64 (N3 : Nat)]) ∧ Own k1 77 4 (edL out) v hA ∧ Own hA 9 1 (strL (ls.take N1)) vd hD ∧ Own hD 9 1 (strL (ls.drop N1)) vi st.h ∧ (i ≤ N1 → vi = .val (.slice none 0 0) ∧ st.h = hD) ∧ st.n = 167 ∧ hasAll st [(0, .str s), (4, v), (5, .int .i64 (a3 : Nat)), (6, .val (.pointer (some ⟨r, 0, none⟩))), (8, .val (.pointer (some ⟨p, 0, none⟩))), (9, .int .i64 (i : Nat))]) (s.length - (a2 + 1)) ⟨0, a2 + 1, [], .val (.slice none 0 0), .val (.slice none 0 0), h3, H3, H3, Nat.zero_le _, rfl, Nat.le_refl _, by omega, rfl, by omega, ?_, inc3, b2p, b2r, ow3, by rw [List.take_nil]; exact Own.nil _ _ _, by rw [List.drop_nil]; exact Own.nil _ _ _, fun _ => ⟨rfl, rfl⟩, rfl, ?_⟩ ?_
  · rw [hc5, Nat.sub_zero]; simp
  · simp only [hasAll, AS.get, Lift.look, ↓reduceIte, Option.getD_some, reduceCtorEq, Nat.reduceEqDiff, Int.cast_ofNat_Int, and_self]
  clear ow3 inc3 b2r b2p
  rintro bb2 st ⟨i, a3, ls, vd, vi, k1, hA, hD, ki, kl, ka, ka2, kb, k2i, kr, incK, kp, kR, oA, oD, oI, kph, hn', hs'⟩
  refine SW.norm ⟨hn', rfl, hs'⟩ ?_
  generalize st.h = H4 at oI kph
  clear hn' hs'
  have gpA : hA p = some (edR n0 n2 vd vi) := oA.base kp
  have gpD := oD.base gpA
  have gp : H4 p = some (.cells 77 4 [.int .i64 n0, .int .i64 n2, vd, vi]) := oI.base gpD
  have gr : H4 r = some (.cells 101 4 [.int .i64 n0, .int .i64 (N1 : Nat), .int .i64 n2, .int .i64 (N3 : Nat)]) := oI.base (oD.base (oA.base kR))
  have incK4 : Lift.Inc h H4 := fun k X ek => oI.inc k X (oD.inc k X (oA.inc k X (incK k X ek)))
  have hwN : IntKind.i64.wrap (((N1 : Nat) : Int) + ((N3 : Nat) : Int)) = ((N1 + N3 : Nat) : Int) := by rw [w64 (by omega) (by omega)]; rfl
  refine SW.seq (SW.run [] _ ?_)
  by_cases hiN : i < N1 + N3
  · have hiN' : ((i : Nat) : Int) < ((N1 + N3 : Nat) : Int) := by omega
    have hil : ((i : Nat) : Int) ≤ ((s.length : Nat) : Int) := by omega
    have hNi : N1 + N3 - i = (N1 + N3 - (i + 1)) + 1 := by omega
    rw [hNi] at kr
    obtain ⟨c, hc⟩ : ∃ c, c = s.drop a3 := ⟨_, rfl⟩
    rw [← hc] at kr
    have hcl3 : c.length = s.length - a3 := by rw [hc, List.length_drop]
    obtain ⟨e1, e2, e3⟩ := cutB_app 10 c
    obtain ⟨cl1, cl2, cl3⟩ := cutB_len 10 c
    have hrl : rline c = if ((cutB 10 c).2.2 && !(cutB 10 c).1.isEmpty) = true then (if prefixS (cutB 10 c).2.1 [92, 10] = true then some ((cutB 10 c).1.drop 1, (cutB 10 c).2.1.drop 2) else some ((cutB 10 c).1.drop 1 ++ [10], (cutB 10 c).2.1)) else none := rfl
    generalize (cutB 10 c).1 = P at *
    generalize (cutB 10 c).2.1 = R at *
    generalize (cutB 10 c).2.2 = fd at *
    have hgc : ∀ k, s.getD (a3 + k) 0 = c.getD k 0 := fun k => by
      rw [List.getD_eq_getElem?_getD, List.getD_eq_getElem?_getD, hc, List.getElem?_drop]
    have hfail2 : rline c = none → rreadS s = ([], 2) := fun k => hfail (by
      rw [rlines_none _ k] at kr
      have kr : rlines (N1 + N3) c5 = none := kr
      rw [hp1, kr])
    simp only [wpC, mayStop, stops, isFlt, Specs.has, Specs.hasO, Bool.or_false, Specs.hasH, Bool.not_false, List.any_cons, ty3, List.any_nil, Bool.false_eq_true, ↓reduceIte, wpS, wantedA, okDst, Nat.reduceLT, decide_true, step1, isOwnCall, hxOp, px, AS.eval, AS.get, Lift.look, reduceCtorEq, Nat.reduceEqDiff, Option.getD_some, AS.put, dropKey, pindexAddr, ty101, ofConst, ofVal, Int.reduceLE, Int.cast_ofNat_Int, Int.reduceLT, and_self, Int.reduceToNat, Nat.reduceMul, Nat.zero_add, pload, gr, okOne, TK.isAgg, beq_self_eq_true, Bool.or_true, Nat.reduceAdd, List.length_cons, List.length_nil, Nat.reduceLeDiff, Lift.valOf, List.drop_succ_cons, List.drop_zero, List.take_succ_cons, List.take_zero, List.getD_cons_zero, Nat.le_refl, List.take_nil, isNilC, pbinP, pbinI, hwN, hiN', List.getElem?_toArray, List.getElem?_cons_succ, List.getElem?_cons_zero, Option.bind_some, Nat.succ_ne_zero, pcall, ty9, plen, okLen, hil, ppick_bool, thenQ, isB, tmpOf, asB, hasAll, and_true, true_and]
    refine SW.seq (SW.block (SW.seq (SW.run [] _ ?_)))
    simp only [wpC, Bool.false_eq_true, ↓reduceIte, wpS, stops, wantedA, okDst, Nat.reduceLT, decide_true, step1, isOwnCall, hxOp, px, AS.eval, AS.get, Lift.look, Nat.reduceEqDiff, reduceCtorEq, Option.getD_some, AS.put, dropKey, thenQ, true_and]
    refine SW.enter (n := 167) (l := [(0, .str s), (4, v), (5, .int .i64 (a3 : Nat)), (6, .val (.pointer (some ⟨r, 0, none⟩))), (8, .val (.pointer (some ⟨p, 0, none⟩))), (9, .int .i64 (i : Nat)), (10, .int .i64 (a3 : Nat))]) (H := H4) rfl (.refl _ _) (by simp only [hasAll, AS.get, Lift.look, Nat.succ_ne_zero, ↓reduceIte, Option.getD_some, Nat.reduceEqDiff, reduceCtorEq, and_self]) ?_
    have hcP : ∀ k, (hk : k < P.length) → c.getD k 0 = P[k] := fun k hk => by
      rw [e2, List.getD_eq_getElem?_getD, List.getElem?_append_left hk, List.getElem?_eq_getElem hk]; rfl
    refine SW.seq (SW.block (SW.loopK 167 (fun k : Nat => [(0, .str s), (4, v), (5, .int .i64 (a3 : Nat)), (6, .val (.pointer (some ⟨r, 0, none⟩))), (8, .val (.pointer (some ⟨p, 0, none⟩))), (9, .int .i64 (i : Nat)), (10, .int .i64 ((a3 + k : Nat) : Int))]) (fun _ => H4) (fun k => k ≤ P.length) (fun k => P.length - k) 0 (Nat.zero_le _) ?_ ?_))
    · simp only [Has, hasAll, AS.get, Lift.look, ↓reduceIte, Option.getD_some, reduceCtorEq, Nat.reduceEqDiff, Nat.add_zero, and_self]
    intro k hkP
    by_cases hkl : k < P.length
    · have hj : a3 + k < s.length := by omega
      have hj' : ((a3 + k : Nat) : Int) < ((s.length : Nat) : Int) := by omega
      have hg := (hgc k).trans (hcP k hkl)
      have hn10 : (P[k] == 10) = false := by
        rw [beq_eq_false_iff_ne]
        intro z
        exact e1 (z ▸ List.getElem_mem hkl)
      have hwk : IntKind.i64.wrap (((a3 + k : Nat) : Int) + 1) = ((a3 + (k + 1) : Nat) : Int) := by rw [w64 (by omega) (by omega)]; omega
      refine SW.run [] _ ?_
      simp only [wpC, mayStop, stops, isFlt, Specs.has, Specs.hasO, Bool.or_false, Specs.hasH, Bool.not_false, List.any_cons, List.any_nil, Bool.false_eq_true, ↓reduceIte, wpS, wantedA, okDst, Nat.reduceLT, decide_true, step1, isOwnCall, hxOp, px, AS.eval, AS.get, Lift.look, reduceCtorEq, Nat.reduceEqDiff, Option.getD_some, AS.put, dropKey, Nat.succ_ne_zero, pcall, ty9, plen, okLen, and_self, isNilC, pbinP, pbinI, hj', List.getElem?_toArray, List.getElem?_cons_succ, List.getElem?_cons_zero, Option.bind_some, beq_self_eq_true, pindex, Int.natCast_nonneg, Int.toNat_natCast, hj, hg, ofConst, ofVal, bne, byte10, hn10, ppick_bool, thenQ, isB, tmpOf, asB, ty3, hwk, inQ, Has, hasAll, and_true, true_and]
      exact ⟨k + 1, by omega, by omega, rfl⟩
    have hkE : k = P.length := by omega
    subst hkE
    have hwk : IntKind.i64.wrap (((a3 + P.length : Nat) : Int) + 1) = ((a3 + P.length + 1 : Nat) : Int) := by rw [w64 (by omega) (by omega)]; rfl
    cases fd
    case false =>
      have hcE : c = P := by rw [e2]; simp
      have hend : ¬ ((a3 + P.length : Nat) : Int) < ((s.length : Nat) : Int) := by rw [← hcE, hcl3]; omega
      have hend2 : ((s.length : Nat) : Int) ≤ ((a3 + P.length : Nat) : Int) := by omega
      have hrs := hfail2 (by rw [hrl]; rfl)
      refine SW.run [] _ ?_
      simp only [wpC, mayStop, stops, isFlt, Specs.has, Specs.hasO, Bool.or_false, Specs.hasH, Bool.not_false, List.any_cons, List.any_nil, Bool.false_eq_true, ↓reduceIte, wpS, wantedA, okDst, Nat.reduceLT, decide_true, step1, isOwnCall, hxOp, px, AS.eval, AS.get, Lift.look, reduceCtorEq, Nat.reduceEqDiff, Option.getD_some, AS.put, dropKey, Nat.succ_ne_zero, pcall, ty9, plen, okLen, and_self, isNilC, pbinP, pbinI, hend, decide_false, List.getElem?_toArray, List.getElem?_cons_succ, List.getElem?_cons_zero, Option.bind_some, beq_ft, Option.some.injEq, ofConst, ofVal, ppick_false, thenQ, isB, tmpOf, asB, inQ, true_and]
      refine SW.seq (SW.run [] _ ?_)
      simp only [wpC, mayStop, stops, isFlt, Specs.has, Specs.hasO, Bool.or_false, Specs.hasH, Bool.not_false, List.any_cons, List.any_nil, Bool.false_eq_true, ↓reduceIte, wpS, wantedA, okDst, Nat.reduceLT, decide_true, step1, isOwnCall, hxOp, px, AS.eval, AS.get, Lift.look, Nat.reduceEqDiff, reduceCtorEq, Option.getD_some, AS.put, dropKey, Nat.succ_ne_zero, pcall, ty9, plen, okLen, and_self, isNilC, pbinP, pbinI, hend2, List.getElem?_toArray, List.getElem?_cons_succ, List.getElem?_cons_zero, Option.bind_some, beq_tf, Option.some.injEq, ofConst, ofVal, ppick_true, thenQ, isB, tmpOf, asB, inQ, RPost, sres, Tryz.results14, sresL, sres1, exists_eq_left', true_and]
      exact ⟨h, Inc.to incK4, _, rfl, hbad hrs, rfl⟩
    have hcE : c = P ++ 10 :: R := by rw [e2]; simp
    have hcL : c.length = P.length + (R.length + 1) := by rw [hcE]; simp
    have hj : a3 + P.length < s.length := by omega
    have hj' : ((a3 + P.length : Nat) : Int) < ((s.length : Nat) : Int) := by omega
    have hjn : ¬ ((s.length : Nat) : Int) ≤ ((a3 + P.length : Nat) : Int) := by omega
    have hg10 : s.getD (a3 + P.length) 0 = 10 := by
      rw [hgc, hcE, List.getD_eq_getElem?_getD, List.getElem?_append_right (Nat.le_refl _), Nat.sub_self]; rfl
    have h1010 : ((10 : UInt8) == 10) = true := rfl
    refine SW.run [] _ ?_
    simp only [wpC, mayStop, stops, isFlt, Specs.has, Specs.hasO, Bool.or_false, Specs.hasH, Bool.not_false, List.any_cons, List.any_nil, Bool.false_eq_true, ↓reduceIte, wpS, wantedA, okDst, Nat.reduceLT, decide_true, step1, isOwnCall, hxOp, px, AS.eval, AS.get, Lift.look, reduceCtorEq, Nat.reduceEqDiff, Option.getD_some, AS.put, dropKey, Nat.succ_ne_zero, pcall, ty9, plen, okLen, and_self, isNilC, pbinP, pbinI, hj', List.getElem?_toArray, List.getElem?_cons_succ, List.getElem?_cons_zero, Option.bind_some, beq_self_eq_true, pindex, Int.natCast_nonneg, Int.toNat_natCast, hj, hg10, ofConst, ofVal, bne, byte10, Bool.not_true, ppick_bool, thenQ, isB, tmpOf, asB, inQ, true_and]
    refine SW.seq (SW.run [] _ ?_)
    by_cases hPe : P = []
    · have hrs := hfail2 (by rw [hrl, hPe]; rfl)
      have hPl : a3 + P.length = a3 := by rw [hPe]; rfl
      rw [hPl] at hjn
      simp only [wpC, mayStop, stops, isFlt, Specs.has, Specs.hasO, Bool.or_false, Specs.hasH, Bool.not_false, List.any_cons, List.any_nil, Bool.false_eq_true, ↓reduceIte, wpS, wantedA, okDst, Nat.reduceLT, decide_true, step1, isOwnCall, hxOp, px, AS.eval, AS.get, Lift.look, Nat.reduceEqDiff, reduceCtorEq, hPl, Option.getD_some, AS.put, dropKey, Nat.succ_ne_zero, pcall, ty9, plen, okLen, and_self, isNilC, pbinP, pbinI, hjn, decide_false, List.getElem?_toArray, List.getElem?_cons_succ, List.getElem?_cons_zero, Option.bind_some, beq_self_eq_true, ofConst, ofVal, ppick_bool, thenQ, isB, tmpOf, asB, inQ, RPost, sres, Tryz.results14, sresL, sres1, Option.some.injEq, exists_eq_left', true_and]
      exact ⟨h, Inc.to incK4, _, rfl, hbad hrs, rfl⟩
    have hPl : 1 ≤ P.length := List.length_pos_iff.2 hPe
    have hne3 : (((a3 + P.length : Nat) : Int) == ((a3 : Nat) : Int)) = false := by rw [beq_eq_false_iff_ne]; omega
    have hw1 : IntKind.i64.wrap (((a3 : Nat) : Int) + 1) = ((a3 + 1 : Nat) : Int) := by rw [w64 (by omega) (by omega)]; rfl
    have hb1 : ((a3 + 1 : Nat) : Int) ≤ ((a3 + P.length + 1 : Nat) : Int) := by omega
    have hb2 : ((a3 + P.length + 1 : Nat) : Int) ≤ ((s.length : Nat) : Int) := by omega
    have hdl : (P.drop 1).length = P.length - 1 := List.length_drop
    have hsl : (s.take (a3 + P.length + 1)).drop (a3 + 1) = P.drop 1 ++ [10] := by
      rw [List.drop_take, ← List.drop_drop, ← hc, hcE, List.drop_append_of_le_length hPl, show a3 + P.length + 1 - (a3 + 1) = (P.drop 1).length + 1 by omega]
      rw [List.take_append, List.take_of_length_le (by omega), Nat.add_sub_cancel_left]
      rfl
    have hsR : s.drop (a3 + P.length + 1) = R := by
      rw [show a3 + P.length + 1 = a3 + (P.length + 1) by omega, ← List.drop_drop, ← hc, hcE, show P ++ 10 :: R = (P ++ [10]) ++ R by simp, show P.length + 1 = (P ++ [10]).length by simp, List.drop_left]
    obtain ⟨a4, ha4⟩ : ∃ a4, a4 = a3 + P.length + 1 := ⟨_, rfl⟩
    simp only [wpC, mayStop, stops, isFlt, Specs.has, Specs.hasO, Bool.or_false, Specs.hasH, Bool.not_false, List.any_cons, List.any_nil, Bool.false_eq_true, ↓reduceIte, wpS, wantedA, okDst, Nat.reduceLT, decide_true, step1, isOwnCall, hxOp, px, AS.eval, AS.get, Lift.look, Nat.reduceEqDiff, reduceCtorEq, Option.getD_some, AS.put, dropKey, Nat.succ_ne_zero, pcall, ty9, plen, okLen, and_self, isNilC, pbinP, pbinI, hjn, decide_false, List.getElem?_toArray, List.getElem?_cons_succ, List.getElem?_cons_zero, Option.bind_some, beq_self_eq_true, hne3, ofConst, ofVal, ppick_bool, thenQ, isB, tmpOf, asB, true_and]
    refine SW.seq (SW.run [] _ ?_)
    simp only [wpC, Bool.false_eq_true, ↓reduceIte, wpS, stops, wantedA, okDst, Nat.reduceLT, decide_true, step1, isOwnCall, hxOp, px, AS.eval, AS.get, Lift.look, Nat.succ_ne_zero, Option.getD_some, AS.put, dropKey, Nat.reduceEqDiff, reduceCtorEq, isFlt, ty3, isNilC, pbinP, ofConst, ofVal, pbinI, hw1, hwk, pslice, ty9, pB, Int.natCast_nonneg, hb1, hb2, and_self, Int.toNat_natCast, hsl, thenQ, true_and]
    refine SW.seq (SW.run [] _ ?_)
    simp only [wpC, Bool.false_eq_true, ↓reduceIte, wpS, stops, wantedA, okDst, Nat.reduceLT, decide_true, step1, isOwnCall, hxOp, px, AS.eval, AS.get, Lift.look, Nat.reduceEqDiff, reduceCtorEq, Option.getD_some, isFlt, ty3, AS.put, dropKey, isNilC, pbinP, ofConst, ofVal, pbinI, hwk, thenQ, true_and]
    rw [← ha4] at hsR ⊢
    have hRl : R.length = s.length - a4 := by rw [← hsR, List.length_drop]
    have h44 : a4 ≤ s.length := by omega
    have hrl : rline c = (if prefixS R [92, 10] = true then some (P.drop 1, R.drop 2) else some (P.drop 1 ++ [10], R)) := by
      rw [hrl, if_pos]
      cases P with
      | nil => exact absurd rfl hPe
      | cons b l => rfl
    have hgR : ∀ k, s.getD (a4 + k) 0 = R.getD k 0 := fun k => by
      rw [List.getD_eq_getElem?_getD, List.getD_eq_getElem?_getD, ← hsR, List.getElem?_drop]
    have hgR0 := hgR 0
    rw [Nat.add_zero] at hgR0
    have hgR1 := hgR 1
    obtain ⟨M, hM⟩ : ∃ M, M = P.drop 1 := ⟨_, rfl⟩
    rw [← hM] at hrl hdl ⊢
    have hw41 : IntKind.i64.wrap (((a4 : Nat) : Int) + 1) = ((a4 + 1 : Nat) : Int) := by rw [w64 (by omega) (by omega)]; rfl
    have hw42 : IntKind.i64.wrap (((a4 : Nat) : Int) + 2) = ((a4 + 2 : Nat) : Int) := by rw [w64 (by omega) (by omega)]; rfl
    have hMl : (M ++ [10]).length = M.length + 1 := by simp
    have hwm : IntKind.i64.wrap ((((M ++ [10]).length : Nat) : Int) - 1) = ((M.length : Nat) : Int) := by rw [w64 (by omega) (by omega)]; omega
    have hlm : ((M.length : Nat) : Int) ≤ (((M ++ [10]).length : Nat) : Int) := by omega
    have htm : (M ++ [10]).take M.length = M := List.take_left
    refine SW.cut (fun st => ∃ (l : List UInt8) (a5 : Nat), rline c = some (l, s.drop a5) ∧ a4 ≤ a5 ∧ a5 ≤ s.length ∧ st.h = H4 ∧ st.n = 167 ∧ hasAll st [(0, .str s), (4, v), (5, .int .i64 (a5 : Nat)), (6, .val (.pointer (some ⟨r, 0, none⟩))), (8, .val (.pointer (some ⟨p, 0, none⟩))), (9, .int .i64 (i : Nat)), (11, .str l)]) ?_ ?_
    · refine SW.run [] _ ?_
      cases hpx : prefixS R [92, 10]
      · rw [hpx] at hrl
        have hrl1 : rline c = some (M ++ [10], s.drop a4) := by rw [hrl, hsR]; rfl
        match R, hRl, hgR0, hgR1, hpx with
        | [], hRl, _, _, _ =>
          have g1 : ¬ ((a4 + 1 : Nat) : Int) < ((s.length : Nat) : Int) := by simp at hRl; omega
          simp only [wpC, mayStop, stops, isFlt, Specs.has, Specs.hasO, Bool.or_false, Specs.hasH, Bool.not_false, List.any_cons, ty3, List.any_nil, Bool.false_eq_true, ↓reduceIte, wpS, wantedA, okDst, Nat.reduceLT, decide_true, step1, isOwnCall, hxOp, px, AS.eval, AS.get, Lift.look, Option.getD_some, AS.put, dropKey, Nat.reduceEqDiff, reduceCtorEq, isNilC, pbinP, ofConst, ofVal, pbinI, hw41, Nat.succ_ne_zero, pcall, ty9, plen, okLen, and_self, g1, decide_false, List.getElem?_toArray, List.getElem?_cons_succ, List.getElem?_cons_zero, Option.bind_some, beq_ft, Option.some.injEq, ppick_false, thenQ, isB, tmpOf, asB, hasAll, and_true, true_and]
          exact ⟨M ++ [10], a4, hrl1, Nat.le_refl _, h44, rfl, rfl⟩
        | [x], hRl, _, _, _ =>
          have g1 : ¬ ((a4 + 1 : Nat) : Int) < ((s.length : Nat) : Int) := by simp at hRl; omega
          simp only [wpC, mayStop, stops, isFlt, Specs.has, Specs.hasO, Bool.or_false, Specs.hasH, Bool.not_false, List.any_cons, ty3, List.any_nil, Bool.false_eq_true, ↓reduceIte, wpS, wantedA, okDst, Nat.reduceLT, decide_true, step1, isOwnCall, hxOp, px, AS.eval, AS.get, Lift.look, Option.getD_some, AS.put, dropKey, Nat.reduceEqDiff, reduceCtorEq, isNilC, pbinP, ofConst, ofVal, pbinI, hw41, Nat.succ_ne_zero, pcall, ty9, plen, okLen, and_self, g1, decide_false, List.getElem?_toArray, List.getElem?_cons_succ, List.getElem?_cons_zero, Option.bind_some, beq_ft, Option.some.injEq, ppick_false, thenQ, isB, tmpOf, asB, hasAll, and_true, true_and]
          exact ⟨M ++ [10], a4, hrl1, Nat.le_refl _, h44, rfl, rfl⟩
        | x :: y :: t, hRl, g0, g1, hpx =>
          have hRl : t.length + 2 = s.length - a4 := by rw [← hRl]; simp
          have l1 : ((a4 + 1 : Nat) : Int) < ((s.length : Nat) : Int) := by omega
          have l0 : ((a4 : Nat) : Int) < ((s.length : Nat) : Int) := by omega
          have l1n : a4 + 1 < s.length := by omega
          have l0n : a4 < s.length := by omega
          have g0 : s.getD a4 0 = x := g0
          have g1 : s.getD (a4 + 1) 0 = y := g1
          have b92 : (((x.toNat : Nat) : Int) == 92) = (x == 92) := byte_lit x 92 rfl
          have hpx2 : prefixS (x :: y :: t) [92, 10] = ((x == 92) && (y == 10)) := by
            unfold prefixS
            simp
          rw [hpx2] at hpx
          cases x9 : (x == 92)
          · simp only [wpC, mayStop, stops, isFlt, Specs.has, Specs.hasO, Bool.or_false, Specs.hasH, Bool.not_false, List.any_cons, ty3, List.any_nil, Bool.false_eq_true, ↓reduceIte, wpS, wantedA, okDst, Nat.reduceLT, decide_true, step1, isOwnCall, hxOp, px, AS.eval, AS.get, Lift.look, Option.getD_some, AS.put, dropKey, Nat.reduceEqDiff, reduceCtorEq, isNilC, pbinP, ofConst, ofVal, pbinI, hw41, Nat.succ_ne_zero, pcall, ty9, plen, okLen, and_self, l1, List.getElem?_toArray, List.getElem?_cons_succ, List.getElem?_cons_zero, Option.bind_some, beq_self_eq_true, pindex, Int.natCast_nonneg, Int.toNat_natCast, l0n, g0, b92, x9, ppick_bool, beq_ft, Option.some.injEq, ppick_false, thenQ, isB, tmpOf, asB, hasAll, and_true, true_and]
            exact ⟨M ++ [10], a4, hrl1, Nat.le_refl _, h44, rfl, rfl⟩
          · rw [x9] at hpx
            have y1 : (y == 10) = false := hpx
            simp only [wpC, mayStop, stops, isFlt, Specs.has, Specs.hasO, Bool.or_false, Specs.hasH, Bool.not_false, List.any_cons, ty3, List.any_nil, Bool.false_eq_true, ↓reduceIte, wpS, wantedA, okDst, Nat.reduceLT, decide_true, step1, isOwnCall, hxOp, px, AS.eval, AS.get, Lift.look, Option.getD_some, AS.put, dropKey, Nat.reduceEqDiff, reduceCtorEq, isNilC, pbinP, ofConst, ofVal, pbinI, hw41, Nat.succ_ne_zero, pcall, ty9, plen, okLen, and_self, l1, List.getElem?_toArray, List.getElem?_cons_succ, List.getElem?_cons_zero, Option.bind_some, beq_self_eq_true, pindex, Int.natCast_nonneg, Int.toNat_natCast, l0n, g0, b92, x9, ppick_bool, l1n, g1, byte10, y1, thenQ, isB, tmpOf, asB, hasAll, and_true, true_and]
            exact ⟨M ++ [10], a4, hrl1, Nat.le_refl _, h44, rfl, rfl⟩
      · rw [hpx, if_pos rfl] at hrl
        match R, hRl, hgR0, hgR1, hpx, hrl, hsR with
        | [], _, _, _, hpx, _, _ => simp [prefixS] at hpx
        | [x], _, _, _, hpx, _, _ => simp [prefixS] at hpx
        | x :: y :: t, hRl, g0, g1, hpx, hrl, hsR =>
          have hRl : t.length + 2 = s.length - a4 := by rw [← hRl]; simp
          have l1 : ((a4 + 1 : Nat) : Int) < ((s.length : Nat) : Int) := by omega
          have l0 : ((a4 : Nat) : Int) < ((s.length : Nat) : Int) := by omega
          have l1n : a4 + 1 < s.length := by omega
          have l0n : a4 < s.length := by omega
          have g0 : s.getD a4 0 = x := g0
          have g1 : s.getD (a4 + 1) 0 = y := g1
          have b92 : (((x.toNat : Nat) : Int) == 92) = (x == 92) := byte_lit x 92 rfl
          have hpx2 : prefixS (x :: y :: t) [92, 10] = ((x == 92) && (y == 10)) := by
            unfold prefixS
            simp
          rw [hpx2, Bool.and_eq_true] at hpx
          obtain ⟨x9, y1⟩ := hpx
          have hrl : rline c = some (M, s.drop (a4 + 2)) := by rw [hrl, ← List.drop_drop, hsR]
          simp only [wpC, mayStop, stops, isFlt, Specs.has, Specs.hasO, Bool.or_false, Specs.hasH, Bool.not_false, List.any_cons, ty3, List.any_nil, Bool.false_eq_true, ↓reduceIte, wpS, wantedA, okDst, Nat.reduceLT, decide_true, step1, isOwnCall, hxOp, px, AS.eval, AS.get, Lift.look, Option.getD_some, AS.put, dropKey, Nat.reduceEqDiff, reduceCtorEq, isNilC, pbinP, ofConst, ofVal, pbinI, hw41, Nat.succ_ne_zero, pcall, ty9, plen, okLen, and_self, l1, List.getElem?_toArray, List.getElem?_cons_succ, List.getElem?_cons_zero, Option.bind_some, beq_self_eq_true, pindex, Int.natCast_nonneg, Int.toNat_natCast, l0n, g0, b92, x9, ppick_bool, l1n, g1, byte10, y1, thenQ, isB, tmpOf, asB, hwm, pslice, pB, Int.cast_ofNat_Int, Int.reduceLE, hlm, Int.reduceToNat, htm, List.drop_zero, hw42, hasAll, and_true, true_and]
          exact ⟨M, a4 + 2, hrl, by omega, by omega, rfl, rfl⟩
    rintro st ⟨l, a5, hl5, ka5, kb5, hh5, hn5, hs5⟩
    refine SW.norm ⟨hn5, hh5, hs5⟩ ?_
    clear hh5 hn5 hs5 st
    have hll := rline_len hl5
    rw [List.length_drop] at hll
    rw [rlines_some _ hl5, Option.map_map] at kr
    have kr2 : rlines (N1 + N3) c5 = (rlines (N1 + N3 - (i + 1)) (s.drop a5)).map (fun x => ((ls ++ [l]) ++ x.1, x.2)) := by
      rw [kr]
      congr 1
      funext x
      simp
    have lls : (ls ++ [l]).length = i + 1 := by rw [List.length_append, kl]; rfl
    have hwi : IntKind.i64.wrap (((i : Nat) : Int) + 1) = ((i + 1 : Nat) : Int) := by rw [w64 (by omega) (by omega)]; rfl
    have kpp : ∀ {Hx : Heap} {X : AObj}, Hx p = some X → Hx p ≠ none := fun k => by rw [k]; simp
    refine SW.seq (SW.run [] _ ?_)
    simp only [wpC, Bool.false_eq_true, ↓reduceIte, wpS, stops, wantedA, okDst, Nat.reduceLT, decide_true, step1, isOwnCall, hxOp, px, AS.eval, AS.get, Lift.look, reduceCtorEq, Nat.reduceEqDiff, Option.getD_some, AS.put, dropKey, pindexAddr, ty101, ty3, ofConst, ofVal, Int.reduceLE, Int.cast_ofNat_Int, Int.reduceLT, and_self, Int.reduceToNat, Nat.reduceMul, Nat.zero_add, pload, gr, okOne, TK.isAgg, beq_self_eq_true, Bool.or_true, Nat.reduceAdd, List.length_cons, List.length_nil, Nat.reduceLeDiff, Lift.valOf, List.drop_succ_cons, List.drop_zero, List.take_succ_cons, List.take_zero, List.getD_cons_zero, isNilC, pbinP, pbinI, thenQ, true_and]
    by_cases hi1 : i < N1
    · have hi1' : ((i : Nat) : Int) < ((N1 : Nat) : Int) := by omega
      obtain ⟨rfl, hHD⟩ := kph (by omega)
      subst hHD
      have t1 : ls.take N1 = ls := List.take_of_length_le (by omega)
      have t2 : (ls ++ [l]).take N1 = ls ++ [l] := List.take_of_length_le (by omega)
      have t3 : (ls ++ [l]).drop N1 = [] := List.drop_of_length_le (by omega)
      rw [t1] at oD
      refine SW.run [] _ ?_
      simp only [wpC, isB, AS.get, Lift.look, tmpOf, ↓reduceIte, hi1', decide_true, Option.getD_some, asB, Bool.false_eq_true, wpS, stops, wantedA, okDst, Nat.reduceLT, step1, isOwnCall, hxOp, px, pfieldAddr, fieldOf, ty77, fieldIn, List.getElem?_cons_succ, List.getElem?_cons_zero, ty43, Option.map_some, AS.eval, Nat.reduceEqDiff, reduceCtorEq, ne_eq, Nat.succ_ne_zero, not_false_eq_true, Nat.zero_add, AS.put, dropKey, pload, gp, okOne, TK.isAgg, beq_self_eq_true, Bool.or_true, Nat.reduceAdd, List.length_cons, List.length_nil, Nat.reduceLeDiff, and_self, Lift.valOf, List.drop_succ_cons, List.drop_zero, List.take_succ_cons, List.take_zero, List.getD_cons_zero, pbuildSlice, ty9, List.replicate, List.map_cons, ofVal, List.map_nil, List.flatten_cons, List.flatten_nil, List.append_nil, ofConst, pfill, PV.cells, Nat.reduceMul, Nat.le_refl, splice, List.nil_append, List.drop_nil, okZero, List.all_cons, Value.oneCell', List.all_nil, Bool.and_true, known, chunk, List.take_nil, true_and]
      refine SWO.append (.tmp 139) (.tmp 141) 43 43 rfl ty43 rfl ty9 (by decide) rfl ty43 rfl oD (ys := [[.str l]]) rfl (by rw [strL_len]; show (_ + 1) * 16 ≤ _; omega) (by rw [strL_len]; simp [maxLen]; omega) rfl rfl ?_
      intro v' h' ow' _ _
      have ow' : Own hA 9 1 (strL ls ++ strL [l]) v' h' := ow'
      rw [← strL_append] at ow'
      obtain ⟨PA, cA, ev⟩ := ow'.slice
      obtain ⟨NA, eA⟩ : ∃ NA, NA = (strL (ls ++ [l])).length := ⟨_, rfl⟩
      rw [← eA] at ev
      subst ev
      have gp' : h' p = some (.cells 77 4 [.int .i64 n0, .int .i64 n2, vd, .val (.slice none 0 0)]) := ow'.base gpA
      refine SWO.run [] 1000 ?_
      simp only [wpS, stops, Bool.false_eq_true, ↓reduceIte, wantedA, okDst, AS.put, dropKey, Nat.reduceEqDiff, reduceCtorEq, Nat.reduceLT, decide_true, step1, isOwnCall, hxOp, px, pfieldAddr, fieldOf, ty77, fieldIn, List.getElem?_cons_succ, List.getElem?_cons_zero, ty43, Option.map_some, AS.eval, AS.get, Lift.look, Option.getD_some, ne_eq, Nat.succ_ne_zero, not_false_eq_true, Nat.zero_add, hx, gp', known1, PV.cells, List.length_cons, List.length_nil, Nat.reduceAdd, Nat.reduceLeDiff, and_self, splice, List.take_succ_cons, List.take_zero, List.cons_append, List.nil_append, List.drop_succ_cons, List.drop_zero, inQ, thenQ, true_and]
      refine SW.run [] _ ?_
      simp only [wpC, Bool.false_eq_true, ↓reduceIte, wpS, stops, wantedA, okDst, Nat.reduceLT, decide_true, step1, isOwnCall, hxOp, px, AS.eval, AS.get, Lift.look, Nat.reduceEqDiff, reduceCtorEq, Option.getD_some, isFlt, ty3, AS.put, dropKey, isNilC, pbinP, ofConst, ofVal, pbinI, hwi, thenQ, Nat.succ_ne_zero, true_and]
      refine ⟨s.length - a5, by omega, i + 1, a5, ls ++ [l], .val (.slice PA NA cA), .val (.slice none 0 0), k1.put p (edR n0 n2 (.val (.slice PA NA cA)) (.val (.slice none 0 0))), hA.put p (edR n0 n2 (.val (.slice PA NA cA)) (.val (.slice none 0 0))), h'.put p (edR n0 n2 (.val (.slice PA NA cA)) (.val (.slice none 0 0))), by omega, lls, by omega, kb5, rfl, by omega, kr2, Inc.over incK hph _, Heap.put_same _ _ _, by rw [Heap.put_ne _ _ hrp]; exact kR, Own.over oA (kpp kp) _, by rw [t2]; exact Own.over ow' (kpp gpA) _, by rw [t3]; exact Own.nil _ _ _, fun _ => ⟨rfl, rfl⟩, rfl, rfl⟩
    · have hi1' : ¬ ((i : Nat) : Int) < ((N1 : Nat) : Int) := by omega
      refine SW.run [] _ ?_
      simp only [wpC, isB, AS.get, Lift.look, tmpOf, ↓reduceIte, hi1', decide_false, Option.getD_some, asB, Bool.false_eq_true, wpS, stops, wantedA, okDst, Nat.reduceLT, decide_true, step1, isOwnCall, hxOp, px, pfieldAddr, fieldOf, ty77, fieldIn, List.getElem?_cons_succ, List.getElem?_cons_zero, ty43, Option.map_some, AS.eval, Nat.reduceEqDiff, reduceCtorEq, ne_eq, Nat.succ_ne_zero, not_false_eq_true, Nat.zero_add, AS.put, dropKey, pload, gp, okOne, TK.isAgg, beq_self_eq_true, Bool.or_true, Nat.reduceAdd, List.length_cons, List.length_nil, Nat.le_refl, and_self, Lift.valOf, List.drop_succ_cons, List.drop_zero, List.take_succ_cons, List.take_nil, List.getD_cons_zero, pbuildSlice, ty9, List.replicate, List.map_cons, ofVal, List.map_nil, List.flatten_cons, List.flatten_nil, List.append_nil, ofConst, pfill, PV.cells, Nat.reduceMul, splice, List.take_zero, List.nil_append, List.drop_nil, Nat.reduceLeDiff, okZero, List.all_cons, Value.oneCell', List.all_nil, Bool.and_true, known, chunk, true_and]
      have t1 : (ls ++ [l]).take N1 = ls.take N1 := List.take_append_of_le_length (by omega)
      have t2 : (ls ++ [l]).drop N1 = ls.drop N1 ++ [l] := List.drop_append_of_le_length (by omega)
      have hdn : (ls.drop N1).length ≤ 1000000 := by rw [List.length_drop]; omega
      refine SWO.append (.tmp 145) (.tmp 147) 43 43 rfl ty43 rfl ty9 (by decide) rfl ty43 rfl oI (ys := [[.str l]]) rfl (by rw [strL_len]; show (_ + 1) * 16 ≤ _; omega) (by rw [strL_len]; simp [maxLen]; omega) rfl rfl ?_
      intro v' h' ow' _ _
      have ow' : Own hD 9 1 (strL (ls.drop N1) ++ strL [l]) v' h' := ow'
      rw [← strL_append] at ow'
      obtain ⟨PA, cA, ev⟩ := ow'.slice
      obtain ⟨NA, eA⟩ : ∃ NA, NA = (strL (ls.drop N1 ++ [l])).length := ⟨_, rfl⟩
      rw [← eA] at ev
      subst ev
      have gp' : h' p = some (.cells 77 4 [.int .i64 n0, .int .i64 n2, vd, vi]) := ow'.base gpD
      refine SWO.run [] 1000 ?_
      simp only [wpS, stops, Bool.false_eq_true, ↓reduceIte, wantedA, okDst, AS.put, dropKey, Nat.reduceEqDiff, reduceCtorEq, Nat.reduceLT, decide_true, step1, isOwnCall, hxOp, px, pfieldAddr, fieldOf, ty77, fieldIn, List.getElem?_cons_succ, List.getElem?_cons_zero, ty43, Option.map_some, AS.eval, AS.get, Lift.look, Option.getD_some, ne_eq, Nat.succ_ne_zero, not_false_eq_true, Nat.zero_add, hx, gp', known1, PV.cells, List.length_cons, List.length_nil, Nat.reduceAdd, Nat.le_refl, and_self, splice, List.take_succ_cons, List.take_zero, List.cons_append, List.nil_append, List.drop_succ_cons, List.drop_nil, List.append_nil, inQ, thenQ, true_and]
      refine SW.run [] _ ?_
      simp only [wpC, Bool.false_eq_true, ↓reduceIte, wpS, stops, wantedA, okDst, Nat.reduceLT, decide_true, step1, isOwnCall, hxOp, px, AS.eval, AS.get, Lift.look, Nat.reduceEqDiff, reduceCtorEq, Option.getD_some, isFlt, ty3, AS.put, dropKey, isNilC, pbinP, ofConst, ofVal, pbinI, hwi, thenQ, Nat.succ_ne_zero, true_and]
      refine ⟨s.length - a5, by omega, i + 1, a5, ls ++ [l], vd, .val (.slice PA NA cA), k1.put p (edR n0 n2 vd (.val (.slice PA NA cA))), hA.put p (edR n0 n2 vd (.val (.slice PA NA cA))), hD.put p (edR n0 n2 vd (.val (.slice PA NA cA))), by omega, lls, by omega, kb5, rfl, by omega, kr2, Inc.over incK hph _, Heap.put_same _ _ _, by rw [Heap.put_ne _ _ hrp]; exact kR, Own.over oA (kpp kp) _, by rw [t1]; exact Own.over oD (kpp gpA) _, by rw [t2]; exact Own.over ow' (kpp gpD) _, fun k => absurd k (by omega), rfl, rfl⟩
  · have hiE : i = N1 + N3 := by omega
    subst hiE
    rw [Nat.sub_self] at kr
    have kr : rlines (N1 + N3) c5 = some (ls, s.drop a3) := by rw [kr]; show some (ls ++ [], s.drop a3) = _; rw [List.append_nil]
    rw [kr] at hp1
    have hp1 : parse1R s.length (s.drop a) = some (⟨n0, n2, ls.take N1, ls.drop N1⟩, s.drop a3) := hp1
    have hiN' : ¬ ((N1 + N3 : Nat) : Int) < ((N1 + N3 : Nat) : Int) := by omega
    simp only [wpC, mayStop, stops, isFlt, Specs.has, Specs.hasO, Bool.or_false, Specs.hasH, Bool.not_false, List.any_cons, ty3, List.any_nil, Bool.false_eq_true, ↓reduceIte, wpS, wantedA, okDst, Nat.reduceLT, decide_true, step1, isOwnCall, hxOp, px, AS.eval, AS.get, Lift.look, reduceCtorEq, Nat.reduceEqDiff, Option.getD_some, AS.put, dropKey, pindexAddr, ty101, ofConst, ofVal, Int.reduceLE, Int.cast_ofNat_Int, Int.reduceLT, and_self, Int.reduceToNat, Nat.reduceMul, Nat.zero_add, pload, gr, okOne, TK.isAgg, beq_self_eq_true, Bool.or_true, Nat.reduceAdd, List.length_cons, List.length_nil, Nat.reduceLeDiff, Lift.valOf, List.drop_succ_cons, List.drop_zero, List.take_succ_cons, List.take_zero, List.getD_cons_zero, Nat.le_refl, List.take_nil, isNilC, pbinP, pbinI, hwN, hiN', decide_false, List.getElem?_toArray, List.getElem?_cons_succ, List.getElem?_cons_zero, Option.bind_some, beq_ft, Option.some.injEq, ppick_false, thenQ, isB, tmpOf, asB, inQ, true_and]
    refine SW.enter (n := 167) (l := [(0, .str s), (4, v), (5, .int .i64 (a3 : Nat)), (8, .val (.pointer (some ⟨p, 0, none⟩)))]) (H := H4) rfl (.refl _ _) (by simp only [hasAll, AS.get, Lift.look, Nat.succ_ne_zero, ↓reduceIte, Option.getD_some, Nat.reduceEqDiff, reduceCtorEq, and_self]) ?_
    refine SW.ownAt p (pre := [.int .i64 n0, .int .i64 n2, vd]) (post := []) oI gpD ?_
    have oD2 := Own.over oD (q := p) (by rw [gpA]; simp) (edR n0 n2 vd (.list 1 (strL (ls.drop N1))))
    refine SW.ownAt p (pre := [.int .i64 n0, .int .i64 n2]) (post := [.list 1 (strL (ls.drop N1))]) oD2 (Heap.put_same _ _ _) ?_
    rw [Heap.put_put]
    have oA2 := Own.over oA (q := p) (by rw [kp]; simp) (edR n0 n2 (.list 1 (strL (ls.take N1))) (.list 1 (strL (ls.drop N1))))
    have incK2 : Lift.Inc h (k1.put p (edR n0 n2 (.list 1 (strL (ls.take N1))) (.list 1 (strL (ls.drop N1))))) := Inc.over incK hph _
    refine SW.enter (n := 167) (l := [(0, .str s), (4, v), (5, .int .i64 (a3 : Nat)), (8, .val (.pointer (some ⟨p, 0, none⟩)))]) (H := hA.put p (edR n0 n2 (.list 1 (strL (ls.take N1))) (.list 1 (strL (ls.drop N1))))) rfl (.refl _ _) (by simp only [hasAll, AS.get, Lift.look, ↓reduceIte, Option.getD_some, reduceCtorEq, Nat.reduceEqDiff, and_self]) ?_
    have gk : (k1.put p (edR n0 n2 (.list 1 (strL (ls.take N1))) (.list 1 (strL (ls.drop N1))))) p = some (edR n0 n2 (.list 1 (strL (ls.take N1))) (.list 1 (strL (ls.drop N1)))) := Heap.put_same _ _ _
    generalize k1.put p (edR n0 n2 (.list 1 (strL (ls.take N1))) (.list 1 (strL (ls.drop N1)))) = k5 at oA2 incK2 gk
    generalize hA.put p (edR n0 n2 (.list 1 (strL (ls.take N1))) (.list 1 (strL (ls.drop N1)))) = K5 at oA2 ⊢
    have gp5 : K5 p = some (.cells 77 4 [.int .i64 n0, .int .i64 n2, .list 1 (strL (ls.take N1)), .list 1 (strL (ls.drop N1))]) := oA2.base gk
    obtain ⟨y1, y2⟩ := parse1R_size hp1
    rw [List.length_drop, List.length_drop] at y1
    have hol : out.length ≤ 1000000 := by have := (szS_len out).1; omega
    refine SW.run [] _ ?_
    simp only [wpC, Bool.false_eq_true, ↓reduceIte, wpS, stops, wantedA, okDst, Nat.reduceLT, decide_true, step1, isOwnCall, hxOp, px, AS.eval, AS.get, Lift.look, reduceCtorEq, Option.getD_some, AS.put, dropKey, Nat.reduceEqDiff, pload, ty77, gp5, okOne, TK.isAgg, Nat.reduceBEq, Bool.or_false, Nat.zero_add, List.length_cons, List.length_nil, Nat.reduceAdd, Nat.le_refl, and_self, Lift.valOf, List.drop_zero, List.take_succ_cons, List.take_nil, pbuildSlice, ty22, Nat.succ_ne_zero, List.replicate, List.map_cons, ofVal, List.map_nil, List.flatten_cons, List.flatten_nil, List.append_nil, ofConst, pfill, PV.cells, Nat.reduceMul, splice, List.take_zero, List.nil_append, List.drop_succ_cons, List.drop_nil, Nat.reduceLeDiff, okZero, List.all_cons, Value.oneCell', List.all_nil, Bool.and_true, known, chunk, true_and]
    refine SWO.append (.tmp 150) (.tmp 152) 22 22 rfl ty22 rfl ty77 (by decide) rfl ty22 rfl oA2 (ys := [edV ⟨n0, n2, ls.take N1, ls.drop N1⟩]) rfl (by rw [edL_len]; show (_ + 1) * 64 ≤ _; omega) (by rw [edL_len]; simp [maxLen]; omega) rfl rfl ?_
    intro v8 h8 ow8 _ _
    refine SWO.run [] 1000 ?_
    simp only [wpS, stops, Bool.false_eq_true, ↓reduceIte, wantedA, okDst, AS.put, dropKey, Nat.reduceEqDiff, reduceCtorEq, Nat.reduceLT, decide_true, step1, isOwnCall, hxOp, px, AS.eval, AS.get, Lift.look, Option.getD_some, inQ, thenQ, Nat.succ_ne_zero, true_and]
    obtain ⟨f', rfl⟩ : ∃ f', f = f' + 1 := ⟨f - 1, by omega⟩
    have hz1 : 1 ≤ szE ⟨n0, n2, ls.take N1, ls.drop N1⟩ := by unfold szE; omega
    have hsa : szS (out ++ [⟨n0, n2, ls.take N1, ls.drop N1⟩]) = szS out + szE ⟨n0, n2, ls.take N1, ls.drop N1⟩ := by unfold szS; simp
    refine ⟨s.length - a3, by omega, out ++ [⟨n0, n2, ls.take N1, ls.drop N1⟩], a3, v8, k5, f', ka2, rfl, by omega, by omega, ?_, ?_, incK2, by rw [edL_append]; exact ow8, rfl, rfl⟩
    · intro e he
      rcases List.mem_append.1 he with he | he
      · exact hnum e he
      · rw [List.mem_singleton.1 he]; exact y2
    · rw [hpt, parseR_some hne hp1, map_cons_app]
def rreadR (s : List UInt8) : PV := .tuple [.list 4 (edL (rreadS s).1), .int .i64 (rreadS s).2]
theorem RRead_ok (s : List UInt8) (hs : s.length ≤ 1000000) (h : Heap) : SCalls env 14 [.str s] h (Ret (rreadR s) h) := by
  refine (RReadQ_ok s hs h).letGo fun e h' ⟨p, e1, hp, e2⟩ => ?_
  obtain ⟨v, rfl, hv⟩ := hp
  rcases hv with rfl | ⟨rfl, hn⟩
  · exact ⟨_, _, h, e1, by rw [e2]; exact LetGo.refl _ _, rfl, rfl⟩
  · refine ⟨_, _, h, e1, by rw [e2]; exact (Own.nil h 77 4).letGoT _, ?_, rfl⟩
    unfold rreadR
    rw [hn]
    rfl
def sRRead : List PV → Prop × PV
  | [.str s] => (s.length ≤ 1000000, rreadR s)
  | _ => PBad
noncomputable def eRRead : SpecE env := ⟨14, sRRead, fun args h hc => by
  unfold sRRead at hc ⊢
  split at hc
  · rename_i s; exact .inl (RRead_ok s hc h)
  · exact hc.elim⟩
end Go.Proofs.YtincpomenogppaaGreatDoor
