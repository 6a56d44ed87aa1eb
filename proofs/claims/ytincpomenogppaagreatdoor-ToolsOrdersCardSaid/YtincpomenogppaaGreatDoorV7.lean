/- Contracts of functions that the law reaches. -/
import Derived.Test.YtincpomenogppaaGreatDoorV4
set_option linter.unusedSimpArgs false
set_option linter.unusedVariables false
namespace Go.Proofs.YtincpomenogppaaGreatDoor
open Go Go.RowKit Go.Proofs.YtincpomenogppaaGreatDoor Go.Proofs.YtincpomenogppaaGreatDoor.Lift
set_option maxRecDepth 100000

set_option maxHeartbeats 8000000 in
theorem ToolsOrders_ok (L : List (List UInt8)) (bs : List UInt8) (hM : MaxOK) (h : Heap) : SCalls env 6 [.list 1 (strL L), .list 1 (bl bs)] h (Ret (.bool true) h) := by
  refine SCalls.body Tryz.func6 rfl rfl (by simp [Tryz.ntmps6]) ?_
  refine SW.seq (SW.run [] _ ?_)
  simp only [wpC, Bool.false_eq_true, ↓reduceIte, wpS, stops, wantedA, okDst, Tryz.ntmps6, Nat.reduceLT, decide_true, step1, isOwnCall, hxOp, px, AS.eval, ofConst, ofVal, thenQ, AS.put, enumA, Nat.zero_add, dropKey, reduceCtorEq, Nat.reduceEqDiff, true_and]
  refine SW.seq (SW.run [eAwakeL] _ ?_)
  simp only [wpC, mayStop, stops, isFlt, Specs.has, eAwakeL, Specs.hasO, Bool.or_false, Specs.hasH, List.any_cons, ↓reduceIte, Bool.not_true, List.any_nil, Bool.false_eq_true, wpS, wantedA, okDst, Nat.reduceLT, decide_true, step1, isOwnCall, hxOp, px, pcall, okArg, AS.eval, AS.get, Lift.look, ofConst, ofVal, List.all_nil, Specs.at, List.map_nil, sAwakeL, and_self, AS.put, dropKey, Nat.reduceEqDiff, reduceCtorEq, pun, Option.getD_some, thenQ, isB, tmpOf, asB, true_and]
  refine SW.seq (SW.run [eSmall] _ ?_)
  by_cases h1 : 20 < L.length
  · have h1' : (20 : Int) < (L.length : Int) := by omega
    simp only [wpC, mayStop, stops, isFlt, Specs.has, eSmall, Specs.hasO, Bool.or_false, Specs.hasH, List.any_cons, ↓reduceIte, Bool.not_true, List.any_nil, Bool.false_eq_true, wpS, wantedA, okDst, Nat.reduceLT, decide_true, step1, isOwnCall, hxOp, px, AS.eval, AS.get, Lift.look, Nat.succ_ne_zero, Option.getD_some, AS.put, dropKey, Nat.reduceEqDiff, reduceCtorEq, pcall, ty43, plen, strL_len, okLen, and_self, isNilC, pbinP, ofConst, ofVal, pbinI, h1', List.getElem?_toArray, List.getElem?_cons_succ, List.getElem?_cons_zero, Option.bind_some, beq_tf, Option.some.injEq, ppick_true, thenQ, isB, tmpOf, asB, RPost, sres, Tryz.results6, sresL, sres1, Ret_fin, HTo_self, and_true, exists_eq_left']
  have h1' : ¬ (20 : Int) < (L.length : Int) := by omega
  by_cases h2 : 40 < bs.length
  · have h2' : (40 : Int) < (bs.length : Int) := by omega
    simp only [wpC, mayStop, stops, isFlt, Specs.has, eSmall, Specs.hasO, Bool.or_false, Specs.hasH, List.any_cons, ↓reduceIte, Bool.not_true, List.any_nil, Bool.false_eq_true, wpS, wantedA, okDst, Nat.reduceLT, decide_true, step1, isOwnCall, hxOp, px, AS.eval, AS.get, Lift.look, Nat.succ_ne_zero, Option.getD_some, AS.put, dropKey, Nat.reduceEqDiff, reduceCtorEq, pcall, ty43, plen, strL_len, okLen, and_self, isNilC, pbinP, ofConst, ofVal, pbinI, h1', decide_false, List.getElem?_toArray, List.getElem?_cons_succ, List.getElem?_cons_zero, Option.bind_some, beq_self_eq_true, ty65, bl_len, h2', ppick_bool, beq_tf, Option.some.injEq, ppick_true, thenQ, isB, tmpOf, asB, RPost, sres, Tryz.results6, sresL, sres1, Ret_fin, HTo_self, and_true, exists_eq_left']
  have h2' : ¬ (40 : Int) < (bs.length : Int) := by omega
  have hu : unS (strL L) = some L := unS_el L
  have hL9 : L.length ≤ 1000000000 := by omega
  cases hsm : smallS L
  · simp only [wpC, mayStop, stops, isFlt, Specs.has, eSmall, Specs.hasO, Bool.or_false, Specs.hasH, List.any_cons, ↓reduceIte, Bool.not_true, List.any_nil, Bool.false_eq_true, wpS, wantedA, okDst, Nat.reduceLT, decide_true, step1, isOwnCall, hxOp, px, AS.eval, AS.get, Lift.look, Nat.succ_ne_zero, Option.getD_some, AS.put, dropKey, Nat.reduceEqDiff, reduceCtorEq, pcall, ty43, plen, strL_len, okLen, and_self, isNilC, pbinP, ofConst, ofVal, pbinI, h1', decide_false, List.getElem?_toArray, List.getElem?_cons_succ, List.getElem?_cons_zero, Option.bind_some, beq_self_eq_true, ty65, bl_len, h2', ppick_bool, okArg, List.all_cons, List.all_nil, Bool.and_true, Specs.at, List.map_cons, List.map_nil, sSmall, hu, hL9, hsm, pun, Bool.not_false, thenQ, isB, tmpOf, asB, RPost, sres, Tryz.results6, sresL, sres1, Option.some.injEq, Ret_fin, HTo_self, and_true, exists_eq_left']
  simp only [wpC, mayStop, stops, isFlt, Specs.has, eSmall, Specs.hasO, Bool.or_false, Specs.hasH, List.any_cons, ↓reduceIte, Bool.not_true, List.any_nil, Bool.false_eq_true, wpS, wantedA, okDst, Nat.reduceLT, decide_true, step1, isOwnCall, hxOp, px, AS.eval, AS.get, Lift.look, Nat.succ_ne_zero, Option.getD_some, AS.put, dropKey, Nat.reduceEqDiff, reduceCtorEq, pcall, ty43, plen, strL_len, okLen, and_self, isNilC, pbinP, ofConst, ofVal, pbinI, h1', decide_false, List.getElem?_toArray, List.getElem?_cons_succ, List.getElem?_cons_zero, Option.bind_some, beq_self_eq_true, ty65, bl_len, h2', ppick_bool, okArg, List.all_cons, List.all_nil, Bool.and_true, Specs.at, List.map_cons, List.map_nil, sSmall, hu, hL9, hsm, pun, thenQ, isB, tmpOf, asB, true_and]
  refine SW.seq (SW.run [] _ ?_)
  simp only [wpC, Bool.false_eq_true, ↓reduceIte, wpS, stops, wantedA, okDst, Nat.reduceLT, decide_true, step1, isOwnCall, hxOp, px, AS.eval, ofConst, ofVal, thenQ, AS.put, dropKey, Nat.reduceEqDiff, reduceCtorEq, true_and]
  refine SW.seq (SW.seq (SW.run [] _ ?_))
  simp only [wpC, Bool.false_eq_true, ↓reduceIte, wpS, stops, wantedA, okDst, Nat.reduceLT, decide_true, step1, isOwnCall, hxOp, px, AS.eval, AS.get, Lift.look, Nat.succ_ne_zero, Option.getD_some, AS.put, dropKey, Nat.reduceEqDiff, reduceCtorEq, pcall, ty43, plen, strL_len, okLen, and_self, ofConst, ofVal, thenQ, true_and]
  have hmem := small_mem hsm
  refine SW.block (SW.loop (fun bb st => ∃ (i : Nat) (v : PV), i ≤ L.length ∧ L.length - i = bb ∧ Own h 9 1 (strL (nlR ((L.take i).map replS))) v st.h ∧ st.n = 125 ∧ hasAll st [(1, .list 1 (bl bs)), (5, v), (34, .list 1 (strL L)), (35, .int .i64 (L.length : Nat)), (36, .int .i64 (i : Nat))]) L.length ⟨0, .val (.slice none 0 0), Nat.zero_le _, rfl, Own.nil _ _ _, rfl, ?_⟩ ?_)
  · simp only [hasAll, AS.get, Lift.look, Nat.reduceEqDiff, ↓reduceIte, reduceCtorEq, Option.getD_some, Int.cast_ofNat_Int, and_self]
  rintro bb st ⟨i, v, hi, hbb, ow, hn', hs'⟩
  refine SW.norm ⟨hn', rfl, hs'⟩ ?_
  generalize st.h = H at ow
  clear hn' hs'
  refine SW.seq (SW.run [] _ ?_)
  by_cases hlt : i < L.length
  · have hw : IntKind.i64.wrap ((i : Int) + 1) = ((i + 1 : Nat) : Int) := by rw [w64 (by omega) (by omega)]; rfl
    have hg := strL_at hlt
    have hl6 : L[i].length ≤ 1000000 := by have := hmem _ (List.getElem_mem hlt); omega
    have hlen : (nlR ((L.take i).map replS)).length = i := by unfold nlR; simp; omega
    have hnx : nlR ((L.take (i + 1)).map replS) = nlR ((L.take i).map replS) ++ [replS L[i] ++ [10]] := by
      rw [List.take_succ_eq_append_getElem hlt]
      unfold nlR
      simp only [List.map_append, List.map_cons, List.map_nil]
    simp only [wpC, Bool.false_eq_true, ↓reduceIte, wpS, stops, wantedA, okDst, Nat.reduceLT, decide_true, step1, isOwnCall, hxOp, px, isNilC, pbinP, AS.eval, AS.get, Lift.look, Nat.reduceEqDiff, Option.getD_some, pbinI, Int.ofNat_lt, hlt, thenQ, hasAll, and_true, AS.put, dropKey, true_and]
    refine SW.seq (SW.run [] _ ?_)
    simp only [wpC, isB, AS.get, Lift.look, tmpOf, ↓reduceIte, Option.getD_some, asB, thenQ, true_and]
    refine SW.seq (SW.block (SW.seq (SW.run [] _ ?_)))
    simp only [wpC, Bool.false_eq_true, ↓reduceIte, wpS, stops, wantedA, okDst, Nat.reduceLT, decide_true, step1, isOwnCall, hxOp, px, pindexAddr, ty43, ty9, AS.eval, AS.get, Lift.look, Nat.reduceEqDiff, Option.getD_some, ne_eq, Nat.succ_ne_zero, not_false_eq_true, Int.natCast_nonneg, Int.toNat_natCast, strL_len, hlt, and_self, hg, AS.put, dropKey, pload, okOne, TK.isAgg, beq_self_eq_true, Bool.or_true, List.length_cons, List.length_nil, Nat.zero_add, Nat.le_refl, Lift.valOf, List.take_succ_cons, List.take_nil, List.getD_cons_zero, thenQ, true_and]
    refine SW.run [eReplAll hM] _ ?_
    simp only [wpC, Bool.false_eq_true, ↓reduceIte, wpS, stops, wantedA, okDst, Nat.reduceLT, decide_true, step1, isOwnCall, hxOp, px, AS.eval, AS.get, Lift.look, Nat.reduceEqDiff, Option.getD_some, AS.put, dropKey, Specs.has, eReplAll, Specs.hasO, Bool.or_false, Specs.hasH, Bool.not_true, pcall, okArg, ofConst, ofVal, List.all_cons, List.all_nil, Bool.and_true, Specs.at, List.map_cons, List.map_nil, sReplAll, hl6, and_self, isFlt, ty9, isNilC, pbinP, pbinS, List.length_cons, List.length_nil, Nat.zero_add, Nat.reduceLeDiff, pbuildSlice, ty43, Nat.succ_ne_zero, List.replicate, List.flatten_cons, List.flatten_nil, List.append_nil, pfill, PV.cells, Nat.reduceMul, Nat.le_refl, splice, List.take_zero, List.nil_append, List.drop_succ_cons, List.drop_nil, okZero, Value.oneCell', known, chunk, List.take_succ_cons, List.take_nil, true_and]
    refine ⟨by rw [(replS_facts L[i]).2]; omega, ?_⟩
    refine SWO.append (.tmp 40) (.tmp 44) 43 43 rfl ty43 rfl ty9 (by decide) rfl ty43 rfl ow (ys := [[.str (replS L[i] ++ [10])]]) rfl (by rw [strL_len, hlen]; show (_ + 1) * 16 ≤ _; omega) (by rw [strL_len, hlen]; simp [maxLen]; omega) rfl rfl ?_
    intro v' h' ow' _ _
    refine SWO.run [] 1000 ?_
    simp only [wpS, stops, Bool.false_eq_true, ↓reduceIte, wantedA, okDst, AS.put, dropKey, Nat.reduceEqDiff, Nat.reduceLT, decide_true, step1, isOwnCall, hxOp, px, AS.eval, AS.get, Lift.look, Option.getD_some, inQ, thenQ, true_and]
    refine SW.run [] _ ?_
    simp only [wpC, Bool.false_eq_true, ↓reduceIte, wpS, stops, isFlt, ty3, wantedA, okDst, Nat.reduceLT, decide_true, step1, isOwnCall, hxOp, px, isNilC, pbinP, AS.eval, AS.get, Lift.look, Nat.reduceEqDiff, Option.getD_some, ofConst, ofVal, pbinI, hw, AS.put, dropKey, thenQ, true_and]
    exact ⟨L.length - (i + 1), by omega, i + 1, v', by omega, rfl, by rw [hnx, strL_append]; exact ow', rfl, rfl⟩
  have hie : i = L.length := by omega
  subst hie
  rw [List.take_length] at ow
  simp only [wpC, Bool.false_eq_true, ↓reduceIte, wpS, stops, wantedA, okDst, Nat.reduceLT, decide_true, step1, isOwnCall, hxOp, px, isNilC, pbinP, AS.eval, AS.get, Lift.look, Nat.reduceEqDiff, Option.getD_some, pbinI, Int.ofNat_lt, hlt, decide_false, thenQ, hasAll, and_true, AS.put, dropKey, true_and]
  refine SW.seq (SW.run [] _ ?_)
  simp only [wpC, isB, AS.get, Lift.look, tmpOf, ↓reduceIte, Option.getD_some, asB, Bool.false_eq_true, thenQ, inQ, true_and]
  clear hlt hi hbb
  obtain ⟨C, hC⟩ : ∃ C, C = L.map replS := ⟨_, rfl⟩
  rw [← hC] at ow
  have hno : noNl C := by rw [hC]; exact noNl_repl L
  have hCl : C.length = L.length := by rw [hC, List.length_map]
  have hCs : (nlL C).length ≤ 7000 := by have := nlL_small L hsm; rw [← hC] at this; omega
  have hRl : ∀ D : List (List UInt8), (nlR D).length = D.length := fun D => by unfold nlR; rw [List.length_map]
  obtain ⟨A5, N5, hv5⟩ := ow.slice
  rw [strL_len, hRl] at hv5
  subst hv5
  have hC6 : C.length ≤ 1000000 := by omega
  have hC9 : (nlR C).length ≤ 1000000000 := by rw [hRl]; omega
  refine SW.seq (SW.run [] _ ?_)
  simp only [wpC, Bool.false_eq_true, ↓reduceIte, wpS, stops, wantedA, okDst, Nat.reduceLT, decide_true, step1, isOwnCall, hxOp, px, AS.eval, AS.get, Lift.look, Nat.reduceEqDiff, Option.getD_some, Specs.has, Specs.hasO, Bool.or_false, Specs.hasH, Bool.not_false, AS.put, dropKey, true_and]
  refine SWO.call (.func 39) #[.tmp 47] _ 39 #[] #[] rfl rfl rfl rfl rfl rfl (SCalls.lendOwnO [] [] (Clone_ok (nlR C) noHeap hC9) (fun c hc => by
    rw [strL_flat] at hc
    obtain ⟨x, _, rfl⟩ := List.mem_map.1 hc
    trivial) ow) rfl rfl ?_ (fun c h' hc => by obtain ⟨_, hc, _⟩ := hc; cases hc)
  rintro v2 H1 ⟨u2, e1, ow2⟩
  injection e1 with e1
  subst e1
  obtain ⟨A8, N8, hv8⟩ := ow2.slice
  rw [strL_len, hRl] at hv8
  subst hv8
  obtain ⟨M, hM0⟩ : ∃ M, M = C.length := ⟨_, rfl⟩
  rw [← hM0] at ow ow2 ⊢
  refine SWO.run [] 1000 ?_
  simp only [wpS, stops, Bool.false_eq_true, ↓reduceIte, wantedA, okDst, AS.put, dropKey, Nat.reduceEqDiff, Nat.reduceLT, decide_true, step1, isOwnCall, hxOp, px, AS.eval, AS.get, Lift.look, Option.getD_some, thenQ, true_and]
  refine SW.seq (SW.seq (SW.run [] _ ?_))
  simp only [wpC, Bool.false_eq_true, ↓reduceIte, wpS, stops, wantedA, okDst, Nat.reduceLT, decide_true, step1, isOwnCall, hxOp, px, AS.eval, AS.get, Lift.look, Nat.reduceEqDiff, Option.getD_some, AS.put, dropKey, pcall, ty65, plen, bl_len, okLen, and_self, ofConst, ofVal, thenQ, true_and]
  refine SW.block (SW.loop (fun bb st => ∃ (i : Nat) (D : List (List UInt8)), i ≤ bs.length ∧ bs.length - i = bb ∧ D.Perm C ∧ Own H 9 1 (strL (nlR D)) (.val (.slice A8 M N8)) st.h ∧ st.n = 125 ∧ hasAll st [(5, .val (.slice A5 M N5)), (8, .val (.slice A8 M N8)), (49, .list 1 (bl bs)), (50, .int .i64 (bs.length : Nat)), (51, .int .i64 (i : Nat))]) bs.length ⟨0, C, Nat.zero_le _, rfl, .refl _, ow2, rfl, ?_⟩ ?_)
  · simp only [hasAll, AS.get, Lift.look, Nat.reduceEqDiff, ↓reduceIte, Option.getD_some, Int.cast_ofNat_Int, and_self]
  clear ow2 H1
  rintro bb st ⟨i, D, hi, hbb, hD, ow2, hn', hs'⟩
  refine SW.norm ⟨hn', rfl, hs'⟩ ?_
  generalize st.h = H1 at ow2
  clear hn' hs'
  have hDl : D.length = M := by rw [hM0]; exact hD.length_eq
  refine SW.seq (SW.run [] _ ?_)
  by_cases hlt : i < bs.length
  · have hw : IntKind.i64.wrap ((i : Int) + 1) = ((i + 1 : Nat) : Int) := by rw [w64 (by omega) (by omega)]; rfl
    have hg := bl_at hlt
    simp only [wpC, Bool.false_eq_true, ↓reduceIte, wpS, stops, wantedA, okDst, Nat.reduceLT, decide_true, step1, isOwnCall, hxOp, px, isNilC, pbinP, AS.eval, AS.get, Lift.look, Nat.reduceEqDiff, Option.getD_some, pbinI, Int.ofNat_lt, hlt, thenQ, hasAll, and_true, AS.put, dropKey, true_and]
    refine SW.seq (SW.run [] _ ?_)
    simp only [wpC, isB, AS.get, Lift.look, tmpOf, ↓reduceIte, Option.getD_some, asB, thenQ, true_and]
    refine SW.seq (SW.block (SW.seq (SW.run [] _ ?_)))
    simp only [wpC, Bool.false_eq_true, ↓reduceIte, wpS, stops, wantedA, okDst, Nat.reduceLT, decide_true, step1, isOwnCall, hxOp, px, pindexAddr, ty65, ty5, AS.eval, AS.get, Lift.look, Nat.reduceEqDiff, Option.getD_some, ne_eq, Nat.succ_ne_zero, not_false_eq_true, Int.natCast_nonneg, Int.toNat_natCast, bl_len, hlt, and_self, hg, AS.put, dropKey, pload, okOne, TK.isAgg, beq_self_eq_true, Bool.or_true, List.length_cons, List.length_nil, Nat.zero_add, Nat.le_refl, Lift.valOf, List.take_succ_cons, List.take_nil, List.getD_cons_zero, thenQ, true_and]
    obtain ⟨b, hb⟩ : ∃ b, b = bs[i].toNat := ⟨_, rfl⟩
    have hb2 : b < 256 := by rw [hb]; exact bs[i].toNat_lt
    rw [← hb]
    clear hg hb
    refine SW.seq (SW.run [] _ ?_)
    simp only [wpC, Bool.false_eq_true, ↓reduceIte, wpS, stops, wantedA, okDst, Nat.reduceLT, decide_true, step1, isOwnCall, hxOp, px, AS.eval, AS.get, Lift.look, Nat.reduceEqDiff, Option.getD_some, AS.put, dropKey, pcall, ty43, plen, okLen, and_self, thenQ, true_and]
    refine SW.run [] _ ?_
    by_cases hM1 : 1 < M
    · have hM1' : (1 : Int) < (M : Int) := by omega
      have hj1 : b % M < M := Nat.mod_lt _ (by omega)
      have hj2 : b / 8 % M < M := Nat.mod_lt _ (by omega)
      have hm0 : ¬ M = 0 := by omega
      simp only [wpC, mayStop, stops, isFlt, Specs.has, Specs.hasO, Bool.or_false, Specs.hasH, Bool.not_false, List.any_cons, List.any_nil, Bool.false_eq_true, ↓reduceIte, wpS, wantedA, okDst, Nat.reduceLT, decide_true, step1, isOwnCall, hxOp, px, AS.eval, AS.get, Lift.look, Option.getD_some, AS.put, dropKey, Nat.reduceEqDiff, isNilC, pbinP, ofConst, ofVal, pbinI, hM1', thenQ, isB, tmpOf, asB, ty5, true_and]
      refine SW.regionAny [] [[0, 1, 2, 3, 4, 5, 6, 7, 8, 9, 10]] rfl (by rfl) (by kernel_rfl) ?_
      simp only [wpOL, wpO, LOp, List.getElem?_toArray, List.getElem?_cons_zero, okDst, Nat.reduceLT, decide_true, wantedA, ↓reduceIte, step1, isOwnCall, Bool.false_eq_true, hxOp, px, AS.eval, AS.get, Lift.look, Nat.reduceEqDiff, Option.getD_some, List.getElem?_cons_succ, AS.put, dropKey, ty5, ty3, pconvH, pconv, isNilC, pbinP, pbinI, ne_eq, true_and, ofConst, ofVal, Int.reduceEq, not_false_eq_true, and_self, wrap_byte, w64_byte, thenQ]
      have hI : (IntKind.i64.wrap (b : Int)).tmod (M : Int) = ((b % M : Nat) : Int) := by
        rw [w64 (by omega) (by omega), Int.tmod_eq_emod_of_nonneg (by omega)]
        rfl
      have hJ : (((u8of ((b : Int).tdiv 8)).toNat : Nat) : Int).tmod (M : Int) = ((b / 8 % M : Nat) : Int) := by
        have e1 : (b : Int).tdiv 8 = ((b / 8 : Nat) : Int) := by rw [Int.tdiv_eq_ediv_of_nonneg (by omega)]; rfl
        have e2 : (u8of ((b / 8 : Nat) : Int)).toNat = b / 8 := by
          unfold u8of
          simp
          omega
        rw [e1, e2, Int.tmod_eq_emod_of_nonneg (by omega)]
        rfl
      rw [hI, hJ]
      clear hI hJ
      refine ⟨by omega, by omega, ?_⟩
      obtain ⟨p, hp⟩ : ∃ p, p = b % M := ⟨_, rfl⟩
      obtain ⟨q, hq⟩ : ∃ q, q = b / 8 % M := ⟨_, rfl⟩
      rw [← hp] at hj1 ⊢
      rw [← hq] at hj2 ⊢
      have hj1' : (p : Int) < (M : Int) := by omega
      have hj2' : (q : Int) < (M : Int) := by omega
      rcases ow2 with ⟨e, e2, _⟩ | ⟨r, cap, e, o1, o2, o3, o4, o5⟩
      · have : (strL (nlR D)).length = 0 := by rw [e2]; rfl
        rw [strL_len, hRl] at this
        omega
      injection e with e
      injection e with e0 e1 e2
      subst e0; subst e2
      have g8 : H1 r = some (.cells 9 (N8 * 1) ((nlR D).map PV.str)) := by rw [o4, ← strL_flat]; exact Heap.put_same _ _ _
      have hEl : (nlR D).length = M := (hRl D).trans hDl
      have hpE : p < (nlR D).length := by omega
      have hqE : q < (nlR D).length := by omega
      have gp := row_get hpE
      have gq := row_get hqE
      have pp := row_put hpE (nlR D)[q]
      have pq := row_put (l := (nlR D).set p (nlR D)[q]) (i := q) (by rw [List.length_set]; exact hqE) (nlR D)[p]
      have hroom1 : p * 1 + 1 ≤ M := by omega
      have hroom2 : q * 1 + 1 ≤ M := by omega
      refine SW.regionAny [] [[0, 1, 2, 3, 4, 5, 6, 7, 8, 9, 10, 11, 12, 13, 14, 15]] rfl (by rfl) (by kernel_rfl) ?_
      simp only [wpOL, wpO, LOp, List.getElem?_toArray, List.getElem?_cons_zero, okDst, Nat.reduceLT, decide_true, wantedA, ↓reduceIte, step1, isOwnCall, Bool.false_eq_true, hxOp, px, AS.eval, AS.get, Lift.look, Nat.reduceEqDiff, Option.getD_some, List.getElem?_cons_succ, AS.put, dropKey, pindexAddr, ty43, ty9, Int.natCast_nonneg, hj2', and_self, Int.toNat_natCast, Nat.zero_add, pload, g8, okOne, TK.isAgg, beq_self_eq_true, Bool.or_true, List.length_map, hEl, hroom2, Lift.valOf, gq, List.getD_cons_zero, hj1', hroom1, gp, hx, known1, PV.cells, List.length_cons, List.length_nil, splice, pp, Heap.get_put, List.length_set, pq, Heap.put_put, inQ, thenQ, true_and]
      have hDp : p < D.length := by omega
      have hDq : q < D.length := by omega
      rw [nlR_at hDp, nlR_at hDq, nlR_swap, o4, Heap.put_put]
      refine SW.run [] _ ?_
      simp only [wpC, Bool.false_eq_true, ↓reduceIte, wpS, stops, isFlt, ty3, wantedA, okDst, Nat.reduceLT, decide_true, step1, isOwnCall, hxOp, px, isNilC, pbinP, AS.eval, AS.get, Lift.look, Nat.reduceEqDiff, Option.getD_some, ofConst, ofVal, pbinI, hw, AS.put, dropKey, thenQ, true_and]
      have hpm := swap_perm D hDp hDq
      have hl2 : ((D.set p D[q]).set q D[p]).length = M := by rw [List.length_set, List.length_set]; exact hDl
      exact ⟨bs.length - (i + 1), by omega, i + 1, (D.set p D[q]).set q D[p], by omega, rfl, hpm.trans hD, .inr ⟨r, N8, by rw [strL_len, hRl, hl2], by rw [strL_len, hRl, hl2]; omega, o2, o3, by rw [strL_flat], strL_wide _⟩, rfl⟩
    · have hM1' : ¬ (1 : Int) < (M : Int) := by omega
      simp only [wpC, mayStop, stops, isFlt, Specs.has, Specs.hasO, Bool.or_false, Specs.hasH, Bool.not_false, List.any_cons, List.any_nil, Bool.false_eq_true, ↓reduceIte, wpS, wantedA, okDst, Nat.reduceLT, decide_true, step1, isOwnCall, hxOp, px, AS.eval, AS.get, Lift.look, Option.getD_some, AS.put, dropKey, Nat.reduceEqDiff, isNilC, pbinP, ofConst, ofVal, pbinI, hM1', decide_false, thenQ, isB, tmpOf, asB, inQ, true_and]
      refine SW.run [] _ ?_
      simp only [wpC, Bool.false_eq_true, ↓reduceIte, wpS, stops, isFlt, ty3, wantedA, okDst, Nat.reduceLT, decide_true, step1, isOwnCall, hxOp, px, isNilC, pbinP, AS.eval, AS.get, Lift.look, Nat.reduceEqDiff, Option.getD_some, ofConst, ofVal, pbinI, hw, AS.put, dropKey, thenQ, true_and]
      exact ⟨bs.length - (i + 1), by omega, i + 1, D, by omega, rfl, hD, ow2, rfl⟩
  simp only [wpC, Bool.false_eq_true, ↓reduceIte, wpS, stops, wantedA, okDst, Nat.reduceLT, decide_true, step1, isOwnCall, hxOp, px, isNilC, pbinP, AS.eval, AS.get, Lift.look, Nat.reduceEqDiff, Option.getD_some, pbinI, Int.ofNat_lt, hlt, decide_false, thenQ, hasAll, and_true, AS.put, dropKey, true_and]
  refine SW.seq (SW.run [] _ ?_)
  simp only [wpC, isB, AS.get, Lift.look, tmpOf, ↓reduceIte, Option.getD_some, asB, Bool.false_eq_true, thenQ, inQ, true_and]
  clear hlt hi hbb
  refine SW.own_let 8 rfl ow2 ?_
  have hCq := srt_exists C
  obtain ⟨q, hCq, hq⟩ := hCq
  have hnD : noNl D := noNl_perm hno hD.symm
  have hnq : noNl q := noNl_perm hno hCq
  have eC : sortT false (nlL C) = nlL q := sortT_nl hno hCq hq
  have eD : sortT false (nlL D) = nlL q := sortT_nl hnD (hD.trans hCq) hq
  have eq : sortT false (nlL q) = nlL q := sortT_nl hnq (.refl _) hq
  have eU : uniqS (nlL q) false = nlL (dd q) := uniq_nl hnq
  have eU2 : uniqS (nlL (dd q)) false = nlL (dd q) := by rw [uniq_nl (noNl_dd hnq), dd_dd]
  have lq : (nlL q).length ≤ 7000 := by rw [← nlL_perm hCq]; exact hCs
  have lD : (nlL D).length ≤ 7000 := by rw [nlL_perm hD]; exact hCs
  have lu : (nlL (dd q)).length ≤ 7000 := by have := nlL_dd q; omega
  have sC : (nlL C).length ≤ 1000000 := by omega
  have sD : (nlL D).length ≤ 1000000 := by omega
  have sq : (nlL q).length ≤ 1000000 := by omega
  have su : (nlL (dd q)).length ≤ 1000000 := by omega
  have bq : (nlL q).length ≤ 100000000000000 := by omega
  have bu : (nlL (dd q)).length ≤ 100000000000000 := by omega
  refine SW.seq (SW.run [] _ ?_)
  simp only [wpC, Bool.false_eq_true, ↓reduceIte, wpS, stops, wantedA, okDst, AS.put, dropKey, Nat.reduceEqDiff, Nat.reduceLT, decide_true, step1, isOwnCall, hxOp, px, AS.eval, AS.get, Lift.look, Option.getD_some, Specs.has, Specs.hasO, Bool.or_false, Specs.hasH, Bool.not_false, true_and]
  have hf : (nlR C).flatten.length ≤ 140737488355328 := by show (nlL C).length ≤ _; omega
  have hf2 : (nlR D).flatten.length ≤ 140737488355328 := by show (nlL D).length ≤ _; omega
  refine SWO.callRet (.func 40) #[.tmp 83, .const (.string ⟨#[]⟩)] _ 40 #[] #[] rfl rfl rfl rfl rfl rfl (JoinO_ok ow hf (by rw [hRl]; omega)) rfl rfl ?_
  rw [nlR_flat]
  refine SWO.run [eSort] 1000 ?_
  simp only [wpS, stops, Specs.has, eSort, ↓reduceIte, Specs.hasO, Bool.or_false, Specs.hasH, Bool.not_true, Bool.false_eq_true, wantedA, okDst, AS.put, dropKey, Nat.reduceEqDiff, Nat.reduceLT, decide_true, step1, isOwnCall, hxOp, px, pcall, okArg, AS.eval, AS.get, Lift.look, ofConst, ofVal, List.all_cons, Option.getD_some, List.all_nil, Bool.and_true, Specs.at, List.map_cons, List.map_nil, sSort, sC, eC, bq, and_self, Bool.not_false, true_and]
  refine SWO.callRet (.func 40) #[.tmp 86, .const (.string ⟨#[]⟩)] _ 40 #[] #[] rfl rfl rfl rfl rfl rfl (JoinL_ok (nlR D) _ hf2 (by rw [hRl]; omega)) rfl rfl ?_
  rw [nlR_flat]
  refine SWO.run [eSort] 1000 ?_
  simp only [wpS, stops, Specs.has, eSort, ↓reduceIte, Specs.hasO, Bool.or_false, Specs.hasH, Bool.not_true, Bool.false_eq_true, wantedA, okDst, AS.put, dropKey, Nat.reduceEqDiff, Nat.reduceLT, decide_true, step1, isOwnCall, hxOp, px, pcall, okArg, AS.eval, AS.get, Lift.look, ofConst, ofVal, List.all_cons, Option.getD_some, List.all_nil, Bool.and_true, Specs.at, List.map_cons, List.map_nil, sSort, sD, eD, bq, and_self, thenQ, true_and]
  refine SW.seq (SW.run [eUnique] _ ?_)
  simp only [wpC, Bool.false_eq_true, ↓reduceIte, wpS, stops, wantedA, okDst, Nat.reduceLT, decide_true, step1, isOwnCall, hxOp, px, AS.eval, AS.get, Lift.look, Nat.reduceEqDiff, Option.getD_some, Specs.has, eUnique, Specs.hasO, Bool.or_false, Specs.hasH, Bool.not_true, AS.put, dropKey, pcall, okArg, ofConst, ofVal, List.all_cons, List.all_nil, Bool.and_true, Specs.at, List.map_cons, List.map_nil, sUnique, sq, eU, bu, and_self, thenQ, true_and]
  refine SW.seq (SW.run [eSort, eUnique] _ ?_)
  simp only [wpC, mayStop, stops, isFlt, Specs.has, eSort, eUnique, Specs.hasO, Bool.or_false, Specs.hasH, List.any_cons, ↓reduceIte, Bool.not_true, Nat.reduceEqDiff, List.any_nil, Bool.false_eq_true, wpS, wantedA, okDst, Nat.reduceLT, decide_true, step1, isOwnCall, hxOp, px, AS.eval, AS.get, Lift.look, Option.getD_some, AS.put, dropKey, isNilC, pbinP, pbinS, beq_self_eq_true, List.getElem?_toArray, List.getElem?_cons_succ, List.getElem?_cons_zero, Option.bind_some, pcall, okArg, ofConst, ofVal, List.all_cons, List.all_nil, Bool.and_true, Specs.at, List.map_cons, List.map_nil, sSort, sq, eq, bq, and_self, ppick_bool, sUnique, su, eU2, bu, thenQ, isB, tmpOf, asB, true_and]
  refine SW.seq (SW.run [eLines] _ ?_)
  simp only [wpC, Bool.false_eq_true, ↓reduceIte, wpS, stops, wantedA, okDst, Nat.reduceLT, decide_true, step1, isOwnCall, hxOp, px, AS.eval, AS.get, Lift.look, Nat.reduceEqDiff, Option.getD_some, Specs.has, eLines, Specs.hasO, Bool.or_false, Specs.hasH, Bool.not_true, AS.put, dropKey, pcall, okArg, ofConst, ofVal, List.all_cons, List.all_nil, Bool.and_true, Specs.at, List.map_cons, List.map_nil, sLines, sq, lines_nl hnq, and_self, thenQ, true_and]
  refine SW.seq (SW.run [] _ ?_)
  simp only [wpC, Bool.false_eq_true, ↓reduceIte, wpS, stops, wantedA, okDst, Nat.reduceLT, decide_true, step1, isOwnCall, hxOp, px, AS.eval, AS.get, Lift.look, Nat.reduceEqDiff, Option.getD_some, Specs.has, Specs.hasO, Bool.or_false, Specs.hasH, Bool.not_false, AS.put, dropKey, true_and]
  refine SWO.call (.func 42) #[.tmp 108] _ 42 #[] #[] rfl rfl rfl rfl rfl rfl (SortRow_ok ow (by rw [hRl]; exact hC6)) rfl rfl ?_ (fun c h' hc => by obtain ⟨_, hc, _⟩ := hc; cases hc)
  rintro v h2 ⟨l1, e1, hp1, ow1⟩
  injection e1 with e1
  subst e1
  refine SWO.run [] 1000 ?_
  simp only [wpS, thenQ, AS.put, dropKey, Nat.reduceEqDiff, ↓reduceIte]
  refine SW.seq (SW.run [] _ ?_)
  simp only [wpC, Bool.false_eq_true, ↓reduceIte, wpS, stops, wantedA, okDst, Nat.reduceLT, decide_true, step1, okAlloc, ty40, okZero, List.all_cons, Value.oneCell', List.all_nil, Bool.and_true, isOwnCall, hxOp, hx, AS.eval, AS.get, AS.put, dropKey, Nat.reduceEqDiff, Lift.look, Option.getD_some, zeroOf, List.map_cons, ofVal, List.map_nil, List.length_cons, List.length_nil, Nat.zero_add, Heap.get_put, known1, PV.cells, Nat.le_refl, and_self, splice, List.take_zero, List.nil_append, List.drop_succ_cons, List.drop_nil, List.append_nil, thenQ, true_and]
  intro bx hbx
  rw [Heap.put_put]
  have owB : Own (h.put bx (.cells 40 1 [.val (.func (.func 43) #[] #[])])) 9 1 (strL l1) (.val (.slice A5 M N5)) (h2.put bx (.cells 40 1 [.val (.func (.func 43) #[] #[])])) := ow1.putx hbx _
  have gx : (h.put bx (.cells 40 1 [.val (.func (.func 43) #[] #[])])) bx = some (.cells 40 1 [cntC]) := Heap.put_same _ _ _
  have inc0 : Lift.Inc h (h.put bx (.cells 40 1 [.val (.func (.func 43) #[] #[])])) := Inc.over (incSelf h) (incFresh ow1.inc hbx) _
  generalize h2.put bx (.cells 40 1 [.val (.func (.func 43) #[] #[])]) = H2 at owB ⊢
  generalize h.put bx (.cells 40 1 [.val (.func (.func 43) #[] #[])]) = H0 at owB gx inc0
  have hl1 : l1.length ≤ 20 := by rw [← hp1.length_eq, hRl]; omega
  have hs1 : ∀ x ∈ l1, x.length ≤ 1000000 := by
    intro x hx
    obtain ⟨c, hc, rfl⟩ := List.mem_map.1 (hp1.mem_iff.2 hx)
    rw [hC] at hc
    obtain ⟨s, hs, rfl⟩ := List.mem_map.1 hc
    have := hmem s hs
    have := (replS_facts s).2
    rw [List.length_append]
    show _ + 1 ≤ _
    omega
  refine SW.seq (SW.run [] _ ?_)
  simp only [wpC, Bool.false_eq_true, ↓reduceIte, wpS, stops, wantedA, okDst, Nat.reduceLT, decide_true, step1, isOwnCall, hxOp, px, AS.eval, AS.get, Lift.look, Nat.reduceEqDiff, Option.getD_some, AS.put, dropKey, List.map_cons, List.map_nil, unVs, unV, Specs.has, Specs.hasO, Bool.or_false, Specs.hasH, Bool.not_false, true_and]
  refine SWO.call (.func 45) #[.tmp 110, .tmp 111] _ 45 #[] #[] rfl rfl rfl rfl rfl rfl (Stable_ok owB gx hl1 hs1) rfl rfl ?_ (fun c h' hc => by obtain ⟨_, hc, _⟩ := hc; cases hc)
  rintro v h4 ⟨l2, e1, hp2, hs2, ow3⟩
  injection e1 with e1
  subst e1
  have hl2 : l2 = nlR q := stable_one hno hCq hq (hp2.trans hp1.symm) hs2
  subst hl2
  have hql : q.length ≤ 20 := by rw [← hCq.length_eq]; omega
  have hcl : (dd (nlR q)).length = (nlR (dd q)).length := by rw [dd_nlR]
  refine SWO.run [] 1000 ?_
  simp only [wpS, thenQ, AS.put, dropKey, Nat.reduceEqDiff, ↓reduceIte]
  refine SW.seq (SW.run [] _ ?_)
  simp only [wpC, Bool.false_eq_true, ↓reduceIte, wpS, stops, wantedA, okDst, Nat.reduceLT, decide_true, step1, isOwnCall, hxOp, px, AS.eval, AS.get, Lift.look, Nat.reduceEqDiff, Option.getD_some, AS.put, dropKey, Specs.has, Specs.hasO, Bool.or_false, Specs.hasH, Bool.not_false, true_and]
  refine SWO.callRet (.func 48) #[.tmp 113, .tmp 114] _ 48 #[] #[] rfl rfl rfl rfl rfl rfl (SCalls.lendOwn [.list 1 (strL (nlR q))] [] (EqualL_ok (nlR q) (nlR q) noHeap (by rw [hRl]; omega)) (plain_bool _) ow3) rfl rfl ?_
  rw [beq_self_eq_true]
  refine SWO.run [eLines] 1000 ?_
  simp only [wpS, stops, Bool.false_eq_true, ↓reduceIte, wantedA, okDst, AS.put, dropKey, Nat.reduceEqDiff, Nat.reduceLT, decide_true, step1, isOwnCall, hxOp, px, AS.eval, AS.get, Lift.look, Option.getD_some, List.getElem?_toArray, List.getElem?_cons_succ, List.getElem?_cons_zero, Option.bind_some, beq_self_eq_true, Specs.has, eLines, Specs.hasO, Bool.or_false, Specs.hasH, Bool.not_true, pcall, okArg, ofConst, ofVal, List.all_cons, List.all_nil, Bool.and_true, Specs.at, List.map_cons, List.map_nil, sLines, su, lines_nl (noNl_dd hnq), and_self, ty43, plen, strL_len, okLen, Bool.not_false, true_and]
  refine SWO.call (.func 49) #[.tmp 120] _ 49 #[] #[] rfl rfl rfl rfl rfl rfl (CompactRow_ok ow3 (by rw [hRl]; omega)) rfl rfl ?_ (fun c h' hc => by obtain ⟨_, _, hc, _⟩ := hc; cases hc)
  rintro v h5 ⟨A, c, e1, l3, ow4⟩
  injection e1 with e1
  subst e1
  refine SWO.run [] 1000 ?_
  simp only [wpS, stops, Bool.false_eq_true, ↓reduceIte, wantedA, List.getElem?_toArray, List.getElem?_cons_succ, List.getElem?_cons_zero, Option.bind_some, AS.get, AS.put, hcl, dropKey, Nat.reduceEqDiff, Lift.look, Option.getD_some, beq_self_eq_true, okDst, Nat.reduceLT, decide_true, step1, isOwnCall, hxOp, px, pcall, ty43, plen, AS.eval, okLen, and_self, isNilC, pbinP, pbinI, ofConst, ofVal, ppick_bool, thenQ, true_and]
  refine SW.run [] _ ?_
  simp only [wpC, RPost, sres, Tryz.results6, sresL, sres1, AS.get, Lift.look, ↓reduceIte, Option.getD_some, Option.some.injEq, Ret_fin, exists_eq_left', true_and]

  exact Inc.to (fun r o hr => ow4.inc _ _ (inc0 _ _ hr))
end Go.Proofs.YtincpomenogppaaGreatDoor
