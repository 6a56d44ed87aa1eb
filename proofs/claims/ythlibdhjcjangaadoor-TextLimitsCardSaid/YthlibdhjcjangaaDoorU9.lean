/- Contracts of functions that the law reaches. -/
import Derived.Test.YthlibdhjcjangaaDoorU8
set_option linter.unusedSimpArgs false
set_option linter.unusedVariables false
namespace Go.Proofs.YthlibdhjcjangaaDoor
open Go Go.RowKit Go.Proofs.YthlibdhjcjangaaDoor Go.Proofs.YthlibdhjcjangaaDoor.Lift
set_option maxRecDepth 100000

theorem u8_b {n : Int} (h : (Lit.int .u8 n).wf = true) : 0 ≤ n ∧ n < 256 := by
  simp [Lit.wf, IntKind.min, IntKind.max, IntKind.signed, IntKind.bits] at h
  omega
theorem own_zeros (h : Heap) (q : Nat) (hq : h q = none) (N : Nat) (hN : N ≤ 1000000) : Own h 5 1 (elB (List.replicate N 0)) (.val (.slice (some ⟨q, 0, none⟩) N N)) (h.put q (.cells 5 (N * 1) (List.replicate N [PV.int .u8 0]).flatten)) := by
  refine .inr ⟨q, N, ?_, ?_, by simp only [maxLen]; omega, hq, ?_, ?_⟩
  · rw [elB_len, List.length_replicate]
  · rw [elB_len, List.length_replicate]; exact Nat.le_refl _
  · rw [elB_zeros]
  · intro x hx
    rw [elB_zeros] at hx
    rw [List.eq_of_mem_replicate hx]; rfl
set_option maxHeartbeats 1000000 in
set_option maxRecDepth 100000 in
theorem TextLimits_ok (c n : Int) (h : Heap) (b0 : -9223372036854775808 ≤ c ∧ c < 9223372036854775808) (b1 : 0 ≤ n ∧ n < 256) : SCalls env 4 [.int .i64 c, .int .u8 n] h (Ret (.bool true) h) := by
  refine SCalls.body Tryd.func4 rfl rfl (by simp [Tryd.ntmps4]) ?_
  refine SW.seq (SW.run [] _ ?_)
  simp only [wpC, Bool.false_eq_true, ↓reduceIte, wpS, stops, wantedA, okDst, Tryd.ntmps4, Nat.reduceLT, decide_true, step1, isOwnCall, hxOp, px, AS.eval, ofConst, ofVal, thenQ, AS.put, enumA, Nat.zero_add, dropKey, reduceCtorEq, Nat.reduceEqDiff, true_and]
  by_cases hex : isC c = true ∧ ¬ c = 10 ∧ ¬ c = 34 ∧ ¬ c = 92
  case neg =>
    refine SW.run [eAwake, eIs] _ ?_
    cases hc : isC c
    · simp only [wpC, mayStop, stops, isFlt, Specs.has, eAwake, eIs, Specs.hasO, Bool.or_false, Specs.hasH, List.any_cons, ↓reduceIte, Bool.not_true, List.any_nil, Bool.false_eq_true, wpS, wantedA, okDst, Nat.reduceLT, decide_true, step1, isOwnCall, hxOp, px, pcall, okArg, AS.eval, AS.get, Lift.look, ofConst, ofVal, List.all_nil, Specs.at, List.map_nil, sAwake, and_self, AS.put, dropKey, Nat.reduceEqDiff, reduceCtorEq, pun, Option.getD_some, ppick_bool, thenQ, isB, tmpOf, asB, Nat.succ_ne_zero, List.all_cons, Bool.and_true, List.map_cons, sIs, hc, Bool.not_false, List.getElem?_toArray, List.getElem?_cons_succ, List.getElem?_cons_zero, Option.bind_some, beq_tf, Option.some.injEq, ppick_true, RPost, sres, Tryd.results4, sresL, sres1, Ret_fin, HTo_self, and_true, exists_eq_left']
    · by_cases h1 : c = 10
      · have g1 : (c == 10) = true := by simpa using h1
        simp only [wpC, mayStop, stops, isFlt, Specs.has, eAwake, eIs, Specs.hasO, Bool.or_false, Specs.hasH, List.any_cons, ↓reduceIte, Bool.not_true, List.any_nil, Bool.false_eq_true, wpS, wantedA, okDst, Nat.reduceLT, decide_true, step1, isOwnCall, hxOp, px, pcall, okArg, AS.eval, AS.get, Lift.look, ofConst, ofVal, List.all_nil, Specs.at, List.map_nil, sAwake, and_self, AS.put, dropKey, Nat.reduceEqDiff, reduceCtorEq, pun, Option.getD_some, ppick_bool, thenQ, isB, tmpOf, asB, Nat.succ_ne_zero, List.all_cons, Bool.and_true, List.map_cons, sIs, hc, List.getElem?_toArray, List.getElem?_cons_succ, List.getElem?_cons_zero, Option.bind_some, beq_self_eq_true, isNilC, pbinP, pbinI, g1, beq_tf, Option.some.injEq, ppick_true, RPost, sres, Tryd.results4, sresL, sres1, Ret_fin, HTo_self, and_true, exists_eq_left']
      · have g1 : (c == 10) = false := by simpa using h1
        by_cases h2 : c = 34
        · have g2 : (c == 34) = true := by simpa using h2
          simp only [wpC, mayStop, stops, isFlt, Specs.has, eAwake, eIs, Specs.hasO, Bool.or_false, Specs.hasH, List.any_cons, ↓reduceIte, Bool.not_true, List.any_nil, Bool.false_eq_true, wpS, wantedA, okDst, Nat.reduceLT, decide_true, step1, isOwnCall, hxOp, px, pcall, okArg, AS.eval, AS.get, Lift.look, ofConst, ofVal, List.all_nil, Specs.at, List.map_nil, sAwake, and_self, AS.put, dropKey, Nat.reduceEqDiff, reduceCtorEq, pun, Option.getD_some, ppick_bool, thenQ, isB, tmpOf, asB, Nat.succ_ne_zero, List.all_cons, Bool.and_true, List.map_cons, sIs, hc, List.getElem?_toArray, List.getElem?_cons_succ, List.getElem?_cons_zero, Option.bind_some, beq_self_eq_true, isNilC, pbinP, pbinI, g1, g2, beq_tf, Option.some.injEq, ppick_true, RPost, sres, Tryd.results4, sresL, sres1, Ret_fin, HTo_self, and_true, exists_eq_left']
        · have g2 : (c == 34) = false := by simpa using h2
          have g3 : (c == 92) = true := by
            by_cases h3 : c = 92
            · simpa using h3
            · exact absurd ⟨hc, h1, h2, h3⟩ hex
          simp only [wpC, mayStop, stops, isFlt, Specs.has, eAwake, eIs, Specs.hasO, Bool.or_false, Specs.hasH, List.any_cons, ↓reduceIte, Bool.not_true, List.any_nil, Bool.false_eq_true, wpS, wantedA, okDst, Nat.reduceLT, decide_true, step1, isOwnCall, hxOp, px, pcall, okArg, AS.eval, AS.get, Lift.look, ofConst, ofVal, List.all_nil, Specs.at, List.map_nil, sAwake, and_self, AS.put, dropKey, Nat.reduceEqDiff, reduceCtorEq, pun, Option.getD_some, ppick_bool, thenQ, isB, tmpOf, asB, Nat.succ_ne_zero, List.all_cons, Bool.and_true, List.map_cons, sIs, hc, List.getElem?_toArray, List.getElem?_cons_succ, List.getElem?_cons_zero, Option.bind_some, beq_self_eq_true, isNilC, pbinP, pbinI, g1, g2, g3, RPost, sres, Tryd.results4, sresL, sres1, Option.some.injEq, Ret_fin, HTo_self, and_true, exists_eq_left']
  obtain ⟨hc, h1, h2, h3⟩ := hex
  have g1 : (c == 10) = false := by simpa using h1
  have g2 : (c == 34) = false := by simpa using h2
  have g3 : (c == 92) = false := by simpa using h3
  have hi := isC_iff.1 hc
  obtain ⟨k, hk, hk3⟩ : ∃ k : Nat, n.tmod 3 = (k : Int) ∧ k < 3 := ⟨(n.tmod 3).toNat, by rw [Int.tmod_eq_emod_of_nonneg b1.1]; omega, by rw [Int.tmod_eq_emod_of_nonneg b1.1]; omega⟩
  have hw8 : IntKind.u8.wrap (k : Int) = k := w8 (by omega) (by omega)
  have hwk : IntKind.i64.wrap (k : Int) = k := w64 (by omega) (by omega)
  obtain ⟨N, hN⟩ : ∃ N : Nat, N = 65536 - k := ⟨_, rfl⟩
  have hwN : IntKind.i64.wrap (65536 - (k : Int)) = (N : Nat) := by rw [w64 (by omega) (by omega)]; omega
  refine SW.seq (SW.run [eAwake] _ ?_)
  simp only [wpC, mayStop, stops, isFlt, Specs.has, eAwake, Specs.hasO, Bool.or_false, Specs.hasH, List.any_cons, ↓reduceIte, Bool.not_true, List.any_nil, Bool.false_eq_true, wpS, wantedA, okDst, Nat.reduceLT, decide_true, step1, isOwnCall, hxOp, px, pcall, okArg, AS.eval, AS.get, Lift.look, ofConst, ofVal, List.all_nil, Specs.at, List.map_nil, sAwake, and_self, AS.put, dropKey, Nat.reduceEqDiff, reduceCtorEq, pun, Option.getD_some, ppick_bool, thenQ, isB, tmpOf, asB, true_and]
  refine SW.seq (SW.run [eIs] _ ?_)
  simp only [wpC, mayStop, stops, isFlt, Specs.has, eIs, Specs.hasO, Bool.or_false, Specs.hasH, List.any_cons, ↓reduceIte, Bool.not_true, List.any_nil, Bool.false_eq_true, wpS, wantedA, okDst, Nat.reduceLT, decide_true, step1, isOwnCall, hxOp, px, AS.eval, AS.get, Lift.look, Nat.succ_ne_zero, Option.getD_some, AS.put, dropKey, Nat.reduceEqDiff, reduceCtorEq, pcall, okArg, ofConst, ofVal, List.all_cons, List.all_nil, Bool.and_true, Specs.at, List.map_cons, List.map_nil, sIs, hc, and_self, pun, List.getElem?_toArray, List.getElem?_cons_succ, List.getElem?_cons_zero, Option.bind_some, beq_self_eq_true, isNilC, pbinP, pbinI, g1, ppick_bool, g2, g3, thenQ, isB, tmpOf, asB, true_and]
  refine SW.seq (SW.run [] _ ?_)
  simp only [wpC, Bool.false_eq_true, ↓reduceIte, wpS, stops, wantedA, okDst, Nat.reduceLT, decide_true, step1, isOwnCall, hxOp, px, AS.eval, AS.get, Lift.look, Nat.reduceEqDiff, reduceCtorEq, Option.getD_some, AS.put, dropKey, isNilC, pbinP, ofConst, ofVal, pbinI, ne_eq, Int.reduceEq, not_false_eq_true, and_self, hk, ty5, ty3, pconvH, pconv, hwk, thenQ, true_and]
  refine SW.seq (SW.run [] _ ?_)
  simp only [wpC, Bool.false_eq_true, ↓reduceIte, wpS, stops, wantedA, okDst, Nat.reduceLT, decide_true, step1, isOwnCall, hxOp, px, AS.eval, AS.get, Lift.look, Option.getD_some, isFlt, ty3, AS.put, dropKey, Nat.reduceEqDiff, reduceCtorEq, isNilC, pbinP, ofConst, ofVal, pbinI, hwN, true_and]
  refine SWO.make 34 (.tmp 43) (.tmp 43) rfl ty34 rfl ty5 rfl rfl (by decide) (n := N) rfl rfl (by show 1 * N ≤ _; omega) (by omega) rfl rfl fun q hq => ?_
  have hq : h q = none := hq
  refine SWO.run [] 1000 ?_
  simp only [wpS, stops, Bool.false_eq_true, ↓reduceIte, wantedA, okDst, AS.put, dropKey, Nat.reduceEqDiff, reduceCtorEq, Nat.reduceLT, decide_true, step1, isOwnCall, hxOp, px, AS.eval, AS.get, Lift.look, Option.getD_some, thenQ, List.map_cons, ofVal, List.map_nil, true_and]
  refine SW.own_let 6 rfl (own_zeros h q hq N (by omega)) ?_
  have hzl : (List.replicate N (0 : UInt8)).length = N := List.length_replicate
  have hzg : ¬ 65536 < N := by omega
  refine SW.seq (SW.run [eLatin2] _ ?_)
  simp only [wpC, Bool.false_eq_true, ↓reduceIte, wpS, stops, wantedA, okDst, AS.put, dropKey, Nat.reduceEqDiff, reduceCtorEq, Nat.reduceLT, decide_true, step1, isOwnCall, hxOp, px, AS.eval, AS.get, Lift.look, Option.getD_some, Specs.has, eLatin2, Specs.hasO, Bool.or_false, Specs.hasH, Bool.not_true, pcall, okArg, ofConst, ofVal, List.all_cons, List.all_nil, Bool.and_true, Specs.at, List.map_cons, List.map_nil, sLatin2, unB_el, hzl, hzg, and_self, List.getElem?_cons_zero, List.getElem?_cons_succ, okAlloc, ty24, okZero, Value.oneCell', hx, zeroOf, List.length_cons, List.length_nil, Nat.zero_add, Nat.reduceAdd, Heap.get_put, known1, PV.cells, Nat.le_refl, splice, List.take_zero, List.nil_append, List.drop_succ_cons, List.drop_nil, List.append_nil, thenQ, true_and]
  intro r hr
  have hlz : lenS (List.replicate N (0 : UInt8)) false = N := by rw [lenS, if_neg (by decide), hzl]
  have hNb : N ≤ 1000000000 := by omega
  have hNc : N ≤ 100000000 := by omega
  refine SW.seq (SW.run [eLen] _ ?_)
  simp only [wpC, mayStop, stops, isFlt, Specs.has, eLen, Specs.hasO, Bool.or_false, Specs.hasH, List.any_cons, ↓reduceIte, Bool.not_true, List.any_nil, Bool.false_eq_true, wpS, wantedA, okDst, Nat.reduceLT, decide_true, step1, isOwnCall, hxOp, px, AS.eval, AS.get, Lift.look, Option.getD_some, AS.put, dropKey, Nat.reduceEqDiff, reduceCtorEq, isNilC, pbinP, ofConst, ofVal, pbinI, bne_self_eq_false, List.getElem?_toArray, List.getElem?_cons_succ, List.getElem?_cons_zero, Option.bind_some, beq_self_eq_true, pload, ty24, Heap.get_put, okOne, TK.isAgg, Nat.reduceBEq, Nat.zero_add, List.length_cons, List.length_nil, Nat.reduceAdd, Nat.le_refl, and_self, Lift.valOf, List.drop_zero, List.take_succ_cons, List.take_nil, pcall, okArg, List.all_cons, List.all_nil, Bool.and_true, Specs.at, List.map_cons, List.map_nil, sLen, hzl, hNb, hlz, ty34, plen, elB_len, okLen, ppick_bool, thenQ, isB, tmpOf, asB, true_and]
  have hrun := runes_one c hc
  have hel : (encR c).length ≤ 4 := by rw [← enc_law c hc]; exact encL_le c hc
  have hel2 : (encR c).length ≤ 70368744177664 := by omega
  have hc0 : 0 ≤ c := hi.1
  have hc9 : c ≤ 2147483647 := by omega
  have hpl : (packL [c]).length ≤ 1000000000 := by unfold packL; split <;> simp [be4_len]
  have hlc : lenS (packL [c]) (anyWide [c]) = 1 := packL_len [c]
  refine SW.seq (SW.run [eEncode, eOf2] _ ?_)
  simp only [wpC, Bool.false_eq_true, ↓reduceIte, wpS, stops, wantedA, okDst, Nat.reduceLT, decide_true, step1, isOwnCall, hxOp, px, AS.eval, AS.get, Lift.look, Nat.succ_ne_zero, Option.getD_some, Specs.has, eEncode, Specs.hasO, Bool.or_false, Specs.hasH, Bool.not_true, AS.put, dropKey, Nat.reduceEqDiff, reduceCtorEq, pcall, okArg, ofConst, ofVal, List.all_cons, List.all_nil, Bool.and_true, Specs.at, List.map_cons, List.map_nil, sEncode, hc0, hc9, and_self, eOf2, sOf2, hel2, hrun, List.length_cons, List.length_nil, Nat.zero_add, strV, List.getElem?_cons_zero, List.getElem?_cons_succ, okAlloc, ty24, okZero, Value.oneCell', Heap.get_put, some_none, hx, zeroOf, Nat.reduceAdd, known1, PV.cells, Nat.le_refl, splice, List.take_zero, List.nil_append, List.drop_succ_cons, List.drop_nil, List.append_nil, thenQ, true_and]
  rintro q2 ⟨hq2r, hq2⟩
  have hrq2 : ¬ r = q2 := fun e => hq2r e.symm
  refine SW.seq (SW.run [eLen] _ ?_)
  simp only [wpC, mayStop, stops, isFlt, Specs.has, eLen, Specs.hasO, Bool.or_false, Specs.hasH, List.any_cons, ↓reduceIte, Bool.not_true, List.any_nil, Bool.false_eq_true, wpS, wantedA, okDst, Nat.reduceLT, decide_true, step1, isOwnCall, hxOp, px, AS.eval, AS.get, Lift.look, Option.getD_some, AS.put, dropKey, Nat.reduceEqDiff, reduceCtorEq, isNilC, pbinP, ofConst, ofVal, pbinI, bne_self_eq_false, List.getElem?_toArray, List.getElem?_cons_succ, List.getElem?_cons_zero, Option.bind_some, beq_self_eq_true, pload, ty24, Heap.get_put, okOne, TK.isAgg, Nat.reduceBEq, Nat.zero_add, List.length_cons, List.length_nil, Nat.reduceAdd, Nat.le_refl, and_self, Lift.valOf, List.drop_zero, List.take_succ_cons, List.take_nil, pcall, okArg, List.all_cons, List.all_nil, Bool.and_true, Specs.at, List.map_cons, List.map_nil, sLen, hpl, hlc, Int.cast_ofNat_Int, ppick_bool, thenQ, isB, tmpOf, asB, true_and]
  have hun : unS [[.str (List.replicate N 0), .bool false], [.str (packL [c]), .bool (anyWide [c])]] = some (packs [List.replicate N 0, [c]]) := by
    show _ = some [(packL (List.replicate N 0), anyWide (List.replicate N 0)), (packL [c], anyWide [c])]
    rw [zeros_pack, zeros_wide]; rfl
  have hsz := set_zeros N c hc (by omega)
  have hps : ∀ x ∈ [List.replicate N 0, [c]], okChars x := by
    intro x hx
    simp only [List.mem_cons, List.not_mem_nil, or_false] at hx
    rcases hx with rfl | rfl
    · exact zeros_ok N
    · intro y hy; rw [List.mem_singleton] at hy; rw [hy]; exact hc
  have hss := sumS_packs [List.replicate N 0, [c]]
  have hjj := joinL_packs [List.replicate N 0, [c]] hps
  have hj6 : ∀ p ∈ packs [List.replicate N 0, [c]], p.1.length ≤ 1000000000 := by
    intro p hp
    obtain ⟨m, hm, rfl⟩ := List.mem_map.1 hp
    simp only [List.mem_cons, List.not_mem_nil, or_false] at hm
    rcases hm with rfl | rfl
    · rw [zeros_pack, hzl]; exact hNb
    · exact hpl
  have hj7 : (packs [List.replicate N 0, [c]]).length ≤ 1000000 := by show 2 ≤ _; decide
  have hff : [List.replicate N 0, [c]].flatten = List.replicate N 0 ++ [c] := by simp
  rw [hff] at hss hjj
  have hll : (List.replicate N (0 : Int) ++ [c]).length = N + 1 := by simp
  rw [hll] at hss
  have hjs := anyS_packs [List.replicate N 0, [c]]
  rw [hff] at hjs
  by_cases hk0 : k = 0
  case neg =>
    have hN6 : ¬ N = 65536 := by omega
    rw [if_neg hN6] at hsz
    have hjl : (packL (List.replicate N 0 ++ [c])).length ≤ 1000000000 := by have := packL_le (List.replicate N 0 ++ [c]); omega
    have hlx : lenS (packL (List.replicate N 0 ++ [c])) (anyWide (List.replicate N 0 ++ [c])) = N + 1 := by rw [packL_len, hll]
    have hkb : (((k : Nat) : Int) == 0) = false := by rw [beq_eq_false_iff_ne]; omega
    have hnl : ¬ 65536 < N + 1 := by omega
    have hwn : IntKind.i64.wrap ((N : Int) + 1) = ((N + 1 : Nat) : Int) := by rw [w64 (by omega) (by omega)]; omega
    generalize hPL : packL (List.replicate N 0 ++ [c]) = PL at *
    generalize hAW : anyWide (List.replicate N 0 ++ [c]) = AW at *
    refine SW.seq (SW.run [eSet] _ ?_)
    simp only [wpC, Bool.false_eq_true, ↓reduceIte, wpS, stops, wantedA, okDst, Nat.reduceLT, decide_true, step1, isOwnCall, hxOp, px, pload, ty24, AS.eval, AS.get, Lift.look, Nat.reduceEqDiff, Option.getD_some, Heap.get_put, hrq2, okOne, TK.isAgg, Nat.reduceBEq, Bool.or_false, Nat.zero_add, List.length_cons, List.length_nil, Nat.reduceAdd, Nat.le_refl, and_self, Lift.valOf, List.drop_zero, List.take_succ_cons, List.take_nil, AS.put, dropKey, reduceCtorEq, pcall, ty34, plen, elB_len, hzl, okLen, Nat.succ_ne_zero, Specs.has, eSet, Specs.hasO, Specs.hasH, Bool.not_true, okArg, ofConst, ofVal, List.all_cons, List.all_nil, Bool.and_true, Specs.at, List.map_cons, List.map_nil, sSet, hNc, hsz, strV, hPL, hAW, List.getElem?_cons_zero, List.getElem?_cons_succ, okAlloc, okZero, Value.oneCell', some_none, hx, zeroOf, known1, PV.cells, splice, List.take_zero, List.nil_append, List.drop_succ_cons, List.drop_nil, List.append_nil, thenQ, true_and]
    intro s hs
    obtain ⟨hsq, hsr, hs⟩ : ¬ s = q2 ∧ ¬ s = r ∧ h s = none := by simpa using hs
    have hqs : ¬ q2 = s := fun e => hsq e.symm
    have hrs : ¬ r = s := fun e => hsr e.symm
    refine SW.seq (SW.run [eJoin2] _ ?_)
    simp only [wpC, Bool.false_eq_true, ↓reduceIte, wpS, stops, wantedA, okDst, Nat.reduceLT, decide_true, step1, isOwnCall, hxOp, px, pload, ty24, AS.eval, AS.get, Lift.look, Nat.reduceEqDiff, Option.getD_some, Heap.get_put, hrs, hrq2, okOne, TK.isAgg, Nat.reduceBEq, Bool.or_false, Nat.zero_add, List.length_cons, List.length_nil, Nat.reduceAdd, Nat.le_refl, and_self, Lift.valOf, List.drop_zero, List.take_succ_cons, List.take_nil, AS.put, dropKey, reduceCtorEq, hqs, pbuildSlice, ty68, Nat.succ_ne_zero, List.replicate, List.map_cons, ofVal, List.map_nil, List.flatten_cons, List.flatten_nil, List.append_nil, List.cons_append, List.nil_append, ofConst, pfill, PV.cells, Nat.reduceMul, Nat.reduceLeDiff, splice, List.take_zero, List.drop_succ_cons, List.drop_nil, okZero, List.all_cons, Value.oneCell', List.all_nil, Bool.and_true, known, chunk, Specs.has, eJoin2, Specs.hasO, Specs.hasH, Bool.not_true, pcall, okArg, Specs.at, sJoin2, hun, hj7, and_true, hss, hnl, hjj, hjs, true_and, List.getElem?_cons_zero, List.getElem?_cons_succ, okAlloc, some_none, hx, zeroOf, known1, thenQ]
    refine ⟨hj6, ?_⟩
    intro p hp
    obtain ⟨hps0, hpq, hpr, hp⟩ : ¬ p = s ∧ ¬ p = q2 ∧ ¬ p = r ∧ h p = none := by simpa using hp
    have hsp : ¬ s = p := fun e => hps0 e.symm
    have hqp : ¬ q2 = p := fun e => hpq e.symm
    have hrp : ¬ r = p := fun e => hpr e.symm
    refine SW.seq (SW.run [] _ ?_)
    simp only [wpC, mayStop, stops, isFlt, Specs.has, Specs.hasO, Bool.or_false, Specs.hasH, Bool.not_false, List.any_cons, List.any_nil, Bool.false_eq_true, ↓reduceIte, wpS, wantedA, okDst, Nat.reduceLT, decide_true, step1, isOwnCall, hxOp, px, AS.eval, AS.get, Lift.look, Nat.reduceEqDiff, Option.getD_some, AS.put, dropKey, reduceCtorEq, isNilC, pbinP, ofConst, ofVal, pbinI, hkb, thenQ, isB, tmpOf, asB, true_and]
    refine SW.run [eLen, eCompare] _ ?_
    simp only [wpC, mayStop, stops, isFlt, Specs.has, eLen, eCompare, Specs.hasO, Bool.or_false, Specs.hasH, List.any_cons, ↓reduceIte, Bool.not_true, ty3, Nat.reduceEqDiff, List.any_nil, Bool.false_eq_true, wpS, wantedA, okDst, Nat.reduceLT, decide_true, step1, isOwnCall, hxOp, px, AS.eval, AS.get, Lift.look, Option.getD_some, AS.put, dropKey, reduceCtorEq, isNilC, pbinP, ofConst, ofVal, pbinI, beq_self_eq_true, List.getElem?_toArray, List.getElem?_cons_succ, List.getElem?_cons_zero, Option.bind_some, pload, ty24, Heap.get_put, hsp, okOne, TK.isAgg, Nat.reduceBEq, Nat.zero_add, List.length_cons, List.length_nil, Nat.reduceAdd, Nat.le_refl, and_self, Lift.valOf, List.drop_zero, List.take_succ_cons, List.take_nil, pcall, okArg, List.all_cons, List.all_nil, Bool.and_true, Specs.at, List.map_cons, List.map_nil, sLen, hjl, hlx, ty34, plen, elB_len, hzl, okLen, hwn, ppick_bool, sCompare, cmpS_self, hrp, hrs, hrq2, hNb, hlz, thenQ, RPost, sres, Tryd.results4, sresL, sres1, Option.some.injEq, Ret_fin, exists_eq_left', true_and]
    refine HTo.of fun K X hK => ?_
    have e1 : ¬ K = r := by rintro rfl; rw [hr] at hK; cases hK
    have e2 : ¬ K = q2 := by rintro rfl; rw [hq2.2] at hK; cases hK
    have e3 : ¬ K = s := by rintro rfl; rw [hs] at hK; cases hK
    have e4 : ¬ K = p := by rintro rfl; rw [hp] at hK; cases hK
    simp only [Heap.put_ne _ _ e1, Heap.put_ne _ _ e2, Heap.put_ne _ _ e3, Heap.put_ne _ _ e4]
    exact hK
  have hN6 : N = 65536 := by omega
  rw [if_pos hN6] at hsz
  have hnl : 65536 < N + 1 := by omega
  have hkb : (((k : Nat) : Int) == 0) = true := by rw [beq_iff_eq]; omega
  refine SW.seq (SW.run [eSet] _ ?_)
  simp only [wpC, Bool.false_eq_true, ↓reduceIte, wpS, stops, wantedA, okDst, Nat.reduceLT, decide_true, step1, isOwnCall, hxOp, px, pload, ty24, AS.eval, AS.get, Lift.look, Nat.reduceEqDiff, Option.getD_some, Heap.get_put, hrq2, okOne, TK.isAgg, Nat.reduceBEq, Bool.or_false, Nat.zero_add, List.length_cons, List.length_nil, Nat.reduceAdd, Nat.le_refl, and_self, Lift.valOf, List.drop_zero, List.take_succ_cons, List.take_nil, AS.put, dropKey, reduceCtorEq, pcall, ty34, plen, elB_len, hzl, okLen, Nat.succ_ne_zero, Specs.has, eSet, Specs.hasO, Specs.hasH, Bool.not_true, okArg, ofConst, ofVal, List.all_cons, List.all_nil, Bool.and_true, Specs.at, List.map_cons, List.map_nil, sSet, hNc, hsz, noStr, List.getElem?_cons_zero, List.getElem?_cons_succ, okAlloc, okZero, Value.oneCell', some_none, hx, zeroOf, known1, PV.cells, splice, List.take_zero, List.nil_append, List.drop_succ_cons, List.drop_nil, List.append_nil, thenQ, true_and]
  intro s hs
  obtain ⟨hsq, hsr, hs⟩ : ¬ s = q2 ∧ ¬ s = r ∧ h s = none := by simpa using hs
  have hqs : ¬ q2 = s := fun e => hsq e.symm
  have hrs : ¬ r = s := fun e => hsr e.symm
  refine SW.seq (SW.run [eJoin2] _ ?_)
  simp only [wpC, Bool.false_eq_true, ↓reduceIte, wpS, stops, wantedA, okDst, Nat.reduceLT, decide_true, step1, isOwnCall, hxOp, px, pload, ty24, AS.eval, AS.get, Lift.look, Nat.reduceEqDiff, Option.getD_some, Heap.get_put, hrs, hrq2, okOne, TK.isAgg, Nat.reduceBEq, Bool.or_false, Nat.zero_add, List.length_cons, List.length_nil, Nat.reduceAdd, Nat.le_refl, and_self, Lift.valOf, List.drop_zero, List.take_succ_cons, List.take_nil, AS.put, dropKey, reduceCtorEq, hqs, pbuildSlice, ty68, Nat.succ_ne_zero, List.replicate, List.map_cons, ofVal, List.map_nil, List.flatten_cons, List.flatten_nil, List.append_nil, List.cons_append, List.nil_append, ofConst, pfill, PV.cells, Nat.reduceMul, Nat.reduceLeDiff, splice, List.take_zero, List.drop_succ_cons, List.drop_nil, okZero, List.all_cons, Value.oneCell', List.all_nil, Bool.and_true, known, chunk, Specs.has, eJoin2, Specs.hasO, Specs.hasH, Bool.not_true, pcall, okArg, Specs.at, sJoin2, hun, hj7, and_true, hss, hnl, noStr, true_and, List.getElem?_cons_zero, List.getElem?_cons_succ, okAlloc, some_none, hx, zeroOf, known1, thenQ]
  refine ⟨hj6, ?_⟩
  intro p hp
  obtain ⟨hps0, hpq, hpr, hp⟩ : ¬ p = s ∧ ¬ p = q2 ∧ ¬ p = r ∧ h p = none := by simpa using hp
  have hsp : ¬ s = p := fun e => hps0 e.symm
  have hqp : ¬ q2 = p := fun e => hpq e.symm
  have hrp : ¬ r = p := fun e => hpr e.symm
  obtain ⟨M, hM⟩ : ∃ M : Nat, M = 65537 := ⟨_, rfl⟩
  have hMn : M = N + 1 := by omega
  have hzM : (List.replicate M (0 : UInt8)).length = M := List.length_replicate
  have hMb : M ≤ 70368744177664 := by omega
  have hMg : 65536 < M := by omega
  have hMr : (runesOf (List.replicate M 0)).length = M := by rw [runes_zeros, List.length_replicate]
  refine SW.seq (SW.run [] _ ?_)
  simp only [wpC, mayStop, stops, isFlt, Specs.has, Specs.hasO, Bool.or_false, Specs.hasH, Bool.not_false, List.any_cons, List.any_nil, Bool.false_eq_true, ↓reduceIte, wpS, wantedA, okDst, Nat.reduceLT, decide_true, step1, isOwnCall, hxOp, px, AS.eval, AS.get, Lift.look, Nat.reduceEqDiff, Option.getD_some, AS.put, dropKey, reduceCtorEq, isNilC, pbinP, ofConst, ofVal, pbinI, hkb, thenQ, isB, tmpOf, asB, Bool.or_true, true_and]
  refine SWO.make 34 (.const (.int .i64 65537)) (.const (.int .i64 65537)) rfl ty34 rfl ty5 rfl rfl (by decide) (n := M) (by rw [hM]; rfl) (by rw [hM]; rfl) (by show 1 * M ≤ _; omega) (by omega) rfl rfl fun q3 hq3 => ?_
  have hq3' : ¬ q3 = p ∧ ¬ q3 = s ∧ ¬ q3 = q2 ∧ ¬ q3 = r ∧ h q3 = none := by simpa [put_h, Heap.put_none] using hq3
  refine SWO.own_let 90 rfl (own_zeros _ q3 hq3 M (by omega)) ?_
  refine SWO.run [eLatin2] 1000 ?_
  simp only [wpS, stops, Specs.has, eLatin2, ↓reduceIte, Specs.hasO, Bool.or_false, Specs.hasH, Bool.not_true, Bool.false_eq_true, wantedA, okDst, AS.put, dropKey, Nat.reduceEqDiff, reduceCtorEq, List.map_cons, ofVal, List.map_nil, Nat.reduceLT, decide_true, step1, isOwnCall, hxOp, px, pcall, okArg, AS.eval, AS.get, Lift.look, ofConst, List.all_cons, Option.getD_some, List.all_nil, Bool.and_true, Specs.at, sLatin2, unB_el, hzM, hMg, noStr, and_self, List.getElem?_cons_zero, List.getElem?_cons_succ, okAlloc, ty24, okZero, Value.oneCell', Heap.get_put, some_none, hx, zeroOf, List.length_cons, List.length_nil, Nat.zero_add, Nat.reduceAdd, known1, PV.cells, Nat.le_refl, splice, List.take_zero, List.nil_append, List.drop_succ_cons, List.drop_nil, List.append_nil, thenQ, true_and]
  intro u hu
  obtain ⟨hup, hus, huq, hur, hu⟩ : ¬ u = p ∧ ¬ u = s ∧ ¬ u = q2 ∧ ¬ u = r ∧ h u = none := by simpa using hu
  have hpu : ¬ p = u := fun e => hup e.symm
  have hsu : ¬ s = u := fun e => hus e.symm
  have hqu : ¬ q2 = u := fun e => huq e.symm
  have hru : ¬ r = u := fun e => hur e.symm
  refine SW.seq (SW.seq (SW.run [] _ ?_))
  simp only [wpC, Bool.false_eq_true, ↓reduceIte, wpS, stops]
  refine SWO.make 34 (.const (.int .i64 65537)) (.const (.int .i64 65537)) rfl ty34 rfl ty5 rfl rfl (by decide) (n := M) (by rw [hM]; rfl) (by rw [hM]; rfl) (by show 1 * M ≤ _; omega) (by omega) rfl rfl fun q4 hq4 => ?_
  refine SWO.own_let 95 rfl (own_zeros _ q4 hq4 M (by omega)) ?_
  refine SWO.run [eOf2] 1000 ?_
  simp only [wpS, stops, Bool.false_eq_true, ↓reduceIte, wantedA, okDst, AS.put, dropKey, Nat.reduceEqDiff, reduceCtorEq, List.map_cons, ofVal, List.map_nil, Nat.reduceLT, decide_true, step1, isOwnCall, hxOp, px, ty34, ty9, pconvH, AS.eval, AS.get, Lift.look, Option.getD_some, pconv, ty5, unB_el, Specs.has, eOf2, Specs.hasO, Bool.or_false, Specs.hasH, Bool.not_true, pcall, okArg, ofConst, List.all_cons, List.all_nil, Bool.and_true, Specs.at, sOf2, hzM, hMb, hMr, hMg, noStr, and_self, List.getElem?_cons_zero, List.getElem?_cons_succ, okAlloc, ty24, okZero, Value.oneCell', Heap.get_put, some_none, hx, zeroOf, List.length_cons, List.length_nil, Nat.zero_add, Nat.reduceAdd, known1, PV.cells, Nat.le_refl, splice, List.take_zero, List.nil_append, List.drop_succ_cons, List.drop_nil, List.append_nil, thenQ, true_and]
  intro v hv
  obtain ⟨hvu, hvp, hvs, hvq, hvr, hv⟩ : ¬ v = u ∧ ¬ v = p ∧ ¬ v = s ∧ ¬ v = q2 ∧ ¬ v = r ∧ h v = none := by simpa using hv
  have huv : ¬ u = v := fun e => hvu e.symm
  have hpv : ¬ p = v := fun e => hvp e.symm
  have hsv : ¬ s = v := fun e => hvs e.symm
  have hqv : ¬ q2 = v := fun e => hvq e.symm
  have hrv : ¬ r = v := fun e => hvr e.symm
  refine SW.run [] _ ?_
  simp only [wpC, mayStop, stops, isFlt, Specs.has, Specs.hasO, Bool.or_false, Specs.hasH, Bool.not_false, List.any_cons, List.any_nil, Bool.false_eq_true, ↓reduceIte, wpS, wantedA, okDst, Nat.reduceLT, decide_true, step1, isOwnCall, hxOp, px, AS.eval, AS.get, Lift.look, Option.getD_some, AS.put, dropKey, Nat.reduceEqDiff, reduceCtorEq, isNilC, pbinP, ofConst, ofVal, pbinI, Int.reduceBNe, thenQ, isB, tmpOf, asB, true_and]
  have hul := unquote_long c hc h1 h2 h3 N hN6
  have hul2 : unquoteS (34 :: (List.replicate N 0 ++ encR c ++ [34])) = ([], 1 + N, 3) := by rw [List.append_assoc]; exact hul
  have hul3 : unquoteS ([34] ++ List.replicate N 0 ++ encR c ++ [34]) = ([], 1 + N, 3) := by rw [← hul2]; rfl
  have he0 : packL ([] : List Int) = [] := rfl
  have he1 : anyWide ([] : List Int) = false := rfl
  refine SW.seq (SW.regionAny [eEncode, eUnquote] [[0, 1, 2, 3, 4, 5, 6, 7, 8, 9, 10, 11, 12, 13, 14, 15]] rfl (by rfl) (by kernel_rfl) ?_)
  simp only [wpOL, wpO, LOp, List.getElem?_toArray, List.getElem?_cons_zero, okDst, Nat.reduceLT, decide_true, wantedA, ↓reduceIte, step1, isOwnCall, Bool.false_eq_true, hxOp, px, AS.eval, AS.get, Lift.look, Nat.reduceEqDiff, Option.getD_some, List.getElem?_cons_succ, AS.put, dropKey, reduceCtorEq, ty34, ty9, pconvH, pconv, ty5, unB_el, isNilC, pbinP, ofConst, ofVal, pbinS, List.length_cons, List.length_nil, Nat.zero_add, hzl, List.cons_append, List.nil_append, Nat.succ_ne_zero, Specs.hasO, Specs.hasH, pcall, okArg, List.all_cons, List.all_nil, Bool.and_true, Specs.at, eEncode, List.map_cons, List.map_nil, sEncode, hc0, hc9, and_self, Nat.reduceLeDiff, eUnquote, sUnquote, unqV, hul2, he0, he1, true_and, okAlloc, ty24, okZero, Value.oneCell', Heap.get_put, some_none, hx, zeroOf, Nat.reduceAdd, known1, PV.cells, Nat.le_refl, splice, List.take_zero, List.drop_succ_cons, List.drop_nil, List.append_nil, thenQ]
  refine ⟨by omega, by omega, by rw [List.length_append, hzl]; omega, by rw [List.length_append, List.length_append, hzl]; simp; omega, ?_⟩
  intro x hx
  obtain ⟨hxv, hxu, hxp, hxs, hxq, hxr, hx⟩ : ¬ x = v ∧ ¬ x = u ∧ ¬ x = p ∧ ¬ x = s ∧ ¬ x = q2 ∧ ¬ x = r ∧ h x = none := by simpa using hx
  have hvx : ¬ v = x := fun e => hxv e.symm
  have hux : ¬ u = x := fun e => hxu e.symm
  have hpx : ¬ p = x := fun e => hxp e.symm
  have hsx : ¬ s = x := fun e => hxs e.symm
  have hqx : ¬ q2 = x := fun e => hxq e.symm
  have hrx : ¬ r = x := fun e => hxr e.symm
  have hwN1 : IntKind.i64.wrap ((N : Int) + 1) = ((1 + N : Nat) : Int) := by rw [w64 (by omega) (by omega)]; omega
  refine SW.run [eLen] _ ?_
  simp only [wpC, mayStop, stops, isFlt, Specs.has, eLen, Specs.hasO, Bool.or_false, Specs.hasH, List.any_cons, ↓reduceIte, Bool.not_true, ty3, List.any_nil, Bool.false_eq_true, wpS, wantedA, okDst, Nat.reduceLT, decide_true, step1, isOwnCall, hxOp, px, AS.eval, AS.get, Lift.look, Nat.reduceEqDiff, Option.getD_some, AS.put, dropKey, reduceCtorEq, isNilC, pbinP, ofConst, ofVal, pbinI, beq_self_eq_true, List.getElem?_toArray, List.getElem?_cons_succ, List.getElem?_cons_zero, Option.bind_some, pload, ty24, Heap.get_put, hsx, hsv, hsu, hsp, okOne, TK.isAgg, Nat.reduceBEq, Nat.zero_add, List.length_cons, List.length_nil, Nat.reduceAdd, Nat.le_refl, and_self, Lift.valOf, List.drop_zero, List.take_succ_cons, List.take_nil, pcall, okArg, List.all_cons, List.all_nil, Bool.and_true, Specs.at, List.map_cons, List.map_nil, sLen, Nat.zero_le, lenS, Int.cast_ofNat_Int, ppick_bool, hpx, hpv, hpu, ty34, plen, elB_len, hzl, okLen, hwN1, thenQ, RPost, sres, Tryd.results4, sresL, sres1, Option.some.injEq, Ret_fin, exists_eq_left', true_and]
  refine HTo.of fun K X hK => ?_
  have e1 : ¬ K = r := by rintro rfl; rw [hr] at hK; cases hK
  have e2 : ¬ K = q2 := by rintro rfl; rw [hq2.2] at hK; cases hK
  have e3 : ¬ K = s := by rintro rfl; rw [hs] at hK; cases hK
  have e4 : ¬ K = p := by rintro rfl; rw [hp] at hK; cases hK
  have e5 : ¬ K = u := by rintro rfl; rw [hu] at hK; cases hK
  have e6 : ¬ K = v := by rintro rfl; rw [hv] at hK; cases hK
  have e7 : ¬ K = x := by rintro rfl; rw [hx] at hK; cases hK
  simp only [Heap.put_ne _ _ e1, Heap.put_ne _ _ e2, Heap.put_ne _ _ e3, Heap.put_ne _ _ e4, Heap.put_ne _ _ e5, Heap.put_ne _ _ e6, Heap.put_ne _ _ e7]
  exact hK
end Go.Proofs.YthlibdhjcjangaaDoor
