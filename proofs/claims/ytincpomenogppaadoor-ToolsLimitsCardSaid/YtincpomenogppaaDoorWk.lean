/- Contracts of functions that the law reaches. -/
import Derived.Test.YtincpomenogppaaDoorWj
set_option linter.unusedSimpArgs false
set_option linter.unusedVariables false
namespace Go.Proofs.YtincpomenogppaaDoor
open Go Go.RowKit Go.Proofs.YtincpomenogppaaDoor Go.Proofs.YtincpomenogppaaDoor.Lift
set_option maxRecDepth 100000

/-! awake -/
theorem aw_lines1 : linesOf [97, 10, 98, 10, 99, 10] = [[97, 10], [98, 10], [99, 10]] := by kernel_rfl
theorem aw_lines2 : linesOf [97, 10, 99, 10, 100, 10] = [[97, 10], [99, 10], [100, 10]] := by kernel_rfl
theorem aw_diff : diffS [[97, 10], [98, 10], [99, 10]] [[97, 10], [99, 10], [100, 10]] = [⟨1, 1, [[98, 10]], []⟩, ⟨3, 2, [], [[100, 10]]⟩] := by
  have i0 : idxL [[97, 10], [99, 10], [100, 10]] [97, 10] = 0 := by kernel_rfl
  have i1 : idxL [[99, 10], [100, 10]] [98, 10] = -1 := by kernel_rfl
  have i2 : idxL [[99, 10], [100, 10]] [99, 10] = 0 := by kernel_rfl
  simp [diffS, diffP, tabT, lcs, i0, i1, i2, untilE]
theorem aw_show : showS [⟨1, 1, [[98, 10]], []⟩, ⟨3, 2, [], [[100, 10]]⟩] = ([64, 49, 32, 49, 32, 49, 32, 48, 10, 45, 98, 10, 64, 51, 32, 48, 32, 50, 32, 49, 10, 43, 100, 10], 0) := by kernel_rfl
theorem aw_pack : packS [⟨[102], 420, 7, [104, 105]⟩] = ([33, 97, 99, 104, 101, 114, 111, 110, 10, 102, 32, 52, 50, 48, 32, 55, 32, 50, 10, 104, 105, 10], 0) := by kernel_rfl
theorem aw_uniq : uniqS [97, 10, 97, 10, 98] true = [50, 32, 97, 10, 49, 32, 98, 10] := by kernel_rfl
theorem aw_mirror : mirrorS [97, 98, 195, 169, 10] = [195, 169, 98, 97, 10] := by kernel_rfl
set_option maxHeartbeats 4000000 in
theorem Awake_ok (h : Heap) : SCalls env 7 [] h (Ret (.bool true) h) := by
  refine SCalls.body Tryd.func7 rfl rfl (by simp [Tryd.ntmps7]) ?_
  have hd : diffR [97, 10, 98, 10, 99, 10] [97, 10, 99, 10, 100, 10] = .tuple [.list 4 (edL [⟨1, 1, [[98, 10]], []⟩, ⟨3, 2, [], [[100, 10]]⟩]), .int .i64 0] := by
    unfold diffR
    rw [aw_lines1, aw_lines2, aw_diff]
    rfl
  obtain ⟨D, hD⟩ : ∃ D, D = ([⟨1, 1, [[98, 10]], []⟩, ⟨3, 2, [], [[100, 10]]⟩] : List Ed) := ⟨_, rfl⟩
  rw [← hD] at hd
  have hDl : D.length = 2 := by rw [hD]; rfl
  refine SW.seq (SW.run [] _ ?_)
  simp only [wpC, Bool.false_eq_true, ↓reduceIte, wpS, stops, wantedA, okDst, Tryd.ntmps7, Nat.reduceLT, decide_true, step1, isOwnCall, hxOp, px, AS.eval, ofConst, ofVal, thenQ, AS.put, enumA, dropKey, true_and]
  refine SW.seq (SW.run [eDiff] _ ?_)
  simp only [wpC, Bool.false_eq_true, ↓reduceIte, wpS, stops, Specs.has, eDiff, Specs.hasO, Bool.or_false, Specs.hasH, Bool.not_true, wantedA, okDst, Nat.reduceLT, decide_true, step1, isOwnCall, hxOp, px, pcall, okArg, AS.eval, AS.get, Lift.look, ofConst, ofVal, List.all_cons, List.all_nil, Bool.and_true, Specs.at, List.map_cons, List.map_nil, sDiff, List.length_cons, List.length_nil, Nat.zero_add, Nat.reduceAdd, Nat.reduceLeDiff, and_self, hd, AS.put, dropKey, reduceCtorEq, Option.getD_some, Nat.reduceEqDiff, List.getElem?_cons_zero, List.getElem?_cons_succ, thenQ, true_and]
  have hsf : ∀ e ∈ D, e.fit := by
    rw [hD]
    intro e he
    rcases List.mem_cons.1 he with rfl | he
    · refine ⟨by decide, by decide, by decide, ?_⟩
      intro l hl
      rw [List.mem_singleton.1 hl]
      decide
    · rw [List.mem_singleton.1 he]
      refine ⟨by decide, by decide, by decide, ?_⟩
      intro l hl
      rw [List.mem_singleton.1 hl]
      decide
  have hs6 : D.length ≤ 1000000 := by omega
  have hneg : negS D = false := by rw [hD]; kernel_rfl
  have hsr : showR D = .tuple [.str [64, 49, 32, 49, 32, 49, 32, 48, 10, 45, 98, 10, 64, 51, 32, 48, 32, 50, 32, 49, 10, 43, 100, 10], .int .i64 0] := by
    unfold showR; rw [hD, aw_show]
  have hsb : (showB D).length ≤ 100000000000000 := by
    have : (showB D).length = 24 := by rw [hD]; kernel_rfl
    omega
  obtain ⟨M, hM⟩ : ∃ M, M = ([⟨[102], 420, 7, [104, 105]⟩] : List Mb) := ⟨_, rfl⟩
  have hum : unM [[.str [102], .int .i64 420, .int .i64 7, .str [104, 105]]] = some M := by rw [hM]; rfl
  have hml : M.length ≤ 1000000 := by rw [hM]; decide
  have hmf : ∀ e ∈ M, e.fit := by
    rw [hM]
    intro e he
    rw [List.mem_singleton.1 he]
    exact ⟨by decide, by decide, by decide, by decide⟩
  have hmb : (packB M).length ≤ 100000000000000 := by
    have : (packB M).length = 22 := by rw [hM]; kernel_rfl
    omega
  have hmr : packR M = .tuple [.str [33, 97, 99, 104, 101, 114, 111, 110, 10, 102, 32, 52, 50, 48, 32, 55, 32, 50, 10, 104, 105, 10], .int .i64 0] := by
    unfold packR; rw [hM, aw_pack]
  have hub : (uniqS [97, 10, 97, 10, 98] true).length ≤ 100000000000000 := by rw [aw_uniq]; decide
  have hib : (mirrorS [97, 98, 195, 169, 10]).length ≤ 100000000000000 := by rw [aw_mirror]; decide
  have hu := aw_uniq
  have hi := aw_mirror
  refine SW.seq (SW.run [] _ ?_)
  simp only [wpC, mayStop, stops, isFlt, Specs.has, Specs.hasO, Bool.or_false, Specs.hasH, Bool.not_false, List.any_cons, List.any_nil, Bool.false_eq_true, ↓reduceIte, wpS, wantedA, okDst, Nat.reduceLT, decide_true, step1, isOwnCall, hxOp, px, AS.eval, AS.get, Lift.look, Option.getD_some, AS.put, dropKey, Nat.reduceEqDiff, reduceCtorEq, isNilC, pbinP, ofConst, ofVal, pbinI, Int.reduceBNe, List.getElem?_toArray, List.getElem?_cons_succ, List.getElem?_cons_zero, Option.bind_some, beq_self_eq_true, pcall, ty24, plen, edL_len, hDl, okLen, and_self, Int.cast_ofNat_Int, ppick_bool, thenQ, isB, tmpOf, asB, true_and]
  refine SW.seq (SW.run [eShow] _ ?_)
  simp only [wpC, Bool.false_eq_true, ↓reduceIte, wpS, stops, wantedA, okDst, Nat.reduceLT, decide_true, step1, isOwnCall, hxOp, px, AS.eval, AS.get, Lift.look, Nat.reduceEqDiff, Option.getD_some, Specs.has, eShow, Specs.hasO, Bool.or_false, Specs.hasH, Bool.not_true, AS.put, dropKey, reduceCtorEq, pcall, okArg, ofConst, ofVal, List.all_cons, List.all_nil, Bool.and_true, Specs.at, List.map_cons, List.map_nil, sShow, unE_el, hs6, hsb, and_self, and_true, hsr, true_and, List.getElem?_cons_zero, List.getElem?_cons_succ, thenQ]
  refine ⟨hsf, ?_⟩
  refine SW.seq (SW.run [ePackM] _ ?_)
  simp only [wpC, Bool.false_eq_true, ↓reduceIte, wpS, stops, wantedA, okDst, Nat.reduceLT, decide_true, step1, isOwnCall, hxOp, px, pbuild, ty53, List.map_cons, ofVal, List.map_nil, AS.eval, AS.get, Lift.look, ofConst, pfill, placeOf, List.getElem?_cons_zero, ty9, Option.map_some, PV.cells, List.length_cons, List.length_nil, Nat.zero_add, Nat.reduceAdd, Nat.reduceLeDiff, and_self, List.getElem?_cons_succ, ty3, splice, List.take_zero, List.nil_append, List.drop_succ_cons, List.drop_zero, List.cons_append, List.take_succ_cons, Nat.le_refl, List.drop_nil, List.append_nil, List.all_cons, Option.isSome_some, List.all_nil, Bool.and_true, okZero, Value.oneCell', known, AS.put, dropKey, Nat.reduceEqDiff, reduceCtorEq, pbuildSlice, ty54, Nat.succ_ne_zero, List.replicate, List.flatten_cons, List.flatten_nil, Option.getD_some, Nat.reduceMul, chunk, List.take_nil, Specs.has, ePackM, Specs.hasO, Bool.or_false, Specs.hasH, Bool.not_true, pcall, okArg, Specs.at, sPackM, hum, hml, hmb, and_true, hmr, true_and, thenQ]
  refine ⟨hmf, ?_⟩
  refine SW.run [eUnique, eMirrorT] _ ?_
  simp only [wpC, mayStop, stops, isFlt, Specs.has, eUnique, eMirrorT, Specs.hasO, Bool.or_false, Specs.hasH, List.any_cons, ↓reduceIte, Bool.not_true, Nat.reduceEqDiff, List.any_nil, Bool.false_eq_true, wpS, wantedA, okDst, Nat.reduceLT, decide_true, step1, isOwnCall, hxOp, px, AS.eval, AS.get, Lift.look, Option.getD_some, AS.put, dropKey, reduceCtorEq, isNilC, pbinP, ofConst, ofVal, pbinI, beq_self_eq_true, List.getElem?_toArray, List.getElem?_cons_succ, List.getElem?_cons_zero, Option.bind_some, pbinS, ppick_bool, pcall, okArg, List.all_cons, List.all_nil, Bool.and_true, Specs.at, List.map_cons, List.map_nil, sUnique, List.length_cons, List.length_nil, Nat.zero_add, Nat.reduceAdd, Nat.reduceLeDiff, hu, and_self, sMirrorT, hi, thenQ, RPost, sres, Nat.succ_ne_zero, Tryd.results7, sresL, sres1, Option.some.injEq, Ret_fin, HTo_self, and_true, exists_eq_left']
end Go.Proofs.YtincpomenogppaaDoor
