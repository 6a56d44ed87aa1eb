/- Contracts of functions that the law reaches. -/
import Derived.Test.YtincpomenogppaaGreatDoorYa
import Derived.Test.YtincpomenogppaaGreatDoorWj
set_option linter.unusedSimpArgs false
set_option linter.unusedVariables false
namespace Go.Proofs.YtincpomenogppaaGreatDoor
open Go Go.RowKit Go.Proofs.YtincpomenogppaaGreatDoor Go.Proofs.YtincpomenogppaaGreatDoor.Lift
set_option maxRecDepth 100000

def sSort : List PV → Prop × PV
  | [.str s, .bool d] => (s.length ≤ 1000000 ∧ (sortT d s).length ≤ 100000000000000, .str (sortT d s))
  | _ => PBad
noncomputable def eSort : SpecE env := ⟨20, sSort, fun args h hc => by
  unfold sSort at hc ⊢
  split at hc
  · exact .inl (Sort_ok _ _ hc.1 hc.2 h)
  · exact hc.elim⟩
def sRSortT : List PV → Prop × PV
  | [.str s, .bool d] => (s.length ≤ 1000000, .str (sortT d s))
  | _ => PBad
noncomputable def eRSortT : SpecE env := ⟨21, sRSortT, fun args h hc => by
  unfold sRSortT at hc ⊢
  split at hc
  · rename_i s down; exact .inl (RSort_ok s down hc h)
  · exact hc.elim⟩
def sAwakeL : List PV → Prop × PV
  | [] => (True, .bool true)
  | _ => PBad
noncomputable def eAwakeL : SpecE env := ⟨7, sAwakeL, fun args h hc => by
  unfold sAwakeL at hc ⊢
  split at hc
  · exact .inl (Awake_ok h)
  · exact hc.elim⟩
theorem contL_short {s : List UInt8} (hs : s.length ≤ 300) : ∀ c ∈ contL (linesOf s), c.length ≤ 300 := fun c hc => by
  unfold contL at hc
  obtain ⟨l, h1, rfl⟩ := List.mem_map.1 hc
  have h2 := linesOf_short h1
  have h3 := cut_short l
  omega
theorem sortT_len {s : List UInt8} (hs : s.length ≤ 300) (d : Bool) : (sortT d s).length ≤ 90300 := by
  have h1 := selF_len d (contL (linesOf s)) 301 (by omega) (fun c hc => by have := contL_short hs c hc; omega) (linesOf s).length (List.replicate (linesOf s).length false)
  have h2 := linesOf_len s
  have h3 : (linesOf s).length * 301 ≤ 300 * 301 := Nat.mul_le_mul_right _ (by omega)
  unfold sortT
  omega
theorem runN_le (x : List UInt8) : ∀ xs : List (List UInt8), runN x xs ≤ xs.length
  | [] => Nat.le_refl _
  | y :: r => by
    have := runN_le x r
    show (if (y == x) = true then 1 + runN x r else 0) ≤ r.length + 1
    split <;> omega
theorem uniqF_len (n : Bool) : ∀ (f : Nat) (xs : List (List UInt8)), (∀ c ∈ xs, c.length ≤ 300) → xs.length ≤ 300 → (uniqF n f xs).length ≤ f * 400
  | 0, xs, _, _ => by simp [uniqF]
  | f + 1, [], _, _ => by simp [uniqF]
  | f + 1, x :: r, h, h3 => by
    have hr := runN_le x (x :: r)
    have ih := uniqF_len n f ((x :: r).drop (runN x (x :: r))) (fun c hc => h c (List.mem_of_mem_drop hc)) (by rw [List.length_drop]; omega)
    have h1 := Lib.itoa_length_le ((runN x (x :: r) : Nat) : Int) (by omega) (by omega)
    have hx := h x (List.mem_cons_self ..)
    show (uniqT n x (runN x (x :: r)) ++ uniqF n f ((x :: r).drop (runN x (x :: r)))).length ≤ _
    have h2 : (uniqT n x (runN x (x :: r))).length ≤ 400 := by
      unfold uniqT
      cases n
      · simp; omega
      · simp; omega
    rw [List.length_append, Nat.succ_mul]
    omega
theorem uniqS_len {s : List UInt8} (hs : s.length ≤ 300) (n : Bool) : (uniqS s n).length ≤ 120000 := by
  have h2 := linesOf_len s
  have h1 := uniqF_len n (linesOf s).length (contL (linesOf s)) (contL_short hs) (by rw [contL_len]; omega)
  have h3 : (linesOf s).length * 400 ≤ 300 * 400 := Nat.mul_le_mul_right _ (by omega)
  unfold uniqS
  omega
theorem mirrorL_len (l : List UInt8) : (mirrorL l).length ≤ 4 * l.length + 1 := by
  rw [mirror_one]
  have h1 := encs_le (decodeS (cutS l [10]).length (cutS l [10])).reverse
  have h2 := decodeS_len (cutS l [10]).length (cutS l [10])
  have h3 := cut_short l
  rw [List.length_reverse] at h1
  rw [List.length_append]
  split
  · rw [List.length_singleton]; omega
  · rw [List.length_nil]; omega
theorem mirrorS_len (s : List UInt8) : (mirrorS s).length ≤ 5 * s.length := by
  have h1 := linesOf_len s
  have key : ∀ ls : List (List UInt8), ((ls.map mirrorL).flatten).length ≤ 4 * ls.flatten.length + ls.length := fun ls => by
    induction ls with
    | nil => simp
    | cons l ls ih =>
      have := mirrorL_len l
      rw [List.map_cons, List.flatten_cons, List.flatten_cons, List.length_append, List.length_append, List.length_cons]
      omega
  have h2 := key (linesOf s)
  rw [linesOf_flat] at h2
  unfold mirrorS
  omega
theorem hk_is2 (n : Int) (len : Nat) : (if ((len : Nat) : Int) < (if n < 0 then 0 else n) then ((len : Nat) : Int) else (if n < 0 then 0 else n)) = ((hk n len : Nat) : Int) := by
  unfold hk
  by_cases h1 : n < 0
  · rw [if_pos h1, if_pos h1, if_neg (by omega)]; rfl
  · rw [if_neg h1, if_neg h1]
    by_cases h2 : ((len : Nat) : Int) < n
    · rw [if_pos h2]; omega
    · rw [if_neg h2]; omega
theorem open_i64 {cs : List PV} (h : VSh (.int .i64) cs) : ∃ n : Int, cs = [.int .i64 n] := by
  obtain ⟨n, rfl, _⟩ := h
  exact ⟨n, rfl⟩
def twoB : List (List PV) := [[.bool false], [.bool true]]
set_option maxHeartbeats 8000000 in
theorem ToolsLines_ok (s : List UInt8) (n : Int) (h : Heap) : SCalls env 4 [.str s, .int .i64 n] h (Ret (.bool true) h) := by
  refine SCalls.body Tryz.func4 rfl rfl (by simp [Tryz.ntmps4]) ?_
  refine SW.seq (SW.run [] _ ?_)
  simp only [wpC, Bool.false_eq_true, ↓reduceIte, wpS, stops, wantedA, okDst, Tryz.ntmps4, Nat.reduceLT, decide_true, step1, isOwnCall, hxOp, px, AS.eval, ofConst, ofVal, thenQ, AS.put, enumA, Nat.zero_add, dropKey, reduceCtorEq, Nat.reduceEqDiff, true_and]
  refine SW.seq (SW.run [eAwakeL] _ ?_)
  simp only [wpC, mayStop, stops, isFlt, Specs.has, eAwakeL, Specs.hasO, Bool.or_false, Specs.hasH, List.any_cons, ↓reduceIte, Bool.not_true, List.any_nil, Bool.false_eq_true, wpS, wantedA, okDst, Nat.reduceLT, decide_true, step1, isOwnCall, hxOp, px, pcall, okArg, AS.eval, AS.get, Lift.look, ofConst, ofVal, List.all_nil, Specs.at, List.map_nil, sAwakeL, and_self, AS.put, dropKey, Nat.reduceEqDiff, reduceCtorEq, pun, Option.getD_some, thenQ, isB, tmpOf, asB, true_and]
  have hu : unS [[.str s]] = some [s] := rfl
  have h2 : ([s] : List (List UInt8)).length ≤ 1000000000 := by show 1 ≤ _; omega
  refine SW.seq (SW.run [eSmall] _ ?_)
  cases hsm : smallS [s]
  · simp only [wpC, mayStop, stops, isFlt, Specs.has, eSmall, Specs.hasO, Bool.or_false, Specs.hasH, List.any_cons, ↓reduceIte, Bool.not_true, List.any_nil, Bool.false_eq_true, wpS, wantedA, okDst, Nat.reduceLT, decide_true, step1, isOwnCall, hxOp, px, AS.eval, AS.get, Lift.look, Nat.succ_ne_zero, Option.getD_some, AS.put, dropKey, Nat.reduceEqDiff, reduceCtorEq, pbuildSlice, ty43, ty9, List.replicate, List.map_cons, ofVal, List.map_nil, List.flatten_cons, List.flatten_nil, List.append_nil, ofConst, pfill, PV.cells, List.length_cons, List.length_nil, Nat.zero_add, Nat.reduceMul, Nat.le_refl, and_self, splice, List.take_zero, List.nil_append, List.drop_succ_cons, List.drop_nil, Nat.reduceLeDiff, okZero, List.all_cons, Value.oneCell', List.all_nil, Bool.and_true, known, chunk, List.take_succ_cons, List.take_nil, pcall, okArg, Specs.at, sSmall, hu, hsm, pun, Bool.not_false, thenQ, isB, tmpOf, asB, RPost, sres, Tryz.results4, sresL, sres1, Option.some.injEq, Ret_fin, HTo_self, and_true, exists_eq_left']
  simp only [wpC, mayStop, stops, isFlt, Specs.has, eSmall, Specs.hasO, Bool.or_false, Specs.hasH, List.any_cons, ↓reduceIte, Bool.not_true, List.any_nil, Bool.false_eq_true, wpS, wantedA, okDst, Nat.reduceLT, decide_true, step1, isOwnCall, hxOp, px, AS.eval, AS.get, Lift.look, Nat.succ_ne_zero, Option.getD_some, AS.put, dropKey, Nat.reduceEqDiff, reduceCtorEq, pbuildSlice, ty43, ty9, List.replicate, List.map_cons, ofVal, List.map_nil, List.flatten_cons, List.flatten_nil, List.append_nil, ofConst, pfill, PV.cells, List.length_cons, List.length_nil, Nat.zero_add, Nat.reduceMul, Nat.le_refl, and_self, splice, List.take_zero, List.nil_append, List.drop_succ_cons, List.drop_nil, Nat.reduceLeDiff, okZero, List.all_cons, Value.oneCell', List.all_nil, Bool.and_true, known, chunk, List.take_succ_cons, List.take_nil, pcall, okArg, Specs.at, sSmall, hu, hsm, pun, thenQ, isB, tmpOf, asB, true_and]
  have hs3 : s.length ≤ 300 := by
    unfold smallS at hsm
    simpa using hsm
  clear hsm hu h2
  have hs6 : s.length ≤ 1000000 := by omega
  have b1 : (mirrorS s).length ≤ 100000000000000 := by have := mirrorS_len s; omega
  have b2 : ∀ d, (sortT d s).length ≤ 100000000000000 := fun d => by have := sortT_len hs3 d; omega
  have b3 : ∀ d, (uniqS s d).length ≤ 100000000000000 := fun d => by have := uniqS_len hs3 d; omega
  have hll := linesOf_len s
  refine SW.seq (SW.run [eToolsCount] _ ?_)
  simp only [wpC, Bool.false_eq_true, ↓reduceIte, wpS, stops, wantedA, okDst, Nat.reduceLT, decide_true, step1, isOwnCall, hxOp, px, AS.eval, AS.get, Lift.look, Nat.succ_ne_zero, Option.getD_some, Specs.has, eToolsCount, Specs.hasO, Bool.or_false, Specs.hasH, Bool.not_true, AS.put, dropKey, Nat.reduceEqDiff, reduceCtorEq, pcall, okArg, ofConst, ofVal, List.all_cons, List.all_nil, Bool.and_true, Specs.at, List.map_cons, List.map_nil, sToolsCount, hs6, cntR, and_self, List.getElem?_cons_zero, List.getElem?_cons_succ, thenQ, true_and]
  refine SW.seq (SW.run [eRCount] _ ?_)
  simp only [wpC, Bool.false_eq_true, ↓reduceIte, wpS, stops, wantedA, okDst, Nat.reduceLT, decide_true, step1, isOwnCall, hxOp, px, AS.eval, AS.get, Lift.look, Nat.succ_ne_zero, Option.getD_some, Specs.has, eRCount, Specs.hasO, Bool.or_false, Specs.hasH, Bool.not_true, AS.put, dropKey, Nat.reduceEqDiff, reduceCtorEq, pcall, okArg, ofConst, ofVal, List.all_cons, List.all_nil, Bool.and_true, Specs.at, List.map_cons, List.map_nil, sRCount, hs6, cntR, and_self, List.getElem?_cons_zero, List.getElem?_cons_succ, thenQ, true_and]
  refine SW.seq (SW.run [eMirrorT, eRMirror] _ ?_)
  simp only [wpC, mayStop, stops, isFlt, Specs.has, eMirrorT, eRMirror, Specs.hasO, Bool.or_false, Specs.hasH, List.any_cons, ↓reduceIte, Bool.not_true, Nat.reduceEqDiff, List.any_nil, Bool.false_eq_true, wpS, wantedA, okDst, Nat.reduceLT, decide_true, step1, isOwnCall, hxOp, px, AS.eval, AS.get, Lift.look, Option.getD_some, AS.put, dropKey, reduceCtorEq, isNilC, pbinP, pbinI, bne_self_eq_false, List.getElem?_toArray, List.getElem?_cons_succ, List.getElem?_cons_zero, Option.bind_some, beq_self_eq_true, ofConst, ofVal, ppick_bool, Nat.succ_ne_zero, pcall, okArg, List.all_cons, List.all_nil, Bool.and_true, Specs.at, List.map_cons, List.map_nil, sMirrorT, hs6, b1, and_self, sRMirror, pbinS, thenQ, isB, tmpOf, asB, true_and]
  refine SW.seq (SW.seq (SW.run [] _ ?_))
  simp only [wpC, Bool.false_eq_true, ↓reduceIte, wpS, stops, wantedA, okDst, Nat.reduceLT, decide_true, step1, isOwnCall, hxOp, px, pbuildSlice, ty41, ty4, Nat.succ_ne_zero, List.replicate, List.map_cons, ofVal, List.map_nil, List.flatten_cons, List.flatten_nil, List.append_nil, List.cons_append, List.nil_append, AS.eval, AS.get, Lift.look, ofConst, pfill, PV.cells, List.length_cons, List.length_nil, Nat.zero_add, Nat.reduceMul, Nat.reduceAdd, Nat.reduceLeDiff, and_self, splice, List.take_zero, List.drop_succ_cons, List.drop_zero, Nat.le_refl, List.take_succ_cons, List.drop_nil, okZero, List.all_cons, Value.oneCell', List.all_nil, Bool.and_true, known, chunk, List.take_nil, AS.put, dropKey, Nat.reduceEqDiff, reduceCtorEq, pcall, plen, Option.getD_some, okLen, Int.cast_ofNat_Int, thenQ, true_and]
  refine SW.block (SW.loopK 104 (fun i : Nat => [(0, .str s), (1, .int .i64 n), (53, .list 1 twoB), (54, .int .i64 2), (55, .int .i64 (i : Nat))]) (fun _ => h) (fun i => i ≤ 2) (fun i => 2 - i) 0 (by omega) ?_ ?_)
  · simp only [Has, hasAll, AS.get, Lift.look, Nat.succ_ne_zero, ↓reduceIte, Option.getD_some, Nat.reduceEqDiff, reduceCtorEq, twoB, Int.cast_ofNat_Int, and_self]
  intro i hi
  refine SW.seq (SW.run [] _ ?_)
  by_cases hlt : i < 2
  · have hw : IntKind.i64.wrap ((i : Int) + 1) = ((i + 1 : Nat) : Int) := by rw [w64 (by omega) (by omega)]; rfl
    have hlt' : (i : Int) < 2 := by omega
    have htl : twoB.length = 2 := rfl
    have hg : twoB.getD i [] = [.bool (i == 1)] := by
      obtain rfl | rfl : i = 0 ∨ i = 1 := by omega
      · rfl
      · rfl
    generalize twoB = tb at htl hg ⊢
    generalize (i == 1) = d at hg
    simp only [wpC, Bool.false_eq_true, ↓reduceIte, wpS, stops, wantedA, okDst, Nat.reduceLT, decide_true, step1, isOwnCall, hxOp, px, isNilC, pbinP, AS.eval, AS.get, Lift.look, reduceCtorEq, Nat.reduceEqDiff, Option.getD_some, pbinI, hlt', thenQ, Has, hasAll, and_true, AS.put, dropKey, true_and]
    refine SW.seq (SW.run [] _ ?_)
    simp only [wpC, isB, AS.get, Lift.look, tmpOf, ↓reduceIte, Option.getD_some, asB, thenQ, true_and]
    refine SW.seq (SW.block (SW.seq (SW.run [] _ ?_)))
    simp only [wpC, Bool.false_eq_true, ↓reduceIte, wpS, stops, wantedA, okDst, Nat.reduceLT, decide_true, step1, isOwnCall, hxOp, px, pindexAddr, ty41, ty4, AS.eval, AS.get, Lift.look, Nat.reduceEqDiff, reduceCtorEq, Option.getD_some, ne_eq, Nat.succ_ne_zero, not_false_eq_true, Int.natCast_nonneg, Int.toNat_natCast, htl, hlt, and_self, hg, AS.put, dropKey, pload, okOne, TK.isAgg, beq_self_eq_true, Bool.or_true, List.length_cons, List.length_nil, Nat.zero_add, Nat.le_refl, Lift.valOf, List.take_succ_cons, List.take_nil, List.getD_cons_zero, thenQ, true_and]
    refine SW.run [eSort, eRSortT, eUnique, eRUnique] _ ?_
    simp only [wpC, mayStop, stops, isFlt, Specs.has, eSort, eRSortT, eUnique, eRUnique, Specs.hasO, Bool.or_false, Specs.hasH, List.any_cons, ↓reduceIte, Bool.not_true, Nat.reduceEqDiff, List.any_nil, Bool.false_eq_true, wpS, wantedA, okDst, Nat.reduceLT, decide_true, step1, isOwnCall, hxOp, px, AS.eval, AS.get, Lift.look, Nat.succ_ne_zero, Option.getD_some, AS.put, dropKey, reduceCtorEq, pcall, okArg, ofConst, ofVal, List.all_cons, List.all_nil, Bool.and_true, Specs.at, List.map_cons, List.map_nil, sSort, hs6, b2, and_self, sRSortT, isNilC, pbinP, pbinS, beq_self_eq_true, List.getElem?_toArray, List.getElem?_cons_succ, List.getElem?_cons_zero, Option.bind_some, sUnique, b3, ppick_bool, thenQ, isB, tmpOf, asB, inQ, true_and]
    refine SW.run [] _ ?_
    simp only [wpC, Bool.false_eq_true, ↓reduceIte, wpS, stops, isFlt, ty3, wantedA, okDst, Nat.reduceLT, decide_true, step1, isOwnCall, hxOp, px, isNilC, pbinP, AS.eval, AS.get, Lift.look, Nat.reduceEqDiff, reduceCtorEq, Option.getD_some, ofConst, ofVal, pbinI, hw, AS.put, dropKey, thenQ, Nat.succ_ne_zero, true_and]
    exact ⟨i + 1, by omega, by omega, rfl⟩
  have hlt' : ¬ (i : Int) < 2 := by omega
  simp only [wpC, Bool.false_eq_true, ↓reduceIte, wpS, stops, wantedA, okDst, Nat.reduceLT, decide_true, step1, isOwnCall, hxOp, px, isNilC, pbinP, AS.eval, AS.get, Lift.look, reduceCtorEq, Nat.reduceEqDiff, Option.getD_some, pbinI, hlt', decide_false, thenQ, Has, hasAll, and_true, AS.put, dropKey, true_and]
  refine SW.seq (SW.run [] _ ?_)
  simp only [wpC, isB, AS.get, Lift.look, tmpOf, ↓reduceIte, Option.getD_some, asB, Bool.false_eq_true, thenQ, inQ, true_and]
  refine SW.seq (SW.run [eRLines] _ ?_)
  simp only [wpC, Bool.false_eq_true, ↓reduceIte, wpS, stops, wantedA, okDst, Nat.reduceLT, decide_true, step1, isOwnCall, hxOp, px, AS.eval, AS.get, Lift.look, Nat.succ_ne_zero, Option.getD_some, Specs.has, eRLines, Specs.hasO, Bool.or_false, Specs.hasH, Bool.not_true, AS.put, dropKey, Nat.reduceEqDiff, reduceCtorEq, pcall, okArg, ofConst, ofVal, List.all_cons, List.all_nil, Bool.and_true, Specs.at, List.map_cons, List.map_nil, sLines, hs6, and_self, thenQ, true_and]
  have hq := hk_is2 n (linesOf s).length
  have hkl := hk_le n (linesOf s).length
  have hfl : (linesOf s).flatten.length ≤ 300 := by rw [linesOf_flat]; exact hs3
  refine SW.seq (SW.run [] _ ?_)
  simp only [wpC, Bool.false_eq_true, ↓reduceIte, wpS, stops, wantedA, okDst, Nat.reduceLT, decide_true, step1, isOwnCall, hxOp, px, AS.eval, AS.get, Lift.look, Nat.reduceEqDiff, reduceCtorEq, Option.getD_some, AS.put, dropKey, pcall, ofConst, ofVal, and_self, ty43, plen, strL_len, okLen, hq, thenQ, true_and]
  obtain ⟨k, hk0⟩ : ∃ k, k = hk n (linesOf s).length := ⟨_, rfl⟩
  rw [← hk0] at hkl hq ⊢
  have hT1 : ((linesOf s).take k).length ≤ 1000000000 := by rw [List.length_take]; omega
  have hD1 : ((linesOf s).drop ((linesOf s).length - k)).length ≤ 1000000000 := by rw [List.length_drop]; omega
  have hsplit : ∀ m, ((linesOf s).take m).flatten.length + ((linesOf s).drop m).flatten.length = (linesOf s).flatten.length := fun m => by
    rw [← List.length_append, ← List.flatten_append, List.take_append_drop]
  have hT2 : ((linesOf s).take k).flatten.length ≤ 1000000000 := by have := hsplit k; omega
  have hD2 : ((linesOf s).drop ((linesOf s).length - k)).flatten.length ≤ 1000000000 := by have := hsplit ((linesOf s).length - k); omega
  have hw : IntKind.i64.wrap (((linesOf s).length : Int) - ((k : Nat) : Int)) = (((linesOf s).length - k : Nat) : Int) := by rw [w64 (by omega) (by omega)]; omega
  have hk1 : ((k : Nat) : Int) ≤ (((linesOf s).length : Nat) : Int) := by omega
  have hk2 : (((linesOf s).length - k : Nat) : Int) ≤ (((linesOf s).length : Nat) : Int) := by omega
  refine SW.seq (SW.regionAny [eHead, eWhole, eTail] [[0, 1, 2, 3, 4, 5, 6, 7, 8, 9, 10, 11, 12, 13, 14, 15, 16, 17, 18, 19, 20, 21]] rfl (by rfl) (by kernel_rfl) ?_)
  simp only [wpOL, wpO, LOp, List.getElem?_toArray, List.getElem?_cons_zero, okDst, Nat.reduceLT, decide_true, wantedA, ↓reduceIte, step1, isOwnCall, Bool.false_eq_true, hxOp, px, AS.eval, AS.get, Lift.look, Nat.succ_ne_zero, Option.getD_some, List.getElem?_cons_succ, AS.put, dropKey, Nat.reduceEqDiff, reduceCtorEq, Specs.hasO, Specs.hasH, pcall, okArg, ofConst, ofVal, List.all_cons, List.all_nil, Bool.and_true, Specs.at, eHead, List.map_cons, List.map_nil, sHead, hs6, ← hk0, and_self, pslice, ty43, ty9, pB, Int.cast_ofNat_Int, Int.reduceLE, Int.natCast_nonneg, strL_len, hk1, Int.reduceToNat, Int.toNat_natCast, strL_take, List.drop_zero, eWhole, sWhole, unS_el, List.length_take, hT2, and_true, true_and, isNilC, pbinP, pbinS, beq_self_eq_true, Option.bind_some, eTail, sTail, plen, okLen, pbinI, hw, hk2, strL_drop, List.length_drop, ppick_bool, thenQ]
  refine ⟨by omega, Int.le_refl _, ⟨by omega, by rw [List.take_length]; exact hD2⟩, ?_⟩
  rw [List.take_length, beq_self_eq_true]
  refine SW.run [] _ ?_
  simp only [wpC, RPost, sres, Tryz.results4, sresL, sres1, AS.get, Lift.look, ↓reduceIte, Option.getD_some, Option.some.injEq, Ret_fin, HTo_self, and_true, exists_eq_left']
end Go.Proofs.YtincpomenogppaaGreatDoor
