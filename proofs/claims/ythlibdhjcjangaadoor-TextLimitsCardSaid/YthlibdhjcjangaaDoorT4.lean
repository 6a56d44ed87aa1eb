/- Contracts of functions that the law reaches. -/
import Derived.Test.YthlibdhjcjangaaDoorT3
set_option linter.unusedSimpArgs false
set_option linter.unusedVariables false
namespace Go.Proofs.YthlibdhjcjangaaDoor
open Go Go.RowKit Go.Proofs.YthlibdhjcjangaaDoor Go.Proofs.YthlibdhjcjangaaDoor.Lift
set_option maxRecDepth 100000

/-- Elements that are characters. -/
def elR (ns : List Int) : List (List PV) := ns.map fun n => [.int .i32 n]
theorem elR_len (ns : List Int) : (elR ns).length = ns.length := by simp [elR]
theorem elR_getD {ns : List Int} {i : Nat} (h : i < ns.length) : (elR ns).getD i [] = [.int .i32 (ns.getD i 0)] := by
  simp [elR, List.getD_eq_getElem?_getD, h]
/-- A character as four bytes. -/
def be4 (n : Int) : List UInt8 := [u8of (n.fdiv (2 ^ 24)), u8of (n.fdiv (2 ^ 16)), u8of (n.fdiv (2 ^ 8)), u8of n]
def sPackWide : List PV → Prop × PV
  | [.list 1 xs] => match unR xs with
    | some ns => (ns.length ≤ 1000000000, .str (ns.flatMap be4))
    | none => PBad
  | _ => PBad
theorem PackWide_ok (ns : List Int) (h : Heap) (hn : ns.length ≤ 1000000000) : SCalls env 35 [.list 1 (elR ns)] h (Ret (.str (ns.flatMap be4)) h) := by
  refine SCalls.body Tryd.func35 rfl rfl (by simp [Tryd.ntmps35]) ?_
  refine SW.seq (SW.run [] _ ?_)
  simp only [wpC, Bool.false_eq_true, ↓reduceIte, wpS, stops, wantedA, okDst, Tryd.ntmps35, Nat.reduceLT, decide_true, step1, isOwnCall, hxOp, px, AS.eval, ofConst, ofVal, thenQ, AS.put, enumA, dropKey, reduceCtorEq, true_and]
  refine SW.seq (SW.run [] _ ?_)
  simp only [wpC, Bool.false_eq_true, ↓reduceIte, wpS, stops, wantedA, okDst, Nat.reduceLT, decide_true, step1, okAlloc, ty71, okZero, List.all_cons, Value.oneCell', List.all_nil, Bool.and_true, thenQ, AS.put, dropKey, Nat.reduceEqDiff, reduceCtorEq, zeroOf, List.map_cons, ofVal, List.map_nil, List.length_cons, List.length_nil, Nat.zero_add, Nat.reduceAdd, true_and]
  intro r hr
  refine SW.fold_nil (r := r) (T := 71) (e := 5) (p := none) (.inl rfl) (Heap.put_same _ _ _) ?_
  simp only [Heap.put_put]
  refine SW.seq (SW.seq (SW.run [] _ ?_))
  simp only [wpC, Bool.false_eq_true, ↓reduceIte, wpS, stops, wantedA, okDst, Nat.reduceLT, decide_true, step1, isOwnCall, hxOp, px, AS.eval, AS.get, Lift.look, Nat.succ_ne_zero, Option.getD_some, AS.put, dropKey, Nat.reduceEqDiff, reduceCtorEq, pcall, ty56, plen, elR_len, okLen, and_self, ofConst, ofVal, thenQ, true_and]
  refine SW.block (SW.loopK 27 (fun i => [(3, .val (.pointer (some ⟨r, 0, none⟩))), (6, .list 1 (elR ns)), (7, .int .i64 ns.length), (8, .int .i64 (i : Nat))]) (fun i => h.put r (.bld 71 5 ((ns.take i).flatMap be4))) (fun i => i ≤ ns.length) (fun i => ns.length - i) 0 (Nat.zero_le _) ?_ ?_)
  · simp only [Has, List.take_zero, hasAll, AS.get, Lift.look, Nat.reduceEqDiff, ↓reduceIte, Option.getD_some, Int.cast_ofNat_Int, and_self, and_true, true_and]
    try simp
  intro i hi
  refine SW.run [] _ ?_
  simp only [wpC, mayStop, stops, isFlt, Specs.has, Specs.hasO, Bool.or_false, Specs.hasH, Bool.not_false, List.any_cons, List.any_nil, Bool.false_eq_true, ↓reduceIte, wpS, wantedA, okDst, Nat.reduceLT, decide_true, step1, isOwnCall, hxOp, px, isNilC, pbinP, AS.eval, AS.get, Lift.look, Nat.reduceEqDiff, Option.getD_some, pbinI, thenQ, isB, AS.put, dropKey, tmpOf, asB, decide_eq_true_eq, Bool.or_true, pindexAddr, ty56, ty21, ne_eq, Nat.succ_ne_zero, not_false_eq_true, Int.natCast_nonneg, Int.toNat_natCast, elR_len, true_and, pload, okOne, TK.isAgg, beq_self_eq_true, Lift.valOf, ofConst, ofVal, Int.reduceLE, Int.reduceToNat, PBad, pflt, ty5, pconvH, Heap.get_put, pconv, wrap_byte, pbuildSlice, ty34, List.replicate, List.map_cons, List.map_nil, List.flatten_cons, List.flatten_nil, List.append_nil, List.cons_append, List.nil_append, pfill, PV.cells, Nat.reduceMul, Nat.zero_add, List.length_cons, List.length_nil, Nat.reduceAdd, Nat.reduceLeDiff, and_true, splice, List.take_zero, okZero, List.all_cons, Value.oneCell', List.all_nil, Bool.and_true, known, chunk, Has, hasAll, inQ]
  by_cases hlt : i < ns.length
  · simp only [Int.ofNat_lt, hlt, ↓reduceIte, elR_getD hlt, List.length_cons, List.length_nil, Nat.zero_add, Nat.le_refl, List.take_succ_cons, List.take_nil, List.getD_cons_zero, List.drop_succ_cons, List.drop_zero, List.cons_append, List.nil_append, Nat.reduceAdd, Nat.reduceLeDiff, and_self, List.take_zero, List.drop_nil, List.append_nil, Bool.and_true, decide_true, true_and]
    refine SWO.call (.func 50) _ _ 50 #[] #[] rfl rfl rfl rfl rfl rfl (Write_ok (l := be4 (ns.getD i 0)) (Heap.put_same _ _ _) ?_) rfl rfl ?_ (by rintro c h' ⟨e1, _⟩; cases e1)
    · rw [flat_len be4 4 (fun _ => rfl), List.length_take]
      simp only [be4, List.length_cons, List.length_nil]
      omega
    rintro q h' ⟨e1, rfl⟩
    injection e1 with e1
    subst e1
    refine SWO.run [] 1000 ?_
    simp only [wpS, inQ, thenQ, AS.put, dropKey, Nat.reduceEqDiff, ↓reduceIte]
    refine SW.run [] _ ?_
    simp only [wpC, Bool.false_eq_true, ↓reduceIte, wpS, stops, isFlt, ty3, wantedA, okDst, Nat.reduceLT, decide_true, step1, isOwnCall, hxOp, px, isNilC, pbinP, AS.eval, AS.get, Lift.look, Nat.reduceEqDiff, Option.getD_some, ofConst, ofVal, pbinI, AS.put, dropKey, thenQ, true_and]
    refine ⟨i + 1, hlt, by omega, by rw [Heap.put_put, flat_next be4 hlt 0], ?_⟩
    rw [w64 (by omega) (by omega)]
    rfl
  · simp only [Int.ofNat_lt, hlt, ↓reduceIte, decide_false]
    have hi' : i = ns.length := by omega
    subst hi'
    refine SW.run [] _ ?_
    simp only [wpC, mayStop, stops, isFlt, Specs.has, Specs.hasO, Bool.or_false, Specs.hasH, Bool.not_false, List.any_cons, List.any_nil, Bool.or_true, ↓reduceIte, Bool.false_eq_true, wpS, Tryd.results35, List.take_length]
    refine SWO.call (.func 36) _ _ 36 #[] #[] rfl rfl rfl rfl rfl rfl (String_ok (Heap.put_same _ _ _) ?_) rfl rfl ?_ (by rintro c h' ⟨e1, _⟩; cases e1)
    · rw [flat_len be4 4 (fun _ => rfl)]
      omega
    rintro q h' ⟨e1, rfl⟩
    injection e1 with e1
    subst e1
    refine SWO.run [] 1000 ?_
    simp only [wpS, stops, Bool.false_eq_true, ↓reduceIte, wantedA, okDst, AS.put, dropKey, Nat.reduceEqDiff, Nat.reduceLT, decide_true, step1, isOwnCall, hxOp, px, AS.eval, AS.get, Lift.look, Option.getD_some, thenQ, true_and]
    refine SW.run [] _ ?_
    simp only [wpC, RPost, sres, sresL, sres1, AS.get, Lift.look, ↓reduceIte, Option.getD_some, Option.some.injEq, Heap.del_put _ _ _ hr, Ret_fin, HTo_self, and_true, exists_eq_left']
end Go.Proofs.YthlibdhjcjangaaDoor
