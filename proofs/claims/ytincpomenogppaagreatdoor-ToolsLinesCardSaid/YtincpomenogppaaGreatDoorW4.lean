/- Contracts of functions that the law reaches. -/
import Derived.Test.YtincpomenogppaaGreatDoorW3
set_option linter.unusedSimpArgs false
set_option linter.unusedVariables false
namespace Go.Proofs.YtincpomenogppaaGreatDoor
open Go Go.RowKit Go.Proofs.YtincpomenogppaaGreatDoor Go.Proofs.YtincpomenogppaaGreatDoor.Lift
set_option maxRecDepth 100000

theorem byte_lit (b c : UInt8) {n : Int} (h : n = (c.toNat : Int)) : (((b.toNat : Nat) : Int) == n) = (b == c) := by
  rw [h, byte_eq]
  by_cases e : b = c
  · subst e; simp
  · simp [e]
theorem byte10 (b : UInt8) : (((b.toNat : Nat) : Int) == 10) = (b == 10) := byte_lit b 10 rfl
theorem mid_get {pre cur rest : List UInt8} {b : UInt8} : (pre ++ (cur ++ b :: rest)).getD (pre.length + cur.length) 0 = b := by
  rw [← List.append_assoc, List.getD_eq_getElem?_getD, ← List.length_append, List.getElem?_append_right (Nat.le_refl _)]
  simp
theorem mid_cut {pre cur rest : List UInt8} {b : UInt8} : ((pre ++ (cur ++ b :: rest)).take (pre.length + cur.length + 1)).drop pre.length = cur ++ [b] := by
  rw [show pre ++ (cur ++ b :: rest) = (pre ++ (cur ++ [b])) ++ rest by simp, show pre.length + cur.length + 1 = (pre ++ (cur ++ [b])).length by simp; omega, List.take_left, List.drop_left]
set_option maxHeartbeats 1000000 in
theorem RLines_ok (s : List UInt8) (hs : s.length ≤ 1000000) (h : Heap) : SCalls env 24 [.str s] h (Ret (.list 1 (strL (linesOf s))) h) := by
  refine SCalls.body Tryz.func24 rfl rfl (by simp [Tryz.ntmps24]) ?_
  have hll := linesOf_len s
  refine SW.seq (SW.run [] _ ?_)
  simp only [wpC, Bool.false_eq_true, ↓reduceIte, wpS, stops, wantedA, okDst, Tryz.ntmps24, Nat.reduceLT, decide_true, step1, isOwnCall, hxOp, px, AS.eval, ofConst, ofVal, thenQ, AS.put, enumA, dropKey, reduceCtorEq, true_and]
  refine SW.seq (SW.run [] _ ?_)
  simp only [wpC, Bool.false_eq_true, ↓reduceIte, wpS, stops, wantedA, okDst, Nat.reduceLT, decide_true, step1, isOwnCall, hxOp, px, AS.eval, ofConst, ofVal, thenQ, AS.put, dropKey, Nat.reduceEqDiff, reduceCtorEq, true_and]
  refine SW.seq (SW.run [] _ ?_)
  simp only [wpC, Bool.false_eq_true, ↓reduceIte, wpS, stops, wantedA, okDst, Nat.reduceLT, decide_true, step1, isOwnCall, hxOp, px, AS.eval, ofConst, ofVal, thenQ, AS.put, dropKey, Nat.reduceEqDiff, reduceCtorEq, true_and]
  refine SW.seq (SW.seq (SW.run [] _ ?_))
  simp only [wpC, Bool.false_eq_true, ↓reduceIte, wpS, stops, wantedA, okDst, Nat.reduceLT, decide_true, step1, isOwnCall, hxOp, px, AS.eval, ofConst, ofVal, thenQ, AS.put, dropKey, Nat.reduceEqDiff, reduceCtorEq, true_and]
  refine SW.block (SW.loop (fun n a => ∃ (done : List (List UInt8)) (pre cur rest : List UInt8) (v : PV), s = pre ++ (cur ++ rest) ∧ 10 ∉ cur ∧ done ++ linesOf (cur ++ rest) = linesOf s ∧ rest.length = n ∧ Own h 9 1 (strL done) v a.h ∧ a.n = 37 ∧ hasAll a [(0, .str s), (3, v), (4, .int .i64 (pre.length : Nat)), (5, .int .i64 ((pre.length + cur.length : Nat) : Int))]) s.length ⟨[], [], [], s, .val (.slice none 0 0), rfl, by simp, rfl, rfl, Own.nil _ _ _, rfl, ?_⟩ ?_)
  · simp only [hasAll, AS.get, Lift.look, Nat.succ_ne_zero, ↓reduceIte, Option.getD_some, Nat.reduceEqDiff, List.length_nil, Int.cast_ofNat_Int, Nat.add_zero, and_self]
  rintro n a ⟨done, pre, cur, rest, v, hsp, hcur, hdl, hn', ow, hn, hs'⟩
  refine SW.norm ⟨hn, rfl, hs'⟩ ?_
  generalize a.h = H at ow
  clear hn hs'
  have hsl : s.length = pre.length + (cur.length + rest.length) := by rw [hsp]; simp
  have hdn : done.length ≤ s.length := by
    have := congrArg List.length hdl
    rw [List.length_append] at this
    omega
  refine SW.seq (SW.run [] _ ?_)
  cases rest with
  | cons b rest =>
    have hw : IntKind.i64.wrap (((pre.length + cur.length : Nat) : Int) + 1) = ((pre.length + cur.length + 1 : Nat) : Int) := by rw [w64 (by omega) (by omega)]; rfl
    have hlt : pre.length + cur.length < s.length := by rw [hsl]; simp
    have hlt' : ((pre.length + cur.length : Nat) : Int) < (s.length : Int) := by omega
    have hget : s.getD (pre.length + cur.length) 0 = b := by rw [hsp]; exact mid_get
    have hcut : (s.take (pre.length + cur.length + 1)).drop pre.length = cur ++ [b] := by rw [hsp]; exact mid_cut
    rw [List.length_cons] at hsl
    simp only [wpC, mayStop, stops, isFlt, Specs.has, Specs.hasO, Bool.or_false, Specs.hasH, Bool.not_false, List.any_cons, List.any_nil, Bool.false_eq_true, ↓reduceIte, wpS, wantedA, okDst, Nat.reduceLT, decide_true, step1, isOwnCall, hxOp, px, AS.eval, AS.get, Lift.look, reduceCtorEq, Nat.reduceEqDiff, Option.getD_some, AS.put, dropKey, Nat.succ_ne_zero, pcall, ty9, plen, okLen, and_self, isNilC, pbinP, pbinI, hlt', thenQ, isB, tmpOf, asB, hasAll, and_true, true_and]
    refine SW.seq (SW.block (SW.run [] _ ?_))
    have hnx : pre.length + cur.length + 1 = pre.length + (cur ++ [b]).length := by simp; omega
    cases e : (b == 10)
    · have hb : b ≠ 10 := by simpa using e
      simp only [wpC, mayStop, stops, isFlt, Specs.has, Specs.hasO, Bool.or_false, Specs.hasH, Bool.not_false, List.any_cons, List.any_nil, Bool.false_eq_true, ↓reduceIte, wpS, wantedA, okDst, Nat.reduceLT, decide_true, step1, isOwnCall, hxOp, px, AS.eval, AS.get, Lift.look, Nat.succ_ne_zero, Option.getD_some, AS.put, dropKey, Nat.reduceEqDiff, reduceCtorEq, pindex, ty9, Int.natCast_nonneg, Int.toNat_natCast, hlt, and_self, hget, isNilC, pbinP, ofConst, ofVal, pbinI, byte10, e, thenQ, isB, tmpOf, asB, inQ, true_and]
      refine SW.run [] _ ?_
      simp only [wpC, Bool.false_eq_true, ↓reduceIte, wpS, stops, wantedA, okDst, Nat.reduceLT, decide_true, step1, isOwnCall, hxOp, px, AS.eval, AS.get, Lift.look, Nat.reduceEqDiff, reduceCtorEq, Option.getD_some, isFlt, ty3, AS.put, dropKey, isNilC, pbinP, ofConst, ofVal, pbinI, hw, thenQ, Nat.succ_ne_zero, true_and]
      exact ⟨rest.length, by simp at hn'; omega, done, pre, cur ++ [b], rest, v, by rw [hsp]; simp, by simp [hcur]; exact fun k => hb k.symm, by rw [← hdl]; simp, rfl, ow, rfl, by rw [hnx]; exact ⟨rfl, rfl⟩⟩
    · obtain rfl : b = 10 := by simpa using e
      simp only [wpC, mayStop, stops, isFlt, Specs.has, Specs.hasO, Bool.or_false, Specs.hasH, Bool.not_false, List.any_cons, List.any_nil, Bool.false_eq_true, ↓reduceIte, wpS, wantedA, okDst, Nat.reduceLT, decide_true, step1, isOwnCall, hxOp, px, AS.eval, AS.get, Lift.look, Nat.succ_ne_zero, Option.getD_some, AS.put, dropKey, Nat.reduceEqDiff, reduceCtorEq, pindex, ty9, Int.natCast_nonneg, Int.toNat_natCast, hlt, and_self, hget, isNilC, pbinP, ofConst, ofVal, pbinI, byte10, beq_self_eq_true, thenQ, isB, tmpOf, asB, ty3, Bool.or_true, hw, pslice, pB, true_and, hcut, pbuildSlice, ty43, List.replicate, List.map_cons, List.map_nil, List.flatten_cons, List.flatten_nil, List.append_nil, pfill, PV.cells, List.length_cons, List.length_nil, Nat.zero_add, Nat.reduceMul, Nat.le_refl, splice, List.take_zero, List.nil_append, List.drop_succ_cons, List.drop_nil, Nat.reduceLeDiff, okZero, List.all_cons, Value.oneCell', List.all_nil, Bool.and_true, known, chunk, List.take_succ_cons, List.take_nil]
      refine ⟨by omega, ?_⟩
      refine SWO.append (.tmp 16) (.tmp 22) 43 43 rfl ty43 rfl ty9 (by decide) rfl ty43 rfl ow (ys := [[.str (cur ++ [10])]]) rfl (by rw [strL_len]; show (_ + 1) * 16 ≤ _; omega) (by rw [strL_len]; simp [maxLen]; omega) rfl rfl ?_
      intro v' h' ow' _ _
      refine SWO.run [] 1000 ?_
      simp only [wpS, stops, Bool.false_eq_true, ↓reduceIte, wantedA, okDst, AS.put, dropKey, Nat.reduceEqDiff, reduceCtorEq, Nat.reduceLT, decide_true, step1, isOwnCall, hxOp, px, AS.eval, AS.get, Lift.look, Option.getD_some, thenQ, true_and]
      refine SW.run [] _ ?_
      simp only [wpC, Bool.false_eq_true, ↓reduceIte, wpS, stops, wantedA, okDst, Nat.reduceLT, decide_true, step1, isOwnCall, hxOp, px, AS.eval, AS.get, Lift.look, Nat.reduceEqDiff, reduceCtorEq, Option.getD_some, isFlt, ty3, AS.put, dropKey, isNilC, pbinP, ofConst, ofVal, pbinI, hw, inQ, thenQ, true_and]
      refine SW.run [] _ ?_
      simp only [wpC, Bool.false_eq_true, ↓reduceIte, wpS, stops, wantedA, okDst, Nat.reduceLT, decide_true, step1, isOwnCall, hxOp, px, AS.eval, AS.get, Lift.look, Nat.reduceEqDiff, reduceCtorEq, Option.getD_some, isFlt, ty3, AS.put, dropKey, isNilC, pbinP, ofConst, ofVal, pbinI, hw, thenQ, Nat.succ_ne_zero, true_and]
      rw [linesOf_line hcur] at hdl
      refine ⟨rest.length, by simp at hn'; omega, done ++ [cur ++ [10]], pre ++ (cur ++ [10]), [], rest, v', by rw [hsp]; simp, by simp, by rw [← hdl]; simp, rfl, by rw [strL_append]; exact ow', rfl, ?_⟩
      have e2 : pre.length + cur.length + 1 = (pre ++ (cur ++ [10])).length := by simp; omega
      rw [e2]
      exact ⟨rfl, rfl⟩
  | nil =>
    have hlt' : ¬ ((pre.length + cur.length : Nat) : Int) < (s.length : Int) := by rw [hsl]; simp
    simp only [wpC, mayStop, stops, isFlt, Specs.has, Specs.hasO, Bool.or_false, Specs.hasH, Bool.not_false, List.any_cons, List.any_nil, Bool.false_eq_true, ↓reduceIte, wpS, wantedA, okDst, Nat.reduceLT, decide_true, step1, isOwnCall, hxOp, px, AS.eval, AS.get, Lift.look, reduceCtorEq, Nat.reduceEqDiff, Option.getD_some, AS.put, dropKey, Nat.succ_ne_zero, pcall, ty9, plen, okLen, and_self, isNilC, pbinP, pbinI, hlt', decide_false, thenQ, isB, tmpOf, asB, inQ, true_and]
    refine SW.seq (SW.run [] _ ?_)
    rw [List.append_nil] at hsp hdl
    cases cur with
    | nil =>
      have e1 : ¬ ((pre.length : Nat) : Int) < (s.length : Int) := by rw [hsl]; simp
      simp only [wpC, mayStop, stops, isFlt, Specs.has, Specs.hasO, Bool.or_false, Specs.hasH, Bool.not_false, List.any_cons, List.any_nil, Bool.false_eq_true, ↓reduceIte, wpS, wantedA, okDst, Nat.reduceLT, decide_true, step1, isOwnCall, hxOp, px, AS.eval, AS.get, Lift.look, Nat.reduceEqDiff, reduceCtorEq, Option.getD_some, AS.put, dropKey, List.length_nil, Nat.add_zero, Nat.succ_ne_zero, pcall, ty9, plen, okLen, and_self, isNilC, pbinP, pbinI, e1, decide_false, thenQ, isB, tmpOf, asB, true_and]
      rw [show linesOf [] = [] from rfl, List.append_nil] at hdl
      rw [hdl] at ow
      refine SW.own_let 3 rfl ow ?_
      refine SW.run [] _ ?_
      simp only [wpC, mayStop, stops, isFlt, Specs.has, Specs.hasO, Bool.or_false, Specs.hasH, Bool.not_false, List.any_cons, List.any_nil, Bool.false_eq_true, ↓reduceIte, wpS, wantedA, okDst, AS.put, dropKey, Nat.reduceEqDiff, reduceCtorEq, Nat.reduceLT, decide_true, step1, isOwnCall, hxOp, px, AS.eval, AS.get, Lift.look, Option.getD_some, thenQ, RPost, sres, Tryz.results24, sresL, sres1, Option.some.injEq, Ret_fin, HTo_self, and_true, exists_eq_left', and_self]
    | cons b cur =>
      have e1 : ((pre.length : Nat) : Int) < (s.length : Int) := by rw [hsl]; simp; omega
      have hdr : (s.take s.length).drop pre.length = b :: cur := by rw [List.take_length, hsp, List.drop_left]
      simp only [wpC, mayStop, stops, isFlt, Specs.has, Specs.hasO, Bool.or_false, Specs.hasH, Bool.not_false, List.any_cons, List.any_nil, Bool.false_eq_true, ↓reduceIte, wpS, wantedA, okDst, Nat.reduceLT, decide_true, step1, isOwnCall, hxOp, px, AS.eval, AS.get, Lift.look, Nat.reduceEqDiff, reduceCtorEq, Option.getD_some, AS.put, dropKey, List.length_cons, Nat.succ_ne_zero, pcall, ty9, plen, okLen, and_self, isNilC, pbinP, pbinI, e1, thenQ, isB, tmpOf, asB, pslice, pB, Int.natCast_nonneg, true_and, Int.toNat_natCast, hdr, pbuildSlice, ty43, List.replicate, List.map_cons, ofVal, List.map_nil, List.flatten_cons, List.flatten_nil, List.append_nil, ofConst, pfill, PV.cells, List.length_nil, Nat.zero_add, Nat.reduceMul, Nat.le_refl, splice, List.take_zero, List.nil_append, List.drop_succ_cons, List.drop_nil, Nat.reduceLeDiff, okZero, List.all_cons, Value.oneCell', List.all_nil, Bool.and_true, known, chunk, List.take_succ_cons, List.take_nil]
      refine ⟨by omega, ?_⟩
      refine SWO.append (.tmp 30) (.tmp 34) 43 43 rfl ty43 rfl ty9 (by decide) rfl ty43 rfl ow (ys := [[.str (b :: cur)]]) rfl (by rw [strL_len]; show (_ + 1) * 16 ≤ _; omega) (by rw [strL_len]; simp [maxLen]; omega) rfl rfl ?_
      intro v' h' ow' _ _
      refine SWO.run [] 1000 ?_
      simp only [wpS, stops, Bool.false_eq_true, ↓reduceIte, wantedA, okDst, AS.put, dropKey, Nat.reduceEqDiff, reduceCtorEq, Nat.reduceLT, decide_true, step1, isOwnCall, hxOp, px, AS.eval, AS.get, Lift.look, Option.getD_some, thenQ, true_and]
      rw [linesOf_end hcur (by simp)] at hdl
      have ow2 : Own h 9 1 (strL (linesOf s)) v' h' := by rw [← hdl, strL_append]; exact ow'
      refine SW.own_let 3 rfl ow2 ?_
      refine SW.run [] _ ?_
      simp only [wpC, mayStop, stops, isFlt, Specs.has, Specs.hasO, Bool.or_false, Specs.hasH, Bool.not_false, List.any_cons, List.any_nil, Bool.false_eq_true, ↓reduceIte, wpS, wantedA, okDst, AS.put, dropKey, Nat.reduceEqDiff, reduceCtorEq, Nat.reduceLT, decide_true, step1, isOwnCall, hxOp, px, AS.eval, AS.get, Lift.look, Option.getD_some, thenQ, RPost, sres, Tryz.results24, sresL, sres1, Option.some.injEq, Ret_fin, HTo_self, and_true, exists_eq_left', and_self]
def sRLines : List PV → Prop × PV := sLines
noncomputable def eRLines : SpecE env := ⟨24, sLines, fun args h hc => by
  unfold sLines at hc ⊢
  split at hc
  · rename_i s; exact .inl (RLines_ok s hc h)
  · exact hc.elim⟩
def sumL (l : List (List UInt8)) : Nat := (l.map List.length).sum
set_option maxHeartbeats 1000000 in
theorem Whole_ok (l : List (List UInt8)) (h : Heap) (hl : l.length ≤ 1000000000) (hf : l.flatten.length ≤ 1000000000) : SCalls env 26 [.list 1 (strL l)] h (Ret (.str l.flatten) h) := by
  refine SCalls.body Tryz.func26 rfl rfl (by simp [Tryz.ntmps26]) ?_
  refine SW.seq (SW.run [] _ ?_)
  simp only [wpC, Bool.false_eq_true, ↓reduceIte, wpS, stops, wantedA, okDst, Tryz.ntmps26, Nat.reduceLT, decide_true, step1, isOwnCall, hxOp, px, AS.eval, ofConst, ofVal, thenQ, AS.put, enumA, dropKey, reduceCtorEq, true_and]
  refine SW.seq (SW.run [] _ ?_)
  simp only [wpC, Bool.false_eq_true, ↓reduceIte, wpS, stops, wantedA, okDst, Nat.reduceLT, decide_true, step1, isOwnCall, hxOp, px, AS.eval, ofConst, ofVal, thenQ, AS.put, dropKey, Nat.reduceEqDiff, reduceCtorEq, true_and]
  refine SW.seq (SW.seq (SW.run [] _ ?_))
  simp only [wpC, Bool.false_eq_true, ↓reduceIte, wpS, stops, wantedA, okDst, Nat.reduceLT, decide_true, step1, isOwnCall, hxOp, px, AS.eval, ofConst, ofVal, thenQ, AS.put, dropKey, Nat.reduceEqDiff, reduceCtorEq, true_and]
  refine SW.block (SW.loopK 18 (fun i : Nat => [(0, .list 1 (strL l)), (3, .str (l.take i).flatten), (4, .int .i64 (i : Nat))]) (fun _ => h) (fun i => i ≤ l.length) (fun i => l.length - i) 0 (Nat.zero_le _) ?_ ?_)
  · simp only [Has, hasAll, AS.get, Lift.look, Nat.succ_ne_zero, ↓reduceIte, Option.getD_some, Nat.reduceEqDiff, List.take_zero, List.flatten_nil, Int.cast_ofNat_Int, and_self]
  rintro i hi
  refine SW.seq (SW.run [] _ ?_)
  by_cases hlt : i < l.length
  · have hw : IntKind.i64.wrap ((i : Int) + 1) = ((i + 1 : Nat) : Int) := by rw [w64 (by omega) (by omega)]; rfl
    have hg := strL_at hlt
    have hfx : (l.take (i + 1)).flatten = (l.take i).flatten ++ l[i] := by rw [List.take_succ_eq_append_getElem hlt, List.flatten_append]; simp
    have hfl : (l.take (i + 1)).flatten.length ≤ 1000000000 := by
      have := congrArg List.length (congrArg List.flatten (List.take_append_drop (i + 1) l))
      rw [List.flatten_append, List.length_append] at this
      omega
    rw [hfx, List.length_append] at hfl
    simp only [wpC, mayStop, stops, isFlt, Specs.has, Specs.hasO, Bool.or_false, Specs.hasH, Bool.not_false, List.any_cons, List.any_nil, Bool.false_eq_true, ↓reduceIte, wpS, wantedA, okDst, Nat.reduceLT, decide_true, step1, isOwnCall, hxOp, px, AS.eval, AS.get, Lift.look, reduceCtorEq, Nat.reduceEqDiff, Option.getD_some, AS.put, dropKey, Nat.succ_ne_zero, pcall, ty43, plen, strL_len, okLen, and_self, isNilC, pbinP, pbinI, Int.ofNat_lt, hlt, thenQ, isB, tmpOf, asB, Has, hasAll, and_true, true_and]
    refine SW.seq (SW.block (SW.run [] _ ?_))
    simp only [wpC, Bool.false_eq_true, ↓reduceIte, wpS, stops, wantedA, okDst, Nat.reduceLT, decide_true, step1, isOwnCall, hxOp, px, AS.eval, AS.get, Lift.look, Nat.reduceEqDiff, reduceCtorEq, Option.getD_some, AS.put, dropKey, Nat.succ_ne_zero, pindexAddr, ty43, ty9, ne_eq, not_false_eq_true, Int.natCast_nonneg, Int.toNat_natCast, strL_len, hlt, and_self, hg, pload, okOne, TK.isAgg, beq_self_eq_true, Bool.or_true, List.length_cons, List.length_nil, Nat.zero_add, Nat.le_refl, Lift.valOf, List.take_succ_cons, List.take_nil, List.getD_cons_zero, isFlt, isNilC, pbinP, pbinS, inQ, thenQ, true_and]
    refine ⟨by omega, ?_⟩
    refine SW.run [] _ ?_
    simp only [wpC, Bool.false_eq_true, ↓reduceIte, wpS, stops, wantedA, okDst, Nat.reduceLT, decide_true, step1, isOwnCall, hxOp, px, AS.eval, AS.get, Lift.look, Nat.reduceEqDiff, reduceCtorEq, Option.getD_some, isFlt, ty3, AS.put, dropKey, isNilC, pbinP, ofConst, ofVal, pbinI, hw, thenQ, Nat.succ_ne_zero, true_and]
    exact ⟨i + 1, hlt, by omega, by rw [hfx], rfl⟩
  · obtain rfl : i = l.length := by omega
    simp only [wpC, mayStop, stops, isFlt, Specs.has, Specs.hasO, Bool.or_false, Specs.hasH, Bool.not_false, List.any_cons, List.any_nil, Bool.false_eq_true, ↓reduceIte, wpS, wantedA, okDst, Nat.reduceLT, decide_true, step1, isOwnCall, hxOp, px, AS.eval, AS.get, Lift.look, reduceCtorEq, Nat.reduceEqDiff, Option.getD_some, AS.put, dropKey, Nat.succ_ne_zero, pcall, ty43, plen, strL_len, okLen, and_self, isNilC, pbinP, pbinI, Int.ofNat_lt, Nat.lt_irrefl, decide_false, thenQ, isB, tmpOf, asB, inQ, true_and]
    refine SW.run [] _ ?_
    simp only [wpC, mayStop, stops, isFlt, Specs.has, Specs.hasO, Bool.or_false, Specs.hasH, Bool.not_false, List.any_cons, List.any_nil, Bool.false_eq_true, ↓reduceIte, wpS, wantedA, okDst, Nat.reduceLT, decide_true, step1, isOwnCall, hxOp, px, AS.eval, AS.get, Lift.look, Nat.reduceEqDiff, reduceCtorEq, List.take_length, Option.getD_some, AS.put, dropKey, thenQ, RPost, sres, Tryz.results26, sresL, sres1, Option.some.injEq, Ret_fin, HTo_self, and_true, exists_eq_left', and_self]
def sWhole : List PV → Prop × PV
  | [.list 1 xs] => match unS xs with
    | some l => (l.length ≤ 1000000000 ∧ l.flatten.length ≤ 1000000000, .str l.flatten)
    | none => PBad
  | _ => PBad
noncomputable def eWhole : SpecE env := ⟨26, sWhole, fun args h hc => by
  unfold sWhole at hc ⊢
  split at hc
  · split at hc
    · rename_i l hl; rw [unS_spec hl]; exact .inl (Whole_ok l h hc.1 hc.2)
    · exact hc.elim
  · exact hc.elim⟩
def endB (l : List UInt8) : Bool := l.getLast? == some 10
theorem suffix_10 (l : List UInt8) : suffixS l [10] = endB l := by
  unfold suffixS endB
  rcases List.eq_nil_or_concat l with rfl | ⟨p, b, rfl⟩
  · rfl
  · simp
def sLB (g : List UInt8 → Bool) : List PV → Prop × PV
  | [.str l] => (l.length ≤ 1000000000, .bool (g l))
  | _ => PBad
theorem Ended_ok (l : List UInt8) (h : Heap) (hl : l.length ≤ 1000000000) : SCalls env 78 [.str l] h (Ret (.bool (endB l)) h) := by
  refine SCalls.body Tryz.func78 rfl rfl (by simp [Tryz.ntmps78]) ?_
  rcases List.eq_nil_or_concat l with rfl | ⟨p, b, rfl⟩
  · refine SW.run [] _ ?_
    simp only [wpC, mayStop, stops, isFlt, Specs.has, Specs.hasO, Bool.or_false, Specs.hasH, Bool.not_false, List.any_cons, List.any_nil, Bool.false_eq_true, ↓reduceIte, wpS, wantedA, okDst, Tryz.ntmps78, Nat.reduceLT, decide_true, step1, isOwnCall, hxOp, px, AS.eval, ofConst, ofVal, thenQ, ty3, AS.put, enumA, dropKey, reduceCtorEq, AS.get, Lift.look, Nat.succ_ne_zero, Option.getD_some, Nat.reduceEqDiff, isNilC, pbinP, pbinS, beq_self_eq_true, Bool.not_true, List.getElem?_toArray, List.getElem?_cons_succ, List.getElem?_cons_zero, Option.bind_some, beq_ft, Option.some.injEq, ppick_false, RPost, sres, Tryz.results78, sresL, sres1, endB, Ret_fin, HTo_self, and_true, exists_eq_left', true_and]
    rfl
  · rw [List.concat_eq_append] at *
    have e1 : ((p ++ [b]) != ([] : List UInt8)) = true := by simp
    have hll : (p ++ [b]).length = p.length + 1 := by simp
    have hw : IntKind.i64.wrap ((((p ++ [b]).length : Nat) : Int) - 1) = ((p.length : Nat) : Int) := by rw [w64 (by omega) (by omega)]; omega
    have hg : (p ++ [b]).getD p.length 0 = b := by simp
    have hp : p.length < (p ++ [b]).length := by simp
    refine SW.run [] _ ?_
    simp only [wpC, mayStop, stops, isFlt, Specs.has, Specs.hasO, Bool.or_false, Specs.hasH, Bool.not_false, List.any_cons, List.any_nil, Bool.false_eq_true, ↓reduceIte, wpS, wantedA, okDst, Tryz.ntmps78, Nat.reduceLT, decide_true, step1, isOwnCall, hxOp, px, AS.eval, ofConst, ofVal, thenQ, ty3, AS.put, enumA, dropKey, reduceCtorEq, AS.get, Lift.look, Nat.succ_ne_zero, Option.getD_some, Nat.reduceEqDiff, isNilC, pbinP, pbinS, List.getElem?_toArray, List.getElem?_cons_succ, List.getElem?_cons_zero, Option.bind_some, Option.some.injEq, pcall, ty9, plen, okLen, and_self, pbinI, hw, pindex, Int.natCast_nonneg, Int.toNat_natCast, hp, hg, byte10, ppick_bool, RPost, sres, Tryz.results78, sresL, sres1, endB, Ret_fin, HTo_self, and_true, exists_eq_left', true_and, pflt, peq, ty5, peqK, psame, false_and, and_false, PBad]
    simp
noncomputable def eEnded : SpecE env := ⟨78, sLB endB, fun args h hc => by
  unfold sLB at hc ⊢
  split at hc
  · rename_i l; exact .inl (Ended_ok l h hc)
  · exact hc.elim⟩
def lineB (l : List UInt8) : Bool := !l.isEmpty && !l.dropLast.contains 10
set_option maxHeartbeats 1000000 in
theorem Single_ok (l : List UInt8) (h : Heap) (hl : l.length ≤ 1000000000) : SCalls env 109 [.str l] h (Ret (.bool (lineB l)) h) := by
  refine SCalls.body Tryz.func109 rfl rfl (by simp [Tryz.ntmps109]) ?_
  refine SW.seq (SW.run [] _ ?_)
  simp only [wpC, Bool.false_eq_true, ↓reduceIte, wpS, stops, wantedA, okDst, Tryz.ntmps109, Nat.reduceLT, decide_true, step1, isOwnCall, hxOp, px, AS.eval, ofConst, ofVal, thenQ, AS.put, enumA, dropKey, reduceCtorEq, true_and]
  refine SW.seq (SW.seq (SW.run [] _ ?_))
  simp only [wpC, Bool.false_eq_true, ↓reduceIte, wpS, stops, wantedA, okDst, Nat.reduceLT, decide_true, step1, isOwnCall, hxOp, px, AS.eval, ofConst, ofVal, thenQ, AS.put, dropKey, Nat.reduceEqDiff, reduceCtorEq, true_and]
  refine SW.block (SW.loopK 17 (fun i : Nat => [(0, .str l), (3, .int .i64 (i : Nat))]) (fun _ => h) (fun i => i ≤ l.length - 1 ∧ 10 ∉ l.take i) (fun i => l.length - i) 0 ⟨Nat.zero_le _, by simp⟩ ?_ ?_)
  · simp only [Has, hasAll, AS.get, Lift.look, Nat.succ_ne_zero, ↓reduceIte, Option.getD_some, Int.cast_ofNat_Int, and_self]
  rintro i ⟨hi, hno⟩
  have hw : IntKind.i64.wrap ((i : Int) + 1) = ((i + 1 : Nat) : Int) := by rw [w64 (by omega) (by omega)]; rfl
  refine SW.seq (SW.run [] _ ?_)
  by_cases hlt : i + 1 < l.length
  · have hlt' : ((i + 1 : Nat) : Int) < (l.length : Int) := by omega
    have hlt2 : (i : Int) < (l.length : Int) := by omega
    have hlt3 : i < l.length := by omega
    have hg : l.getD i 0 = l[i] := by rw [List.getD_eq_getElem?_getD, List.getElem?_eq_getElem hlt3]; rfl
    simp only [wpC, mayStop, stops, isFlt, Specs.has, Specs.hasO, Bool.or_false, Specs.hasH, Bool.not_false, List.any_cons, ty3, List.any_nil, Bool.false_eq_true, ↓reduceIte, wpS, wantedA, okDst, Nat.reduceLT, decide_true, step1, isOwnCall, hxOp, px, AS.eval, AS.get, Lift.look, reduceCtorEq, Option.getD_some, AS.put, dropKey, Nat.reduceEqDiff, isNilC, pbinP, ofConst, ofVal, pbinI, hw, Nat.succ_ne_zero, pcall, ty9, plen, okLen, and_self, hlt', thenQ, isB, tmpOf, asB, Has, hasAll, and_true, true_and]
    refine SW.seq (SW.block (SW.run [] _ ?_))
    cases e : (l[i] == 10)
    · simp only [wpC, mayStop, stops, isFlt, Specs.has, Specs.hasO, Bool.or_false, Specs.hasH, Bool.not_false, List.any_cons, List.any_nil, Bool.false_eq_true, ↓reduceIte, wpS, wantedA, okDst, Nat.reduceLT, decide_true, step1, isOwnCall, hxOp, px, AS.eval, AS.get, Lift.look, Nat.succ_ne_zero, Option.getD_some, AS.put, dropKey, Nat.reduceEqDiff, reduceCtorEq, pindex, ty9, Int.natCast_nonneg, Int.toNat_natCast, hlt3, and_self, hg, isNilC, pbinP, ofConst, ofVal, pbinI, byte10, e, thenQ, isB, tmpOf, asB, inQ, true_and]
      refine SW.run [] _ ?_
      simp only [wpC, Bool.false_eq_true, ↓reduceIte, wpS, stops, wantedA, okDst, Nat.reduceLT, decide_true, step1, isOwnCall, hxOp, px, AS.eval, AS.get, Lift.look, Nat.reduceEqDiff, reduceCtorEq, Option.getD_some, isFlt, ty3, AS.put, dropKey, isNilC, pbinP, ofConst, ofVal, pbinI, hw, thenQ, Nat.succ_ne_zero, true_and]
      refine ⟨i + 1, ⟨by omega, ?_⟩, by omega, rfl⟩
      have e : l[i] ≠ 10 := by simpa using e
      show 10 ∉ l.take (i + 1)
      rw [List.take_succ_eq_append_getElem hlt3, List.mem_append, not_or]
      exact ⟨hno, fun k => e (List.mem_singleton.1 k).symm⟩
    · have hb : lineB l = false := by
        unfold lineB
        have e : l[i] = 10 := by simpa using e
        have hm : 10 ∈ l.dropLast := by
          rw [← e]
          have : i < l.dropLast.length := by rw [List.length_dropLast]; omega
          rw [show l[i] = l.dropLast[i] by rw [List.getElem_dropLast]]
          exact List.getElem_mem this
        simp [hm]
      simp only [wpC, mayStop, stops, isFlt, Specs.has, Specs.hasO, Bool.or_false, Specs.hasH, Bool.not_false, List.any_cons, List.any_nil, Bool.false_eq_true, ↓reduceIte, wpS, wantedA, okDst, Nat.reduceLT, decide_true, step1, isOwnCall, hxOp, px, AS.eval, AS.get, Lift.look, Nat.succ_ne_zero, Option.getD_some, AS.put, dropKey, Nat.reduceEqDiff, reduceCtorEq, pindex, ty9, Int.natCast_nonneg, Int.toNat_natCast, hlt3, and_self, hg, isNilC, pbinP, ofConst, ofVal, pbinI, byte10, e, thenQ, isB, tmpOf, asB, inQ, RPost, sres, Tryz.results109, sresL, sres1, Option.some.injEq, hb, Ret_fin, HTo_self, and_true, exists_eq_left']
  · have hlt' : ¬ ((i + 1 : Nat) : Int) < (l.length : Int) := by omega
    have hi2 : i = l.length - 1 := by omega
    have hno : 10 ∉ l.dropLast := by rw [List.dropLast_eq_take, ← hi2]; exact hno
    simp only [wpC, mayStop, stops, isFlt, Specs.has, Specs.hasO, Bool.or_false, Specs.hasH, Bool.not_false, List.any_cons, ty3, List.any_nil, Bool.false_eq_true, ↓reduceIte, wpS, wantedA, okDst, Nat.reduceLT, decide_true, step1, isOwnCall, hxOp, px, AS.eval, AS.get, Lift.look, reduceCtorEq, Option.getD_some, AS.put, dropKey, Nat.reduceEqDiff, isNilC, pbinP, ofConst, ofVal, pbinI, hw, Nat.succ_ne_zero, pcall, ty9, plen, okLen, and_self, hlt', decide_false, thenQ, isB, tmpOf, asB, inQ, true_and]
    refine SW.run [] _ ?_
    simp only [wpC, mayStop, stops, isFlt, Specs.has, Specs.hasO, Bool.or_false, Specs.hasH, Bool.not_false, List.any_cons, List.any_nil, Bool.false_eq_true, ↓reduceIte, wpS, wantedA, okDst, Nat.reduceLT, decide_true, step1, isOwnCall, hxOp, px, AS.eval, AS.get, Lift.look, Nat.succ_ne_zero, Option.getD_some, AS.put, dropKey, Nat.reduceEqDiff, reduceCtorEq, isNilC, pbinP, ofConst, ofVal, pbinS, thenQ, RPost, sres, Tryz.results109, sresL, sres1, Option.some.injEq, Ret_fin, HTo_self, and_true, exists_eq_left', true_and]
    unfold lineB
    cases l <;> simp [bne] at hno ⊢
    exact hno
noncomputable def eSingle : SpecE env := ⟨109, sLB lineB, fun args h hc => by
  unfold sLB at hc ⊢
  split at hc
  · rename_i l; exact .inl (Single_ok l h hc)
  · exact hc.elim⟩
theorem WholeB_ok (l : List UInt8) (h : Heap) (hl : l.length ≤ 1000000000) : SCalls env 56 [.str l] h (Ret (.bool (lineB l)) h) := by
  refine SCalls.body Tryz.func56 rfl rfl (by simp [Tryz.ntmps56]) ?_
  cases l with
  | nil =>
    refine SW.run [eContains1] _ ?_
    simp only [wpC, mayStop, stops, isFlt, Specs.has, eContains1, Specs.hasO, Bool.or_false, Specs.hasH, List.any_cons, List.any_nil, Bool.false_eq_true, ↓reduceIte, wpS, wantedA, okDst, Tryz.ntmps56, Nat.reduceLT, decide_true, step1, isOwnCall, hxOp, px, AS.eval, ofConst, ofVal, thenQ, ty3, Bool.not_true, AS.put, enumA, dropKey, reduceCtorEq, AS.get, Lift.look, Nat.succ_ne_zero, Option.getD_some, Nat.reduceEqDiff, isNilC, pbinP, pbinS, beq_self_eq_true, List.getElem?_toArray, List.getElem?_cons_succ, List.getElem?_cons_zero, Option.bind_some, beq_ft, Option.some.injEq, ppick_false, RPost, sres, Tryz.results56, sresL, sres1, lineB, Ret_fin, HTo_self, and_true, exists_eq_left', true_and]
    rfl
  | cons b l =>
    obtain ⟨L, hL⟩ : ∃ L, L = b :: l := ⟨_, rfl⟩
    have e1 : (L != ([] : List UInt8)) = true := by rw [hL]; simp
    have hll : L.length = l.length + 1 := by rw [hL]; rfl
    rw [← hL] at hl ⊢
    have hw : IntKind.i64.wrap (((L.length : Nat) : Int) - 1) = ((l.length : Nat) : Int) := by rw [w64 (by omega) (by omega)]; omega
    have hle : ((l.length : Nat) : Int) ≤ (L.length : Int) := by omega
    have hdl : L.take l.length = L.dropLast := by rw [List.dropLast_eq_take, hll]; rfl
    refine SW.run [eContains1] _ ?_
    simp only [wpC, mayStop, stops, isFlt, Specs.has, eContains1, Specs.hasO, Bool.or_false, Specs.hasH, List.any_cons, List.any_nil, Bool.false_eq_true, ↓reduceIte, wpS, wantedA, okDst, Tryz.ntmps56, Nat.reduceLT, decide_true, step1, isOwnCall, hxOp, px, AS.eval, ofConst, ofVal, thenQ, ty3, Bool.not_true, AS.put, enumA, dropKey, reduceCtorEq, AS.get, Lift.look, Nat.succ_ne_zero, Option.getD_some, Nat.reduceEqDiff, isNilC, pbinP, pbinS, List.getElem?_toArray, List.getElem?_cons_succ, List.getElem?_cons_zero, Option.bind_some, Option.some.injEq, pcall, ty9, plen, okLen, and_self, pbinI, hw, pslice, pB, Int.cast_ofNat_Int, Int.reduceLE, Int.natCast_nonneg, hle, Int.reduceToNat, Int.toNat_natCast, hdl, List.drop_zero, okArg, List.all_cons, List.all_nil, Bool.and_true, Specs.at, List.map_cons, List.map_nil, sContains1, pun, ppick_bool, RPost, sres, Tryz.results56, sresL, sres1, lineB, Ret_fin, HTo_self, and_true, exists_eq_left', true_and, PBad, false_and, and_false, pflt]
    rw [hL]
    rfl
noncomputable def eWholeB : SpecE env := ⟨56, sLB lineB, fun args h hc => by
  unfold sLB at hc ⊢
  split at hc
  · rename_i l; exact .inl (WholeB_ok l h hc)
  · exact hc.elim⟩
end Go.Proofs.YtincpomenogppaaGreatDoor
