/- Contracts of functions that the law reaches. -/
import Derived.Test.YtincpomenogppaaGreatDoorT8
set_option linter.unusedSimpArgs false
set_option linter.unusedVariables false
namespace Go.Proofs.YtincpomenogppaaGreatDoor
open Go Go.RowKit Go.Proofs.YtincpomenogppaaGreatDoor Go.Proofs.YtincpomenogppaaGreatDoor.Lift
set_option maxRecDepth 100000

def isC (c : Int) : Bool := decide (0 ≤ c ∧ c ≤ 1114111 ∧ (c < 55296 ∨ 57343 < c))
def sIs : List PV → Prop × PV
  | [.int .i64 c] => (True, .bool (isC c))
  | _ => PBad
theorem Is_ok (c : Int) (h : Heap) : SCalls env 148 [.int .i64 c] h (Ret (.bool (isC c)) h) := by
  refine SCalls.body Tryz.func148 rfl rfl (by simp [Tryz.ntmps148]) (SW.run [] _ ?_)
  by_cases h0 : 0 ≤ c <;> by_cases h1 : c ≤ 1114111 <;> by_cases h2 : c < 55296 <;> by_cases h3 : 57343 < c
  all_goals
    simp only [wpC, mayStop, stops, isFlt, Specs.has, Specs.hasO, Bool.or_false, Specs.hasH, Bool.not_false, List.any_cons, List.any_nil, Bool.false_eq_true, ↓reduceIte, wpS, wantedA, okDst, Tryz.ntmps148, Nat.reduceLT, decide_true, step1, isOwnCall, hxOp, px, AS.eval, ofConst, ofVal, thenQ, AS.put, enumA, dropKey, reduceCtorEq, AS.get, Lift.look, Nat.succ_ne_zero, Option.getD_some, Nat.reduceEqDiff, isNilC, pbinP, pbinI, h0, List.getElem?_toArray, List.getElem?_cons_succ, List.getElem?_cons_zero, Option.bind_some, beq_self_eq_true, h1, ppick_bool, h2, beq_tf, Option.some.injEq, ppick_true, RPost, sres, Tryz.results148, sresL, sres1, isC, h3, or_self, and_self, Ret_fin, HTo_self, and_true, exists_eq_left', or_false, decide_false, or_true, and_false, beq_ft, ppick_false]
noncomputable def eIs : SpecE env := ⟨148, sIs, fun args h hc => by
  unfold sIs at hc ⊢
  split at hc
  · rename_i c; exact .inl (Is_ok c h)
  · exact hc.elim⟩
def encR (c : Int) : List UInt8 :=
  if c < 128 then [u8of c]
  else if c < 2048 then [u8of (192 + c.tdiv 64), u8of (128 + c.tmod 64)]
  else if c < 65536 then [u8of (224 + c.tdiv 4096), u8of (128 + (c.tdiv 64).tmod 64), u8of (128 + c.tmod 64)]
  else [u8of (240 + c.tdiv 262144), u8of (128 + (c.tdiv 4096).tmod 64), u8of (128 + (c.tdiv 64).tmod 64), u8of (128 + c.tmod 64)]
def sEncode : List PV → Prop × PV
  | [.int .i64 c] => (0 ≤ c ∧ c ≤ 2147483647, .str (encR c))
  | _ => PBad
theorem Encode_ok (c : Int) (h : Heap) (h0 : 0 ≤ c) (h9 : c ≤ 2147483647) : SCalls env 77 [.int .i64 c] h (Ret (.str (encR c)) h) := by
  refine SCalls.body Tryz.func77 rfl rfl (by simp [Tryz.ntmps77]) (SW.run [] _ ?_)
  have hq : ∀ k : Nat, 0 < k → 0 ≤ c.tdiv k ∧ c.tdiv k ≤ c := fun k hk => by
    rw [Int.tdiv_eq_ediv_of_nonneg h0]
    exact ⟨Int.ediv_nonneg h0 (by omega), Int.ediv_le_self _ h0⟩
  have hm : ∀ (x : Int), 0 ≤ x → 0 ≤ x.tmod 64 ∧ x.tmod 64 < 64 := fun x hx => by
    rw [Int.tmod_eq_emod_of_nonneg hx]
    omega
  have q64 : 0 ≤ c.tdiv 64 ∧ c.tdiv 64 ≤ c := hq 64 (by decide)
  have q4096 : 0 ≤ c.tdiv 4096 ∧ c.tdiv 4096 ≤ c := hq 4096 (by decide)
  have q262144 : 0 ≤ c.tdiv 262144 ∧ c.tdiv 262144 ≤ c := hq 262144 (by decide)
  have m0 := hm c h0
  have m1 := hm _ q64.1
  have m2 := hm _ q4096.1
  by_cases h1 : c < 128
  · simp only [wpC, mayStop, stops, isFlt, Specs.has, Specs.hasO, Bool.or_false, Specs.hasH, Bool.not_false, List.any_cons, List.any_nil, Bool.false_eq_true, ↓reduceIte, wpS, wantedA, okDst, Tryz.ntmps77, Nat.reduceLT, decide_true, step1, isOwnCall, hxOp, px, AS.eval, ofConst, ofVal, thenQ, AS.put, enumA, dropKey, reduceCtorEq, AS.get, Lift.look, Nat.succ_ne_zero, Option.getD_some, Nat.reduceEqDiff, isNilC, pbinP, pbinI, h1, isB, tmpOf, asB, ty3, ty5, pconvH, pconv, wrap_byte, pbuildSlice, ty65, List.replicate, List.map_cons, List.map_nil, List.flatten_cons, List.flatten_nil, List.append_nil, pfill, PV.cells, List.length_cons, List.length_nil, Nat.zero_add, Nat.reduceMul, Nat.le_refl, and_self, splice, List.take_zero, List.nil_append, List.drop_succ_cons, List.drop_nil, Nat.reduceLeDiff, okZero, List.all_cons, Value.oneCell', List.all_nil, Bool.and_true, known, chunk, List.take_succ_cons, List.take_nil, ty9, unB, Int.natCast_nonneg, byte_lt_T, Int.toNat_natCast, UInt8.ofNat_toNat, RPost, sres, Tryz.results77, sresL, sres1, Option.some.injEq, encR, Ret_fin, HTo_self, and_true, exists_eq_left']
  · by_cases h2 : c < 2048
    · simp only [wpC, mayStop, stops, isFlt, Specs.has, Specs.hasO, Bool.or_false, Specs.hasH, Bool.not_false, List.any_cons, List.any_nil, Bool.false_eq_true, ↓reduceIte, wpS, wantedA, okDst, Tryz.ntmps77, Nat.reduceLT, decide_true, step1, isOwnCall, hxOp, px, AS.eval, ofConst, ofVal, thenQ, AS.put, enumA, dropKey, reduceCtorEq, AS.get, Lift.look, Nat.succ_ne_zero, Option.getD_some, Nat.reduceEqDiff, isNilC, pbinP, pbinI, h1, decide_false, isB, tmpOf, asB, ty3, h2, ne_eq, Int.reduceEq, not_false_eq_true, and_self, ty5, pconvH, pconv, wrap_byte, pbuildSlice, ty65, List.replicate, List.map_cons, List.map_nil, List.flatten_cons, List.flatten_nil, List.append_nil, List.cons_append, List.nil_append, pfill, PV.cells, List.length_cons, List.length_nil, Nat.zero_add, Nat.reduceMul, Nat.reduceAdd, Nat.reduceLeDiff, splice, List.take_zero, List.drop_succ_cons, List.drop_zero, Nat.le_refl, List.take_succ_cons, List.drop_nil, okZero, List.all_cons, Value.oneCell', List.all_nil, Bool.and_true, known, chunk, List.take_nil, ty9, unB, Int.natCast_nonneg, byte_lt_T, Int.toNat_natCast, UInt8.ofNat_toNat, RPost, sres, Tryz.results77, sresL, sres1, Option.some.injEq, encR, Ret_fin, HTo_self, and_true, exists_eq_left', true_and]
      rw [w64 (n := c.tdiv 64) (by omega) (by omega), w64 (n := 192 + c.tdiv 64) (by omega) (by omega), w64 (n := 128 + c.tmod 64) (by omega) (by omega)]
    · by_cases h3 : c < 65536
      · simp only [wpC, mayStop, stops, isFlt, Specs.has, Specs.hasO, Bool.or_false, Specs.hasH, Bool.not_false, List.any_cons, List.any_nil, Bool.false_eq_true, ↓reduceIte, wpS, wantedA, okDst, Tryz.ntmps77, Nat.reduceLT, decide_true, step1, isOwnCall, hxOp, px, AS.eval, ofConst, ofVal, thenQ, AS.put, enumA, dropKey, reduceCtorEq, AS.get, Lift.look, Nat.succ_ne_zero, Option.getD_some, Nat.reduceEqDiff, isNilC, pbinP, pbinI, h1, decide_false, isB, tmpOf, asB, ty3, h2, h3, ne_eq, Int.reduceEq, not_false_eq_true, and_self, ty5, pconvH, pconv, wrap_byte, pbuildSlice, ty65, List.replicate, List.map_cons, List.map_nil, List.flatten_cons, List.flatten_nil, List.append_nil, List.cons_append, List.nil_append, pfill, PV.cells, List.length_cons, List.length_nil, Nat.zero_add, Nat.reduceMul, Nat.reduceAdd, Nat.reduceLeDiff, splice, List.take_zero, List.drop_succ_cons, List.drop_zero, List.take_succ_cons, Nat.le_refl, List.drop_nil, okZero, List.all_cons, Value.oneCell', List.all_nil, Bool.and_true, known, chunk, List.take_nil, ty9, unB, Int.natCast_nonneg, byte_lt_T, Int.toNat_natCast, UInt8.ofNat_toNat, RPost, sres, Tryz.results77, sresL, sres1, Option.some.injEq, encR, Ret_fin, HTo_self, and_true, exists_eq_left', true_and]
        rw [w64 (n := c.tdiv 4096) (by omega) (by omega), w64 (n := c.tdiv 64) (by omega) (by omega), w64 (n := 224 + c.tdiv 4096) (by omega) (by omega), w64 (n := 128 + (c.tdiv 64).tmod 64) (by omega) (by omega), w64 (n := 128 + c.tmod 64) (by omega) (by omega)]
      · simp only [wpC, mayStop, stops, isFlt, Specs.has, Specs.hasO, Bool.or_false, Specs.hasH, Bool.not_false, List.any_cons, List.any_nil, Bool.false_eq_true, ↓reduceIte, wpS, wantedA, okDst, Tryz.ntmps77, Nat.reduceLT, decide_true, step1, isOwnCall, hxOp, px, AS.eval, ofConst, ofVal, thenQ, AS.put, enumA, dropKey, reduceCtorEq, AS.get, Lift.look, Nat.succ_ne_zero, Option.getD_some, Nat.reduceEqDiff, isNilC, pbinP, pbinI, h1, decide_false, isB, tmpOf, asB, ty3, h2, h3, ne_eq, Int.reduceEq, not_false_eq_true, and_self, ty5, pconvH, pconv, wrap_byte, pbuildSlice, ty65, List.replicate, List.map_cons, List.map_nil, List.flatten_cons, List.flatten_nil, List.append_nil, List.cons_append, List.nil_append, pfill, PV.cells, List.length_cons, List.length_nil, Nat.zero_add, Nat.reduceMul, Nat.reduceAdd, Nat.reduceLeDiff, splice, List.take_zero, List.drop_succ_cons, List.drop_zero, List.take_succ_cons, Nat.le_refl, List.drop_nil, okZero, List.all_cons, Value.oneCell', List.all_nil, Bool.and_true, known, chunk, List.take_nil, ty9, unB, Int.natCast_nonneg, byte_lt_T, Int.toNat_natCast, UInt8.ofNat_toNat, RPost, sres, Tryz.results77, sresL, sres1, Option.some.injEq, encR, Ret_fin, HTo_self, and_true, exists_eq_left', true_and]
        rw [w64 (n := c.tdiv 262144) (by omega) (by omega), w64 (n := c.tdiv 4096) (by omega) (by omega), w64 (n := c.tdiv 64) (by omega) (by omega), w64 (n := 240 + c.tdiv 262144) (by omega) (by omega), w64 (n := 128 + (c.tdiv 4096).tmod 64) (by omega) (by omega), w64 (n := 128 + (c.tdiv 64).tmod 64) (by omega) (by omega), w64 (n := 128 + c.tmod 64) (by omega) (by omega)]
noncomputable def eEncode : SpecE env := ⟨77, sEncode, fun args h hc => by
  unfold sEncode at hc ⊢
  split at hc
  · rename_i c; exact .inl (Encode_ok c h hc.1 hc.2)
  · exact hc.elim⟩
def contB (b : UInt8) : Bool := decide (128 ≤ ((b.toNat : Nat) : Int) ∧ ((b.toNat : Nat) : Int) ≤ 191)
def accC (l : List UInt8) (c0 : Int) : Nat → Int
  | 0 => c0
  | i + 1 => 64 * accC l c0 i + (l.getD (i + 1) 0).toNat - 128
def tailS (l : List UInt8) (n : Nat) (c0 : Int) : Int × Nat :=
  if l.length < n then (65533, 1)
  else if ((List.range (n - 1)).all fun j => contB (l.getD (j + 1) 0)) = true then
    if isC (accC l c0 (n - 1)) = true ∧ encR (accC l c0 (n - 1)) = l.take n then (accC l c0 (n - 1), n) else (65533, 1)
  else (65533, 1)
def firstS (l : List UInt8) : Int × Nat :=
  let b : Int := (l.getD 0 0).toNat
  if 192 ≤ b ∧ b < 224 then tailS l 2 (b - 192)
  else if 224 ≤ b ∧ b < 240 then tailS l 3 (b - 224)
  else if 240 ≤ b ∧ b < 248 then tailS l 4 (b - 240)
  else if 128 ≤ b then (65533, 1)
  else tailS l 1 b
def bd : Nat → Int
  | 0 => 256
  | k + 1 => 64 * bd k
theorem bd_le : ∀ k, k ≤ 3 → bd k ≤ 67108864
  | 0, _ => by decide
  | 1, _ => by decide
  | 2, _ => by decide
  | 3, _ => by decide
  | k + 4, h => by omega
def resF (x : Int × Nat) : PV := .tuple [.int .i64 x.1, .int .i64 x.2]
def sFirst : List PV → Prop × PV
  | [.str l] => (0 < l.length ∧ l.length ≤ 1000000000, resF (firstS l))
  | _ => PBad
theorem First_ok (l : List UInt8) (h : Heap) (h0 : 0 < l.length) (hl : l.length ≤ 1000000000) : SCalls env 117 [.str l] h (Ret (resF (firstS l)) h) := by
  refine SCalls.body Tryz.func117 rfl rfl (by simp [Tryz.ntmps117]) ?_
  refine SW.seq (SW.run [] _ ?_)
  simp only [wpC, Bool.false_eq_true, ↓reduceIte, wpS, stops, wantedA, okDst, Tryz.ntmps117, Nat.reduceLT, decide_true, step1, isOwnCall, hxOp, px, AS.eval, ofConst, ofVal, AS.put, enumA, dropKey, reduceCtorEq, thenQ, Nat.reduceEqDiff, true_and]
  refine SW.seq (SW.run [] _ ?_)
  simp only [wpC, Bool.false_eq_true, ↓reduceIte, wpS, stops, wantedA, okDst, Nat.reduceLT, decide_true, step1, isOwnCall, hxOp, px, AS.eval, ofConst, ofVal, thenQ, AS.put, dropKey, Nat.reduceEqDiff, reduceCtorEq, true_and]
  refine SW.seq (SW.run [] _ ?_)
  simp only [wpC, Bool.false_eq_true, ↓reduceIte, wpS, stops, wantedA, okDst, Nat.reduceLT, decide_true, step1, isOwnCall, hxOp, px, AS.eval, AS.get, Lift.look, Nat.succ_ne_zero, Option.getD_some, AS.put, dropKey, Nat.reduceEqDiff, reduceCtorEq, pindex, ty9, ofConst, ofVal, Int.reduceLE, Int.reduceToNat, true_and, ty5, ty3, pconvH, pconv, w64_byte, thenQ]
  refine ⟨h0, ?_⟩
  have hb := byte_lt (l.getD 0 0)
  refine SW.cut (fun a => ∃ (n : Nat) (c0 : Int), firstS l = tailS l n c0 ∧ 1 ≤ n ∧ n ≤ 4 ∧ 0 ≤ c0 ∧ c0 < 256 ∧ Has a 76 [(0, .str l), (4, .int .i64 n), (5, .int .i64 c0)] h) ?_ ?_
  · refine SW.run [] _ ?_
    unfold firstS
    by_cases b192 : 192 ≤ (((l.getD 0 0).toNat : Nat) : Int)
    · by_cases b224 : (((l.getD 0 0).toNat : Nat) : Int) < 224
      · simp only [wpC, mayStop, stops, isFlt, Specs.has, Specs.hasO, Bool.or_false, Specs.hasH, Bool.not_false, List.any_cons, List.any_nil, Bool.false_eq_true, ↓reduceIte, wpS, wantedA, okDst, Nat.reduceLT, decide_true, step1, isOwnCall, hxOp, px, AS.eval, AS.get, Lift.look, Option.getD_some, AS.put, dropKey, Nat.reduceEqDiff, reduceCtorEq, isNilC, pbinP, ofConst, ofVal, pbinI, b192, List.getElem?_toArray, List.getElem?_cons_succ, List.getElem?_cons_zero, Option.bind_some, beq_self_eq_true, b224, ppick_bool, thenQ, isB, tmpOf, asB, ty3, and_self, Has, hasAll, Nat.succ_ne_zero, and_true, true_and]
        exact ⟨2, _, rfl, by omega, by omega, by omega, by omega, rfl, by rw [w64 (by omega) (by omega)]⟩
      · have b224' : 224 ≤ (((l.getD 0 0).toNat : Nat) : Int) := by omega
        by_cases b240 : (((l.getD 0 0).toNat : Nat) : Int) < 240
        · simp only [wpC, mayStop, stops, isFlt, Specs.has, Specs.hasO, Bool.or_false, Specs.hasH, Bool.not_false, List.any_cons, List.any_nil, Bool.false_eq_true, ↓reduceIte, wpS, wantedA, okDst, Nat.reduceLT, decide_true, step1, isOwnCall, hxOp, px, AS.eval, AS.get, Lift.look, Option.getD_some, AS.put, dropKey, Nat.reduceEqDiff, reduceCtorEq, isNilC, pbinP, ofConst, ofVal, pbinI, b192, List.getElem?_toArray, List.getElem?_cons_succ, List.getElem?_cons_zero, Option.bind_some, beq_self_eq_true, b224, decide_false, ppick_bool, thenQ, isB, tmpOf, asB, b224', b240, ty3, and_false, and_self, Has, hasAll, Nat.succ_ne_zero, and_true, true_and]
          exact ⟨3, _, rfl, by omega, by omega, by omega, by omega, rfl, by rw [w64 (by omega) (by omega)]⟩
        · have b240' : 240 ≤ (((l.getD 0 0).toNat : Nat) : Int) := by omega
          by_cases b248 : (((l.getD 0 0).toNat : Nat) : Int) < 248
          · simp only [wpC, mayStop, stops, isFlt, Specs.has, Specs.hasO, Bool.or_false, Specs.hasH, Bool.not_false, List.any_cons, List.any_nil, Bool.false_eq_true, ↓reduceIte, wpS, wantedA, okDst, Nat.reduceLT, decide_true, step1, isOwnCall, hxOp, px, AS.eval, AS.get, Lift.look, Option.getD_some, AS.put, dropKey, Nat.reduceEqDiff, reduceCtorEq, isNilC, pbinP, ofConst, ofVal, pbinI, b192, List.getElem?_toArray, List.getElem?_cons_succ, List.getElem?_cons_zero, Option.bind_some, beq_self_eq_true, b224, decide_false, ppick_bool, thenQ, isB, tmpOf, asB, b224', b240, b240', b248, ty3, and_false, and_self, Has, hasAll, Nat.succ_ne_zero, and_true, true_and]
            exact ⟨4, _, rfl, by omega, by omega, by omega, by omega, rfl, by rw [w64 (by omega) (by omega)]⟩
          · have b128 : 128 ≤ (((l.getD 0 0).toNat : Nat) : Int) := by omega
            simp only [wpC, mayStop, stops, isFlt, Specs.has, Specs.hasO, Bool.or_false, Specs.hasH, Bool.not_false, List.any_cons, List.any_nil, Bool.false_eq_true, ↓reduceIte, wpS, wantedA, okDst, Nat.reduceLT, decide_true, step1, isOwnCall, hxOp, px, AS.eval, AS.get, Lift.look, Option.getD_some, AS.put, dropKey, Nat.reduceEqDiff, reduceCtorEq, isNilC, pbinP, ofConst, ofVal, pbinI, b192, List.getElem?_toArray, List.getElem?_cons_succ, List.getElem?_cons_zero, Option.bind_some, beq_self_eq_true, b224, decide_false, ppick_bool, thenQ, isB, tmpOf, asB, b224', b240, b240', b248, b128, RPost, sres, Tryz.results117, sresL, sres1, Option.some.injEq, resF, and_false, Int.cast_ofNat_Int, Ret_fin, HTo_self, and_true, exists_eq_left', and_self]
            try rfl
    · have b224 : ¬ 224 ≤ (((l.getD 0 0).toNat : Nat) : Int) := by omega
      have b240 : ¬ 240 ≤ (((l.getD 0 0).toNat : Nat) : Int) := by omega
      by_cases b128 : 128 ≤ (((l.getD 0 0).toNat : Nat) : Int)
      · simp only [wpC, mayStop, stops, isFlt, Specs.has, Specs.hasO, Bool.or_false, Specs.hasH, Bool.not_false, List.any_cons, List.any_nil, Bool.false_eq_true, ↓reduceIte, wpS, wantedA, okDst, Nat.reduceLT, decide_true, step1, isOwnCall, hxOp, px, AS.eval, AS.get, Lift.look, Option.getD_some, AS.put, dropKey, Nat.reduceEqDiff, reduceCtorEq, isNilC, pbinP, ofConst, ofVal, pbinI, b192, decide_false, List.getElem?_toArray, List.getElem?_cons_succ, List.getElem?_cons_zero, Option.bind_some, beq_ft, Option.some.injEq, ppick_false, thenQ, isB, tmpOf, asB, b224, b240, b128, RPost, sres, Tryz.results117, sresL, sres1, resF, false_and, Int.cast_ofNat_Int, Ret_fin, HTo_self, and_true, exists_eq_left', and_self]
        try rfl
      · simp only [wpC, mayStop, stops, isFlt, Specs.has, Specs.hasO, Bool.or_false, Specs.hasH, Bool.not_false, List.any_cons, List.any_nil, Bool.false_eq_true, ↓reduceIte, wpS, wantedA, okDst, Nat.reduceLT, decide_true, step1, isOwnCall, hxOp, px, AS.eval, AS.get, Lift.look, Option.getD_some, AS.put, dropKey, Nat.reduceEqDiff, reduceCtorEq, isNilC, pbinP, ofConst, ofVal, pbinI, b192, decide_false, List.getElem?_toArray, List.getElem?_cons_succ, List.getElem?_cons_zero, Option.bind_some, beq_ft, Option.some.injEq, ppick_false, thenQ, isB, tmpOf, asB, b224, b240, b128, false_and, Has, hasAll, Nat.succ_ne_zero, and_true, true_and]
        exact ⟨1, _, rfl, by omega, by omega, by omega, by omega, rfl, rfl⟩
  rintro a ⟨n, c0, hf, hn1, hn4, hc0, hc1, ha⟩
  refine SW.norm ha ?_
  rw [hf]
  unfold tailS
  by_cases hnl : l.length < n
  · refine SW.run [] _ ?_
    simp only [wpC, mayStop, stops, isFlt, Specs.has, Specs.hasO, Bool.or_false, Specs.hasH, Bool.not_false, List.any_cons, List.any_nil, Bool.false_eq_true, ↓reduceIte, wpS, wantedA, okDst, Nat.reduceLT, decide_true, step1, isOwnCall, hxOp, px, AS.eval, AS.get, Lift.look, Option.getD_some, AS.put, dropKey, reduceCtorEq, Nat.reduceEqDiff, pcall, ty9, plen, okLen, and_self, isNilC, pbinP, pbinI, Int.ofNat_lt, hnl, thenQ, isB, tmpOf, asB, ofConst, ofVal, RPost, sres, Tryz.results117, sresL, sres1, Option.some.injEq, resF, Int.cast_ofNat_Int, Ret_fin, HTo_self, and_true, exists_eq_left']
    try rfl
  have hnl' : n ≤ l.length := by omega
  refine SW.seq (SW.run [] _ ?_)
  simp only [wpC, mayStop, stops, isFlt, Specs.has, Specs.hasO, Bool.or_false, Specs.hasH, Bool.not_false, List.any_cons, List.any_nil, Bool.false_eq_true, ↓reduceIte, wpS, wantedA, okDst, Nat.reduceLT, decide_true, step1, isOwnCall, hxOp, px, AS.eval, AS.get, Lift.look, Option.getD_some, AS.put, dropKey, reduceCtorEq, Nat.reduceEqDiff, pcall, ty9, plen, okLen, and_self, isNilC, pbinP, pbinI, Int.ofNat_lt, hnl, decide_false, thenQ, isB, tmpOf, asB, true_and]
  refine SW.seq (SW.seq (SW.run [] _ ?_))
  simp only [wpC, Bool.false_eq_true, ↓reduceIte, wpS, stops, wantedA, okDst, Nat.reduceLT, decide_true, step1, isOwnCall, hxOp, px, AS.eval, ofConst, ofVal, thenQ, AS.put, dropKey, Nat.reduceEqDiff, reduceCtorEq, true_and]
  refine SW.block (SW.loopK 76 (fun k : Nat => [(0, .str l), (4, .int .i64 n), (5, .int .i64 (accC l c0 k)), (6, .int .i64 ((k + 1 : Nat) : Int))]) (fun _ => h) (fun k => k ≤ n - 1 ∧ ((List.range k).all fun j => contB (l.getD (j + 1) 0)) = true ∧ 0 ≤ accC l c0 k ∧ accC l c0 k < bd k) (fun k => n - 1 - k) 0 ⟨by omega, rfl, hc0, hc1⟩ ?_ ?_)
  · simp only [Has, hasAll, AS.get, Lift.look, Nat.succ_ne_zero, ↓reduceIte, Option.getD_some, Nat.reduceEqDiff, reduceCtorEq, accC, Nat.zero_add, Int.cast_ofNat_Int, and_self]
  rintro k ⟨hk, hall, ha0, ha1⟩
  have hbd := bd_le k (by omega)
  refine SW.run [] _ ?_
  by_cases hlt : k + 1 < n
  · have hkl : k + 1 < l.length := by omega
    have hbb := byte_lt (l.getD (k + 1) 0)
    by_cases hcb : contB (l.getD (k + 1) 0) = true
    · have hcb' := hcb
      unfold contB at hcb'
      rw [decide_eq_true_eq] at hcb'
      have e1 : ¬ (((l.getD (k + 1) 0).toNat : Nat) : Int) < 128 := by omega
      have e2 : ¬ 191 < (((l.getD (k + 1) 0).toNat : Nat) : Int) := by omega
      simp only [wpC, mayStop, stops, isFlt, Specs.has, Specs.hasO, Bool.or_false, Specs.hasH, Bool.not_false, List.any_cons, List.any_nil, Bool.false_eq_true, ↓reduceIte, wpS, wantedA, okDst, Nat.reduceLT, decide_true, step1, isOwnCall, hxOp, px, AS.eval, AS.get, Lift.look, reduceCtorEq, Nat.reduceEqDiff, Option.getD_some, AS.put, dropKey, isNilC, pbinP, pbinI, Int.ofNat_lt, hlt, thenQ, isB, tmpOf, asB, ty3, Nat.succ_ne_zero, pindex, ty9, Int.natCast_nonneg, Int.toNat_natCast, hkl, and_self, ofConst, ofVal, e1, decide_false, List.getElem?_toArray, List.getElem?_cons_succ, List.getElem?_cons_zero, Option.bind_some, beq_self_eq_true, e2, ppick_bool, ty5, pconvH, pconv, w64_byte, inQ, Has, hasAll, and_true, true_and]
      refine ⟨k + 1, ⟨by omega, ?_, ?_, ?_⟩, by omega, ?_, ?_⟩
      · rw [List.range_succ, List.all_append, hall]
        simpa using hcb
      · simp only [accC]; omega
      · simp only [accC, bd]; omega
      · rw [w64 (n := 64 * accC l c0 k) (by omega) (by omega), w64 (n := 64 * accC l c0 k + _) (by omega) (by omega), w64 (by omega) (by omega)]
        rfl
      · rw [w64 (by omega) (by omega)]; rfl
    · have hfalse : ((List.range (n - 1)).all fun j => contB (l.getD (j + 1) 0)) = false := by
        rw [List.all_eq_false]
        exact ⟨k, List.mem_range.2 (by omega), hcb⟩
      unfold contB at hcb
      rw [decide_eq_true_eq] at hcb
      by_cases e1 : (((l.getD (k + 1) 0).toNat : Nat) : Int) < 128
      · simp only [wpC, mayStop, stops, isFlt, Specs.has, Specs.hasO, Bool.or_false, Specs.hasH, Bool.not_false, List.any_cons, List.any_nil, Bool.false_eq_true, ↓reduceIte, wpS, wantedA, okDst, Nat.reduceLT, decide_true, step1, isOwnCall, hxOp, px, AS.eval, AS.get, Lift.look, reduceCtorEq, Nat.reduceEqDiff, Option.getD_some, AS.put, dropKey, isNilC, pbinP, pbinI, Int.ofNat_lt, hlt, thenQ, isB, tmpOf, asB, ty3, Nat.succ_ne_zero, pindex, ty9, Int.natCast_nonneg, Int.toNat_natCast, hkl, and_self, ofConst, ofVal, e1, List.getElem?_toArray, List.getElem?_cons_succ, List.getElem?_cons_zero, Option.bind_some, beq_tf, Option.some.injEq, ppick_true, inQ, RPost, sres, Tryz.results117, sresL, sres1, resF, hfalse, Int.cast_ofNat_Int, Ret_fin, HTo_self, and_true, exists_eq_left']
        try rfl
      · have e2 : 191 < (((l.getD (k + 1) 0).toNat : Nat) : Int) := by omega
        simp only [wpC, mayStop, stops, isFlt, Specs.has, Specs.hasO, Bool.or_false, Specs.hasH, Bool.not_false, List.any_cons, List.any_nil, Bool.false_eq_true, ↓reduceIte, wpS, wantedA, okDst, Nat.reduceLT, decide_true, step1, isOwnCall, hxOp, px, AS.eval, AS.get, Lift.look, reduceCtorEq, Nat.reduceEqDiff, Option.getD_some, AS.put, dropKey, isNilC, pbinP, pbinI, Int.ofNat_lt, hlt, thenQ, isB, tmpOf, asB, ty3, Nat.succ_ne_zero, pindex, ty9, Int.natCast_nonneg, Int.toNat_natCast, hkl, and_self, ofConst, ofVal, e1, decide_false, List.getElem?_toArray, List.getElem?_cons_succ, List.getElem?_cons_zero, Option.bind_some, beq_self_eq_true, e2, ppick_bool, inQ, RPost, sres, Tryz.results117, sresL, sres1, Option.some.injEq, resF, hfalse, Int.cast_ofNat_Int, Ret_fin, HTo_self, and_true, exists_eq_left']
        try rfl
  · simp only [wpC, mayStop, stops, isFlt, Specs.has, Specs.hasO, Bool.or_false, Specs.hasH, Bool.not_false, List.any_cons, List.any_nil, Bool.false_eq_true, ↓reduceIte, wpS, wantedA, okDst, Nat.reduceLT, decide_true, step1, isOwnCall, hxOp, px, AS.eval, AS.get, Lift.look, reduceCtorEq, Nat.reduceEqDiff, Option.getD_some, AS.put, dropKey, isNilC, pbinP, pbinI, Int.ofNat_lt, hlt, decide_false, thenQ, isB, tmpOf, asB, inQ, true_and]
    have hkn : k = n - 1 := by omega
    subst hkn
    rw [if_pos hall]
    generalize accC l c0 (n - 1) = c at *
    by_cases hI : isC c = true
    · have hc9 : c ≤ 2147483647 := by omega
      by_cases hE : encR c = l.take n
      · rw [if_pos ⟨hI, hE⟩]
        refine SW.seq (SW.seq (SW.regionAny [eIs, eEncode] [[0, 1, 2, 3, 4, 5, 6, 7, 8, 9, 10]] rfl (by rfl) (by kernel_rfl) ?_))
        simp only [wpOL, wpO, LOp, List.getElem?_toArray, List.getElem?_cons_zero, okDst, Nat.reduceLT, decide_true, wantedA, ↓reduceIte, step1, isOwnCall, Bool.false_eq_true, hxOp, px, AS.eval, AS.get, Lift.look, Nat.reduceEqDiff, reduceCtorEq, Option.getD_some, List.getElem?_cons_succ, AS.put, dropKey, Specs.hasO, Specs.hasH, pcall, okArg, ofConst, ofVal, List.all_cons, List.all_nil, Bool.and_true, Specs.at, eIs, List.map_cons, List.map_nil, sIs, hI, and_self, pun, Bool.not_true, Option.bind_some, beq_self_eq_true, eEncode, sEncode, ha0, hc9, hE, Nat.succ_ne_zero, pslice, ty9, pB, Int.cast_ofNat_Int, Int.reduceLE, Int.natCast_nonneg, true_and, Int.reduceToNat, Int.toNat_natCast, List.drop_zero, isNilC, pbinP, pbinS, ppick_bool, thenQ]
        refine ⟨by omega, SW.run [] _ ?_⟩
        simp only [wpC, isB, AS.get, Lift.look, tmpOf, ↓reduceIte, Option.getD_some, asB, Bool.false_eq_true, thenQ, true_and]
        refine SW.run [] _ ?_
        simp only [wpC, mayStop, stops, isFlt, Specs.has, Specs.hasO, Bool.or_false, Specs.hasH, Bool.not_false, List.any_cons, List.any_nil, Bool.false_eq_true, ↓reduceIte, wpS, wantedA, okDst, Nat.reduceLT, decide_true, step1, isOwnCall, hxOp, px, AS.eval, AS.get, Lift.look, Nat.reduceEqDiff, reduceCtorEq, Option.getD_some, AS.put, dropKey, thenQ, RPost, sres, Tryz.results117, sresL, sres1, Option.some.injEq, resF, Ret_fin, HTo_self, and_true, exists_eq_left', and_self]
      · rw [if_neg (fun e => hE e.2)]
        have hE' : (encR c == l.take n) = false := by simpa using hE
        refine SW.seq (SW.seq (SW.regionAny [eIs, eEncode] [[0, 1, 2, 3, 4, 5, 6, 7, 8, 9, 10]] rfl (by rfl) (by kernel_rfl) ?_))
        simp only [wpOL, wpO, LOp, List.getElem?_toArray, List.getElem?_cons_zero, okDst, Nat.reduceLT, decide_true, wantedA, ↓reduceIte, step1, isOwnCall, Bool.false_eq_true, hxOp, px, AS.eval, AS.get, Lift.look, Nat.reduceEqDiff, reduceCtorEq, Option.getD_some, List.getElem?_cons_succ, AS.put, dropKey, Specs.hasO, Specs.hasH, pcall, okArg, ofConst, ofVal, List.all_cons, List.all_nil, Bool.and_true, Specs.at, eIs, List.map_cons, List.map_nil, sIs, hI, and_self, pun, Bool.not_true, Option.bind_some, beq_self_eq_true, eEncode, sEncode, ha0, hc9, Nat.succ_ne_zero, pslice, ty9, pB, Int.cast_ofNat_Int, Int.reduceLE, Int.natCast_nonneg, true_and, Int.reduceToNat, Int.toNat_natCast, List.drop_zero, isNilC, pbinP, pbinS, hE', Bool.not_false, ppick_bool, thenQ]
        refine ⟨by omega, SW.run [] _ ?_⟩
        simp only [wpC, isB, AS.get, Lift.look, tmpOf, ↓reduceIte, Option.getD_some, asB, mayStop, stops, isFlt, Specs.has, Specs.hasO, Bool.or_false, Specs.hasH, Bool.not_false, List.any_cons, List.any_nil, Bool.false_eq_true, wpS, wantedA, okDst, Nat.reduceLT, decide_true, step1, isOwnCall, hxOp, px, AS.eval, ofConst, ofVal, AS.put, dropKey, Nat.reduceEqDiff, reduceCtorEq, thenQ, RPost, sres, Tryz.results117, sresL, sres1, Option.some.injEq, resF, Int.cast_ofNat_Int, Ret_fin, HTo_self, and_true, exists_eq_left', and_self]
        try rfl
    · rw [if_neg (fun e => hI e.1)]
      have hI' : isC c = false := by simpa using hI
      refine SW.seq (SW.seq (SW.regionAny [eIs, eEncode] [[0, 1, 2, 3, 4, 5, 6, 7, 8, 9, 10]] rfl (by rfl) (by kernel_rfl) ?_))
      simp only [wpOL, wpO, LOp, List.getElem?_toArray, List.getElem?_cons_zero, okDst, Nat.reduceLT, decide_true, wantedA, ↓reduceIte, step1, isOwnCall, Bool.false_eq_true, hxOp, px, AS.eval, AS.get, Lift.look, Nat.reduceEqDiff, reduceCtorEq, Option.getD_some, List.getElem?_cons_succ, AS.put, dropKey, Specs.hasO, Specs.hasH, pcall, okArg, ofConst, ofVal, List.all_cons, List.all_nil, Bool.and_true, Specs.at, eIs, List.map_cons, List.map_nil, sIs, hI', and_self, pun, Bool.not_false, Option.bind_some, beq_tf, Option.some.injEq, ppick_true, thenQ, true_and]
      refine SW.run [] _ ?_
      simp only [wpC, isB, AS.get, Lift.look, tmpOf, ↓reduceIte, Option.getD_some, asB, mayStop, stops, isFlt, Specs.has, Specs.hasO, Bool.or_false, Specs.hasH, Bool.not_false, List.any_cons, List.any_nil, Bool.false_eq_true, wpS, wantedA, okDst, Nat.reduceLT, decide_true, step1, isOwnCall, hxOp, px, AS.eval, ofConst, ofVal, AS.put, dropKey, Nat.reduceEqDiff, reduceCtorEq, thenQ, RPost, sres, Tryz.results117, sresL, sres1, Option.some.injEq, resF, Int.cast_ofNat_Int, Ret_fin, HTo_self, and_true, exists_eq_left', and_self]
      try rfl
noncomputable def eFirst : SpecE env := ⟨117, sFirst, fun args h hc => by
  unfold sFirst at hc ⊢
  split at hc
  · rename_i l; exact .inl (First_ok l h hc.1 hc.2)
  · exact hc.elim⟩
end Go.Proofs.YtincpomenogppaaGreatDoor

namespace Go.Proofs.YtincpomenogppaaGreatDoor
open Go Go.RowKit Go.Proofs.YtincpomenogppaaGreatDoor Go.Proofs.YtincpomenogppaaGreatDoor.Lift
set_option maxRecDepth 100000

def elI (ns : List Int) : List (List PV) := ns.map fun n => [.int .i64 n]
theorem elI_len (ns : List Int) : (elI ns).length = ns.length := by simp [elI]
def decodeS : Nat → List UInt8 → List Int
  | 0, _ => []
  | n + 1, l => if 0 < l.length then (firstS l).1 :: decodeS n (l.drop (firstS l).2) else []
theorem tailS_le (l : List UInt8) (n : Nat) (c0 : Int) (h1 : 1 ≤ n) (h0 : 0 < l.length) : 1 ≤ (tailS l n c0).2 ∧ (tailS l n c0).2 ≤ l.length := by
  unfold tailS
  split
  · exact ⟨Nat.le_refl _, h0⟩
  · split
    · split
      · exact ⟨h1, by omega⟩
      · exact ⟨Nat.le_refl _, h0⟩
    · exact ⟨Nat.le_refl _, h0⟩
theorem firstS_le (l : List UInt8) (h0 : 0 < l.length) : 1 ≤ (firstS l).2 ∧ (firstS l).2 ≤ l.length := by
  unfold firstS
  dsimp only
  split
  · exact tailS_le _ _ _ (by omega) h0
  · split
    · exact tailS_le _ _ _ (by omega) h0
    · split
      · exact tailS_le _ _ _ (by omega) h0
      · split
        · exact ⟨Nat.le_refl _, h0⟩
        · exact tailS_le _ _ _ (by omega) h0
theorem decodeS_len : ∀ (n : Nat) (l : List UInt8), (decodeS n l).length ≤ n
  | 0, _ => Nat.le_refl _
  | n + 1, l => by
    unfold decodeS
    split
    · simp only [List.length_cons]
      exact Nat.succ_le_succ (decodeS_len n _)
    · exact Nat.zero_le _
def sDecode : List PV → Prop × PV
  | [.str l] => (l.length ≤ 1000000000, .list 1 (elI (decodeS l.length l)))
  | _ => PBad
theorem Decode_ok (l : List UInt8) (h : Heap) (hl : l.length ≤ 1000000000) : SCalls env 75 [.str l] h (Ret (.list 1 (elI (decodeS l.length l))) h) := by
  refine SCalls.body Tryz.func75 rfl rfl (by simp [Tryz.ntmps75]) ?_
  refine SW.seq (SW.run [] _ ?_)
  simp only [wpC, Bool.false_eq_true, ↓reduceIte, wpS, stops, wantedA, okDst, Tryz.ntmps75, Nat.reduceLT, decide_true, step1, isOwnCall, hxOp, px, AS.eval, ofConst, ofVal, thenQ, AS.put, enumA, dropKey, reduceCtorEq, true_and]
  refine SW.seq (SW.run [] _ ?_)
  simp only [wpC, Bool.false_eq_true, ↓reduceIte, wpS, stops, wantedA, okDst, Nat.reduceLT, decide_true, step1, isOwnCall, hxOp, px, AS.eval, ofConst, ofVal, thenQ, AS.put, dropKey, Nat.reduceEqDiff, reduceCtorEq, true_and]
  refine SW.seq (SW.block ?_)
  refine SW.loop (fun m a => ∃ (done : List Int) (rest : List UInt8) (v : PV), rest.length ≤ m ∧ done.length + m ≤ l.length ∧ done ++ decodeS m rest = decodeS l.length l ∧ Own h 3 1 (elI done) v a.h ∧ a.n = 22 ∧ hasAll a [(0, .str rest), (3, v)]) l.length ⟨[], l, .val (.slice none 0 0), Nat.le_refl _, by simp, rfl, Own.nil _ _ _, ?_⟩ ?_
  · simp only [hasAll, AS.get, Lift.look, Nat.succ_ne_zero, ↓reduceIte, Option.getD_some, and_self]
  rintro m a ⟨done, rest, v, h1, h2, h3, hown, hn, hs⟩
  refine SW.norm ⟨hn, rfl, hs⟩ ?_
  by_cases hr : 0 < rest.length
  · refine SW.run [eFirst] _ ?_
    simp only [wpC, mayStop, stops, isFlt, Specs.has, eFirst, Specs.hasO, Bool.or_false, Specs.hasH, List.any_cons, List.any_nil, Bool.false_eq_true, ↓reduceIte, wpS, wantedA, okDst, Nat.reduceLT, decide_true, step1, isOwnCall, hxOp, px, AS.eval, AS.get, Lift.look, Option.getD_some, AS.put, dropKey, reduceCtorEq, Nat.reduceEqDiff, pcall, ty9, plen, okLen, and_self, isNilC, pbinP, ofConst, ofVal, pbinI, Int.natCast_pos, hr, thenQ, isB, tmpOf, asB, Bool.not_true, Nat.succ_ne_zero, okArg, List.all_cons, List.all_nil, Bool.and_true, Specs.at, List.map_cons, List.map_nil, sFirst, true_and, resF, List.getElem?_cons_zero, List.getElem?_cons_succ, Bool.or_true, pbuildSlice, ty115, ty3, List.replicate, List.flatten_cons, List.flatten_nil, List.append_nil, pfill, PV.cells, List.length_cons, List.length_nil, Nat.zero_add, Nat.reduceMul, Nat.le_refl, splice, List.take_zero, List.nil_append, List.drop_succ_cons, List.drop_nil, Nat.reduceLeDiff, okZero, Value.oneCell', known, chunk, List.take_succ_cons, List.take_nil, hasAll, and_true]
    refine ⟨by omega, ?_⟩
    refine SWO.append (.tmp 14) (.tmp 16) 115 115 rfl ty115 rfl ty3 (by decide) rfl ty115 rfl hown (ys := elI [(firstS rest).1]) rfl (by rw [elI_len, elI_len]; simp; omega) (by rw [elI_len, elI_len]; simp [maxLen]; omega) rfl rfl ?_
    intro v' h' hown' _ _
    have hfl := firstS_le rest hr
    refine SWO.run [] 1000 ?_
    simp only [wpS, stops, Bool.false_eq_true, ↓reduceIte, wantedA, okDst, AS.put, dropKey, Nat.reduceEqDiff, reduceCtorEq, Nat.reduceLT, decide_true, step1, isOwnCall, hxOp, px, AS.eval, AS.get, Lift.look, Option.getD_some, thenQ, true_and]
    refine SW.run [] _ ?_
    simp only [wpC, Bool.false_eq_true, ↓reduceIte, wpS, stops, wantedA, okDst, Nat.reduceLT, decide_true, step1, isOwnCall, hxOp, px, AS.eval, AS.get, Lift.look, Nat.succ_ne_zero, Option.getD_some, AS.put, dropKey, Nat.reduceEqDiff, reduceCtorEq, pslice, ty9, pB, Int.natCast_nonneg, true_and, Int.toNat_natCast, List.take_length, inQ, thenQ]
    obtain ⟨m', rfl⟩ := Nat.exists_eq_succ_of_ne_zero (show m ≠ 0 by omega)
    refine ⟨by omega, m', by omega, done ++ [(firstS rest).1], rest.drop (firstS rest).2, v', ?_, ?_, ?_, ?_, rfl, rfl⟩
    · rw [List.length_drop]; omega
    · simp; omega
    · rw [← h3, decodeS, if_pos hr]; simp
    · simpa [elI] using hown'
  · refine SW.run [eFirst] _ ?_
    simp only [wpC, mayStop, stops, isFlt, Specs.has, eFirst, Specs.hasO, Bool.or_false, Specs.hasH, List.any_cons, List.any_nil, Bool.false_eq_true, ↓reduceIte, wpS, wantedA, okDst, Nat.reduceLT, decide_true, step1, isOwnCall, hxOp, px, AS.eval, AS.get, Lift.look, Option.getD_some, AS.put, dropKey, reduceCtorEq, Nat.reduceEqDiff, pcall, ty9, plen, okLen, and_self, isNilC, pbinP, ofConst, ofVal, pbinI, Int.natCast_pos, hr, decide_false, thenQ, isB, tmpOf, asB, inQ, true_and]
    refine SW.own_let 3 rfl hown ?_
    refine SW.run [] _ ?_
    simp only [wpC, mayStop, stops, isFlt, Specs.has, Specs.hasO, Bool.or_false, Specs.hasH, Bool.not_false, List.any_cons, List.any_nil, Bool.false_eq_true, ↓reduceIte, wpS, wantedA, okDst, AS.put, dropKey, Nat.reduceEqDiff, reduceCtorEq, Nat.reduceLT, decide_true, step1, isOwnCall, hxOp, px, AS.eval, AS.get, Lift.look, Option.getD_some, thenQ, RPost, sres, Tryz.results75, sresL, sres1, Option.some.injEq, Ret_fin, HTo_self, and_true, exists_eq_left', true_and]
    have h4 : decodeS m rest = [] := by
      cases m with
      | zero => rfl
      | succ m => rw [decodeS, if_neg hr]
    rw [h4, List.append_nil] at h3
    rw [h3]
noncomputable def eDecode : SpecE env := ⟨75, sDecode, fun args h hc => by
  unfold sDecode at hc ⊢
  split at hc
  · rename_i l; exact .inl (Decode_ok l h hc)
  · exact hc.elim⟩
end Go.Proofs.YtincpomenogppaaGreatDoor

namespace Go.Proofs.YtincpomenogppaaGreatDoor
open Go Go.RowKit Go.Proofs.YtincpomenogppaaGreatDoor Go.Proofs.YtincpomenogppaaGreatDoor.Lift
set_option maxRecDepth 100000

def partR (s : List UInt8) (n : Nat) : List UInt8 := (s.take n).drop (lastN s 10 n + 1).toNat
def placeR (s : List UInt8) (n : Nat) : PV := .tuple [.int .i64 (1 + ((s.take n).count 10 : Nat)), .int .i64 (1 + ((decodeS (partR s n).length (partR s n)).length : Nat))]
def sPlaceR : List PV → Prop × PV
  | [.str s, .int .i64 n] => (s.length ≤ 1000000000 ∧ 0 ≤ n ∧ n ≤ s.length, placeR s n.toNat)
  | _ => PBad
def sAwake : List PV → Prop × PV
  | [] => (True, .bool true)
  | _ => PBad
end Go.Proofs.YtincpomenogppaaGreatDoor
