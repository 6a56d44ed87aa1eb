/- Contracts of functions that the law reaches. -/
import Derived.Test.YthdmdeiaonkeoaaDoorT30
set_option linter.unusedSimpArgs false
set_option linter.unusedVariables false
namespace Go.Proofs.YthdmdeiaonkeoaaDoor
open Go Go.RowKit Go.Proofs.YthdmdeiaonkeoaaDoor Go.Proofs.YthdmdeiaonkeoaaDoor.Lift

/-! cpu.Parse -/
def stepW (u : Bool) (W : List (List UInt8)) : List (List UInt8) := if u = true ∧ 1 < W.length then W.drop 1 else W
def valW (u : Bool) (W : List (List UInt8)) : Int := if u = true ∧ 1 < W.length then atoiR ((W.drop 1).getD 0 []) else 0
def opW (W : List (List UInt8)) : Int := idxS namesT (W.getD 0 [])
def w1 (W : List (List UInt8)) : List (List UInt8) := stepW (hasB (usesS (opW W)) 97) W
def w2 (W : List (List UInt8)) : List (List UInt8) := stepW (hasB (usesS (opW W)) 98) (w1 W)
def w3 (W : List (List UInt8)) : List (List UInt8) := stepW (hasB (usesS (opW W)) 99) (w2 W)
def w4 (W : List (List UInt8)) : List (List UInt8) := stepW (hasB (usesS (opW W)) 105) (w3 W)
def aW' (W : List (List UInt8)) : Int := valW (hasB (usesS (opW W)) 97) W
def bW' (W : List (List UInt8)) : Int := valW (hasB (usesS (opW W)) 98) (w1 W)
def cW' (W : List (List UInt8)) : Int := valW (hasB (usesS (opW W)) 99) (w2 W)
def iW' (W : List (List UInt8)) : Int := valW (hasB (usesS (opW W)) 105) (w3 W)
/-- The words, and the instruction in its block, before round k. -/
def wK (W : List (List UInt8)) : Nat → List (List UInt8)
  | 0 => W
  | 1 => w1 W
  | 2 => w2 W
  | 3 => w3 W
  | _ => w4 W
def iK (W : List (List UInt8)) : Nat → AObj
  | 0 => instO (opW W) 0 0 0 0
  | 1 => instO (opW W) (aW' W) 0 0 0
  | 2 => instO (opW W) (aW' W) (bW' W) 0 0
  | 3 => instO (opW W) (aW' W) (bW' W) (cW' W) 0
  | _ => instO (opW W) (aW' W) (bW' W) (cW' W) (iW' W)
theorem stepW_len (u : Bool) {W : List (List UInt8)} (h : 1 ≤ W.length) : 1 ≤ (stepW u W).length ∧ (stepW u W).length ≤ W.length := by
  unfold stepW
  split
  · rename_i hc; rw [List.length_drop]; omega
  · exact ⟨h, Nat.le_refl _⟩
theorem wK_len {W : List (List UInt8)} (h : 1 ≤ W.length) (k : Nat) : 1 ≤ (wK W k).length ∧ (wK W k).length ≤ W.length := by
  have h1 := stepW_len (hasB (usesS (opW W)) 97) h
  have h2 := stepW_len (hasB (usesS (opW W)) 98) h1.1
  have h3 := stepW_len (hasB (usesS (opW W)) 99) h2.1
  have h4 := stepW_len (hasB (usesS (opW W)) 105) h3.1
  unfold wK
  split
  · omega
  · unfold w1; omega
  · unfold w2 w1; omega
  · unfold w3 w2 w1; omega
  · unfold w4 w3 w2 w1; omega
theorem wK_sub {W : List (List UInt8)} (k : Nat) : ∀ x ∈ wK W k, x ∈ W := by
  have hs : ∀ (u : Bool) (X : List (List UInt8)), ∀ x ∈ stepW u X, x ∈ X := fun u X x hx => by
    unfold stepW at hx
    split at hx
    · exact List.mem_of_mem_drop hx
    · exact hx
  have h1 : ∀ x ∈ w1 W, x ∈ W := hs _ _
  have h2 : ∀ x ∈ w2 W, x ∈ W := fun x hx => h1 x (hs _ _ x hx)
  have h3 : ∀ x ∈ w3 W, x ∈ W := fun x hx => h2 x (hs _ _ x hx)
  have h4 : ∀ x ∈ w4 W, x ∈ W := fun x hx => h3 x (hs _ _ x hx)
  unfold wK
  split
  · exact fun x hx => hx
  · exact h1
  · exact h2
  · exact h3
  · exact h4
theorem wK_le {W : List (List UInt8)} {n : Nat} (h : ∀ x ∈ W, x.length ≤ n) (k : Nat) : ∀ x ∈ wK W k, x.length ≤ n := fun x hx => h x (wK_sub k x hx)
theorem stepW_no {u : Bool} {X : List (List UInt8)} (h : u = false ∨ ¬ 1 < X.length) : stepW u X = X := by
  unfold stepW
  rw [if_neg]
  rintro ⟨a, b⟩
  rcases h with h | h
  · rw [h] at a; cases a
  · exact h b
theorem valW_no {u : Bool} {X : List (List UInt8)} (h : u = false ∨ ¬ 1 < X.length) : valW u X = 0 := by
  unfold valW
  rw [if_neg]
  rintro ⟨a, b⟩
  rcases h with h | h
  · rw [h] at a; cases a
  · exact h b
theorem stepW_yes {X : List (List UInt8)} (h : 1 < X.length) : stepW true X = X.drop 1 := by
  unfold stepW
  rw [if_pos ⟨rfl, h⟩]
theorem valW_yes {X : List (List UInt8)} (h : 1 < X.length) : valW true X = atoiR ((X.drop 1).getD 0 []) := by
  unfold valW
  rw [if_pos ⟨rfl, h⟩]
theorem split_le (sep : List UInt8) : ∀ (k : Nat) (s : List UInt8), ∀ x ∈ Lib.splitK sep 0 k s, x.length ≤ s.length
  | 0, s, x, hx => by
    have : x = s := List.mem_singleton.1 hx
    rw [this]
    exact Nat.le_refl _
  | k + 1, s, x, hx => by
    unfold Lib.splitK at hx
    split at hx
    · have : x = s := List.mem_singleton.1 hx
      rw [this]
      exact Nat.le_refl _
    · rcases List.mem_cons.1 hx with hx | hx
      · rw [hx, List.length_take]; omega
      · have := split_le sep k _ x hx
        rw [List.length_drop] at this
        omega
def pI (s : List UInt8) : List PV := let W := Lib.split s [32]; [.int .i64 (opW W), .int .i64 (aW' W), .int .i64 (bW' W), .int .i64 (cW' W), .int .i64 (iW' W)]
def pT (s : List UInt8) : List UInt8 := let W := Lib.split s [32]; textS (opW W) (aW' W) (bW' W) (cW' W) (iW' W)
def parseS (s : List UInt8) : PV := if s ≠ [] ∧ pT s = s then .tuple [.agg (pI s), .int .i64 0] else .tuple [.agg [.int .i64 0, .int .i64 0, .int .i64 0, .int .i64 0, .int .i64 0], .int .i64 9]
theorem namesL : (namesT.map PV.str).map (fun c => [c]) = strL namesT := by
  unfold strL
  rw [List.map_map]
  rfl
set_option maxRecDepth 100000 in
theorem Parse_ok (s : List UInt8) (h : Heap) (hs : s.length ≤ 100000) : SCalls env 29 [.str s] h (Ret (parseS s) h) := by
  have hwl := split_ne s [32]
  have hwm : ∀ x ∈ Lib.split s [32], x.length ≤ 100000 := fun x hx => Nat.le_trans (split_le [32] _ s x hx) hs
  refine SCalls.body Tryd.func29 rfl rfl (by simp [Tryd.ntmps29]) ?_
  refine SW.seq (SW.run [] _ ?_)
  simp only [wpC, Bool.false_eq_true, ↓reduceIte, wpS, stops, wantedA, okDst, Tryd.ntmps29, Nat.reduceLT, decide_true, step1, okAlloc, ty23, okZero, List.all_cons, Value.oneCell', List.all_nil, Bool.and_true, AS.put, enumA, dropKey, reduceCtorEq, isOwnCall, hxOp, px, AS.eval, ofConst, ofVal, thenQ, Nat.reduceEqDiff, zeroOf, List.map_cons, List.map_nil, List.length_cons, List.length_nil, Nat.zero_add, Nat.reduceAdd, true_and]
  intro r0 hr0
  have hs1 : s.length < 4294967281 := by omega
  refine SW.seq (SW.run [eSplit] _ ?_)
  simp only [wpC, Bool.false_eq_true, ↓reduceIte, wpS, stops, wantedA, okDst, Nat.reduceLT, decide_true, step1, isOwnCall, hxOp, px, AS.eval, AS.get, Lift.look, Nat.succ_ne_zero, Option.getD_some, Specs.has, eSplit, Specs.hasO, Nat.reduceLeDiff, Nat.reduceSub, reduceCtorEq, and_self, Bool.or_false, Bool.not_true, AS.put, dropKey, Nat.reduceEqDiff, pcall, okArg, ofConst, ofVal, List.all_cons, List.all_nil, Bool.and_true, Specs.at, List.map_cons, List.map_nil, sSplit, hs1, List.length_cons, List.length_nil, Nat.zero_add, Nat.le_refl, thenQ, true_and]
  generalize hW : Lib.split s [32] = W at hwl hwm ⊢
  have hN : 32 ≤ 1000000 := by decide
  refine SW.seq (SW.regionAny [eIndex] [[0, 1, 2, 3, 4, 5, 6, 7]] rfl (by rfl) (by kernel_rfl) ?_)
  simp only [wpOL, wpO, LOp, List.getElem?_toArray, List.getElem?_cons_zero, okDst, Nat.reduceLT, decide_true, wantedA, ↓reduceIte, step1, isOwnCall, Bool.false_eq_true, hxOp, px, pslice, ty74, AS.eval, gl1, ty9, Nat.reduceLeDiff, and_true, true_and, namesL, List.getElem?_cons_succ, AS.put, dropKey, Nat.reduceEqDiff, reduceCtorEq, AS.get, Lift.look, Option.getD_some, pindexAddr, ty80, ofConst, ofVal, ne_eq, Nat.succ_ne_zero, not_false_eq_true, Int.reduceLE, Int.reduceToNat, strL_len, strL_at W (show 0 < W.length by omega), pload, okOne, TK.isAgg, beq_self_eq_true, Bool.or_true, List.length_cons, List.length_nil, Nat.zero_add, Nat.le_refl, and_self, Lift.valOf, List.take_succ_cons, List.take_nil, List.getD_cons_zero, Specs.hasO, eIndex, Nat.reduceSub, pcall, okArg, List.all_cons, List.all_nil, Bool.and_true, Specs.at, List.map_cons, List.map_nil, sIndex, unS_strL, pbuild, ty23, pfill, placeOf, ty3, Option.map_some, PV.cells, Nat.reduceAdd, splice, List.take_zero, List.nil_append, List.drop_succ_cons, List.drop_zero, List.cons_append, Option.isSome_some, okZero, Value.oneCell', known, okAlloc, Heap.get_put, some_none, hx, zeroOf, known1, List.drop_nil, List.append_nil, thenQ]
  refine ⟨rfl, by omega, by decide, ?_⟩
  rintro r ⟨hrr, hr⟩
  have hrr0 : ¬ r0 = r := fun e => hrr e.symm
  have ho : idxS namesT (W.getD 0 []) = opW W := rfl
  refine SW.seq (SW.seq (SW.run [] _ ?_))
  simp only [wpC, Bool.false_eq_true, ↓reduceIte, wpS, stops, Specs.has, Specs.hasO, Bool.or_false, Bool.not_false, ho]
  refine SWO.call (.func 32) _ _ 32 #[] #[] rfl rfl rfl rfl rfl rfl (Fields_ok (r := r) (o := opW W) (a := 0) (b := 0) (c := 0) (i := 0) (Heap.put_same _ _ _)) rfl rfl ?_ (by rintro c h' ⟨e1, _⟩; cases e1)
  rintro u h' ⟨e1, rfl⟩
  injection e1 with e1
  subst e1
  refine SWO.run [] 1000 ?_
  simp only [wpS, stops, Bool.false_eq_true, ↓reduceIte, wantedA, okDst, AS.put, dropKey, Nat.reduceEqDiff, reduceCtorEq, Nat.reduceLT, decide_true, step1, isOwnCall, hxOp, px, AS.eval, ofConst, ofVal, thenQ, true_and]
  refine SW.block (SW.loopH 50 (fun k : Nat => [(0, .str s), (2, .val (.pointer (some ⟨r0, 0, none⟩))), (3, .int .i64 0), (4, .list 1 (strL (wK W k))), (5, .val (.pointer (some ⟨r, 0, none⟩))), (16, fieldsV r (opW W)), (17, .int .i64 (k : Nat))]) (fun k => (h.put r0 (.cells 23 5 [.int .i64 0, .int .i64 0, .int .i64 0, .int .i64 0, .int .i64 0])).put r (iK W k)) (fun k => k ≤ 4) (fun k => 4 - k) 0 (by omega) ?_ ?_)
  · simp only [hasAll, AS.get, Lift.look, Nat.succ_ne_zero, ↓reduceIte, Option.getD_some, Nat.reduceEqDiff, Int.cast_ofNat_Int, and_self, and_true, true_and]
    exact ⟨by rw [Heap.put_put]; exact HTo.refl _ _, rfl⟩
  rintro k hk4
  have hcase : k = 0 ∨ k = 1 ∨ k = 2 ∨ k = 3 ∨ k = 4 := by omega
  rcases hcase with rfl | rfl | rfl | rfl | rfl
  · have i0 : iK W 0 = .cells 23 5 [.int .i64 (opW W), .int .i64 0, .int .i64 0, .int .i64 0, .int .i64 0] := rfl
    have i1 : iK W 1 = .cells 23 5 [.int .i64 (opW W), .int .i64 (valW (hasB (usesS (opW W)) 97) (wK W 0)), .int .i64 0, .int .i64 0, .int .i64 0] := rfl
    have n1 : wK W 1 = stepW (hasB (usesS (opW W)) 97) (wK W 0) := rfl
    have hx1 := (wK_len hwl 0).1
    have hxm := wK_le hwm 0
    generalize wK W 0 = X at *
    have hwr : IntKind.i64.wrap (1) = ((1 : Nat) : Int) := by rw [w64 (by omega) (by omega)]; rfl
    cases hu : hasB (usesS (opW W)) 97 with
    | false =>
      rw [hu] at n1 i1
      rw [stepW_no (.inl rfl)] at n1
      rw [valW_no (.inl rfl)] at i1
      refine SW.run [] _ ?_
      simp only [wpC, mayStop, stops, isFlt, Specs.has, Specs.hasO, Bool.or_false, Bool.not_false, List.any_cons, List.any_nil, Bool.false_eq_true, ↓reduceIte, wpS, wantedA, okDst, Nat.reduceLT, decide_true, step1, isOwnCall, hxOp, px, pbinP, AS.eval, AS.get, Lift.look, reduceCtorEq, Nat.reduceEqDiff, Int.cast_ofNat_Int, Option.getD_some, ofConst, ofVal, pbinI, Int.reduceLT, thenQ, isB, AS.put, dropKey, fieldsV, ptrV, hu, i0, tmpOf, asB, Bool.or_true, pindex, ty72, ty71, okOne, TK.isAgg, Nat.reduceBEq, Int.reduceLE, Int.reduceToNat, Nat.reduceMul, Nat.zero_add, List.length_cons, List.length_nil, Nat.reduceAdd, Nat.reduceLeDiff, and_self, Lift.valOf, List.drop_zero, List.take_succ_cons, List.take_zero, okAlloc, okZero, List.all_cons, Value.oneCell', List.all_nil, Bool.and_true, Heap.get_put, some_none, hx, zeroOf, List.map_cons, List.map_nil, known1, PV.cells, Nat.le_refl, splice, List.nil_append, List.drop_succ_cons, List.drop_nil, List.append_nil, pfieldAddr, fieldOf, fieldIn, List.getElem?_cons_succ, List.getElem?_cons_zero, ty4, Option.map_some, ne_eq, Nat.succ_ne_zero, not_false_eq_true, pload, beq_self_eq_true, List.take_nil, List.getD_cons_zero, List.getElem?_toArray, Option.bind_some, beq_ft, Option.some.injEq, ppick_false, inQ, Nat.reduceSub, hasAll, and_true, true_and]
      rintro q ⟨hqr, hqr0, hq⟩
      have hrq : ¬ r = q := fun e => hqr e.symm
      refine SW.run [] _ ?_
      simp only [wpC, Bool.false_eq_true, ↓reduceIte, wpS, stops, isFlt, ty3, wantedA, okDst, Nat.reduceLT, decide_true, step1, isOwnCall, hxOp, px, pbinP, AS.eval, AS.get, Lift.look, Nat.reduceEqDiff, reduceCtorEq, Option.getD_some, ofConst, ofVal, pbinI, Int.reduceAdd, AS.put, dropKey, thenQ, Nat.succ_ne_zero, true_and]
      exact ⟨1, by omega, by omega, by rw [Heap.put_put, i1]; exact HTo_two hqr (by rw [Heap.put_ne _ _ hqr0]; exact hq), by rw [n1], by rw [hwr]⟩
    | true =>
      rw [hu] at n1 i1
      by_cases hl : 1 < X.length
      · have hl' : ((X.length : Int) > 1) := by omega
        have hl0 : 0 < (X.drop 1).length := by rw [List.length_drop]; omega
        have hsl : (List.take X.length (strL X)).drop 1 = strL (X.drop 1) := by
          rw [List.take_of_length_le (by rw [strL_len]; exact Nat.le_refl _)]
          unfold strL
          rw [List.map_drop]
        have hat := strL_at (X.drop 1) hl0
        have hlen : ((X.drop 1).getD 0 []).length ≤ 281474976710656 := by
          rw [List.getD_eq_getElem?_getD, List.getElem?_eq_getElem hl0]
          have := hxm _ (List.mem_of_mem_drop (List.getElem_mem hl0))
          show ((X.drop 1)[0]).length ≤ _
          omega
        rw [stepW_yes hl] at n1
        rw [valW_yes hl] at i1
        refine SW.run [] _ ?_
        simp only [wpC, mayStop, stops, isFlt, Specs.has, Specs.hasO, Bool.or_false, Bool.not_false, List.any_cons, List.any_nil, Bool.false_eq_true, ↓reduceIte, wpS, wantedA, okDst, Nat.reduceLT, decide_true, step1, isOwnCall, hxOp, px, pbinP, AS.eval, AS.get, Lift.look, reduceCtorEq, Nat.reduceEqDiff, Int.cast_ofNat_Int, Option.getD_some, ofConst, ofVal, pbinI, Int.reduceLT, thenQ, isB, AS.put, dropKey, fieldsV, ptrV, hu, i0, tmpOf, asB, Bool.or_true, pindex, ty72, ty71, okOne, TK.isAgg, Nat.reduceBEq, Int.reduceLE, Int.reduceToNat, Nat.reduceMul, Nat.zero_add, List.length_cons, List.length_nil, Nat.reduceAdd, Nat.reduceLeDiff, and_self, Lift.valOf, List.drop_zero, List.take_succ_cons, List.take_zero, okAlloc, okZero, List.all_cons, Value.oneCell', List.all_nil, Bool.and_true, Heap.get_put, some_none, hx, zeroOf, List.map_cons, List.map_nil, known1, PV.cells, Nat.le_refl, splice, List.nil_append, List.drop_succ_cons, List.drop_nil, List.append_nil, pfieldAddr, fieldOf, fieldIn, List.getElem?_cons_succ, List.getElem?_cons_zero, ty4, Option.map_some, ne_eq, Nat.succ_ne_zero, not_false_eq_true, pload, beq_self_eq_true, List.take_nil, List.getD_cons_zero, List.getElem?_toArray, Option.bind_some, pcall, ty80, plen, strL_len, okLen, hl', ppick_bool, pslice, ty9, pB, true_and, Int.toNat_natCast, Nat.reduceSub, hasAll, and_true]
        rintro q ⟨hqr, hqr0, hq⟩
        have hrq : ¬ r = q := fun e => hqr e.symm
        refine ⟨by omega, ?_⟩
        rw [hsl]
        refine SW.regionAny [eAtoi] [[0, 1, 2, 3, 4, 5, 6, 7, 8, 9, 10]] rfl (by rfl) (by kernel_rfl) ?_
        generalize X.drop 1 = Y at *
        simp only [wpOL, wpO, LOp, List.getElem?_toArray, List.getElem?_cons_zero, okDst, Nat.reduceLT, decide_true, wantedA, ↓reduceIte, step1, isOwnCall, Bool.false_eq_true, hxOp, px, pfieldAddr, fieldOf, ty71, fieldIn, ty69, Option.map_some, AS.eval, AS.get, Lift.look, Nat.reduceEqDiff, Option.getD_some, ne_eq, Nat.succ_ne_zero, not_false_eq_true, Nat.add_zero, List.getElem?_cons_succ, AS.put, dropKey, reduceCtorEq, pload, Heap.get_put, okOne, TK.isAgg, beq_self_eq_true, Bool.or_true, Nat.zero_add, List.length_cons, List.length_nil, Nat.reduceAdd, Nat.reduceLeDiff, and_self, Lift.valOf, List.drop_zero, List.take_succ_cons, List.take_zero, List.getD_cons_zero, pindexAddr, ty80, ty9, ofConst, ofVal, Int.reduceLE, Int.reduceToNat, strL_len, hl0, hat, Nat.le_refl, List.take_nil, Specs.hasO, eAtoi, Nat.reduceSub, pcall, okArg, List.all_cons, List.all_nil, Bool.and_true, Specs.at, List.map_cons, List.map_nil, sAtoi, hlen, hx, ty3, hrq, known1, PV.cells, splice, List.cons_append, List.nil_append, List.drop_succ_cons, inQ, thenQ, true_and]
        refine SW.run [] _ ?_
        simp only [wpC, Bool.false_eq_true, ↓reduceIte, wpS, stops, isFlt, ty3, wantedA, okDst, Nat.reduceLT, decide_true, step1, isOwnCall, hxOp, px, pbinP, AS.eval, AS.get, Lift.look, Nat.reduceEqDiff, reduceCtorEq, Option.getD_some, ofConst, ofVal, pbinI, Int.reduceAdd, AS.put, dropKey, thenQ, Nat.succ_ne_zero, true_and]
        exact ⟨1, by omega, by omega, by rw [Heap.put_put, Heap.put_comm _ _ _ hqr, Heap.put_put, i1]; exact HTo_two hqr (by rw [Heap.put_ne _ _ hqr0]; exact hq), by rw [n1], by rw [hwr]⟩
      · have hl' : ¬ ((X.length : Int) > 1) := by omega
        rw [stepW_no (.inr hl)] at n1
        rw [valW_no (.inr hl)] at i1
        refine SW.run [] _ ?_
        simp only [wpC, mayStop, stops, isFlt, Specs.has, Specs.hasO, Bool.or_false, Bool.not_false, List.any_cons, List.any_nil, Bool.false_eq_true, ↓reduceIte, wpS, wantedA, okDst, Nat.reduceLT, decide_true, step1, isOwnCall, hxOp, px, pbinP, AS.eval, AS.get, Lift.look, reduceCtorEq, Nat.reduceEqDiff, Int.cast_ofNat_Int, Option.getD_some, ofConst, ofVal, pbinI, Int.reduceLT, thenQ, isB, AS.put, dropKey, fieldsV, ptrV, hu, i0, tmpOf, asB, Bool.or_true, pindex, ty72, ty71, okOne, TK.isAgg, Nat.reduceBEq, Int.reduceLE, Int.reduceToNat, Nat.reduceMul, Nat.zero_add, List.length_cons, List.length_nil, Nat.reduceAdd, Nat.reduceLeDiff, and_self, Lift.valOf, List.drop_zero, List.take_succ_cons, List.take_zero, okAlloc, okZero, List.all_cons, Value.oneCell', List.all_nil, Bool.and_true, Heap.get_put, some_none, hx, zeroOf, List.map_cons, List.map_nil, known1, PV.cells, Nat.le_refl, splice, List.nil_append, List.drop_succ_cons, List.drop_nil, List.append_nil, pfieldAddr, fieldOf, fieldIn, List.getElem?_cons_succ, List.getElem?_cons_zero, ty4, Option.map_some, ne_eq, Nat.succ_ne_zero, not_false_eq_true, pload, beq_self_eq_true, List.take_nil, List.getD_cons_zero, List.getElem?_toArray, Option.bind_some, pcall, ty80, plen, strL_len, okLen, hl', decide_false, ppick_bool, inQ, Nat.reduceSub, hasAll, and_true, true_and]
        rintro q ⟨hqr, hqr0, hq⟩
        have hrq : ¬ r = q := fun e => hqr e.symm
        refine SW.run [] _ ?_
        simp only [wpC, Bool.false_eq_true, ↓reduceIte, wpS, stops, isFlt, ty3, wantedA, okDst, Nat.reduceLT, decide_true, step1, isOwnCall, hxOp, px, pbinP, AS.eval, AS.get, Lift.look, Nat.reduceEqDiff, reduceCtorEq, Option.getD_some, ofConst, ofVal, pbinI, Int.reduceAdd, AS.put, dropKey, thenQ, Nat.succ_ne_zero, true_and]
        exact ⟨1, by omega, by omega, by rw [Heap.put_put, i1]; exact HTo_two hqr (by rw [Heap.put_ne _ _ hqr0]; exact hq), by rw [n1], by rw [hwr]⟩
  · have i0 : iK W 1 = .cells 23 5 [.int .i64 (opW W), .int .i64 (aW' W), .int .i64 0, .int .i64 0, .int .i64 0] := rfl
    have i1 : iK W 2 = .cells 23 5 [.int .i64 (opW W), .int .i64 (aW' W), .int .i64 (valW (hasB (usesS (opW W)) 98) (wK W 1)), .int .i64 0, .int .i64 0] := rfl
    have n1 : wK W 2 = stepW (hasB (usesS (opW W)) 98) (wK W 1) := rfl
    have hx1 := (wK_len hwl 1).1
    have hxm := wK_le hwm 1
    generalize wK W 1 = X at *
    have hwr : IntKind.i64.wrap (2) = ((2 : Nat) : Int) := by rw [w64 (by omega) (by omega)]; rfl
    cases hu : hasB (usesS (opW W)) 98 with
    | false =>
      rw [hu] at n1 i1
      rw [stepW_no (.inl rfl)] at n1
      rw [valW_no (.inl rfl)] at i1
      refine SW.run [] _ ?_
      simp only [wpC, mayStop, stops, isFlt, Specs.has, Specs.hasO, Bool.or_false, Bool.not_false, List.any_cons, List.any_nil, Bool.false_eq_true, ↓reduceIte, wpS, wantedA, okDst, Nat.reduceLT, decide_true, step1, isOwnCall, hxOp, px, pbinP, AS.eval, AS.get, Lift.look, reduceCtorEq, Nat.reduceEqDiff, Int.cast_ofNat_Int, Option.getD_some, ofConst, ofVal, pbinI, Int.reduceLT, thenQ, isB, AS.put, dropKey, fieldsV, ptrV, hu, i0, tmpOf, asB, Bool.or_true, pindex, ty72, ty71, okOne, TK.isAgg, Nat.reduceBEq, Int.reduceLE, Int.reduceToNat, Nat.reduceMul, Nat.reduceAdd, List.length_cons, List.length_nil, Nat.zero_add, Nat.reduceLeDiff, and_self, Lift.valOf, List.drop_succ_cons, List.drop_zero, List.take_succ_cons, List.take_zero, okAlloc, okZero, List.all_cons, Value.oneCell', List.all_nil, Bool.and_true, Heap.get_put, some_none, hx, zeroOf, List.map_cons, List.map_nil, known1, PV.cells, Nat.le_refl, splice, List.nil_append, List.drop_nil, List.append_nil, pfieldAddr, fieldOf, fieldIn, List.getElem?_cons_succ, List.getElem?_cons_zero, ty4, Option.map_some, ne_eq, Nat.succ_ne_zero, not_false_eq_true, pload, beq_self_eq_true, List.take_nil, List.getD_cons_zero, List.getElem?_toArray, Option.bind_some, beq_ft, Option.some.injEq, ppick_false, inQ, Nat.reduceSub, hasAll, and_true, true_and]
      rintro q ⟨hqr, hqr0, hq⟩
      have hrq : ¬ r = q := fun e => hqr e.symm
      refine SW.run [] _ ?_
      simp only [wpC, Bool.false_eq_true, ↓reduceIte, wpS, stops, isFlt, ty3, wantedA, okDst, Nat.reduceLT, decide_true, step1, isOwnCall, hxOp, px, pbinP, AS.eval, AS.get, Lift.look, Nat.reduceEqDiff, reduceCtorEq, Option.getD_some, ofConst, ofVal, pbinI, Int.reduceAdd, AS.put, dropKey, thenQ, Nat.succ_ne_zero, true_and]
      exact ⟨2, by omega, by omega, by rw [Heap.put_put, i1]; exact HTo_two hqr (by rw [Heap.put_ne _ _ hqr0]; exact hq), by rw [n1], by rw [hwr]⟩
    | true =>
      rw [hu] at n1 i1
      by_cases hl : 1 < X.length
      · have hl' : ((X.length : Int) > 1) := by omega
        have hl0 : 0 < (X.drop 1).length := by rw [List.length_drop]; omega
        have hsl : (List.take X.length (strL X)).drop 1 = strL (X.drop 1) := by
          rw [List.take_of_length_le (by rw [strL_len]; exact Nat.le_refl _)]
          unfold strL
          rw [List.map_drop]
        have hat := strL_at (X.drop 1) hl0
        have hlen : ((X.drop 1).getD 0 []).length ≤ 281474976710656 := by
          rw [List.getD_eq_getElem?_getD, List.getElem?_eq_getElem hl0]
          have := hxm _ (List.mem_of_mem_drop (List.getElem_mem hl0))
          show ((X.drop 1)[0]).length ≤ _
          omega
        rw [stepW_yes hl] at n1
        rw [valW_yes hl] at i1
        refine SW.run [] _ ?_
        simp only [wpC, mayStop, stops, isFlt, Specs.has, Specs.hasO, Bool.or_false, Bool.not_false, List.any_cons, List.any_nil, Bool.false_eq_true, ↓reduceIte, wpS, wantedA, okDst, Nat.reduceLT, decide_true, step1, isOwnCall, hxOp, px, pbinP, AS.eval, AS.get, Lift.look, reduceCtorEq, Nat.reduceEqDiff, Int.cast_ofNat_Int, Option.getD_some, ofConst, ofVal, pbinI, Int.reduceLT, thenQ, isB, AS.put, dropKey, fieldsV, ptrV, hu, i0, tmpOf, asB, Bool.or_true, pindex, ty72, ty71, okOne, TK.isAgg, Nat.reduceBEq, Int.reduceLE, Int.reduceToNat, Nat.reduceMul, Nat.reduceAdd, List.length_cons, List.length_nil, Nat.zero_add, Nat.reduceLeDiff, and_self, Lift.valOf, List.drop_succ_cons, List.drop_zero, List.take_succ_cons, List.take_zero, okAlloc, okZero, List.all_cons, Value.oneCell', List.all_nil, Bool.and_true, Heap.get_put, some_none, hx, zeroOf, List.map_cons, List.map_nil, known1, PV.cells, Nat.le_refl, splice, List.nil_append, List.drop_nil, List.append_nil, pfieldAddr, fieldOf, fieldIn, List.getElem?_cons_succ, List.getElem?_cons_zero, ty4, Option.map_some, ne_eq, Nat.succ_ne_zero, not_false_eq_true, pload, beq_self_eq_true, List.take_nil, List.getD_cons_zero, List.getElem?_toArray, Option.bind_some, pcall, ty80, plen, strL_len, okLen, hl', ppick_bool, pslice, ty9, pB, true_and, Int.toNat_natCast, Nat.reduceSub, hasAll, and_true]
        rintro q ⟨hqr, hqr0, hq⟩
        have hrq : ¬ r = q := fun e => hqr e.symm
        refine ⟨by omega, ?_⟩
        rw [hsl]
        refine SW.regionAny [eAtoi] [[0, 1, 2, 3, 4, 5, 6, 7, 8, 9, 10]] rfl (by rfl) (by kernel_rfl) ?_
        generalize X.drop 1 = Y at *
        simp only [wpOL, wpO, LOp, List.getElem?_toArray, List.getElem?_cons_zero, okDst, Nat.reduceLT, decide_true, wantedA, ↓reduceIte, step1, isOwnCall, Bool.false_eq_true, hxOp, px, pfieldAddr, fieldOf, ty71, fieldIn, ty69, Option.map_some, AS.eval, AS.get, Lift.look, Nat.reduceEqDiff, Option.getD_some, ne_eq, Nat.succ_ne_zero, not_false_eq_true, Nat.add_zero, List.getElem?_cons_succ, AS.put, dropKey, reduceCtorEq, pload, Heap.get_put, okOne, TK.isAgg, beq_self_eq_true, Bool.or_true, Nat.zero_add, List.length_cons, List.length_nil, Nat.reduceAdd, Nat.reduceLeDiff, and_self, Lift.valOf, List.drop_zero, List.take_succ_cons, List.take_zero, List.getD_cons_zero, pindexAddr, ty80, ty9, ofConst, ofVal, Int.reduceLE, Int.reduceToNat, strL_len, hl0, hat, Nat.le_refl, List.take_nil, Specs.hasO, eAtoi, Nat.reduceSub, pcall, okArg, List.all_cons, List.all_nil, Bool.and_true, Specs.at, List.map_cons, List.map_nil, sAtoi, hlen, hx, ty3, hrq, known1, PV.cells, splice, List.cons_append, List.nil_append, List.drop_succ_cons, inQ, thenQ, true_and]
        refine SW.run [] _ ?_
        simp only [wpC, Bool.false_eq_true, ↓reduceIte, wpS, stops, isFlt, ty3, wantedA, okDst, Nat.reduceLT, decide_true, step1, isOwnCall, hxOp, px, pbinP, AS.eval, AS.get, Lift.look, Nat.reduceEqDiff, reduceCtorEq, Option.getD_some, ofConst, ofVal, pbinI, Int.reduceAdd, AS.put, dropKey, thenQ, Nat.succ_ne_zero, true_and]
        exact ⟨2, by omega, by omega, by rw [Heap.put_put, Heap.put_comm _ _ _ hqr, Heap.put_put, i1]; exact HTo_two hqr (by rw [Heap.put_ne _ _ hqr0]; exact hq), by rw [n1], by rw [hwr]⟩
      · have hl' : ¬ ((X.length : Int) > 1) := by omega
        rw [stepW_no (.inr hl)] at n1
        rw [valW_no (.inr hl)] at i1
        refine SW.run [] _ ?_
        simp only [wpC, mayStop, stops, isFlt, Specs.has, Specs.hasO, Bool.or_false, Bool.not_false, List.any_cons, List.any_nil, Bool.false_eq_true, ↓reduceIte, wpS, wantedA, okDst, Nat.reduceLT, decide_true, step1, isOwnCall, hxOp, px, pbinP, AS.eval, AS.get, Lift.look, reduceCtorEq, Nat.reduceEqDiff, Int.cast_ofNat_Int, Option.getD_some, ofConst, ofVal, pbinI, Int.reduceLT, thenQ, isB, AS.put, dropKey, fieldsV, ptrV, hu, i0, tmpOf, asB, Bool.or_true, pindex, ty72, ty71, okOne, TK.isAgg, Nat.reduceBEq, Int.reduceLE, Int.reduceToNat, Nat.reduceMul, Nat.reduceAdd, List.length_cons, List.length_nil, Nat.zero_add, Nat.reduceLeDiff, and_self, Lift.valOf, List.drop_succ_cons, List.drop_zero, List.take_succ_cons, List.take_zero, okAlloc, okZero, List.all_cons, Value.oneCell', List.all_nil, Bool.and_true, Heap.get_put, some_none, hx, zeroOf, List.map_cons, List.map_nil, known1, PV.cells, Nat.le_refl, splice, List.nil_append, List.drop_nil, List.append_nil, pfieldAddr, fieldOf, fieldIn, List.getElem?_cons_succ, List.getElem?_cons_zero, ty4, Option.map_some, ne_eq, Nat.succ_ne_zero, not_false_eq_true, pload, beq_self_eq_true, List.take_nil, List.getD_cons_zero, List.getElem?_toArray, Option.bind_some, pcall, ty80, plen, strL_len, okLen, hl', decide_false, ppick_bool, inQ, Nat.reduceSub, hasAll, and_true, true_and]
        rintro q ⟨hqr, hqr0, hq⟩
        have hrq : ¬ r = q := fun e => hqr e.symm
        refine SW.run [] _ ?_
        simp only [wpC, Bool.false_eq_true, ↓reduceIte, wpS, stops, isFlt, ty3, wantedA, okDst, Nat.reduceLT, decide_true, step1, isOwnCall, hxOp, px, pbinP, AS.eval, AS.get, Lift.look, Nat.reduceEqDiff, reduceCtorEq, Option.getD_some, ofConst, ofVal, pbinI, Int.reduceAdd, AS.put, dropKey, thenQ, Nat.succ_ne_zero, true_and]
        exact ⟨2, by omega, by omega, by rw [Heap.put_put, i1]; exact HTo_two hqr (by rw [Heap.put_ne _ _ hqr0]; exact hq), by rw [n1], by rw [hwr]⟩
  · have i0 : iK W 2 = .cells 23 5 [.int .i64 (opW W), .int .i64 (aW' W), .int .i64 (bW' W), .int .i64 0, .int .i64 0] := rfl
    have i1 : iK W 3 = .cells 23 5 [.int .i64 (opW W), .int .i64 (aW' W), .int .i64 (bW' W), .int .i64 (valW (hasB (usesS (opW W)) 99) (wK W 2)), .int .i64 0] := rfl
    have n1 : wK W 3 = stepW (hasB (usesS (opW W)) 99) (wK W 2) := rfl
    have hx1 := (wK_len hwl 2).1
    have hxm := wK_le hwm 2
    generalize wK W 2 = X at *
    have hwr : IntKind.i64.wrap (3) = ((3 : Nat) : Int) := by rw [w64 (by omega) (by omega)]; rfl
    cases hu : hasB (usesS (opW W)) 99 with
    | false =>
      rw [hu] at n1 i1
      rw [stepW_no (.inl rfl)] at n1
      rw [valW_no (.inl rfl)] at i1
      refine SW.run [] _ ?_
      simp only [wpC, mayStop, stops, isFlt, Specs.has, Specs.hasO, Bool.or_false, Bool.not_false, List.any_cons, List.any_nil, Bool.false_eq_true, ↓reduceIte, wpS, wantedA, okDst, Nat.reduceLT, decide_true, step1, isOwnCall, hxOp, px, pbinP, AS.eval, AS.get, Lift.look, reduceCtorEq, Nat.reduceEqDiff, Int.cast_ofNat_Int, Option.getD_some, ofConst, ofVal, pbinI, Int.reduceLT, thenQ, isB, AS.put, dropKey, fieldsV, ptrV, hu, i0, tmpOf, asB, Bool.or_true, pindex, ty72, ty71, okOne, TK.isAgg, Nat.reduceBEq, Int.reduceLE, Int.reduceToNat, Nat.reduceMul, Nat.reduceAdd, List.length_cons, List.length_nil, Nat.zero_add, Nat.reduceLeDiff, and_self, Lift.valOf, List.drop_succ_cons, List.drop_zero, List.take_succ_cons, List.take_zero, okAlloc, okZero, List.all_cons, Value.oneCell', List.all_nil, Bool.and_true, Heap.get_put, some_none, hx, zeroOf, List.map_cons, List.map_nil, known1, PV.cells, Nat.le_refl, splice, List.nil_append, List.drop_nil, List.append_nil, pfieldAddr, fieldOf, fieldIn, List.getElem?_cons_succ, List.getElem?_cons_zero, ty4, Option.map_some, ne_eq, Nat.succ_ne_zero, not_false_eq_true, pload, beq_self_eq_true, List.take_nil, List.getD_cons_zero, List.getElem?_toArray, Option.bind_some, beq_ft, Option.some.injEq, ppick_false, inQ, Nat.reduceSub, hasAll, and_true, true_and]
      rintro q ⟨hqr, hqr0, hq⟩
      have hrq : ¬ r = q := fun e => hqr e.symm
      refine SW.run [] _ ?_
      simp only [wpC, Bool.false_eq_true, ↓reduceIte, wpS, stops, isFlt, ty3, wantedA, okDst, Nat.reduceLT, decide_true, step1, isOwnCall, hxOp, px, pbinP, AS.eval, AS.get, Lift.look, Nat.reduceEqDiff, reduceCtorEq, Option.getD_some, ofConst, ofVal, pbinI, Int.reduceAdd, AS.put, dropKey, thenQ, Nat.succ_ne_zero, true_and]
      exact ⟨3, by omega, by omega, by rw [Heap.put_put, i1]; exact HTo_two hqr (by rw [Heap.put_ne _ _ hqr0]; exact hq), by rw [n1], by rw [hwr]⟩
    | true =>
      rw [hu] at n1 i1
      by_cases hl : 1 < X.length
      · have hl' : ((X.length : Int) > 1) := by omega
        have hl0 : 0 < (X.drop 1).length := by rw [List.length_drop]; omega
        have hsl : (List.take X.length (strL X)).drop 1 = strL (X.drop 1) := by
          rw [List.take_of_length_le (by rw [strL_len]; exact Nat.le_refl _)]
          unfold strL
          rw [List.map_drop]
        have hat := strL_at (X.drop 1) hl0
        have hlen : ((X.drop 1).getD 0 []).length ≤ 281474976710656 := by
          rw [List.getD_eq_getElem?_getD, List.getElem?_eq_getElem hl0]
          have := hxm _ (List.mem_of_mem_drop (List.getElem_mem hl0))
          show ((X.drop 1)[0]).length ≤ _
          omega
        rw [stepW_yes hl] at n1
        rw [valW_yes hl] at i1
        refine SW.run [] _ ?_
        simp only [wpC, mayStop, stops, isFlt, Specs.has, Specs.hasO, Bool.or_false, Bool.not_false, List.any_cons, List.any_nil, Bool.false_eq_true, ↓reduceIte, wpS, wantedA, okDst, Nat.reduceLT, decide_true, step1, isOwnCall, hxOp, px, pbinP, AS.eval, AS.get, Lift.look, reduceCtorEq, Nat.reduceEqDiff, Int.cast_ofNat_Int, Option.getD_some, ofConst, ofVal, pbinI, Int.reduceLT, thenQ, isB, AS.put, dropKey, fieldsV, ptrV, hu, i0, tmpOf, asB, Bool.or_true, pindex, ty72, ty71, okOne, TK.isAgg, Nat.reduceBEq, Int.reduceLE, Int.reduceToNat, Nat.reduceMul, Nat.reduceAdd, List.length_cons, List.length_nil, Nat.zero_add, Nat.reduceLeDiff, and_self, Lift.valOf, List.drop_succ_cons, List.drop_zero, List.take_succ_cons, List.take_zero, okAlloc, okZero, List.all_cons, Value.oneCell', List.all_nil, Bool.and_true, Heap.get_put, some_none, hx, zeroOf, List.map_cons, List.map_nil, known1, PV.cells, Nat.le_refl, splice, List.nil_append, List.drop_nil, List.append_nil, pfieldAddr, fieldOf, fieldIn, List.getElem?_cons_succ, List.getElem?_cons_zero, ty4, Option.map_some, ne_eq, Nat.succ_ne_zero, not_false_eq_true, pload, beq_self_eq_true, List.take_nil, List.getD_cons_zero, List.getElem?_toArray, Option.bind_some, pcall, ty80, plen, strL_len, okLen, hl', ppick_bool, pslice, ty9, pB, true_and, Int.toNat_natCast, Nat.reduceSub, hasAll, and_true]
        rintro q ⟨hqr, hqr0, hq⟩
        have hrq : ¬ r = q := fun e => hqr e.symm
        refine ⟨by omega, ?_⟩
        rw [hsl]
        refine SW.regionAny [eAtoi] [[0, 1, 2, 3, 4, 5, 6, 7, 8, 9, 10]] rfl (by rfl) (by kernel_rfl) ?_
        generalize X.drop 1 = Y at *
        simp only [wpOL, wpO, LOp, List.getElem?_toArray, List.getElem?_cons_zero, okDst, Nat.reduceLT, decide_true, wantedA, ↓reduceIte, step1, isOwnCall, Bool.false_eq_true, hxOp, px, pfieldAddr, fieldOf, ty71, fieldIn, ty69, Option.map_some, AS.eval, AS.get, Lift.look, Nat.reduceEqDiff, Option.getD_some, ne_eq, Nat.succ_ne_zero, not_false_eq_true, Nat.add_zero, List.getElem?_cons_succ, AS.put, dropKey, reduceCtorEq, pload, Heap.get_put, okOne, TK.isAgg, beq_self_eq_true, Bool.or_true, Nat.zero_add, List.length_cons, List.length_nil, Nat.reduceAdd, Nat.reduceLeDiff, and_self, Lift.valOf, List.drop_zero, List.take_succ_cons, List.take_zero, List.getD_cons_zero, pindexAddr, ty80, ty9, ofConst, ofVal, Int.reduceLE, Int.reduceToNat, strL_len, hl0, hat, Nat.le_refl, List.take_nil, Specs.hasO, eAtoi, Nat.reduceSub, pcall, okArg, List.all_cons, List.all_nil, Bool.and_true, Specs.at, List.map_cons, List.map_nil, sAtoi, hlen, hx, ty3, hrq, known1, PV.cells, splice, List.cons_append, List.nil_append, List.drop_succ_cons, inQ, thenQ, true_and]
        refine SW.run [] _ ?_
        simp only [wpC, Bool.false_eq_true, ↓reduceIte, wpS, stops, isFlt, ty3, wantedA, okDst, Nat.reduceLT, decide_true, step1, isOwnCall, hxOp, px, pbinP, AS.eval, AS.get, Lift.look, Nat.reduceEqDiff, reduceCtorEq, Option.getD_some, ofConst, ofVal, pbinI, Int.reduceAdd, AS.put, dropKey, thenQ, Nat.succ_ne_zero, true_and]
        exact ⟨3, by omega, by omega, by rw [Heap.put_put, Heap.put_comm _ _ _ hqr, Heap.put_put, i1]; exact HTo_two hqr (by rw [Heap.put_ne _ _ hqr0]; exact hq), by rw [n1], by rw [hwr]⟩
      · have hl' : ¬ ((X.length : Int) > 1) := by omega
        rw [stepW_no (.inr hl)] at n1
        rw [valW_no (.inr hl)] at i1
        refine SW.run [] _ ?_
        simp only [wpC, mayStop, stops, isFlt, Specs.has, Specs.hasO, Bool.or_false, Bool.not_false, List.any_cons, List.any_nil, Bool.false_eq_true, ↓reduceIte, wpS, wantedA, okDst, Nat.reduceLT, decide_true, step1, isOwnCall, hxOp, px, pbinP, AS.eval, AS.get, Lift.look, reduceCtorEq, Nat.reduceEqDiff, Int.cast_ofNat_Int, Option.getD_some, ofConst, ofVal, pbinI, Int.reduceLT, thenQ, isB, AS.put, dropKey, fieldsV, ptrV, hu, i0, tmpOf, asB, Bool.or_true, pindex, ty72, ty71, okOne, TK.isAgg, Nat.reduceBEq, Int.reduceLE, Int.reduceToNat, Nat.reduceMul, Nat.reduceAdd, List.length_cons, List.length_nil, Nat.zero_add, Nat.reduceLeDiff, and_self, Lift.valOf, List.drop_succ_cons, List.drop_zero, List.take_succ_cons, List.take_zero, okAlloc, okZero, List.all_cons, Value.oneCell', List.all_nil, Bool.and_true, Heap.get_put, some_none, hx, zeroOf, List.map_cons, List.map_nil, known1, PV.cells, Nat.le_refl, splice, List.nil_append, List.drop_nil, List.append_nil, pfieldAddr, fieldOf, fieldIn, List.getElem?_cons_succ, List.getElem?_cons_zero, ty4, Option.map_some, ne_eq, Nat.succ_ne_zero, not_false_eq_true, pload, beq_self_eq_true, List.take_nil, List.getD_cons_zero, List.getElem?_toArray, Option.bind_some, pcall, ty80, plen, strL_len, okLen, hl', decide_false, ppick_bool, inQ, Nat.reduceSub, hasAll, and_true, true_and]
        rintro q ⟨hqr, hqr0, hq⟩
        have hrq : ¬ r = q := fun e => hqr e.symm
        refine SW.run [] _ ?_
        simp only [wpC, Bool.false_eq_true, ↓reduceIte, wpS, stops, isFlt, ty3, wantedA, okDst, Nat.reduceLT, decide_true, step1, isOwnCall, hxOp, px, pbinP, AS.eval, AS.get, Lift.look, Nat.reduceEqDiff, reduceCtorEq, Option.getD_some, ofConst, ofVal, pbinI, Int.reduceAdd, AS.put, dropKey, thenQ, Nat.succ_ne_zero, true_and]
        exact ⟨3, by omega, by omega, by rw [Heap.put_put, i1]; exact HTo_two hqr (by rw [Heap.put_ne _ _ hqr0]; exact hq), by rw [n1], by rw [hwr]⟩
  · have i0 : iK W 3 = .cells 23 5 [.int .i64 (opW W), .int .i64 (aW' W), .int .i64 (bW' W), .int .i64 (cW' W), .int .i64 0] := rfl
    have i1 : iK W 4 = .cells 23 5 [.int .i64 (opW W), .int .i64 (aW' W), .int .i64 (bW' W), .int .i64 (cW' W), .int .i64 (valW (hasB (usesS (opW W)) 105) (wK W 3))] := rfl
    have n1 : wK W 4 = stepW (hasB (usesS (opW W)) 105) (wK W 3) := rfl
    have hx1 := (wK_len hwl 3).1
    have hxm := wK_le hwm 3
    generalize wK W 3 = X at *
    have hwr : IntKind.i64.wrap (4) = ((4 : Nat) : Int) := by rw [w64 (by omega) (by omega)]; rfl
    cases hu : hasB (usesS (opW W)) 105 with
    | false =>
      rw [hu] at n1 i1
      rw [stepW_no (.inl rfl)] at n1
      rw [valW_no (.inl rfl)] at i1
      refine SW.run [] _ ?_
      simp only [wpC, mayStop, stops, isFlt, Specs.has, Specs.hasO, Bool.or_false, Bool.not_false, List.any_cons, List.any_nil, Bool.false_eq_true, ↓reduceIte, wpS, wantedA, okDst, Nat.reduceLT, decide_true, step1, isOwnCall, hxOp, px, pbinP, AS.eval, AS.get, Lift.look, reduceCtorEq, Nat.reduceEqDiff, Int.cast_ofNat_Int, Option.getD_some, ofConst, ofVal, pbinI, Int.reduceLT, thenQ, isB, AS.put, dropKey, fieldsV, ptrV, hu, i0, tmpOf, asB, Bool.or_true, pindex, ty72, ty71, okOne, TK.isAgg, Nat.reduceBEq, Int.reduceLE, Int.reduceToNat, Nat.reduceMul, Nat.reduceAdd, List.length_cons, List.length_nil, Nat.zero_add, Nat.le_refl, and_self, Lift.valOf, List.drop_succ_cons, List.drop_zero, List.take_succ_cons, List.take_nil, okAlloc, okZero, List.all_cons, Value.oneCell', List.all_nil, Bool.and_true, Heap.get_put, some_none, hx, zeroOf, List.map_cons, List.map_nil, known1, PV.cells, splice, List.take_zero, List.nil_append, List.drop_nil, List.append_nil, pfieldAddr, fieldOf, fieldIn, List.getElem?_cons_succ, List.getElem?_cons_zero, ty4, Option.map_some, ne_eq, Nat.succ_ne_zero, not_false_eq_true, pload, beq_self_eq_true, List.getD_cons_zero, List.getElem?_toArray, Option.bind_some, beq_ft, Option.some.injEq, ppick_false, inQ, Nat.reduceSub, hasAll, and_true, true_and]
      rintro q ⟨hqr, hqr0, hq⟩
      have hrq : ¬ r = q := fun e => hqr e.symm
      refine SW.run [] _ ?_
      simp only [wpC, Bool.false_eq_true, ↓reduceIte, wpS, stops, isFlt, ty3, wantedA, okDst, Nat.reduceLT, decide_true, step1, isOwnCall, hxOp, px, pbinP, AS.eval, AS.get, Lift.look, Nat.reduceEqDiff, reduceCtorEq, Option.getD_some, ofConst, ofVal, pbinI, Int.reduceAdd, AS.put, dropKey, thenQ, Nat.succ_ne_zero, true_and]
      exact ⟨4, by omega, by omega, by rw [Heap.put_put, i1]; exact HTo_two hqr (by rw [Heap.put_ne _ _ hqr0]; exact hq), by rw [n1], by rw [hwr]⟩
    | true =>
      rw [hu] at n1 i1
      by_cases hl : 1 < X.length
      · have hl' : ((X.length : Int) > 1) := by omega
        have hl0 : 0 < (X.drop 1).length := by rw [List.length_drop]; omega
        have hsl : (List.take X.length (strL X)).drop 1 = strL (X.drop 1) := by
          rw [List.take_of_length_le (by rw [strL_len]; exact Nat.le_refl _)]
          unfold strL
          rw [List.map_drop]
        have hat := strL_at (X.drop 1) hl0
        have hlen : ((X.drop 1).getD 0 []).length ≤ 281474976710656 := by
          rw [List.getD_eq_getElem?_getD, List.getElem?_eq_getElem hl0]
          have := hxm _ (List.mem_of_mem_drop (List.getElem_mem hl0))
          show ((X.drop 1)[0]).length ≤ _
          omega
        rw [stepW_yes hl] at n1
        rw [valW_yes hl] at i1
        refine SW.run [] _ ?_
        simp only [wpC, mayStop, stops, isFlt, Specs.has, Specs.hasO, Bool.or_false, Bool.not_false, List.any_cons, List.any_nil, Bool.false_eq_true, ↓reduceIte, wpS, wantedA, okDst, Nat.reduceLT, decide_true, step1, isOwnCall, hxOp, px, pbinP, AS.eval, AS.get, Lift.look, reduceCtorEq, Nat.reduceEqDiff, Int.cast_ofNat_Int, Option.getD_some, ofConst, ofVal, pbinI, Int.reduceLT, thenQ, isB, AS.put, dropKey, fieldsV, ptrV, hu, i0, tmpOf, asB, Bool.or_true, pindex, ty72, ty71, okOne, TK.isAgg, Nat.reduceBEq, Int.reduceLE, Int.reduceToNat, Nat.reduceMul, Nat.reduceAdd, List.length_cons, List.length_nil, Nat.zero_add, Nat.le_refl, and_self, Lift.valOf, List.drop_succ_cons, List.drop_zero, List.take_succ_cons, List.take_nil, okAlloc, okZero, List.all_cons, Value.oneCell', List.all_nil, Bool.and_true, Heap.get_put, some_none, hx, zeroOf, List.map_cons, List.map_nil, known1, PV.cells, splice, List.take_zero, List.nil_append, List.drop_nil, List.append_nil, pfieldAddr, fieldOf, fieldIn, List.getElem?_cons_succ, List.getElem?_cons_zero, ty4, Option.map_some, ne_eq, Nat.succ_ne_zero, not_false_eq_true, pload, beq_self_eq_true, List.getD_cons_zero, List.getElem?_toArray, Option.bind_some, pcall, ty80, plen, strL_len, okLen, hl', ppick_bool, pslice, ty9, pB, true_and, Int.toNat_natCast, Nat.reduceSub, hasAll, and_true]
        rintro q ⟨hqr, hqr0, hq⟩
        have hrq : ¬ r = q := fun e => hqr e.symm
        refine ⟨by omega, ?_⟩
        rw [hsl]
        refine SW.regionAny [eAtoi] [[0, 1, 2, 3, 4, 5, 6, 7, 8, 9, 10]] rfl (by rfl) (by kernel_rfl) ?_
        generalize X.drop 1 = Y at *
        simp only [wpOL, wpO, LOp, List.getElem?_toArray, List.getElem?_cons_zero, okDst, Nat.reduceLT, decide_true, wantedA, ↓reduceIte, step1, isOwnCall, Bool.false_eq_true, hxOp, px, pfieldAddr, fieldOf, ty71, fieldIn, ty69, Option.map_some, AS.eval, AS.get, Lift.look, Nat.reduceEqDiff, Option.getD_some, ne_eq, Nat.succ_ne_zero, not_false_eq_true, Nat.add_zero, List.getElem?_cons_succ, AS.put, dropKey, reduceCtorEq, pload, Heap.get_put, okOne, TK.isAgg, beq_self_eq_true, Bool.or_true, Nat.zero_add, List.length_cons, List.length_nil, Nat.reduceAdd, Nat.reduceLeDiff, and_self, Lift.valOf, List.drop_zero, List.take_succ_cons, List.take_zero, List.getD_cons_zero, pindexAddr, ty80, ty9, ofConst, ofVal, Int.reduceLE, Int.reduceToNat, strL_len, hl0, hat, Nat.le_refl, List.take_nil, Specs.hasO, eAtoi, Nat.reduceSub, pcall, okArg, List.all_cons, List.all_nil, Bool.and_true, Specs.at, List.map_cons, List.map_nil, sAtoi, hlen, hx, ty3, hrq, known1, PV.cells, splice, List.cons_append, List.nil_append, List.drop_succ_cons, List.drop_nil, List.append_nil, inQ, thenQ, true_and]
        refine SW.run [] _ ?_
        simp only [wpC, Bool.false_eq_true, ↓reduceIte, wpS, stops, isFlt, ty3, wantedA, okDst, Nat.reduceLT, decide_true, step1, isOwnCall, hxOp, px, pbinP, AS.eval, AS.get, Lift.look, Nat.reduceEqDiff, reduceCtorEq, Option.getD_some, ofConst, ofVal, pbinI, Int.reduceAdd, AS.put, dropKey, thenQ, Nat.succ_ne_zero, true_and]
        exact ⟨4, by omega, by omega, by rw [Heap.put_put, Heap.put_comm _ _ _ hqr, Heap.put_put, i1]; exact HTo_two hqr (by rw [Heap.put_ne _ _ hqr0]; exact hq), by rw [n1], by rw [hwr]⟩
      · have hl' : ¬ ((X.length : Int) > 1) := by omega
        rw [stepW_no (.inr hl)] at n1
        rw [valW_no (.inr hl)] at i1
        refine SW.run [] _ ?_
        simp only [wpC, mayStop, stops, isFlt, Specs.has, Specs.hasO, Bool.or_false, Bool.not_false, List.any_cons, List.any_nil, Bool.false_eq_true, ↓reduceIte, wpS, wantedA, okDst, Nat.reduceLT, decide_true, step1, isOwnCall, hxOp, px, pbinP, AS.eval, AS.get, Lift.look, reduceCtorEq, Nat.reduceEqDiff, Int.cast_ofNat_Int, Option.getD_some, ofConst, ofVal, pbinI, Int.reduceLT, thenQ, isB, AS.put, dropKey, fieldsV, ptrV, hu, i0, tmpOf, asB, Bool.or_true, pindex, ty72, ty71, okOne, TK.isAgg, Nat.reduceBEq, Int.reduceLE, Int.reduceToNat, Nat.reduceMul, Nat.reduceAdd, List.length_cons, List.length_nil, Nat.zero_add, Nat.le_refl, and_self, Lift.valOf, List.drop_succ_cons, List.drop_zero, List.take_succ_cons, List.take_nil, okAlloc, okZero, List.all_cons, Value.oneCell', List.all_nil, Bool.and_true, Heap.get_put, some_none, hx, zeroOf, List.map_cons, List.map_nil, known1, PV.cells, splice, List.take_zero, List.nil_append, List.drop_nil, List.append_nil, pfieldAddr, fieldOf, fieldIn, List.getElem?_cons_succ, List.getElem?_cons_zero, ty4, Option.map_some, ne_eq, Nat.succ_ne_zero, not_false_eq_true, pload, beq_self_eq_true, List.getD_cons_zero, List.getElem?_toArray, Option.bind_some, pcall, ty80, plen, strL_len, okLen, hl', decide_false, ppick_bool, inQ, Nat.reduceSub, hasAll, and_true, true_and]
        rintro q ⟨hqr, hqr0, hq⟩
        have hrq : ¬ r = q := fun e => hqr e.symm
        refine SW.run [] _ ?_
        simp only [wpC, Bool.false_eq_true, ↓reduceIte, wpS, stops, isFlt, ty3, wantedA, okDst, Nat.reduceLT, decide_true, step1, isOwnCall, hxOp, px, pbinP, AS.eval, AS.get, Lift.look, Nat.reduceEqDiff, reduceCtorEq, Option.getD_some, ofConst, ofVal, pbinI, Int.reduceAdd, AS.put, dropKey, thenQ, Nat.succ_ne_zero, true_and]
        exact ⟨4, by omega, by omega, by rw [Heap.put_put, i1]; exact HTo_two hqr (by rw [Heap.put_ne _ _ hqr0]; exact hq), by rw [n1], by rw [hwr]⟩
  · have i0 : iK W 4 = .cells 23 5 [.int .i64 (opW W), .int .i64 (aW' W), .int .i64 (bW' W), .int .i64 (cW' W), .int .i64 (iW' W)] := rfl
    refine SW.run [] _ ?_
    simp only [wpC, mayStop, stops, isFlt, Specs.has, Specs.hasO, Bool.or_false, Bool.not_false, List.any_cons, List.any_nil, Bool.false_eq_true, ↓reduceIte, wpS, wantedA, okDst, Nat.reduceLT, decide_true, step1, isOwnCall, hxOp, px, pbinP, AS.eval, AS.get, Lift.look, reduceCtorEq, Nat.reduceEqDiff, Int.cast_ofNat_Int, Option.getD_some, ofConst, ofVal, pbinI, Int.reduceLT, decide_false, thenQ, isB, AS.put, dropKey, i0, tmpOf, asB, inQ, true_and]
    by_cases hn : s = []
    · subst hn
      have hp : parseS [] = .tuple [.agg [.int .i64 0, .int .i64 0, .int .i64 0, .int .i64 0, .int .i64 0], .int .i64 9] := by unfold parseS; rw [if_neg (fun h => h.1 rfl)]
      refine SW.run [eText] _ ?_
      simp only [wpC, mayStop, stops, isFlt, Specs.has, eText, Specs.hasO, Nat.reduceLeDiff, Nat.reduceSub, false_and, ↓reduceIte, Bool.or_false, List.any_cons, Bool.not_true, List.any_nil, Bool.false_eq_true, wpS, wantedA, okDst, Nat.reduceLT, decide_true, step1, isOwnCall, hxOp, px, AS.eval, AS.get, Lift.look, Nat.succ_ne_zero, Option.getD_some, AS.put, dropKey, Nat.reduceEqDiff, reduceCtorEq, pbinP, ofConst, ofVal, pbinS, beq_self_eq_true, List.getElem?_toArray, List.getElem?_cons_succ, List.getElem?_cons_zero, Option.bind_some, beq_tf, Option.some.injEq, and_self, ppick_true, thenQ, isB, tmpOf, asB, pbuild, ty23, List.map_cons, List.map_nil, pfill, List.all_cons, ty3, Option.isSome_some, List.all_nil, Bool.and_true, okZero, Value.oneCell', known, hx, Heap.get_put, hrr0, known1, PV.cells, List.length_cons, List.length_nil, Nat.zero_add, Nat.reduceAdd, Nat.le_refl, splice, List.take_zero, List.nil_append, List.drop_succ_cons, List.drop_nil, List.append_nil, RPost, sres, Tryd.results29, sresL, sres1, okOne, TK.isAgg, Nat.reduceBEq, Lift.valOf, List.drop_zero, List.take_succ_cons, List.take_nil, hp, Ret_fin, exists_eq_left', true_and]
      rw [Heap.put_comm _ _ _ hrr, Heap.put_put]
      exact HTo.put2 _ _ hr0 hr
    · have hnb : (s == []) = false := beq_eq_false_iff_ne.2 hn
      by_cases ht : textS (opW W) (aW' W) (bW' W) (cW' W) (iW' W) = s
      · have htb : (textS (opW W) (aW' W) (bW' W) (cW' W) (iW' W) == s) = true := beq_iff_eq.2 ht
        have hp : parseS s = .tuple [.agg [.int .i64 (opW W), .int .i64 (aW' W), .int .i64 (bW' W), .int .i64 (cW' W), .int .i64 (iW' W)], .int .i64 0] := by unfold parseS pT pI; rw [hW]; rw [if_pos ⟨hn, ht⟩]
        refine SW.run [eText] _ ?_
        simp only [wpC, mayStop, stops, isFlt, Specs.has, eText, Specs.hasO, Nat.reduceLeDiff, Nat.reduceSub, false_and, ↓reduceIte, Bool.or_false, List.any_cons, Bool.not_true, List.any_nil, Bool.false_eq_true, wpS, wantedA, okDst, Nat.reduceLT, decide_true, step1, isOwnCall, hxOp, px, AS.eval, AS.get, Lift.look, Nat.succ_ne_zero, Option.getD_some, AS.put, dropKey, Nat.reduceEqDiff, reduceCtorEq, pbinP, ofConst, ofVal, pbinS, hnb, List.getElem?_toArray, List.getElem?_cons_succ, List.getElem?_cons_zero, Option.bind_some, beq_self_eq_true, pload, ty23, Heap.get_put, okOne, TK.isAgg, Nat.reduceBEq, Nat.zero_add, List.length_cons, List.length_nil, Nat.reduceAdd, Nat.le_refl, and_self, Lift.valOf, List.drop_zero, List.take_succ_cons, List.take_nil, pcall, okArg, List.all_cons, List.all_nil, Bool.and_true, Specs.at, List.map_cons, List.map_nil, sText, htb, ppick_bool, thenQ, isB, tmpOf, asB, hx, hrr0, known1, PV.cells, splice, List.take_zero, List.nil_append, List.drop_succ_cons, List.drop_nil, List.append_nil, RPost, sres, Tryd.results29, sresL, sres1, Option.some.injEq, hp, Ret_fin, exists_eq_left', true_and]
        rw [Heap.put_comm _ _ _ hrr, Heap.put_put]
        exact HTo.put2 _ _ hr0 hr
      · have htb : (textS (opW W) (aW' W) (bW' W) (cW' W) (iW' W) == s) = false := beq_eq_false_iff_ne.2 ht
        have hp : parseS s = .tuple [.agg [.int .i64 0, .int .i64 0, .int .i64 0, .int .i64 0, .int .i64 0], .int .i64 9] := by unfold parseS pT; rw [hW]; rw [if_neg (fun h => ht h.2)]
        refine SW.run [eText] _ ?_
        simp only [wpC, mayStop, stops, isFlt, Specs.has, eText, Specs.hasO, Nat.reduceLeDiff, Nat.reduceSub, false_and, ↓reduceIte, Bool.or_false, List.any_cons, Bool.not_true, List.any_nil, Bool.false_eq_true, wpS, wantedA, okDst, Nat.reduceLT, decide_true, step1, isOwnCall, hxOp, px, AS.eval, AS.get, Lift.look, Nat.succ_ne_zero, Option.getD_some, AS.put, dropKey, Nat.reduceEqDiff, reduceCtorEq, pbinP, ofConst, ofVal, pbinS, hnb, List.getElem?_toArray, List.getElem?_cons_succ, List.getElem?_cons_zero, Option.bind_some, beq_self_eq_true, pload, ty23, Heap.get_put, okOne, TK.isAgg, Nat.reduceBEq, Nat.zero_add, List.length_cons, List.length_nil, Nat.reduceAdd, Nat.le_refl, and_self, Lift.valOf, List.drop_zero, List.take_succ_cons, List.take_nil, pcall, okArg, List.all_cons, List.all_nil, Bool.and_true, Specs.at, List.map_cons, List.map_nil, sText, htb, Bool.not_false, ppick_bool, thenQ, isB, tmpOf, asB, pbuild, pfill, ty3, Option.isSome_some, okZero, Value.oneCell', known, hx, hrr0, known1, PV.cells, splice, List.take_zero, List.nil_append, List.drop_succ_cons, List.drop_nil, List.append_nil, RPost, sres, Tryd.results29, sresL, sres1, Option.some.injEq, hp, Ret_fin, exists_eq_left', true_and]
        rw [Heap.put_comm _ _ _ hrr, Heap.put_put]
        exact HTo.put2 _ _ hr0 hr
def sParse : List PV → Prop × PV
  | [.str s] => (s.length ≤ 100000, parseS s)
  | _ => PBad
noncomputable def eParse : SpecE env := ⟨29, sParse, fun args h hc => by
  unfold sParse at hc ⊢
  split at hc
  · rename_i s; exact .inl (Parse_ok s h hc)
  · exact hc.elim⟩
end Go.Proofs.YthdmdeiaonkeoaaDoor
