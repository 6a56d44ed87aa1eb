/- Contracts of functions that the law reaches. -/
import Derived.Test.YthlibdhjcjangaaDoorU6
set_option linter.unusedSimpArgs false
set_option linter.unusedVariables false
namespace Go.Proofs.YthlibdhjcjangaaDoor
open Go Go.RowKit Go.Proofs.YthlibdhjcjangaaDoor Go.Proofs.YthlibdhjcjangaaDoor.Lift
set_option maxRecDepth 100000

/-! What is too long -/
def noStr : PV := .agg [.str [], .bool false]
theorem Latin_lim (l : List UInt8) (h : Heap) (hl : 65536 < l.length) : SCalls env 10 [.list 1 (elB l)] h (Ret (.tuple [noStr, .int .i64 3]) h) := by
  refine SCalls.body Tryd.func10 rfl rfl (by simp [Tryd.ntmps10]) (SW.run [] _ ?_)
  have hng : (65536 : Int) < (l.length : Int) := by omega
  simp only [wpC, mayStop, stops, isFlt, Specs.has, Specs.hasO, Bool.or_false, Specs.hasH, Bool.not_false, List.any_cons, List.any_nil, Bool.false_eq_true, ↓reduceIte, wpS, wantedA, okDst, Tryd.ntmps10, Nat.reduceLT, decide_true, step1, okAlloc, ty24, okZero, List.all_cons, Value.oneCell', List.all_nil, Bool.and_true, AS.put, enumA, dropKey, reduceCtorEq, isOwnCall, hxOp, px, AS.eval, ofConst, ofVal, thenQ, Nat.reduceEqDiff, zeroOf, List.map_cons, List.map_nil, List.length_cons, List.length_nil, Nat.zero_add, Nat.reduceAdd, AS.get, Lift.look, Nat.succ_ne_zero, Option.getD_some, pcall, ty34, plen, elB_len, okLen, and_self, isNilC, pbinP, pbinI, hng, isB, tmpOf, asB, pbuild, pfill, ty9, Option.isSome_some, ty4, known, hx, Heap.get_put, known1, PV.cells, Nat.le_refl, splice, List.take_zero, List.nil_append, List.drop_succ_cons, List.drop_nil, List.append_nil, RPost, sres, Tryd.results10, sresL, sres1, okOne, TK.isAgg, Nat.reduceBEq, Lift.valOf, List.drop_zero, List.take_succ_cons, List.take_nil, Option.some.injEq, noStr, Ret_fin, exists_eq_left', true_and]
  intro r hr
  exact HTo.put2 _ _ hr hr
def sLatin2 : List PV → Prop × PV
  | [.list 1 xs] => match unB xs with
    | some l => (True, if 65536 < l.length then .tuple [noStr, .int .i64 3] else .tuple [.agg [.str l, .bool false], .int .i64 0])
    | none => PBad
  | _ => PBad
noncomputable def eLatin2 : SpecE env := ⟨10, sLatin2, fun args h hc => by
  unfold sLatin2 at hc ⊢
  split at hc
  · rename_i xs
    split at hc
    · rename_i l hl
      rw [unB_spec hl]
      split
      · rename_i hb; exact .inl (Latin_lim l h hb)
      · rename_i hb; exact .inl (Latin_ok l h (by omega))
    · exact hc.elim
  · exact hc.elim⟩
theorem Of_lim (s : List UInt8) (h : Heap) (hl : s.length ≤ 70368744177664) (h1 : 65536 < (runesOf s).length) : SCalls env 12 [.str s] h (Ret (.tuple [noStr, .int .i64 3]) h) := by
  refine SCalls.body Tryd.func12 rfl rfl (by simp [Tryd.ntmps12]) (SW.run [ePack] _ ?_)
  have hng : (65536 : Int) < ((runesOf s).length : Int) := by omega
  simp only [wpC, mayStop, stops, isFlt, Specs.has, ePack, Specs.hasO, Bool.or_false, Specs.hasH, List.any_cons, List.any_nil, Bool.false_eq_true, ↓reduceIte, wpS, wantedA, okDst, Tryd.ntmps12, Nat.reduceLT, decide_true, step1, okAlloc, ty24, okZero, List.all_cons, Value.oneCell', List.all_nil, Bool.and_true, AS.put, enumA, dropKey, reduceCtorEq, isOwnCall, hxOp, px, AS.eval, ofConst, ofVal, thenQ, Nat.reduceEqDiff, zeroOf, List.map_cons, List.map_nil, List.length_cons, List.length_nil, Nat.zero_add, Nat.reduceAdd, AS.get, Lift.look, Nat.succ_ne_zero, Option.getD_some, ty9, ty56, pconvH, pconv, ty21, hl, map_elR, pcall, plen, elR_len, okLen, and_self, isNilC, pbinP, pbinI, hng, isB, tmpOf, asB, pbuild, pfill, Option.isSome_some, ty4, known, hx, Heap.get_put, known1, PV.cells, Nat.le_refl, splice, List.take_zero, List.nil_append, List.drop_succ_cons, List.drop_nil, List.append_nil, RPost, sres, Tryd.results12, sresL, sres1, okOne, TK.isAgg, Nat.reduceBEq, Lift.valOf, List.drop_zero, List.take_succ_cons, List.take_nil, Option.some.injEq, noStr, Ret_fin, exists_eq_left', true_and]
  intro r hr
  exact HTo.put2 _ _ hr hr
def sOf2 : List PV → Prop × PV
  | [.str s] => (s.length ≤ 70368744177664, if 65536 < (runesOf s).length then .tuple [noStr, .int .i64 3] else .tuple [strV (runesOf s), .int .i64 0])
  | _ => PBad
noncomputable def eOf2 : SpecE env := ⟨12, sOf2, fun args h hc => by
  unfold sOf2 at hc ⊢
  split at hc
  · rename_i s
    split
    · rename_i hb; exact .inl (Of_lim s h hc hb)
    · rename_i hb; exact .inl (Of_ok s h hc (by omega))
  · exact hc.elim⟩
theorem Join_lim (ps : List (List UInt8 × Bool)) (h : Heap) (h1 : 65536 < sumS ps) (h2 : ∀ p ∈ ps, p.1.length ≤ 1000000000) (h4 : ps.length ≤ 1000000000) :
    SCalls env 15 [.list 2 (elS ps)] h (Ret (.tuple [noStr, .int .i64 3]) h) := by
  refine SCalls.body Tryd.func15 rfl rfl (by simp [Tryd.ntmps15]) ?_
  refine SW.seq (SW.run [] _ ?_)
  simp only [wpC, Bool.false_eq_true, ↓reduceIte, wpS, stops, wantedA, okDst, Tryd.ntmps15, Nat.reduceLT, decide_true, step1, okAlloc, ty24, okZero, List.all_cons, Value.oneCell', List.all_nil, Bool.and_true, AS.put, enumA, dropKey, reduceCtorEq, isOwnCall, hxOp, px, AS.eval, ofConst, ofVal, thenQ, Nat.reduceEqDiff, zeroOf, List.map_cons, List.map_nil, List.length_cons, List.length_nil, Nat.zero_add, Nat.reduceAdd, true_and]
  intro r hr
  refine SW.seq (SW.run [] _ ?_)
  simp only [wpC, Bool.false_eq_true, ↓reduceIte, wpS, stops, wantedA, okDst, Nat.reduceLT, decide_true, step1, isOwnCall, hxOp, px, AS.eval, ofConst, ofVal, AS.put, dropKey, Nat.reduceEqDiff, reduceCtorEq, thenQ, true_and]
  refine SW.seq (SW.seq (SW.run [] _ ?_))
  simp only [wpC, Bool.false_eq_true, ↓reduceIte, wpS, stops, wantedA, okDst, Nat.reduceLT, decide_true, step1, isOwnCall, hxOp, px, AS.eval, AS.get, Lift.look, Nat.succ_ne_zero, Option.getD_some, AS.put, dropKey, Nat.reduceEqDiff, reduceCtorEq, pcall, ty68, plen, elS_len, okLen, and_self, ofConst, ofVal, thenQ, true_and]
  refine SW.block (SW.loopH 53 (fun i : Nat => [(0, .list 2 (elS ps)), (2, .val (.pointer (some ⟨r, 0, none⟩))), (4, .int .i64 (sumS (ps.take i))), (5, .bool (anyS (ps.take i))), (11, .list 2 (elS ps)), (12, .int .i64 ps.length), (13, .int .i64 (i : Nat))]) (fun _ => h.put r (.cells 24 2 [.str [], .bool false])) (fun i => i ≤ ps.length ∧ sumS (ps.take i) ≤ 65536) (fun i => ps.length - i) 0 ⟨Nat.zero_le _, by simp [sumS]⟩ ⟨rfl, .refl _ _, ?_⟩ ?_)
  · simp only [hasAll, AS.get, Lift.look, Nat.succ_ne_zero, ↓reduceIte, Option.getD_some, Nat.reduceEqDiff, List.take_zero, Int.cast_ofNat_Int, and_self, and_true, true_and]
    exact ⟨rfl, rfl⟩
  · rintro i ⟨hi, hsum⟩
    by_cases hlt : i < ps.length
    · have hs := sumS_next hlt
      have hpl : (ps.getD i ([], false)).1.length ≤ 1000000000 := by
        rw [List.getD_eq_getElem?_getD, List.getElem?_eq_getElem hlt]
        exact h2 _ (List.getElem_mem hlt)
      have hll := lenS_le (ps.getD i ([], false)).1 (ps.getD i ([], false)).2
      have hw : IntKind.i64.wrap ((sumS (ps.take i) : Int) + (lenS (ps.getD i ([], false)).1 (ps.getD i ([], false)).2 : Int)) = ((sumS (ps.take (i + 1)) : Nat) : Int) := by rw [w64 (by omega) (by omega)]; omega
      refine SW.run [eLen] _ ?_
      by_cases hbig : 65536 < sumS (ps.take (i + 1))
      · have hbI : (65536 : Int) < ((sumS (ps.take (i + 1)) : Nat) : Int) := by omega
        simp only [wpC, mayStop, stops, isFlt, Specs.has, eLen, Specs.hasO, Bool.or_false, Specs.hasH, List.any_cons, List.any_nil, Bool.false_eq_true, ↓reduceIte, wpS, wantedA, okDst, Nat.reduceLT, decide_true, step1, isOwnCall, hxOp, px, isNilC, pbinP, AS.eval, AS.get, Lift.look, reduceCtorEq, Nat.reduceEqDiff, Option.getD_some, pbinI, Int.ofNat_lt, hlt, thenQ, isB, AS.put, dropKey, tmpOf, asB, Bool.not_true, ty3, pindexAddr, ty68, ty24, ne_eq, Nat.succ_ne_zero, not_false_eq_true, Int.natCast_nonneg, Int.toNat_natCast, elS_len, and_self, elS_getD hlt, pload, okOne, TK.isAgg, Nat.reduceBEq, List.length_cons, List.length_nil, Nat.zero_add, Nat.reduceAdd, Nat.le_refl, Lift.valOf, List.take_succ_cons, List.take_nil, okAlloc, okZero, List.all_cons, Value.oneCell', List.all_nil, Bool.and_true, Heap.get_put, some_none, hx, zeroOf, List.map_cons, ofVal, List.map_nil, known1, PV.cells, splice, List.take_zero, List.nil_append, List.drop_succ_cons, List.drop_nil, List.append_nil, List.drop_zero, pcall, okArg, ofConst, Specs.at, sLen, hpl, hw, hbI, pbuild, pfill, ty9, Option.isSome_some, ty4, known, true_and, List.cons_append, HBad, inQ, RPost, sres, Tryd.results15, sresL, sres1, and_true, noStr, Ret_fin]
        rintro q ⟨hqr, hq⟩
        have hrq : ¬ r = q := fun e => hqr e.symm
        simp only [hrq, ↓reduceIte, List.length_cons, List.length_nil, Nat.zero_add, Nat.reduceAdd, Nat.le_refl, List.drop_succ_cons, List.drop_nil, Heap.get_put, List.take_succ_cons, List.take_nil, Option.some.injEq, exists_eq_left', true_and]
        refine HTo.of fun k X hk => ?_
        have hkr : ¬ k = r := by rintro rfl; rw [hr] at hk; cases hk
        have hkq : ¬ k = q := by rintro rfl; rw [hq] at hk; cases hk
        rw [Heap.put_ne _ _ hkr, Heap.put_ne _ _ hkq, Heap.put_ne _ _ hkq, Heap.put_ne _ _ hkr]
        exact hk
      · have hbI : ¬ (65536 : Int) < ((sumS (ps.take (i + 1)) : Nat) : Int) := by omega
        have han := anyS_next hlt
        cases he : anyS (ps.take i)
        · simp only [wpC, mayStop, stops, isFlt, Specs.has, eLen, Specs.hasO, Bool.or_false, Specs.hasH, List.any_cons, List.any_nil, Bool.false_eq_true, ↓reduceIte, wpS, wantedA, okDst, Nat.reduceLT, decide_true, step1, isOwnCall, hxOp, px, isNilC, pbinP, AS.eval, AS.get, Lift.look, reduceCtorEq, Nat.reduceEqDiff, Option.getD_some, pbinI, Int.ofNat_lt, hlt, thenQ, isB, AS.put, dropKey, tmpOf, asB, Bool.not_true, ty3, pindexAddr, ty68, ty24, ne_eq, Nat.succ_ne_zero, not_false_eq_true, Int.natCast_nonneg, Int.toNat_natCast, elS_len, and_self, elS_getD hlt, pload, okOne, TK.isAgg, Nat.reduceBEq, List.length_cons, List.length_nil, Nat.zero_add, Nat.reduceAdd, Nat.le_refl, Lift.valOf, List.take_succ_cons, List.take_nil, okAlloc, okZero, List.all_cons, Value.oneCell', List.all_nil, Bool.and_true, Heap.get_put, some_none, hx, zeroOf, List.map_cons, ofVal, List.map_nil, known1, PV.cells, splice, List.take_zero, List.nil_append, List.drop_succ_cons, List.drop_nil, List.append_nil, List.drop_zero, pcall, okArg, ofConst, Specs.at, sLen, hpl, hw, hbI, decide_false, List.getElem?_toArray, List.getElem?_cons_succ, List.getElem?_cons_zero, Option.bind_some, beq_self_eq_true, pfieldAddr, fieldOf, fieldIn, ty4, Option.map_some, Bool.or_true, List.getD_cons_zero, ppick_bool, inQ, hasAll, and_true, true_and]
          rintro q ⟨hqr, hq⟩
          have hrq : ¬ r = q := fun e => hqr e.symm
          refine ⟨i+1, ⟨by omega, by omega⟩, by omega, HTo_new (by rw [Heap.put_ne _ _ hqr]; exact hq), rfl, by rw [han, he]; rfl, by rw [w64 (by omega) (by omega)]; rfl⟩
        · simp only [wpC, mayStop, stops, isFlt, Specs.has, eLen, Specs.hasO, Bool.or_false, Specs.hasH, List.any_cons, List.any_nil, Bool.false_eq_true, ↓reduceIte, wpS, wantedA, okDst, Nat.reduceLT, decide_true, step1, isOwnCall, hxOp, px, isNilC, pbinP, AS.eval, AS.get, Lift.look, reduceCtorEq, Nat.reduceEqDiff, Option.getD_some, pbinI, Int.ofNat_lt, hlt, thenQ, isB, AS.put, dropKey, tmpOf, asB, Bool.not_true, ty3, pindexAddr, ty68, ty24, ne_eq, Nat.succ_ne_zero, not_false_eq_true, Int.natCast_nonneg, Int.toNat_natCast, elS_len, and_self, elS_getD hlt, pload, okOne, TK.isAgg, Nat.reduceBEq, List.length_cons, List.length_nil, Nat.zero_add, Nat.reduceAdd, Nat.le_refl, Lift.valOf, List.take_succ_cons, List.take_nil, okAlloc, okZero, List.all_cons, Value.oneCell', List.all_nil, Bool.and_true, Heap.get_put, some_none, hx, zeroOf, List.map_cons, ofVal, List.map_nil, known1, PV.cells, splice, List.take_zero, List.nil_append, List.drop_succ_cons, List.drop_nil, List.append_nil, List.drop_zero, pcall, okArg, ofConst, Specs.at, sLen, hpl, hw, hbI, decide_false, List.getElem?_toArray, List.getElem?_cons_succ, List.getElem?_cons_zero, Option.bind_some, beq_tf, Option.some.injEq, ppick_true, inQ, hasAll, and_true, true_and]
          rintro q ⟨hqr, hq⟩
          have hrq : ¬ r = q := fun e => hqr e.symm
          refine ⟨i+1, ⟨by omega, by omega⟩, by omega, HTo_new (by rw [Heap.put_ne _ _ hqr]; exact hq), rfl, by rw [han, he]; rfl, by rw [w64 (by omega) (by omega)]; rfl⟩
    · obtain rfl : i = ps.length := by omega
      rw [List.take_length] at hsum
      omega
def sJoin2 : List PV → Prop × PV
  | [.list 2 xs] => match unS xs with
    | some ps => ((∀ p ∈ ps, p.1.length ≤ 1000000000) ∧ ps.length ≤ 1000000, if 65536 < sumS ps then .tuple [noStr, .int .i64 3] else .tuple [.agg [.str (joinL ps), .bool (anyS ps)], .int .i64 0])
    | none => PBad
  | _ => PBad
theorem part_len (any : Bool) (p : List UInt8 × Bool) : (partS any p).length ≤ 4 * lenS p.1 p.2 + 3 := by
  unfold partS
  split
  · rw [List.length_flatMap]
    simp only [be4_len]
    have hs : ∀ l : List Int, (l.map fun _ => 4).sum = 4 * l.length := fun l => by induction l with | nil => rfl | cons a l ih => simp only [List.map_cons, List.sum_cons, ih, List.length_cons]; omega
    rw [hs, charsS_len]
    omega
  · unfold lenS; split <;> omega
theorem join_len (any : Bool) (ps : List (List UInt8 × Bool)) : (ps.flatMap (partS any)).length ≤ 4 * sumS ps + 3 * ps.length := by
  induction ps with
  | nil => simp
  | cons p ps ih =>
    rw [List.flatMap_cons, List.length_append, sumS, List.length_cons]
    have := part_len any p
    omega
noncomputable def eJoin2 : SpecE env := ⟨15, sJoin2, fun args h hc => by
  unfold sJoin2 at hc ⊢
  split at hc
  · rename_i xs
    split at hc
    · rename_i ps hps
      rw [unS_spec hps]
      obtain ⟨h2, h4⟩ := hc
      split
      · rename_i hb; exact .inl (Join_lim ps h hb h2 (by omega))
      · rename_i hb
        exact .inl (Join_ok ps h (by omega) h2 (by unfold joinL; have := join_len (anyS ps) ps; omega) (by omega))
    · exact hc.elim
  · exact hc.elim⟩
end Go.Proofs.YthlibdhjcjangaaDoor
