/- Contracts of functions that the law reaches. -/
import Derived.Test.YthlibdhjcjangaaTr
set_option linter.unusedSimpArgs false
set_option linter.unusedVariables false
namespace Go.Proofs.Ythlibdhjcjangaa
open Go Go.RowKit Go.Proofs.Ythlibdhjcjangaa Go.Proofs.Ythlibdhjcjangaa.Lift

theorem gd0 (a : UInt8) (l : List UInt8) : (a :: l).getD 0 0 = a := rfl
theorem gd1 (a b : UInt8) (l : List UInt8) : (a :: b :: l).getD 1 0 = b := rfl
theorem gd2 (a b c : UInt8) (l : List UInt8) : (a :: b :: c :: l).getD 2 0 = c := rfl
theorem gd3 (a b c d : UInt8) (l : List UInt8) : (a :: b :: c :: d :: l).getD 3 0 = d := rfl
set_option maxRecDepth 1000000 in
/-- What is encoded is decoded. -/
theorem decode_enc (c : Int) (hc : isC c = true) (rest : List UInt8) : Utf8.decode ⟨(encL c ++ rest).toArray⟩ 0 = (c.toNat, (encL c).length) := by
  have h := isC_iff.1 hc
  obtain ⟨n, rfl⟩ : ∃ n : Nat, c = (n : Int) := ⟨c.toNat, by omega⟩
  have hv : Utf8.valid (n : Int) = true := by
    unfold Utf8.valid
    simp only [Bool.or_eq_true, Bool.and_eq_true, decide_eq_true_eq]
    omega
  unfold encL Utf8.encode
  rw [if_pos hv, Int.toNat_natCast]
  dsimp only
  unfold Utf8.decode
  simp only [getB, size_mk, Nat.zero_add]
  by_cases h1 : n < 128
  · rw [if_pos h1]
    simp only [List.cons_append, List.nil_append, gd0, UInt8.toNat_ofNat']
    rw [if_pos (by omega)]
    exact Prod.ext (by dsimp only; omega) rfl
  · by_cases h2 : n < 2048
    · rw [if_neg h1, if_pos h2]
      simp only [List.cons_append, List.nil_append, gd0, gd1, UInt8.toNat_ofNat', List.length_cons]
      have e1 : ((192 + n / 64) % 2 ^ 8 / 32 == 6) = true := by rw [beq_iff_eq]; omega
      have e2 : ((128 + n % 64) % 2 ^ 8 / 64 == 2) = true := by rw [beq_iff_eq]; omega
      have e3 : decide (1 < rest.length + 1 + 1) = true := by rw [decide_eq_true_eq]; omega
      rw [if_neg (by omega)]
      simp only [e1, e2, e3, Bool.true_and, ↓reduceIte]
      rw [if_pos (by omega)]
      exact Prod.ext (by dsimp only; omega) rfl
    · by_cases h3 : n < 65536
      · rw [if_neg h1, if_neg h2, if_pos h3]
        simp only [List.cons_append, List.nil_append, gd0, gd1, gd2, UInt8.toNat_ofNat', List.length_cons]
        have e0 : ((224 + n / 4096) % 2 ^ 8 / 32 == 6) = false := by rw [beq_eq_false_iff_ne]; omega
        have e1 : ((224 + n / 4096) % 2 ^ 8 / 16 == 14) = true := by rw [beq_iff_eq]; omega
        have e2 : ((128 + n / 64 % 64) % 2 ^ 8 / 64 == 2) = true := by rw [beq_iff_eq]; omega
        have e4 : ((128 + n % 64) % 2 ^ 8 / 64 == 2) = true := by rw [beq_iff_eq]; omega
        have e3 : decide (1 < rest.length + 1 + 1 + 1) = true := by rw [decide_eq_true_eq]; omega
        have e5 : decide (2 < rest.length + 1 + 1 + 1) = true := by rw [decide_eq_true_eq]; omega
        have e6 : (224 + n / 4096) % 2 ^ 8 % 16 * 4096 + (128 + n / 64 % 64) % 2 ^ 8 % 64 * 64 + (128 + n % 64) % 2 ^ 8 % 64 = n := by omega
        rw [if_neg (by omega)]
        simp only [e0, e1, e2, e3, e4, e5, e6, Bool.true_and, Bool.false_and, Bool.false_eq_true, ↓reduceIte, hv, Bool.and_true, decide_eq_true_eq]
        rw [if_pos (by omega)]
        rfl
      · rw [if_neg h1, if_neg h2, if_neg h3]
        simp only [List.cons_append, List.nil_append, gd0, gd1, gd2, gd3, UInt8.toNat_ofNat', List.length_cons]
        have e0 : ((240 + n / 262144) % 2 ^ 8 / 32 == 6) = false := by rw [beq_eq_false_iff_ne]; omega
        have e0' : ((240 + n / 262144) % 2 ^ 8 / 16 == 14) = false := by rw [beq_eq_false_iff_ne]; omega
        have e1 : ((240 + n / 262144) % 2 ^ 8 / 8 == 30) = true := by rw [beq_iff_eq]; omega
        have e2 : ((128 + n / 4096 % 64) % 2 ^ 8 / 64 == 2) = true := by rw [beq_iff_eq]; omega
        have e4 : ((128 + n / 64 % 64) % 2 ^ 8 / 64 == 2) = true := by rw [beq_iff_eq]; omega
        have e7 : ((128 + n % 64) % 2 ^ 8 / 64 == 2) = true := by rw [beq_iff_eq]; omega
        have e3 : decide (1 < rest.length + 1 + 1 + 1 + 1) = true := by rw [decide_eq_true_eq]; omega
        have e5 : decide (2 < rest.length + 1 + 1 + 1 + 1) = true := by rw [decide_eq_true_eq]; omega
        have e8 : decide (3 < rest.length + 1 + 1 + 1 + 1) = true := by rw [decide_eq_true_eq]; omega
        have e6 : (240 + n / 262144) % 2 ^ 8 % 8 * 262144 + (128 + n / 4096 % 64) % 2 ^ 8 % 64 * 4096 + (128 + n / 64 % 64) % 2 ^ 8 % 64 * 64 + (128 + n % 64) % 2 ^ 8 % 64 = n := by omega
        rw [if_neg (by omega)]
        simp only [e0, e0', e1, e2, e3, e4, e5, e6, e7, e8, Bool.true_and, Bool.false_and, Bool.false_eq_true, ↓reduceIte, hv, Bool.and_true, decide_eq_true_eq]
        rw [if_pos (by omega)]
        rfl
theorem encL_len (c : Int) (hc : isC c = true) : 0 < (encL c).length := by
  rw [enc_law c hc]
  unfold encR
  split
  · simp
  · split
    · simp
    · split <;> simp
theorem encL_le (c : Int) (hc : isC c = true) : (encL c).length ≤ 4 := by
  rw [enc_law c hc]
  unfold encR
  split
  · simp
  · split
    · simp
    · split <;> simp
theorem decodeS_enc (ns : List Int) (hv : okChars ns) : ∀ n, (ns.flatMap encL).length ≤ n → decodeS n (ns.flatMap encL) = ns := by
  induction ns with
  | nil => intro n _; cases n <;> rfl
  | cons c ns ih =>
    intro n hn
    have hc := hv c (List.mem_cons_self ..)
    have hl := encL_len c hc
    rw [List.flatMap_cons] at hn ⊢
    rw [List.length_append] at hn
    cases n with
    | zero => omega
    | succ n =>
      have hf := first_law (encL c ++ ns.flatMap encL) (by rw [List.length_append]; omega)
      rw [decode_enc c hc] at hf
      have hci := isC_iff.1 hc
      unfold decodeS
      rw [hf, if_pos (by rw [List.length_append]; omega)]
      dsimp only
      rw [List.drop_left, ih (fun x hx => hv x (List.mem_cons_of_mem _ hx)) n (by omega), Int.toNat_of_nonneg hci.1]
theorem runes_enc (ns : List Int) (hv : okChars ns) : runesOf (ns.flatMap encL) = ns := by
  rw [← decode_law, decodeS_enc ns hv _ (Nat.le_refl _)]
theorem enc_len_le (ns : List Int) (hv : okChars ns) : (ns.flatMap encL).length ≤ 4 * ns.length := by
  induction ns with
  | nil => simp
  | cons c ns ih =>
    rw [List.flatMap_cons, List.length_append, List.length_cons]
    have := encL_le c (hv c (List.mem_cons_self ..))
    have := ih (fun x hx => hv x (List.mem_cons_of_mem _ hx))
    omega
theorem cmpB_self (l : List UInt8) : Lib.compareBytes l l = 0 := by
  induction l with
  | nil => rfl
  | cons a l ih => simp [Lib.compareBytes, ih]
theorem cmpS_self (l : List UInt8) (w : Bool) : cmpS l w l w = 0 := by
  unfold cmpS
  rw [if_pos rfl, cmpB_self]
theorem atS_narrow (l : List UInt8) (i : Nat) (hi : i < l.length) : atS l false (i : Int) = .tuple [.int .i64 ((l.getD i 0).toNat : Int), .int .i64 0] := by
  unfold atS lenS charS
  rw [if_neg (by simp; omega)]
  simp
theorem elB_getD {b : List UInt8} {i : Nat} (h : i < b.length) : (elB b).getD i [] = [.int .u8 ((b.getD i 0).toNat : Int)] := by
  simp [elB, List.getD_eq_getElem?_getD, h]
set_option maxRecDepth 100000 in
theorem TextBack_ok (s b : List UInt8) (h : Heap) : SCalls env 5 [.str s, .list 1 (elB b)] h (Ret (.bool true) h) := by
  refine SCalls.body Try.func5 rfl rfl (by simp [Try.ntmps5]) ?_
  refine SW.seq (SW.run [] _ ?_)
  simp only [wpC, Bool.false_eq_true, ↓reduceIte, wpS, stops, wantedA, okDst, Try.ntmps5, Nat.reduceLT, decide_true, step1, hxOp, px, AS.eval, ofConst, ofVal, thenQ, AS.put, enumA, Nat.zero_add, dropKey, reduceCtorEq, Nat.reduceEqDiff, true_and]
  by_cases hlen : 2000 < (s.length : Int)
  · refine SW.run [eAwake] _ ?_
    simp only [wpC, mayStop, stops, Specs.has, eAwake, List.any_cons, ↓reduceIte, Bool.not_true, List.any_nil, Bool.or_false, Bool.false_eq_true, wpS, wantedA, okDst, Nat.reduceLT, decide_true, step1, hxOp, px, pcall, okArg, AS.eval, AS.get, Lift.look, ofConst, ofVal, List.all_nil, Specs.at, List.map_nil, sAwake, and_self, AS.put, dropKey, Nat.reduceEqDiff, reduceCtorEq, pun, Option.getD_some, thenQ, isB, tmpOf, asB, Nat.succ_ne_zero, ty9, plen, okLen, pbinP, pbinI, hlen, List.getElem?_toArray, List.getElem?_cons_succ, List.getElem?_cons_zero, Option.bind_some, beq_tf, Option.some.injEq, ppick_true, RPost, sres, Try.results5, sresL, sres1, Ret_fin, HTo_self, and_true, exists_eq_left']
  by_cases hlen2 : 2000 < (b.length : Int)
  · refine SW.run [eAwake] _ ?_
    simp only [wpC, mayStop, stops, Specs.has, eAwake, List.any_cons, ↓reduceIte, Bool.not_true, List.any_nil, Bool.or_false, Bool.false_eq_true, wpS, wantedA, okDst, Nat.reduceLT, decide_true, step1, hxOp, px, pcall, okArg, AS.eval, AS.get, Lift.look, ofConst, ofVal, List.all_nil, Specs.at, List.map_nil, sAwake, and_self, AS.put, dropKey, Nat.reduceEqDiff, reduceCtorEq, pun, Option.getD_some, thenQ, isB, tmpOf, asB, Nat.succ_ne_zero, ty9, plen, okLen, pbinP, pbinI, hlen, decide_false, List.getElem?_toArray, List.getElem?_cons_succ, List.getElem?_cons_zero, Option.bind_some, beq_self_eq_true, ty39, elB_len, hlen2, ppick_bool, RPost, sres, Try.results5, sresL, sres1, Option.some.injEq, Ret_fin, HTo_self, and_true, exists_eq_left']
  have hs : s.length ≤ 70368744177664 := by omega
  have hr := runesOf_len s
  have hr2 : (runesOf s).length ≤ 65536 := by omega
  have hv := runes_ok s
  have hpl : (packL (runesOf s)).length ≤ 1000000000 := by have := packL_le (runesOf s); omega
  have hel : ((runesOf s).flatMap encL).length ≤ 70368744177664 := by have := enc_len_le _ hv; omega
  refine SW.run [eAwake, eOfL, eText, eOf] _ ?_
  simp only [wpC, mayStop, stops, Specs.has, eAwake, eOfL, eText, eOf, List.any_cons, ↓reduceIte, Bool.not_true, List.any_nil, Bool.or_false, Bool.false_eq_true, wpS, wantedA, okDst, Nat.reduceLT, decide_true, step1, hxOp, px, pcall, okArg, AS.eval, AS.get, Lift.look, ofConst, ofVal, List.all_nil, Specs.at, List.map_nil, sAwake, and_self, AS.put, dropKey, Nat.reduceEqDiff, reduceCtorEq, pun, Option.getD_some, thenQ, isB, tmpOf, asB, Nat.succ_ne_zero, ty9, plen, okLen, pbinP, pbinI, hlen, decide_false, List.getElem?_toArray, List.getElem?_cons_succ, List.getElem?_cons_zero, Option.bind_some, beq_self_eq_true, ty39, elB_len, hlen2, ppick_bool, List.all_cons, Bool.and_true, List.map_cons, sOfL, hs, hr2, strV, okAlloc, ty24, okZero, Value.oneCell', hx, zeroOf, List.length_cons, List.length_nil, Nat.zero_add, Nat.reduceAdd, Heap.get_put, known1, PV.cells, Nat.le_refl, splice, List.take_zero, List.nil_append, List.drop_succ_cons, List.drop_nil, List.append_nil, pload, okOne, TK.isAgg, Nat.reduceBEq, Lift.valOf, List.drop_zero, List.take_succ_cons, List.take_nil, sText, hpl, packed_chars _ hv, sOf, hel, runes_enc _ hv, some_none, Bool.not_false, Bool.or_true, Try.results5, true_and]
  generalize hns : runesOf s = ns at *
  rintro r hr0 q ⟨hqr, _, hq⟩
  have hrq : ¬ r = q := fun e => hqr e.symm
  refine SW.regionAny [eCompare, eText, eLen] [[0, 1, 2, 3, 4, 5, 6, 7, 8, 9, 10, 11, 12, 13, 14, 15, 16, 17, 18, 19, 20, 21]] rfl (by rfl) (by kernel_rfl) ?_
  simp only [wpOL, wpO, LOp, List.getElem?_toArray, List.getElem?_cons_zero, okDst, Nat.reduceLT, decide_true, wantedA, ↓reduceIte, step1, hxOp, Bool.false_eq_true, px, AS.eval, AS.get, Lift.look, Option.getD_some, List.getElem?_cons_succ, AS.put, dropKey, Nat.reduceEqDiff, reduceCtorEq, pbinP, ofConst, ofVal, pbinI, bne_self_eq_false, Option.bind_some, beq_self_eq_true, pload, ty24, Heap.get_put, hrq, okOne, TK.isAgg, Nat.reduceBEq, Bool.or_false, Nat.zero_add, List.length_cons, List.length_nil, Nat.reduceAdd, Nat.le_refl, and_self, Lift.valOf, List.drop_zero, List.take_succ_cons, List.take_nil, pcall, okArg, List.all_cons, List.all_nil, Bool.and_true, Specs.at, eCompare, List.map_cons, List.map_nil, sCompare, hpl, cmpS_self, ppick_bool, eText, sText, packed_chars _ hv, pbinS, Bool.not_true, eLen, sLen, thenQ, true_and]
  refine SW.run [] _ ?_
  simp only [wpC, isB, AS.get, Lift.look, tmpOf, ↓reduceIte, Option.getD_some, asB, Bool.false_eq_true, thenQ, true_and]
  refine SW.run [eLatin, eWide, eLen] _ ?_
  have hb1 : b.length ≤ 65536 := by omega
  have hb2 : b.length ≤ 1000000000 := by omega
  have hln : (lenS b false) = b.length := rfl
  simp only [wpC, mayStop, stops, Specs.has, eLatin, eWide, eLen, List.any_cons, ↓reduceIte, Bool.not_true, List.any_nil, Bool.or_false, Bool.false_eq_true, wpS, wantedA, okDst, Nat.reduceLT, decide_true, step1, hxOp, px, AS.eval, AS.get, Lift.look, Nat.reduceEqDiff, reduceCtorEq, Option.getD_some, AS.put, dropKey, pcall, okArg, ofConst, ofVal, List.all_cons, List.all_nil, Bool.and_true, Specs.at, List.map_cons, List.map_nil, sLatin, unB_el, hb1, and_self, List.getElem?_cons_zero, List.getElem?_cons_succ, okAlloc, ty24, okZero, Value.oneCell', Heap.get_put, some_none, hx, zeroOf, List.length_cons, List.length_nil, Nat.zero_add, Nat.reduceAdd, known1, PV.cells, Nat.le_refl, splice, List.take_zero, List.nil_append, List.drop_succ_cons, List.drop_nil, List.append_nil, thenQ, pbinP, pbinI, bne_self_eq_false, List.getElem?_toArray, Option.bind_some, beq_self_eq_true, pload, okOne, TK.isAgg, Nat.reduceBEq, Lift.valOf, List.drop_zero, List.take_succ_cons, List.take_nil, sWide, ppick_bool, sLen, hb2, hln, ty39, plen, elB_len, okLen, isB, tmpOf, asB, Bool.or_true, true_and]
  rintro p ⟨hpq, _, hpr, _, hp⟩
  have hqp : ¬ q = p := fun e => hpq e.symm
  have hrp : ¬ r = p := fun e => hpr e.symm
  refine SW.loopK 93 (fun i : Nat => [(1, .list 1 (elB b)), (8, .val (.pointer (some ⟨p, 0, none⟩))), (71, .int .i64 b.length), (72, .int .i64 (i : Nat))]) (fun _ => ((h.put r (.cells 24 2 [.str (packL ns), .bool (anyWide ns)])).put q (.cells 24 2 [.str (packL ns), .bool (anyWide ns)])).put p (.cells 24 2 [.str b, .bool false])) (fun i => i ≤ b.length) (fun i => b.length - i) 0 (Nat.zero_le _) ?_ ?_
  · simp only [Has, Heap.put_put, hasAll, AS.get, Lift.look, Nat.reduceEqDiff, ↓reduceIte, reduceCtorEq, Option.getD_some, Int.cast_ofNat_Int, and_self]
  intro i hi
  refine SW.run [eAt] _ ?_
  by_cases hlt : i < b.length
  · simp only [wpC, mayStop, stops, Specs.has, eAt, List.any_cons, List.any_nil, Bool.or_false, Bool.false_eq_true, ↓reduceIte, wpS, wantedA, okDst, Nat.reduceLT, decide_true, step1, hxOp, px, pbinP, AS.eval, AS.get, Lift.look, Nat.reduceEqDiff, Option.getD_some, pbinI, Int.ofNat_lt, hlt, thenQ, isB, AS.put, dropKey, tmpOf, asB, Bool.not_true, pload, ty24, Heap.get_put, okOne, TK.isAgg, Nat.reduceBEq, Nat.zero_add, List.length_cons, List.length_nil, Nat.reduceAdd, Nat.le_refl, and_self, Lift.valOf, List.drop_zero, List.take_succ_cons, List.take_nil, pcall, okArg, ofConst, ofVal, List.all_cons, List.all_nil, Bool.and_true, Specs.at, List.map_cons, List.map_nil, sAt, hb2, atS_narrow b i hlt, List.getElem?_cons_zero, List.getElem?_cons_succ, bne_self_eq_false, List.getElem?_toArray, Option.bind_some, beq_self_eq_true, pindexAddr, ty39, ty5, ne_eq, Nat.succ_ne_zero, not_false_eq_true, Int.natCast_nonneg, Int.toNat_natCast, elB_len, elB_getD hlt, Bool.or_true, List.getD_cons_zero, ty3, pconvH, pconv, w64_byte, ppick_bool, inQ, Has, hasAll, and_true, true_and]
    exact ⟨i + 1, hlt, by omega, by rw [w64 (by omega) (by omega)]; rfl⟩
  · simp only [wpC, mayStop, stops, Specs.has, List.any_cons, List.any_nil, Bool.or_false, Bool.false_eq_true, ↓reduceIte, wpS, wantedA, okDst, Nat.reduceLT, decide_true, step1, hxOp, px, pbinP, AS.eval, AS.get, Lift.look, Nat.reduceEqDiff, Option.getD_some, pbinI, Int.ofNat_lt, hlt, decide_false, thenQ, isB, AS.put, dropKey, tmpOf, asB, inQ, true_and]
    refine SW.run [] _ ?_
    simp only [wpC, mayStop, stops, Specs.has, Bool.not_false, List.any_cons, List.any_nil, Bool.or_false, Bool.false_eq_true, ↓reduceIte, wpS, wantedA, okDst, Nat.reduceLT, decide_true, step1, hxOp, px, AS.eval, ofConst, ofVal, thenQ, RPost, sres, sresL, sres1, AS.get, AS.put, dropKey, Nat.reduceEqDiff, Lift.look, Option.getD_some, Option.some.injEq, Ret_fin, exists_eq_left', true_and]
    exact HTo.put3 _ _ _ hr0 hq hp
end Go.Proofs.Ythlibdhjcjangaa
