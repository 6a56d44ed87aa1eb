/- Contracts of functions that the law reaches. -/
import Derived.Test.YthdmdeiaonkeoaaDoorT2
set_option linter.unusedSimpArgs false
set_option linter.unusedVariables false
namespace Go.Proofs.YthdmdeiaonkeoaaDoor
open Go Go.RowKit Go.Proofs.YthdmdeiaonkeoaaDoor Go.Proofs.YthdmdeiaonkeoaaDoor.Lift

/-! bits -/
theorem min64 (k : Nat) (h : k ≤ 64) : min k IntKind.i64.bits = k := by
  show min k 64 = k
  omega
theorem and_nat (x : Int) (m : Nat) (hm : m < 18446744073709551616) : bitsOp .and .i64 x (m : Int) = IntKind.i64.wrap ((((x % 18446744073709551616).toNat &&& m : Nat)) : Int) := by
  show IntKind.i64.wrap ((BitVec.ofInt 64 x &&& BitVec.ofInt 64 (m : Int)).toNat : Int) = _
  rw [BitVec.toNat_and, BitVec.toNat_ofInt, BitVec.toNat_ofInt]
  have e2 : ((m : Int) % ((2 ^ 64 : Nat) : Int)).toNat = m := by
    rw [show ((2 ^ 64 : Nat) : Int) = 18446744073709551616 by rfl]; omega
  rw [e2]
  rfl
theorem and15 (x : Int) : bitsOp .and .i64 x 15 = x % 16 := by
  have := and_nat x 15 (by omega)
  rw [show ((15 : Nat) : Int) = 15 from rfl] at this
  rw [this, show (15 : Nat) = 2 ^ 4 - 1 from rfl, Nat.and_two_pow_sub_one_eq_mod, w64 (by omega) (by omega)]
  omega
theorem and255 (x : Int) : bitsOp .and .i64 x 255 = x % 256 := by
  have := and_nat x 255 (by omega)
  rw [show ((255 : Nat) : Int) = 255 from rfl] at this
  rw [this, show (255 : Nat) = 2 ^ 8 - 1 from rfl, Nat.and_two_pow_sub_one_eq_mod, w64 (by omega) (by omega)]
  omega
theorem and32 (x : Int) : bitsOp .and .i64 x 4294967295 = x % 4294967296 := by
  have := and_nat x 4294967295 (by omega)
  rw [show ((4294967295 : Nat) : Int) = 4294967295 from rfl] at this
  rw [this, show (4294967295 : Nat) = 2 ^ 32 - 1 from rfl, Nat.and_two_pow_sub_one_eq_mod, w64 (by omega) (by omega)]
  omega
theorem or64 (y i a : Nat) (hy : y < 2 ^ i) (h : 2 ^ i * a + y < 9223372036854775808) : bitsOp .or .i64 ((2 ^ i * a : Nat) : Int) (y : Int) = ((2 ^ i * a + y : Nat) : Int) := by
  show IntKind.i64.wrap ((BitVec.ofInt 64 ((2 ^ i * a : Nat) : Int) ||| BitVec.ofInt 64 (y : Int)).toNat : Int) = _
  rw [BitVec.toNat_or, BitVec.toNat_ofInt, BitVec.toNat_ofInt]
  generalize hx : 2 ^ i * a = x at *
  have e0 : ((2 ^ 64 : Nat) : Int) = 18446744073709551616 := by rfl
  have e1 : ((x : Int) % ((2 ^ 64 : Nat) : Int)).toNat = x := by rw [e0]; omega
  have e2 : ((y : Int) % ((2 ^ 64 : Nat) : Int)).toNat = y := by rw [e0]; omega
  rw [e1, e2, ← hx, ← Nat.two_pow_add_eq_or_of_lt hy a, hx, w64 (by omega) (by omega)]
/-- The word of an instruction. -/
def encW (o a b c i : Int) : Int := o * 72057594037927936 + a * 281474976710656 + b * 1099511627776 + c * 68719476736 + i % 4294967296
/-- As the program makes it. -/
def encC (o a b c i : Int) : Int :=
  bitsOp .or .i64 (bitsOp .or .i64 (bitsOp .or .i64 (bitsOp .or .i64 (IntKind.i64.wrap (o * 2 ^ min 56 IntKind.i64.bits)) (IntKind.i64.wrap (a * 2 ^ min 48 IntKind.i64.bits))) (IntKind.i64.wrap (b * 2 ^ min 40 IntKind.i64.bits))) (IntKind.i64.wrap (c * 2 ^ min 36 IntKind.i64.bits))) (IntKind.i64.wrap (IntKind.u32.wrap i))
def inR (o a b c : Int) : Prop := 0 ≤ o ∧ o < 32 ∧ 0 ≤ a ∧ a ≤ 15 ∧ 0 ≤ b ∧ b ≤ 15 ∧ 0 ≤ c ∧ c ≤ 15
theorem encC_law {o a b c : Int} (i : Int) (h : inR o a b c) : encC o a b c i = encW o a b c i := by
  obtain ⟨h1, h2, h3, h4, h5, h6, h7, h8⟩ := h
  obtain ⟨o, rfl⟩ : ∃ n : Nat, o = (n : Int) := ⟨o.toNat, by omega⟩
  obtain ⟨a, rfl⟩ : ∃ n : Nat, a = (n : Int) := ⟨a.toNat, by omega⟩
  obtain ⟨b, rfl⟩ : ∃ n : Nat, b = (n : Int) := ⟨b.toNat, by omega⟩
  obtain ⟨c, rfl⟩ : ∃ n : Nat, c = (n : Int) := ⟨c.toNat, by omega⟩
  have p56 : (2 : Int) ^ 56 = 72057594037927936 := by rfl
  have p48 : (2 : Int) ^ 48 = 281474976710656 := by rfl
  have p40 : (2 : Int) ^ 40 = 1099511627776 := by rfl
  have p36 : (2 : Int) ^ 36 = 68719476736 := by rfl
  have hu : IntKind.u32.wrap i = i % 4294967296 := by rw [IntKind.wrap_u32]
  unfold encC encW
  rw [min64 56 (by omega), min64 48 (by omega), min64 40 (by omega), min64 36 (by omega), p56, p48, p40, p36, hu]
  rw [w64 (n := (o : Int) * 72057594037927936) (by omega) (by omega), w64 (n := (a : Int) * 281474976710656) (by omega) (by omega), w64 (n := (b : Int) * 1099511627776) (by omega) (by omega), w64 (n := (c : Int) * 68719476736) (by omega) (by omega), w64 (n := i % 4294967296) (by omega) (by omega)]
  obtain ⟨m, hm⟩ : ∃ n : Nat, i % 4294967296 = (n : Int) := ⟨(i % 4294967296).toNat, by omega⟩
  rw [hm]
  have q56 : (2 : Nat) ^ 56 = 72057594037927936 := by rfl
  have q48 : (2 : Nat) ^ 48 = 281474976710656 := by rfl
  have q40 : (2 : Nat) ^ 40 = 1099511627776 := by rfl
  have q36 : (2 : Nat) ^ 36 = 68719476736 := by rfl
  have s1 := or64 (281474976710656 * a) 56 o (by omega) (by omega)
  rw [q56] at s1
  rw [show (o : Int) * 72057594037927936 = ((72057594037927936 * o : Nat) : Int) by omega, show (a : Int) * 281474976710656 = ((281474976710656 * a : Nat) : Int) by omega, s1]
  have s2 := or64 (1099511627776 * b) 48 (256 * o + a) (by omega) (by omega)
  rw [q48, show 281474976710656 * (256 * o + a) = 72057594037927936 * o + 281474976710656 * a by omega] at s2
  rw [show (b : Int) * 1099511627776 = ((1099511627776 * b : Nat) : Int) by omega, s2]
  have s3 := or64 (68719476736 * c) 40 (65536 * o + 256 * a + b) (by omega) (by omega)
  rw [q40, show 1099511627776 * (65536 * o + 256 * a + b) = 72057594037927936 * o + 281474976710656 * a + 1099511627776 * b by omega] at s3
  rw [show (c : Int) * 68719476736 = ((68719476736 * c : Nat) : Int) by omega, s3]
  have s4 := or64 m 36 (1048576 * o + 4096 * a + 16 * b + c) (by omega) (by omega)
  rw [q36, show 68719476736 * (1048576 * o + 4096 * a + 16 * b + c) = 72057594037927936 * o + 281474976710656 * a + 1099511627776 * b + 68719476736 * c by omega] at s4
  rw [s4]
  omega
theorem checkS_zero {o a b c i : Int} (h : checkS o a b c i = 0) : inR o a b c ∧ -2147483648 ≤ i ∧ i ≤ 2147483647 := by
  unfold checkS at h
  split at h
  · cases h
  · rename_i hk
    split at h
    · cases h
    · rename_i ho
      have hk' : 0 ≤ o ∧ o < 32 := by simpa [knownS] using hk
      have hm : mostS o ≤ 15 := by unfold mostS; split <;> omega
      unfold outS at ho
      unfold inR
      omega
/-! cpu.Encode -/
def encS (o a b c i : Int) : PV := .tuple [.int .i64 (if checkS o a b c i = 0 then encW o a b c i else 0), .int .i64 (checkS o a b c i)]
def sEncode : List PV → Prop × PV
  | [.agg [.int .i64 o, .int .i64 a, .int .i64 b, .int .i64 c, .int .i64 i]] => (True, encS o a b c i)
  | _ => PBad
theorem Encode_ok (o a b c i : Int) (h : Heap) : SCalls env 10 [.agg [.int .i64 o, .int .i64 a, .int .i64 b, .int .i64 c, .int .i64 i]] h (Ret (encS o a b c i) h) := by
  refine SCalls.body Tryd.func10 rfl rfl (by simp [Tryd.ntmps10]) ?_
  refine SW.seq (SW.run [] _ ?_)
  simp only [wpC, Bool.false_eq_true, ↓reduceIte, wpS, stops, wantedA, okDst, Tryd.ntmps10, Nat.reduceLT, decide_true, step1, known1, AS.eval, AS.get, enumA, Lift.look, Option.getD_some, AS.put, dropKey, reduceCtorEq, isOwnCall, hxOp, px, ofConst, ofVal, Nat.reduceEqDiff, PV.cells, List.length_cons, List.length_nil, Nat.zero_add, Nat.reduceAdd, thenQ, true_and]
  intro r hr
  refine SW.seq (SW.run [eCheck] _ ?_)
  simp only [wpC, mayStop, stops, isFlt, Specs.has, eCheck, Specs.hasO, Nat.reduceLeDiff, Nat.reduceSub, false_and, ↓reduceIte, Bool.or_false, List.any_cons, Bool.not_true, List.any_nil, Bool.false_eq_true, wpS, wantedA, okDst, Nat.reduceLT, decide_true, step1, isOwnCall, hxOp, px, pload, ty23, AS.eval, AS.get, Lift.look, Nat.reduceEqDiff, Option.getD_some, Heap.get_put, okOne, TK.isAgg, Nat.reduceBEq, Nat.zero_add, List.length_cons, List.length_nil, Nat.reduceAdd, Nat.le_refl, and_self, Lift.valOf, List.drop_zero, List.take_succ_cons, List.take_nil, reduceCtorEq, AS.put, dropKey, pcall, okArg, ofConst, ofVal, List.all_cons, List.all_nil, Bool.and_true, Specs.at, List.map_cons, List.map_nil, sCheck, thenQ, pbinP, pbinI, isB, tmpOf, asB, RPost, sres, Ret_fin, true_and]
  by_cases hz : checkS o a b c i = 0
  · have hz' : (checkS o a b c i != 0) = false := by simpa using hz
    rw [if_neg (by rw [hz']; simp)]
    refine SW.run [] _ ?_
    simp only [wpC, mayStop, stops, isFlt, Specs.has, Specs.hasO, Bool.or_false, Bool.not_false, List.any_cons, List.any_nil, Bool.false_eq_true, ↓reduceIte, wpS, wantedA, okDst, Nat.reduceLT, decide_true, step1, isOwnCall, hxOp, px, pfieldAddr, fieldOf, ty23, fieldIn, List.getElem?_cons_zero, ty3, Option.map_some, AS.eval, AS.get, Lift.look, Nat.reduceEqDiff, Option.getD_some, ne_eq, Nat.succ_ne_zero, not_false_eq_true, Nat.add_zero, AS.put, dropKey, hz, Int.reduceBNe, reduceCtorEq, pload, Heap.get_put, okOne, TK.isAgg, beq_self_eq_true, Bool.or_true, Nat.zero_add, List.length_cons, List.length_nil, Nat.reduceAdd, Nat.reduceLeDiff, and_self, Lift.valOf, List.drop_zero, List.take_succ_cons, List.take_zero, List.getD_cons_zero, pbinP, ofConst, ofVal, pbinI, Int.reduceLE, Int.reduceToNat, List.getElem?_cons_succ, List.drop_succ_cons, Nat.le_refl, List.take_nil, ty68, pconvH, pconv, thenQ, RPost, sres, Tryd.results10, sresL, sres1, Option.some.injEq, Ret_fin, exists_eq_left', true_and]
    refine ⟨?_, HTo.put (.refl _ _) hr _⟩
    unfold encS
    rw [if_pos hz, hz, ← encC_law i (checkS_zero hz).1]
    rfl
  · have hz' : (checkS o a b c i != 0) = true := by simpa using hz
    rw [if_pos hz']
    simp only [hz', Tryd.results10, sresL, sres1, AS.get, Lift.look, Nat.reduceEqDiff, ↓reduceIte, Option.getD_some, Option.some.injEq, exists_eq_left']
    refine ⟨?_, HTo.put (.refl _ _) hr _⟩
    unfold encS
    rw [if_neg hz]
noncomputable def eEncode : SpecE env := ⟨10, sEncode, fun args h hc => by
  unfold sEncode at hc ⊢
  split at hc
  · rename_i o a b c i; exact .inl (Encode_ok o a b c i h)
  · exact hc.elim⟩
/-! cpu.Decode -/
theorem sh56 (w : Int) : w.fdiv (2 ^ min 56 IntKind.i64.bits) = w / 72057594037927936 := by
  rw [min64 56 (by omega), show (2 : Int) ^ 56 = 72057594037927936 by rfl, Int.fdiv_eq_ediv_of_nonneg _ (by omega)]
theorem sh48 (w : Int) : w.fdiv (2 ^ min 48 IntKind.i64.bits) = w / 281474976710656 := by
  rw [min64 48 (by omega), show (2 : Int) ^ 48 = 281474976710656 by rfl, Int.fdiv_eq_ediv_of_nonneg _ (by omega)]
theorem sh40 (w : Int) : w.fdiv (2 ^ min 40 IntKind.i64.bits) = w / 1099511627776 := by
  rw [min64 40 (by omega), show (2 : Int) ^ 40 = 1099511627776 by rfl, Int.fdiv_eq_ediv_of_nonneg _ (by omega)]
theorem sh36 (w : Int) : w.fdiv (2 ^ min 36 IntKind.i64.bits) = w / 68719476736 := by
  rw [min64 36 (by omega), show (2 : Int) ^ 36 = 68719476736 by rfl, Int.fdiv_eq_ediv_of_nonneg _ (by omega)]
def immS (w : Int) : Int := IntKind.i32.wrap w
theorem immS_eq (w : Int) : IntKind.i64.wrap (IntKind.i32.wrap w) = immS w := by
  have := w32_range w
  rw [w64 (by omega) (by omega)]
  rfl
def oW (w : Int) : Int := w / 72057594037927936
def aW (w : Int) : Int := w / 281474976710656 % 16
def bW (w : Int) : Int := w / 1099511627776 % 16
def cW (w : Int) : Int := w / 68719476736 % 16
def instV (o a b c i : Int) : PV := .agg [.int .i64 o, .int .i64 a, .int .i64 b, .int .i64 c, .int .i64 i]
/-- Is it the word of an instruction? -/
def isW (w : Int) : Bool := decide (checkS (oW w) (aW w) (bW w) (cW w) (immS w) = 0 ∧ encW (oW w) (aW w) (bW w) (cW w) (immS w) = w)
def decS (w : Int) : PV := if isW w = true then .tuple [instV (oW w) (aW w) (bW w) (cW w) (immS w), .int .i64 0] else .tuple [instV 0 0 0 0 0, .int .i64 2]
def sDecode : List PV → Prop × PV
  | [.int .i64 w] => (True, decS w)
  | _ => PBad
theorem Decode_ok (w : Int) (h : Heap) : SCalls env 15 [.int .i64 w] h (Ret (decS w) h) := by
  refine SCalls.body Tryd.func15 rfl rfl (by simp [Tryd.ntmps15]) ?_
  refine SW.seq (SW.run [] _ ?_)
  simp only [wpC, Bool.false_eq_true, ↓reduceIte, wpS, stops, wantedA, okDst, Tryd.ntmps15, Nat.reduceLT, decide_true, step1, okAlloc, ty23, okZero, List.all_cons, Value.oneCell', List.all_nil, Bool.and_true, AS.put, enumA, dropKey, reduceCtorEq, isOwnCall, hxOp, px, AS.eval, ofConst, ofVal, thenQ, Nat.reduceEqDiff, zeroOf, List.map_cons, List.map_nil, List.length_cons, List.length_nil, Nat.zero_add, Nat.reduceAdd, true_and]
  intro r hr
  refine SW.seq (SW.run [] _ ?_)
  simp only [wpC, Bool.false_eq_true, ↓reduceIte, wpS, stops, wantedA, okDst, Nat.reduceLT, decide_true, step1, isOwnCall, hxOp, px, AS.eval, AS.get, Lift.look, Nat.succ_ne_zero, Option.getD_some, AS.put, dropKey, Nat.reduceEqDiff, reduceCtorEq, pbinP, ofConst, ofVal, pbinI, Int.reduceLE, Int.reduceToNat, sh56, sh48, and15, sh40, sh36, ty3, ty21, pconvH, pconv, immS_eq, pbuild, ty23, List.map_cons, List.map_nil, pfill, placeOf, List.getElem?_cons_zero, Option.map_some, PV.cells, List.length_cons, List.length_nil, Nat.zero_add, Nat.reduceAdd, Nat.reduceLeDiff, and_self, List.getElem?_cons_succ, splice, List.take_zero, List.nil_append, List.drop_succ_cons, List.drop_zero, List.cons_append, List.take_succ_cons, Nat.le_refl, List.drop_nil, List.append_nil, List.all_cons, Option.isSome_some, List.all_nil, Bool.and_true, okZero, Value.oneCell', known, okAlloc, Heap.get_put, some_none, hx, zeroOf, known1, thenQ, true_and]
  rintro q ⟨hqr, hq⟩
  have hrq : ¬ r = q := fun e => hqr e.symm
  simp only [Heap.put_put]
  have eo : w / 72057594037927936 = oW w := rfl
  have ea : w / 281474976710656 % 16 = aW w := rfl
  have eb : w / 1099511627776 % 16 = bW w := rfl
  have ec : w / 68719476736 % 16 = cW w := rfl
  rw [eo, ea, eb, ec]
  by_cases hz : checkS (oW w) (aW w) (bW w) (cW w) (immS w) = 0
  · by_cases he : encW (oW w) (aW w) (bW w) (cW w) (immS w) = w
    · have hi : isW w = true := by unfold isW; rw [decide_eq_true_eq]; exact ⟨hz, he⟩
      refine SW.run [eEncode] _ ?_
      simp only [wpC, mayStop, stops, isFlt, Specs.has, eEncode, Specs.hasO, Nat.reduceLeDiff, Nat.reduceSub, false_and, ↓reduceIte, Bool.or_false, List.any_cons, Bool.not_true, List.any_nil, Bool.false_eq_true, wpS, wantedA, okDst, Nat.reduceLT, decide_true, step1, isOwnCall, hxOp, px, pload, ty23, AS.eval, AS.get, Lift.look, Option.getD_some, Heap.get_put, okOne, TK.isAgg, Nat.reduceBEq, Nat.zero_add, List.length_cons, List.length_nil, Nat.reduceAdd, Nat.le_refl, and_self, Lift.valOf, List.drop_zero, List.take_succ_cons, List.take_nil, reduceCtorEq, AS.put, dropKey, Nat.reduceEqDiff, pcall, okArg, ofConst, ofVal, List.all_cons, List.all_nil, Bool.and_true, Specs.at, List.map_cons, List.map_nil, sEncode, encS, hz, he, List.getElem?_cons_zero, List.getElem?_cons_succ, thenQ, pbinP, pbinI, bne_self_eq_false, List.getElem?_toArray, Option.bind_some, beq_self_eq_true, Nat.succ_ne_zero, ppick_bool, isB, tmpOf, asB, hx, hrq, known1, PV.cells, splice, List.take_zero, List.nil_append, List.drop_succ_cons, List.drop_nil, List.append_nil, RPost, sres, Tryd.results15, sresL, sres1, Option.some.injEq, Ret_fin, exists_eq_left', true_and]
      exact ⟨by unfold decS; rw [if_pos hi]; rfl, HTo.put3 _ _ _ hr hq hr⟩
    · have hi : ¬ isW w = true := by unfold isW; rw [decide_eq_true_eq]; exact fun h => he h.2
      have he' : (encW (oW w) (aW w) (bW w) (cW w) (immS w) != w) = true := by simpa using he
      refine SW.run [eEncode] _ ?_
      simp only [wpC, mayStop, stops, isFlt, Specs.has, eEncode, Specs.hasO, Nat.reduceLeDiff, Nat.reduceSub, false_and, ↓reduceIte, Bool.or_false, List.any_cons, Bool.not_true, List.any_nil, Bool.false_eq_true, wpS, wantedA, okDst, Nat.reduceLT, decide_true, step1, isOwnCall, hxOp, px, pload, ty23, AS.eval, AS.get, Lift.look, Option.getD_some, Heap.get_put, okOne, TK.isAgg, Nat.reduceBEq, Nat.zero_add, List.length_cons, List.length_nil, Nat.reduceAdd, Nat.le_refl, and_self, Lift.valOf, List.drop_zero, List.take_succ_cons, List.take_nil, reduceCtorEq, AS.put, dropKey, Nat.reduceEqDiff, pcall, okArg, ofConst, ofVal, List.all_cons, List.all_nil, Bool.and_true, Specs.at, List.map_cons, List.map_nil, sEncode, encS, hz, List.getElem?_cons_zero, List.getElem?_cons_succ, thenQ, pbinP, pbinI, Int.reduceBNe, List.getElem?_toArray, Option.bind_some, beq_self_eq_true, Nat.succ_ne_zero, he', ppick_bool, isB, tmpOf, asB, pbuild, pfill, ty3, Option.isSome_some, okZero, Value.oneCell', known, hx, hrq, known1, PV.cells, splice, List.take_zero, List.nil_append, List.drop_succ_cons, List.drop_nil, List.append_nil, RPost, sres, Tryd.results15, sresL, sres1, Option.some.injEq, Ret_fin, exists_eq_left', true_and]
      exact ⟨by unfold decS; rw [if_neg hi]; rfl, HTo.put3 _ _ _ hr hq hr⟩
  · have hi : ¬ isW w = true := by unfold isW; rw [decide_eq_true_eq]; exact fun h => hz h.1
    have hz' : (checkS (oW w) (aW w) (bW w) (cW w) (immS w) != 0) = true := by simpa using hz
    refine SW.run [eEncode] _ ?_
    simp only [wpC, mayStop, stops, isFlt, Specs.has, eEncode, Specs.hasO, Nat.reduceLeDiff, Nat.reduceSub, false_and, ↓reduceIte, Bool.or_false, List.any_cons, Bool.not_true, List.any_nil, Bool.false_eq_true, wpS, wantedA, okDst, Nat.reduceLT, decide_true, step1, isOwnCall, hxOp, px, pload, ty23, AS.eval, AS.get, Lift.look, Option.getD_some, Heap.get_put, okOne, TK.isAgg, Nat.reduceBEq, Nat.zero_add, List.length_cons, List.length_nil, Nat.reduceAdd, Nat.le_refl, and_self, Lift.valOf, List.drop_zero, List.take_succ_cons, List.take_nil, reduceCtorEq, AS.put, dropKey, Nat.reduceEqDiff, pcall, okArg, ofConst, ofVal, List.all_cons, List.all_nil, Bool.and_true, Specs.at, List.map_cons, List.map_nil, sEncode, encS, hz, List.getElem?_cons_zero, List.getElem?_cons_succ, thenQ, pbinP, pbinI, hz', List.getElem?_toArray, Option.bind_some, beq_tf, Option.some.injEq, ppick_true, isB, tmpOf, asB, pbuild, pfill, ty3, Option.isSome_some, okZero, Value.oneCell', known, hx, hrq, known1, PV.cells, splice, List.take_zero, List.nil_append, List.drop_succ_cons, List.drop_nil, List.append_nil, RPost, sres, Tryd.results15, sresL, sres1, Ret_fin, exists_eq_left', true_and]
    exact ⟨by unfold decS; rw [if_neg hi]; rfl, HTo.put3 _ _ _ hr hq hr⟩
noncomputable def eDecode : SpecE env := ⟨15, sDecode, fun args h hc => by
  unfold sDecode at hc ⊢
  split at hc
  · rename_i w; exact .inl (Decode_ok w h)
  · exact hc.elim⟩
end Go.Proofs.YthdmdeiaonkeoaaDoor
