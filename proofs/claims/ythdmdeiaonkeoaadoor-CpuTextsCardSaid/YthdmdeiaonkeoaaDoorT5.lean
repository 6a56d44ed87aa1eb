/- Contracts of functions that the law reaches. -/
import Derived.Test.YthdmdeiaonkeoaaDoorT4
import Derived.Test.YthdmdeiaonkeoaaDoorLiftW
set_option linter.unusedSimpArgs false
set_option linter.unusedVariables false
namespace Go.Proofs.YthdmdeiaonkeoaaDoor
open Go Go.RowKit Go.Proofs.YthdmdeiaonkeoaaDoor Go.Proofs.YthdmdeiaonkeoaaDoor.Lift

/-! acheronref25.Uses -/
def sEntry : List PV → Prop × PV
  | [.int .i64 o] => (True, .tuple [.str (nameS o), .str (usesS o)])
  | _ => PBad
noncomputable def eEntry : SpecE env := ⟨26, sEntry, fun args h hc => by
  unfold sEntry at hc ⊢
  split at hc
  · rename_i o; exact .inl (Entry_ok o h)
  · exact hc.elim⟩
def sUsesR : List PV → Prop × PV
  | [.int .i64 o, .int .u8 c] => (0 ≤ c ∧ c < 256, .bool (hasB (usesS o) (UInt8.ofNat c.toNat)))
  | _ => PBad
theorem hasB_iff (l : List UInt8) (c : UInt8) : hasB l c = decide (c ∈ l) := by
  unfold hasB
  rw [decide_eq_decide]
  induction l with
  | nil => simp [Lib.indexByte]
  | cons b l ih =>
    unfold Lib.indexByte
    have hge := Lib.indexByte_ge l c
    by_cases h : b = c
    · subst h; simp
    · have h' : (b == c) = false := by simpa using h
      have hm : c ∈ b :: l ↔ c ∈ l := by
        rw [List.mem_cons]
        exact ⟨fun x => x.resolve_left (fun e => h e.symm), .inr⟩
      rw [hm, ← ih, h']
      simp only [Bool.false_eq_true, if_false]
      split
      · rename_i e
        have e : Lib.indexByte l c = -1 := by simpa using e
        rw [e]
      · rename_i e
        have e : ¬ Lib.indexByte l c = -1 := by simpa using e
        exact ⟨fun _ => by omega, fun _ => by omega⟩
theorem usesS_len (o : Int) : (usesS o).length ≤ 3 := by
  unfold usesS
  split
  · rename_i hk
    have hk' : 0 ≤ o ∧ o < 32 := by simpa [knownS] using hk
    have hall : (List.range 32).all (fun o => decide ((usesT.getD o []).length ≤ 3)) = true := by kernel_rfl
    simpa using List.all_eq_true.1 hall o.toNat (List.mem_range.2 (by omega))
  · simp
theorem UsesR_ok (o c : Int) (h : Heap) (h0 : 0 ≤ c) (h1 : c < 256) : SCalls env 14 [.int .i64 o, .int .u8 c] h (Ret (.bool (hasB (usesS o) (UInt8.ofNat c.toNat))) h) := by
  refine SCalls.body Tryd.func14 rfl rfl (by simp [Tryd.ntmps14]) ?_
  have hl := usesS_len o
  refine SW.seq (SW.run [] _ ?_)
  simp only [wpC, Bool.false_eq_true, ↓reduceIte, wpS, stops, wantedA, okDst, Tryd.ntmps14, Nat.reduceLT, decide_true, step1, isOwnCall, hxOp, px, AS.eval, ofConst, ofVal, thenQ, AS.put, enumA, Nat.zero_add, dropKey, reduceCtorEq, Nat.reduceEqDiff, true_and]
  refine SW.seq (SW.run [eEntry] _ ?_)
  simp only [wpC, Bool.false_eq_true, ↓reduceIte, wpS, stops, wantedA, okDst, Nat.reduceLT, decide_true, step1, isOwnCall, hxOp, px, AS.eval, AS.get, Lift.look, Nat.succ_ne_zero, Option.getD_some, Specs.has, eEntry, Specs.hasO, Nat.reduceLeDiff, Nat.reduceSub, reduceCtorEq, and_self, Bool.or_false, Bool.not_true, AS.put, dropKey, Nat.reduceEqDiff, pcall, okArg, ofConst, ofVal, List.all_cons, List.all_nil, Bool.and_true, Specs.at, List.map_cons, List.map_nil, sEntry, List.getElem?_cons_zero, List.getElem?_cons_succ, thenQ, true_and]
  refine SW.seq (SW.seq (SW.run [] _ ?_))
  simp only [wpC, Bool.false_eq_true, ↓reduceIte, wpS, stops, wantedA, okDst, Nat.reduceLT, decide_true, step1, isOwnCall, hxOp, px, AS.eval, ofConst, ofVal, thenQ, AS.put, dropKey, Nat.reduceEqDiff, reduceCtorEq, true_and]
  generalize usesS o = l at *
  refine SW.block (SW.loopK 24 (fun i : Nat => [(1, .int .u8 c), (6, .str l), (7, .int .i64 (i : Nat))]) (fun _ => h) (fun i => i ≤ l.length ∧ UInt8.ofNat c.toNat ∉ l.take i) (fun i => l.length - i) 0 ⟨Nat.zero_le _, by simp⟩ ?_ ?_)
  · simp only [Has, hasAll, AS.get, Lift.look, Nat.reduceEqDiff, ↓reduceIte, reduceCtorEq, Option.getD_some, Int.cast_ofNat_Int, and_self]
  rintro i ⟨hi, hno⟩
  refine SW.run [] _ ?_
  by_cases hlt : i < l.length
  · have hw1 : IntKind.i64.wrap ((i : Int) + 1) = ((i + 1 : Nat) : Int) := by rw [w64 (by omega) (by omega)]; rfl
    have hbt := (l.getD i 0).toNat_lt
    by_cases he : (((l.getD i 0).toNat : Nat) : Int) = c
    · have he' : ((((l.getD i 0).toNat : Nat) : Int) == c) = true := by simpa using he
      simp only [wpC, mayStop, stops, isFlt, Specs.has, Specs.hasO, Bool.or_false, Bool.not_false, List.any_cons, List.any_nil, Bool.false_eq_true, ↓reduceIte, wpS, wantedA, okDst, Nat.reduceLT, decide_true, step1, isOwnCall, hxOp, px, AS.eval, AS.get, Lift.look, Nat.reduceEqDiff, Option.getD_some, AS.put, dropKey, pcall, ty9, plen, okLen, and_self, pbinP, pbinI, Int.ofNat_lt, hlt, thenQ, isB, tmpOf, asB, pindex, Int.natCast_nonneg, Int.toNat_natCast, he', ofConst, ofVal, inQ, RPost, sres, Tryd.results14, sresL, sres1, Option.some.injEq, Ret_fin, HTo_self, and_true, exists_eq_left', true_and]
      have hin : UInt8.ofNat c.toNat ∈ l := by
        have : UInt8.ofNat c.toNat = l.getD i 0 := by
          apply UInt8.toNat_inj.1
          rw [UInt8.toNat_ofNat']
          omega
        rw [this, List.getD_eq_getElem?_getD, List.getElem?_eq_getElem hlt]
        exact List.getElem_mem hlt
      rw [hasB_iff, decide_eq_true hin]
    · have he' : ((((l.getD i 0).toNat : Nat) : Int) == c) = false := by simpa using he
      simp only [wpC, mayStop, stops, isFlt, Specs.has, Specs.hasO, Bool.or_false, Bool.not_false, List.any_cons, List.any_nil, Bool.false_eq_true, ↓reduceIte, wpS, wantedA, okDst, Nat.reduceLT, decide_true, step1, isOwnCall, hxOp, px, AS.eval, AS.get, Lift.look, Nat.reduceEqDiff, Option.getD_some, AS.put, dropKey, pcall, ty9, plen, okLen, and_self, pbinP, pbinI, Int.ofNat_lt, hlt, thenQ, isB, tmpOf, asB, pindex, Int.natCast_nonneg, Int.toNat_natCast, he', inQ, ty3, ofConst, ofVal, hw1, Has, hasAll, and_true, true_and]
      refine ⟨i + 1, ⟨hlt, ?_⟩, by omega, rfl⟩
      rw [take_next hlt 0, List.mem_append, List.mem_singleton]
      rintro (hm | hm)
      · exact hno hm
      · apply he
        rw [← hm, UInt8.toNat_ofNat']
        omega
  · simp only [wpC, mayStop, stops, isFlt, Specs.has, Specs.hasO, Bool.or_false, Bool.not_false, List.any_cons, List.any_nil, Bool.false_eq_true, ↓reduceIte, wpS, wantedA, okDst, Nat.reduceLT, decide_true, step1, isOwnCall, hxOp, px, AS.eval, AS.get, Lift.look, Nat.reduceEqDiff, Option.getD_some, AS.put, dropKey, pcall, ty9, plen, okLen, and_self, pbinP, pbinI, Int.ofNat_lt, hlt, decide_false, thenQ, isB, tmpOf, asB, inQ, true_and]
    refine SW.run [] _ ?_
    simp only [wpC, mayStop, stops, isFlt, Specs.has, Specs.hasO, Bool.or_false, Bool.not_false, List.any_cons, List.any_nil, Bool.false_eq_true, ↓reduceIte, wpS, wantedA, okDst, Nat.reduceLT, decide_true, step1, isOwnCall, hxOp, px, AS.eval, ofConst, ofVal, thenQ, RPost, sres, AS.put, dropKey, Nat.reduceEqDiff, Tryd.results14, sresL, sres1, AS.get, Lift.look, Option.getD_some, Option.some.injEq, Ret_fin, HTo_self, and_true, exists_eq_left', true_and]
    have hi' : i = l.length := by omega
    rw [hi', List.take_length] at hno
    rw [hasB_iff, decide_eq_false hno]
noncomputable def eUsesR : SpecE env := ⟨14, sUsesR, fun args h hc => by
  unfold sUsesR at hc ⊢
  split at hc
  · rename_i o c; exact .inl (UsesR_ok o c h hc.1 hc.2)
  · exact hc.elim⟩
/-! acheronref25.Encode -/
def encRf (o a b c i : Int) : Int :=
  IntKind.i64.wrap (IntKind.i64.wrap (IntKind.i64.wrap (IntKind.i64.wrap (IntKind.i64.wrap (o * 2 ^ min 56 IntKind.i64.bits) + IntKind.i64.wrap (a * 2 ^ min 48 IntKind.i64.bits)) + IntKind.i64.wrap (b * 2 ^ min 40 IntKind.i64.bits)) + IntKind.i64.wrap (c * 2 ^ min 36 IntKind.i64.bits)) + i % 4294967296)
def sEncodeR : List PV → Prop × PV
  | [.agg [.int .i64 o, .int .i64 a, .int .i64 b, .int .i64 c, .int .i64 i]] => (True, .int .i64 (encRf o a b c i))
  | _ => PBad
theorem EncodeR_ok (o a b c i : Int) (h : Heap) : SCalls env 16 [.agg [.int .i64 o, .int .i64 a, .int .i64 b, .int .i64 c, .int .i64 i]] h (Ret (.int .i64 (encRf o a b c i)) h) := by
  refine SCalls.body Tryd.func16 rfl rfl (by simp [Tryd.ntmps16]) ?_
  refine SW.seq (SW.run [] _ ?_)
  simp only [wpC, Bool.false_eq_true, ↓reduceIte, wpS, stops, wantedA, okDst, Tryd.ntmps16, Nat.reduceLT, decide_true, step1, known1, AS.eval, AS.get, enumA, Lift.look, Option.getD_some, AS.put, dropKey, reduceCtorEq, isOwnCall, hxOp, px, ofConst, ofVal, thenQ, Nat.reduceEqDiff, PV.cells, List.length_cons, List.length_nil, Nat.zero_add, Nat.reduceAdd, true_and]
  intro r hr
  refine SW.run [] _ ?_
  simp only [wpC, mayStop, stops, isFlt, Specs.has, Specs.hasO, Bool.or_false, Bool.not_false, List.any_cons, ty3, List.any_nil, Bool.false_eq_true, ↓reduceIte, wpS, wantedA, okDst, Nat.reduceLT, decide_true, step1, isOwnCall, hxOp, px, pfieldAddr, fieldOf, ty25, fieldIn, List.getElem?_cons_zero, Option.map_some, AS.eval, AS.get, Lift.look, Nat.reduceEqDiff, Option.getD_some, ne_eq, Nat.succ_ne_zero, not_false_eq_true, Nat.add_zero, AS.put, dropKey, reduceCtorEq, pload, Heap.get_put, okOne, TK.isAgg, beq_self_eq_true, Bool.or_true, Nat.zero_add, List.length_cons, List.length_nil, Nat.reduceAdd, Nat.reduceLeDiff, and_self, Lift.valOf, List.drop_zero, List.take_succ_cons, List.take_zero, List.getD_cons_zero, pbinP, ofConst, ofVal, pbinI, Int.reduceLE, Int.reduceToNat, List.getElem?_cons_succ, List.drop_succ_cons, Nat.le_refl, List.take_nil, and32, thenQ, RPost, sres, Tryd.results16, sresL, sres1, Option.some.injEq, Ret_fin, exists_eq_left', true_and]
  exact ⟨rfl, HTo.put (.refl _ _) hr _⟩
noncomputable def eEncodeR : SpecE env := ⟨16, sEncodeR, fun args h hc => by
  unfold sEncodeR at hc ⊢
  split at hc
  · rename_i o a b c i; exact .inl (EncodeR_ok o a b c i h)
  · exact hc.elim⟩
theorem encRf_law {o a b c : Int} (i : Int) (h : inR o a b c) : encRf o a b c i = encW o a b c i := by
  obtain ⟨h1, h2, h3, h4, h5, h6, h7, h8⟩ := h
  have p56 : (2 : Int) ^ 56 = 72057594037927936 := by rfl
  have p48 : (2 : Int) ^ 48 = 281474976710656 := by rfl
  have p40 : (2 : Int) ^ 40 = 1099511627776 := by rfl
  have p36 : (2 : Int) ^ 36 = 68719476736 := by rfl
  unfold encRf encW
  rw [min64 56 (by omega), min64 48 (by omega), min64 40 (by omega), min64 36 (by omega), p56, p48, p40, p36]
  rw [w64 (n := o * 72057594037927936) (by omega) (by omega), w64 (n := a * 281474976710656) (by omega) (by omega), w64 (n := b * 1099511627776) (by omega) (by omega), w64 (n := c * 68719476736) (by omega) (by omega), w64 (n := o * 72057594037927936 + a * 281474976710656) (by omega) (by omega), w64 (n := o * 72057594037927936 + a * 281474976710656 + b * 1099511627776) (by omega) (by omega), w64 (n := o * 72057594037927936 + a * 281474976710656 + b * 1099511627776 + c * 68719476736) (by omega) (by omega), w64 (by omega) (by omega)]
/-! acheronref25.Check -/
theorem any4 (o a b c i : Int) : (fieldL o a b c i).any badF = ((a != 0 && !hasB (usesS o) 97) || (b != 0 && !hasB (usesS o) 98) || (c != 0 && !hasB (usesS o) 99) || (i != 0 && !hasB (usesS o) 105)) := by
  simp only [fieldL, List.any_cons, List.any_nil, badF, Bool.or_false, Bool.or_assoc, Bool.and_comm]
theorem c97 : UInt8.ofNat 97 = 97 := rfl
theorem c98 : UInt8.ofNat 98 = 98 := rfl
theorem c99 : UInt8.ofNat 99 = 99 := rfl
theorem c105 : UInt8.ofNat 105 = 105 := rfl
def sCheckR : List PV → Prop × PV
  | [.agg [.int .i64 o, .int .i64 a, .int .i64 b, .int .i64 c, .int .i64 i]] => (True, .int .i64 (checkS o a b c i))
  | _ => PBad
set_option maxRecDepth 100000 in
set_option maxHeartbeats 4000000 in
theorem CheckR_ok (o a b c i : Int) (h : Heap) : SCalls env 11 [.agg [.int .i64 o, .int .i64 a, .int .i64 b, .int .i64 c, .int .i64 i]] h (Ret (.int .i64 (checkS o a b c i)) h) := by
  refine SCalls.body Tryd.func11 rfl rfl (by simp [Tryd.ntmps11]) ?_
  refine SW.seq (SW.run [] _ ?_)
  simp only [wpC, Bool.false_eq_true, ↓reduceIte, wpS, stops, wantedA, okDst, Tryd.ntmps11, Nat.reduceLT, decide_true, step1, known1, AS.eval, AS.get, enumA, Lift.look, Option.getD_some, AS.put, dropKey, reduceCtorEq, isOwnCall, hxOp, px, ofConst, ofVal, thenQ, Nat.reduceEqDiff, PV.cells, List.length_cons, List.length_nil, Nat.zero_add, Nat.reduceAdd, true_and]
  intro r hr
  by_cases k1 : o < 0
  · have hk : knownS o = false := by unfold knownS; rw [decide_eq_false_iff_not]; omega
    refine SW.run [eUsesR] _ ?_
    simp only [wpC, mayStop, stops, isFlt, Specs.has, eUsesR, Specs.hasO, Nat.reduceLeDiff, Nat.reduceSub, false_and, ↓reduceIte, Bool.or_false, List.any_cons, List.any_nil, Bool.false_eq_true, wpS, wantedA, okDst, Nat.reduceLT, decide_true, step1, isOwnCall, hxOp, px, pfieldAddr, fieldOf, ty25, fieldIn, List.getElem?_cons_zero, ty3, Option.map_some, AS.eval, AS.get, Lift.look, Nat.reduceEqDiff, Option.getD_some, ne_eq, Nat.succ_ne_zero, not_false_eq_true, Nat.add_zero, AS.put, dropKey, reduceCtorEq, pload, Heap.get_put, okOne, TK.isAgg, beq_self_eq_true, Bool.or_true, Nat.zero_add, List.length_cons, List.length_nil, Nat.reduceAdd, and_self, Lift.valOf, List.drop_zero, List.take_succ_cons, List.take_zero, List.getD_cons_zero, pbinP, ofConst, ofVal, pbinI, k1, List.getElem?_toArray, List.getElem?_cons_succ, Option.bind_some, beq_tf, Option.some.injEq, ppick_true, thenQ, isB, tmpOf, asB, RPost, sres, Tryd.results11, sresL, sres1, checkS, hk, Ret_fin, exists_eq_left', true_and]
    exact HTo.put (.refl _ _) hr _
  by_cases k2 : 32 ≤ o
  · have hk : knownS o = false := by unfold knownS; rw [decide_eq_false_iff_not]; omega
    refine SW.run [eUsesR] _ ?_
    simp only [wpC, mayStop, stops, isFlt, Specs.has, eUsesR, Specs.hasO, Nat.reduceLeDiff, Nat.reduceSub, false_and, ↓reduceIte, Bool.or_false, List.any_cons, List.any_nil, Bool.false_eq_true, wpS, wantedA, okDst, Nat.reduceLT, decide_true, step1, isOwnCall, hxOp, px, pfieldAddr, fieldOf, ty25, fieldIn, List.getElem?_cons_zero, ty3, Option.map_some, AS.eval, AS.get, Lift.look, Nat.reduceEqDiff, Option.getD_some, ne_eq, Nat.succ_ne_zero, not_false_eq_true, Nat.add_zero, AS.put, dropKey, reduceCtorEq, pload, Heap.get_put, okOne, TK.isAgg, beq_self_eq_true, Bool.or_true, Nat.zero_add, List.length_cons, List.length_nil, Nat.reduceAdd, and_self, Lift.valOf, List.drop_zero, List.take_succ_cons, List.take_zero, List.getD_cons_zero, pbinP, ofConst, ofVal, pbinI, k1, decide_false, List.getElem?_toArray, List.getElem?_cons_succ, Option.bind_some, k2, ppick_bool, thenQ, isB, tmpOf, asB, RPost, sres, Tryd.results11, sresL, sres1, Option.some.injEq, checkS, hk, Ret_fin, exists_eq_left', true_and]
    exact HTo.put (.refl _ _) hr _
  have hk : knownS o = true := by unfold knownS; rw [decide_eq_true_eq]; omega
  refine SW.seq (SW.run [] _ ?_)
  simp only [wpC, mayStop, stops, isFlt, Specs.has, Specs.hasO, Bool.or_false, Bool.not_false, List.any_cons, List.any_nil, Bool.false_eq_true, ↓reduceIte, wpS, wantedA, okDst, Nat.reduceLT, decide_true, step1, isOwnCall, hxOp, px, pfieldAddr, fieldOf, ty25, fieldIn, List.getElem?_cons_zero, ty3, Option.map_some, AS.eval, AS.get, Lift.look, Nat.reduceEqDiff, Option.getD_some, ne_eq, Nat.succ_ne_zero, not_false_eq_true, Nat.add_zero, AS.put, dropKey, reduceCtorEq, pload, Heap.get_put, okOne, TK.isAgg, beq_self_eq_true, Bool.or_true, Nat.zero_add, List.length_cons, List.length_nil, Nat.reduceAdd, Nat.reduceLeDiff, and_self, Lift.valOf, List.drop_zero, List.take_succ_cons, List.take_zero, List.getD_cons_zero, pbinP, ofConst, ofVal, pbinI, k1, decide_false, List.getElem?_toArray, List.getElem?_cons_succ, Option.bind_some, k2, ppick_bool, thenQ, isB, tmpOf, asB, true_and]
  refine SW.meet2 101 [(1, .val (.pointer (some ⟨r, 0, none⟩))), (3, .int .i64 (mostS o))] (h.put r (.cells 25 5 [.int .i64 o, .int .i64 a, .int .i64 b, .int .i64 c, .int .i64 i])) ?_ ?_
  · by_cases m1 : 4 ≤ o
    · by_cases m2 : o ≤ 7
      · have hm : mostS o = 1 := by unfold mostS memS; rw [if_pos (by rw [decide_eq_true_eq]; omega)]
        refine SW.run [] _ ?_
        simp only [wpC, Bool.false_eq_true, ↓reduceIte, wpS, stops, wantedA, okDst, Nat.reduceLT, decide_true, step1, isOwnCall, hxOp, px, AS.eval, ofConst, ofVal, thenQ, AS.put, dropKey, Nat.reduceEqDiff, reduceCtorEq, true_and]
        refine SW.run [] _ ?_
        simp only [wpC, mayStop, stops, isFlt, Specs.has, Specs.hasO, Bool.or_false, Bool.not_false, List.any_cons, List.any_nil, Bool.false_eq_true, ↓reduceIte, wpS, wantedA, okDst, Nat.reduceLT, decide_true, step1, isOwnCall, hxOp, px, pfieldAddr, fieldOf, ty25, fieldIn, List.getElem?_cons_zero, ty3, Option.map_some, AS.eval, AS.get, Lift.look, Nat.reduceEqDiff, Option.getD_some, ne_eq, Nat.succ_ne_zero, not_false_eq_true, Nat.add_zero, AS.put, dropKey, reduceCtorEq, pload, Heap.get_put, okOne, TK.isAgg, beq_self_eq_true, Bool.or_true, Nat.zero_add, List.length_cons, List.length_nil, Nat.reduceAdd, Nat.reduceLeDiff, and_self, Lift.valOf, List.drop_zero, List.take_succ_cons, List.take_zero, List.getD_cons_zero, pbinP, ofConst, ofVal, pbinI, m1, List.getElem?_toArray, List.getElem?_cons_succ, Option.bind_some, m2, ppick_bool, thenQ, isB, tmpOf, asB, Meet, HTo_self, hasAll, hm]
      · have hm : mostS o = 15 := by unfold mostS memS; rw [if_neg (by rw [decide_eq_true_eq]; omega)]
        refine SW.run [] _ ?_
        simp only [wpC, Bool.false_eq_true, ↓reduceIte, wpS, stops, wantedA, okDst, Nat.reduceLT, decide_true, step1, isOwnCall, hxOp, px, AS.eval, ofConst, ofVal, thenQ, AS.put, dropKey, Nat.reduceEqDiff, reduceCtorEq, true_and]
        refine SW.run [] _ ?_
        simp only [wpC, mayStop, stops, isFlt, Specs.has, Specs.hasO, Bool.or_false, Bool.not_false, List.any_cons, List.any_nil, Bool.false_eq_true, ↓reduceIte, wpS, wantedA, okDst, Nat.reduceLT, decide_true, step1, isOwnCall, hxOp, px, pfieldAddr, fieldOf, ty25, fieldIn, List.getElem?_cons_zero, ty3, Option.map_some, AS.eval, AS.get, Lift.look, Nat.reduceEqDiff, Option.getD_some, ne_eq, Nat.succ_ne_zero, not_false_eq_true, Nat.add_zero, AS.put, dropKey, reduceCtorEq, pload, Heap.get_put, okOne, TK.isAgg, beq_self_eq_true, Bool.or_true, Nat.zero_add, List.length_cons, List.length_nil, Nat.reduceAdd, Nat.reduceLeDiff, and_self, Lift.valOf, List.drop_zero, List.take_succ_cons, List.take_zero, List.getD_cons_zero, pbinP, ofConst, ofVal, pbinI, m1, List.getElem?_toArray, List.getElem?_cons_succ, Option.bind_some, m2, decide_false, ppick_bool, thenQ, isB, tmpOf, asB, Meet, HTo_self, hasAll, hm]
    · have hm : mostS o = 15 := by unfold mostS memS; rw [if_neg (by rw [decide_eq_true_eq]; omega)]
      refine SW.run [] _ ?_
      simp only [wpC, Bool.false_eq_true, ↓reduceIte, wpS, stops, wantedA, okDst, Nat.reduceLT, decide_true, step1, isOwnCall, hxOp, px, AS.eval, ofConst, ofVal, thenQ, AS.put, dropKey, Nat.reduceEqDiff, reduceCtorEq, true_and]
      refine SW.run [] _ ?_
      simp only [wpC, mayStop, stops, isFlt, Specs.has, Specs.hasO, Bool.or_false, Bool.not_false, List.any_cons, List.any_nil, Bool.false_eq_true, ↓reduceIte, wpS, wantedA, okDst, Nat.reduceLT, decide_true, step1, isOwnCall, hxOp, px, pfieldAddr, fieldOf, ty25, fieldIn, List.getElem?_cons_zero, ty3, Option.map_some, AS.eval, AS.get, Lift.look, Nat.reduceEqDiff, Option.getD_some, ne_eq, Nat.succ_ne_zero, not_false_eq_true, Nat.add_zero, AS.put, dropKey, reduceCtorEq, pload, Heap.get_put, okOne, TK.isAgg, beq_self_eq_true, Bool.or_true, Nat.zero_add, List.length_cons, List.length_nil, Nat.reduceAdd, Nat.reduceLeDiff, and_self, Lift.valOf, List.drop_zero, List.take_succ_cons, List.take_zero, List.getD_cons_zero, pbinP, ofConst, ofVal, pbinI, m1, decide_false, List.getElem?_toArray, List.getElem?_cons_succ, Option.bind_some, beq_ft, Option.some.injEq, ppick_false, thenQ, isB, tmpOf, asB, Meet, HTo_self, hasAll, hm]
  generalize hmo : mostS o = most
  by_cases h1 : a < 0
  · refine SW.run [eUsesR] _ ?_
    simp only [wpC, mayStop, stops, isFlt, Specs.has, eUsesR, Specs.hasO, Nat.reduceLeDiff, Nat.reduceSub, false_and, ↓reduceIte, Bool.or_false, List.any_cons, List.any_nil, Bool.false_eq_true, wpS, wantedA, okDst, Nat.reduceLT, decide_true, step1, isOwnCall, hxOp, px, pfieldAddr, fieldOf, ty25, fieldIn, List.getElem?_cons_succ, List.getElem?_cons_zero, ty3, Option.map_some, AS.eval, AS.get, Lift.look, Option.getD_some, ne_eq, Nat.succ_ne_zero, not_false_eq_true, Nat.zero_add, AS.put, dropKey, Nat.reduceEqDiff, pload, Heap.get_put, okOne, TK.isAgg, beq_self_eq_true, Bool.or_true, Nat.reduceAdd, List.length_cons, List.length_nil, and_self, Lift.valOf, List.drop_succ_cons, List.drop_zero, List.take_succ_cons, List.take_zero, List.getD_cons_zero, pbinP, ofConst, ofVal, pbinI, h1, List.getElem?_toArray, Option.bind_some, beq_tf, Option.some.injEq, ppick_true, thenQ, isB, tmpOf, asB, RPost, sres, Tryd.results11, sresL, sres1, checkS, hk, Bool.true_eq_false, outS, hmo, true_or, Ret_fin, exists_eq_left', true_and]
    exact HTo.put (.refl _ _) hr _
  by_cases h2 : 15 < a
  · refine SW.run [eUsesR] _ ?_
    simp only [wpC, mayStop, stops, isFlt, Specs.has, eUsesR, Specs.hasO, Nat.reduceLeDiff, Nat.reduceSub, false_and, ↓reduceIte, Bool.or_false, List.any_cons, List.any_nil, Bool.false_eq_true, wpS, wantedA, okDst, Nat.reduceLT, decide_true, step1, isOwnCall, hxOp, px, pfieldAddr, fieldOf, ty25, fieldIn, List.getElem?_cons_succ, List.getElem?_cons_zero, ty3, Option.map_some, AS.eval, AS.get, Lift.look, Option.getD_some, ne_eq, Nat.succ_ne_zero, not_false_eq_true, Nat.zero_add, AS.put, dropKey, Nat.reduceEqDiff, pload, Heap.get_put, okOne, TK.isAgg, beq_self_eq_true, Bool.or_true, Nat.reduceAdd, List.length_cons, List.length_nil, and_self, Lift.valOf, List.drop_succ_cons, List.drop_zero, List.take_succ_cons, List.take_zero, List.getD_cons_zero, pbinP, ofConst, ofVal, pbinI, h1, decide_false, List.getElem?_toArray, Option.bind_some, h2, ppick_bool, beq_tf, Option.some.injEq, ppick_true, thenQ, isB, tmpOf, asB, RPost, sres, Tryd.results11, sresL, sres1, checkS, hk, Bool.true_eq_false, outS, hmo, true_or, or_true, Ret_fin, exists_eq_left', true_and]
    exact HTo.put (.refl _ _) hr _
  by_cases h3 : b < 0
  · refine SW.run [eUsesR] _ ?_
    simp only [wpC, mayStop, stops, isFlt, Specs.has, eUsesR, Specs.hasO, Nat.reduceLeDiff, Nat.reduceSub, false_and, ↓reduceIte, Bool.or_false, List.any_cons, List.any_nil, Bool.false_eq_true, wpS, wantedA, okDst, Nat.reduceLT, decide_true, step1, isOwnCall, hxOp, px, pfieldAddr, fieldOf, ty25, fieldIn, List.getElem?_cons_succ, List.getElem?_cons_zero, ty3, Option.map_some, AS.eval, AS.get, Lift.look, Option.getD_some, ne_eq, Nat.succ_ne_zero, not_false_eq_true, Nat.zero_add, AS.put, dropKey, Nat.reduceEqDiff, pload, Heap.get_put, okOne, TK.isAgg, beq_self_eq_true, Bool.or_true, Nat.reduceAdd, List.length_cons, List.length_nil, and_self, Lift.valOf, List.drop_succ_cons, List.drop_zero, List.take_succ_cons, List.take_zero, List.getD_cons_zero, pbinP, ofConst, ofVal, pbinI, h1, decide_false, List.getElem?_toArray, Option.bind_some, h2, ppick_bool, h3, beq_tf, Option.some.injEq, ppick_true, thenQ, isB, tmpOf, asB, RPost, sres, Tryd.results11, sresL, sres1, checkS, hk, Bool.true_eq_false, outS, hmo, true_or, or_true, Ret_fin, exists_eq_left', true_and]
    exact HTo.put (.refl _ _) hr _
  by_cases h4 : most < b
  · refine SW.run [eUsesR] _ ?_
    simp only [wpC, mayStop, stops, isFlt, Specs.has, eUsesR, Specs.hasO, Nat.reduceLeDiff, Nat.reduceSub, false_and, ↓reduceIte, Bool.or_false, List.any_cons, List.any_nil, Bool.false_eq_true, wpS, wantedA, okDst, Nat.reduceLT, decide_true, step1, isOwnCall, hxOp, px, pfieldAddr, fieldOf, ty25, fieldIn, List.getElem?_cons_succ, List.getElem?_cons_zero, ty3, Option.map_some, AS.eval, AS.get, Lift.look, Option.getD_some, ne_eq, Nat.succ_ne_zero, not_false_eq_true, Nat.zero_add, AS.put, dropKey, Nat.reduceEqDiff, pload, Heap.get_put, okOne, TK.isAgg, beq_self_eq_true, Bool.or_true, Nat.reduceAdd, List.length_cons, List.length_nil, and_self, Lift.valOf, List.drop_succ_cons, List.drop_zero, List.take_succ_cons, List.take_zero, List.getD_cons_zero, pbinP, ofConst, ofVal, pbinI, h1, decide_false, List.getElem?_toArray, Option.bind_some, h2, ppick_bool, h3, h4, beq_tf, Option.some.injEq, ppick_true, thenQ, isB, tmpOf, asB, RPost, sres, Tryd.results11, sresL, sres1, checkS, hk, Bool.true_eq_false, outS, hmo, true_or, or_true, Ret_fin, exists_eq_left', true_and]
    exact HTo.put (.refl _ _) hr _
  by_cases h5 : c < 0
  · refine SW.run [eUsesR] _ ?_
    simp only [wpC, mayStop, stops, isFlt, Specs.has, eUsesR, Specs.hasO, Nat.reduceLeDiff, Nat.reduceSub, false_and, ↓reduceIte, Bool.or_false, List.any_cons, List.any_nil, Bool.false_eq_true, wpS, wantedA, okDst, Nat.reduceLT, decide_true, step1, isOwnCall, hxOp, px, pfieldAddr, fieldOf, ty25, fieldIn, List.getElem?_cons_succ, List.getElem?_cons_zero, ty3, Option.map_some, AS.eval, AS.get, Lift.look, Option.getD_some, ne_eq, Nat.succ_ne_zero, not_false_eq_true, Nat.zero_add, AS.put, dropKey, Nat.reduceEqDiff, pload, Heap.get_put, okOne, TK.isAgg, beq_self_eq_true, Bool.or_true, Nat.reduceAdd, List.length_cons, List.length_nil, and_self, Lift.valOf, List.drop_succ_cons, List.drop_zero, List.take_succ_cons, List.take_zero, List.getD_cons_zero, pbinP, ofConst, ofVal, pbinI, h1, decide_false, List.getElem?_toArray, Option.bind_some, h2, ppick_bool, h3, h4, h5, beq_tf, Option.some.injEq, ppick_true, thenQ, isB, tmpOf, asB, RPost, sres, Tryd.results11, sresL, sres1, checkS, hk, Bool.true_eq_false, outS, hmo, true_or, or_true, Ret_fin, exists_eq_left', true_and]
    exact HTo.put (.refl _ _) hr _
  by_cases h6 : 15 < c
  · refine SW.run [eUsesR] _ ?_
    simp only [wpC, mayStop, stops, isFlt, Specs.has, eUsesR, Specs.hasO, Nat.reduceLeDiff, Nat.reduceSub, false_and, ↓reduceIte, Bool.or_false, List.any_cons, List.any_nil, Bool.false_eq_true, wpS, wantedA, okDst, Nat.reduceLT, decide_true, step1, isOwnCall, hxOp, px, pfieldAddr, fieldOf, ty25, fieldIn, List.getElem?_cons_succ, List.getElem?_cons_zero, ty3, Option.map_some, AS.eval, AS.get, Lift.look, Option.getD_some, ne_eq, Nat.succ_ne_zero, not_false_eq_true, Nat.zero_add, AS.put, dropKey, Nat.reduceEqDiff, pload, Heap.get_put, okOne, TK.isAgg, beq_self_eq_true, Bool.or_true, Nat.reduceAdd, List.length_cons, List.length_nil, and_self, Lift.valOf, List.drop_succ_cons, List.drop_zero, List.take_succ_cons, List.take_zero, List.getD_cons_zero, pbinP, ofConst, ofVal, pbinI, h1, decide_false, List.getElem?_toArray, Option.bind_some, h2, ppick_bool, h3, h4, h5, h6, beq_tf, Option.some.injEq, ppick_true, thenQ, isB, tmpOf, asB, RPost, sres, Tryd.results11, sresL, sres1, checkS, hk, Bool.true_eq_false, outS, hmo, true_or, or_true, Ret_fin, exists_eq_left', true_and]
    exact HTo.put (.refl _ _) hr _
  by_cases h7 : i < -2147483648
  · refine SW.run [eUsesR] _ ?_
    simp only [wpC, mayStop, stops, isFlt, Specs.has, eUsesR, Specs.hasO, Nat.reduceLeDiff, Nat.reduceSub, false_and, ↓reduceIte, Bool.or_false, List.any_cons, List.any_nil, Bool.false_eq_true, wpS, wantedA, okDst, Nat.reduceLT, decide_true, step1, isOwnCall, hxOp, px, pfieldAddr, fieldOf, ty25, fieldIn, List.getElem?_cons_succ, List.getElem?_cons_zero, ty3, Option.map_some, AS.eval, AS.get, Lift.look, Option.getD_some, ne_eq, Nat.succ_ne_zero, not_false_eq_true, Nat.zero_add, AS.put, dropKey, Nat.reduceEqDiff, pload, Heap.get_put, okOne, TK.isAgg, beq_self_eq_true, Bool.or_true, Nat.reduceAdd, List.length_cons, List.length_nil, and_self, Lift.valOf, List.drop_succ_cons, List.drop_zero, List.take_succ_cons, List.take_zero, List.getD_cons_zero, pbinP, ofConst, ofVal, pbinI, h1, decide_false, List.getElem?_toArray, Option.bind_some, h2, ppick_bool, h3, h4, h5, h6, Nat.le_refl, List.take_nil, h7, beq_tf, Option.some.injEq, ppick_true, thenQ, isB, tmpOf, asB, RPost, sres, Tryd.results11, sresL, sres1, checkS, hk, Bool.true_eq_false, outS, hmo, true_or, or_true, Ret_fin, exists_eq_left', true_and]
    exact HTo.put (.refl _ _) hr _
  by_cases h8 : 2147483647 < i
  · refine SW.run [eUsesR] _ ?_
    simp only [wpC, mayStop, stops, isFlt, Specs.has, eUsesR, Specs.hasO, Nat.reduceLeDiff, Nat.reduceSub, false_and, ↓reduceIte, Bool.or_false, List.any_cons, List.any_nil, Bool.false_eq_true, wpS, wantedA, okDst, Nat.reduceLT, decide_true, step1, isOwnCall, hxOp, px, pfieldAddr, fieldOf, ty25, fieldIn, List.getElem?_cons_succ, List.getElem?_cons_zero, ty3, Option.map_some, AS.eval, AS.get, Lift.look, Option.getD_some, ne_eq, Nat.succ_ne_zero, not_false_eq_true, Nat.zero_add, AS.put, dropKey, Nat.reduceEqDiff, pload, Heap.get_put, okOne, TK.isAgg, beq_self_eq_true, Bool.or_true, Nat.reduceAdd, List.length_cons, List.length_nil, and_self, Lift.valOf, List.drop_succ_cons, List.drop_zero, List.take_succ_cons, List.take_zero, List.getD_cons_zero, pbinP, ofConst, ofVal, pbinI, h1, decide_false, List.getElem?_toArray, Option.bind_some, h2, ppick_bool, h3, h4, h5, h6, Nat.le_refl, List.take_nil, h7, h8, thenQ, isB, tmpOf, asB, RPost, sres, Tryd.results11, sresL, sres1, Option.some.injEq, checkS, hk, Bool.true_eq_false, outS, hmo, or_true, Ret_fin, exists_eq_left', true_and]
    exact HTo.put (.refl _ _) hr _
  have hout : ¬ outS o a b c i := by unfold outS; rw [hmo]; omega
  refine SW.seq (SW.run [] _ ?_)
  simp only [wpC, mayStop, stops, isFlt, Specs.has, Specs.hasO, Bool.or_false, Bool.not_false, List.any_cons, List.any_nil, Bool.false_eq_true, ↓reduceIte, wpS, wantedA, okDst, Nat.reduceLT, decide_true, step1, isOwnCall, hxOp, px, pfieldAddr, fieldOf, ty25, fieldIn, List.getElem?_cons_succ, List.getElem?_cons_zero, ty3, Option.map_some, AS.eval, AS.get, Lift.look, Option.getD_some, ne_eq, Nat.succ_ne_zero, not_false_eq_true, Nat.zero_add, AS.put, dropKey, Nat.reduceEqDiff, pload, Heap.get_put, okOne, TK.isAgg, beq_self_eq_true, Bool.or_true, Nat.reduceAdd, List.length_cons, List.length_nil, Nat.reduceLeDiff, and_self, Lift.valOf, List.drop_succ_cons, List.drop_zero, List.take_succ_cons, List.take_zero, List.getD_cons_zero, pbinP, ofConst, ofVal, pbinI, h1, decide_false, List.getElem?_toArray, Option.bind_some, h2, ppick_bool, h3, h4, h5, h6, Nat.le_refl, List.take_nil, h7, h8, thenQ, isB, tmpOf, asB, true_and]
  refine SW.enter (n := 101) (l := [(1, .val (.pointer (some ⟨r, 0, none⟩)))]) (H := h.put r (.cells 25 5 [.int .i64 o, .int .i64 a, .int .i64 b, .int .i64 c, .int .i64 i])) rfl (.refl _ _) ⟨rfl, trivial⟩ ?_
  have hchk : checkS o a b c i = if (fieldL o a b c i).any badF = true then 2 else 0 := by unfold checkS; rw [if_neg (by rw [hk]; simp), if_neg hout]
  rw [hchk, any4]
  refine SW.seq (SW.seq (SW.region ?_))
  refine SWO.meetAt 10 101 [(1, .val (.pointer (some ⟨r, 0, none⟩))), (68, .bool (a != 0 && !hasB (usesS o) 97))] (h.put r (.cells 25 5 [.int .i64 o, .int .i64 a, .int .i64 b, .int .i64 c, .int .i64 i])) ?_ ?_
  · by_cases z : a = 0
    · have y : (a != 0) = false := by simpa using z
      refine SWO.run [eUsesR] 1000 ?_
      simp only [eUsesR, List.take_succ_cons, List.take_zero, y, Bool.false_and, Bool.false_or, wpS, stops, Bool.false_eq_true, ↓reduceIte, wantedA, okDst, Nat.reduceLT, decide_true, step1, isOwnCall, hxOp, px, pfieldAddr, fieldOf, ty25, fieldIn, List.getElem?_cons_succ, List.getElem?_cons_zero, ty3, Option.map_some, AS.eval, AS.get, Lift.look, Option.getD_some, ne_eq, Nat.succ_ne_zero, not_false_eq_true, Nat.zero_add, AS.put, dropKey, Nat.reduceEqDiff, pload, Heap.get_put, okOne, TK.isAgg, beq_self_eq_true, Bool.or_true, Nat.reduceAdd, List.length_cons, List.length_nil, Nat.reduceLeDiff, and_self, Lift.valOf, List.drop_succ_cons, List.drop_zero, List.getD_cons_zero, pbinP, ofConst, ofVal, pbinI, List.getElem?_toArray, Option.bind_some, beq_ft, Option.some.injEq, Specs.has, Specs.hasO, Nat.reduceSub, reduceCtorEq, Bool.or_false, Bool.not_true, ppick_false, thenQ, Meet, HTo_self, hasAll]
    · have y : (a != 0) = true := by simpa using z
      cases u : hasB (usesS o) 97
      · refine SWO.run [eUsesR] 1000 ?_
        simp only [eUsesR, List.take_succ_cons, List.take_zero, y, Bool.not_false, Bool.and_true, Bool.true_or, ↓reduceIte, wpS, stops, Bool.false_eq_true, wantedA, okDst, Nat.reduceLT, decide_true, step1, isOwnCall, hxOp, px, pfieldAddr, fieldOf, ty25, fieldIn, List.getElem?_cons_succ, List.getElem?_cons_zero, ty3, Option.map_some, AS.eval, AS.get, Lift.look, Option.getD_some, ne_eq, Nat.succ_ne_zero, not_false_eq_true, Nat.zero_add, AS.put, dropKey, Nat.reduceEqDiff, pload, Heap.get_put, okOne, TK.isAgg, beq_self_eq_true, Bool.or_true, Nat.reduceAdd, List.length_cons, List.length_nil, Nat.reduceLeDiff, and_self, Lift.valOf, List.drop_succ_cons, List.drop_zero, List.getD_cons_zero, pbinP, ofConst, ofVal, pbinI, List.getElem?_toArray, Option.bind_some, Nat.add_zero, Specs.has, Specs.hasO, Nat.reduceSub, reduceCtorEq, Bool.or_false, Bool.not_true, pcall, okArg, List.all_cons, List.all_nil, Specs.at, sUsesR, List.map_cons, List.map_nil, Int.reduceLE, Int.reduceLT, Int.reduceToNat, c97, u, pun, ppick_bool, thenQ, Meet, HTo_self, hasAll]
      · refine SWO.run [eUsesR] 1000 ?_
        simp only [eUsesR, List.take_succ_cons, List.take_zero, y, Bool.not_true, Bool.and_false, Bool.false_or, wpS, stops, Bool.false_eq_true, ↓reduceIte, wantedA, okDst, Nat.reduceLT, decide_true, step1, isOwnCall, hxOp, px, pfieldAddr, fieldOf, ty25, fieldIn, List.getElem?_cons_succ, List.getElem?_cons_zero, ty3, Option.map_some, AS.eval, AS.get, Lift.look, Option.getD_some, ne_eq, Nat.succ_ne_zero, not_false_eq_true, Nat.zero_add, AS.put, dropKey, Nat.reduceEqDiff, pload, Heap.get_put, okOne, TK.isAgg, beq_self_eq_true, Bool.or_true, Nat.reduceAdd, List.length_cons, List.length_nil, Nat.reduceLeDiff, and_self, Lift.valOf, List.drop_succ_cons, List.drop_zero, List.getD_cons_zero, pbinP, ofConst, ofVal, pbinI, List.getElem?_toArray, Option.bind_some, Nat.add_zero, Specs.has, Specs.hasO, Nat.reduceSub, reduceCtorEq, Bool.or_false, pcall, okArg, List.all_cons, List.all_nil, Bool.and_true, Specs.at, sUsesR, List.map_cons, List.map_nil, Int.reduceLE, Int.reduceLT, Int.reduceToNat, c97, u, pun, ppick_bool, thenQ, Meet, HTo_self, hasAll]
  generalize (a != 0 && !hasB (usesS o) 97) = v0
  refine SWO.meetAt 11 101 [(1, .val (.pointer (some ⟨r, 0, none⟩))), (79, .bool (v0 || (b != 0 && !hasB (usesS o) 98)))] (h.put r (.cells 25 5 [.int .i64 o, .int .i64 a, .int .i64 b, .int .i64 c, .int .i64 i])) ?_ ?_
  · cases w1 : v0 with
    | true =>
      refine SWO.run [eUsesR] 1000 ?_
      simp only [eUsesR, List.drop_succ_cons, List.drop_zero, List.take_succ_cons, List.take_zero, Bool.true_or, ↓reduceIte, wpS, stops, Bool.false_eq_true, wantedA, List.getElem?_toArray, List.getElem?_cons_succ, List.getElem?_cons_zero, Option.bind_some, AS.get, Lift.look, Nat.reduceEqDiff, Option.getD_some, beq_tf, Option.some.injEq, okDst, Nat.reduceLT, decide_true, AS.put, dropKey, Specs.has, Specs.hasO, Nat.reduceLeDiff, Nat.reduceSub, reduceCtorEq, and_self, Bool.or_false, Bool.not_true, step1, isOwnCall, hxOp, px, AS.eval, ofConst, ofVal, ppick_true, thenQ, Meet, HTo_self, hasAll]
    | false =>
      by_cases z : b = 0
      · have y : (b != 0) = false := by simpa using z
        refine SWO.run [eUsesR] 1000 ?_
        simp only [eUsesR, List.drop_succ_cons, List.drop_zero, List.take_succ_cons, List.take_zero, y, Bool.false_and, Bool.or_false, Bool.false_or, wpS, stops, Bool.false_eq_true, ↓reduceIte, wantedA, List.getElem?_toArray, List.getElem?_cons_succ, List.getElem?_cons_zero, Option.bind_some, AS.get, Lift.look, Nat.reduceEqDiff, Option.getD_some, beq_self_eq_true, okDst, Nat.reduceLT, decide_true, step1, isOwnCall, hxOp, px, pfieldAddr, fieldOf, ty25, fieldIn, ty3, Option.map_some, AS.eval, ne_eq, Nat.succ_ne_zero, not_false_eq_true, Nat.zero_add, AS.put, dropKey, pload, Heap.get_put, okOne, TK.isAgg, Bool.or_true, Nat.reduceAdd, List.length_cons, List.length_nil, Nat.reduceLeDiff, and_self, Lift.valOf, List.getD_cons_zero, pbinP, ofConst, ofVal, pbinI, beq_ft, Option.some.injEq, Specs.has, Specs.hasO, Nat.reduceSub, reduceCtorEq, Bool.not_true, ppick_false, ppick_bool, thenQ, Meet, HTo_self, hasAll]
      · have y : (b != 0) = true := by simpa using z
        cases u : hasB (usesS o) 98
        · refine SWO.run [eUsesR] 1000 ?_
          simp only [eUsesR, List.drop_succ_cons, List.drop_zero, List.take_succ_cons, List.take_zero, y, Bool.not_false, Bool.and_true, Bool.or_true, Bool.true_or, ↓reduceIte, wpS, stops, Bool.false_eq_true, wantedA, List.getElem?_toArray, List.getElem?_cons_succ, List.getElem?_cons_zero, Option.bind_some, AS.get, Lift.look, Nat.reduceEqDiff, Option.getD_some, beq_self_eq_true, okDst, Nat.reduceLT, decide_true, step1, isOwnCall, hxOp, px, pfieldAddr, fieldOf, ty25, fieldIn, ty3, Option.map_some, AS.eval, ne_eq, Nat.succ_ne_zero, not_false_eq_true, Nat.zero_add, AS.put, dropKey, pload, Heap.get_put, okOne, TK.isAgg, Nat.reduceAdd, List.length_cons, List.length_nil, Nat.reduceLeDiff, and_self, Lift.valOf, List.getD_cons_zero, pbinP, ofConst, ofVal, pbinI, Nat.add_zero, Specs.has, Specs.hasO, Nat.reduceSub, reduceCtorEq, Bool.or_false, Bool.not_true, pcall, okArg, List.all_cons, List.all_nil, Specs.at, sUsesR, List.map_cons, List.map_nil, Int.reduceLE, Int.reduceLT, Int.reduceToNat, c98, u, pun, ppick_bool, thenQ, Meet, HTo_self, hasAll]
        · refine SWO.run [eUsesR] 1000 ?_
          simp only [eUsesR, List.drop_succ_cons, List.drop_zero, List.take_succ_cons, List.take_zero, y, Bool.not_true, Bool.and_false, Bool.or_false, Bool.false_or, wpS, stops, Bool.false_eq_true, ↓reduceIte, wantedA, List.getElem?_toArray, List.getElem?_cons_succ, List.getElem?_cons_zero, Option.bind_some, AS.get, Lift.look, Nat.reduceEqDiff, Option.getD_some, beq_self_eq_true, okDst, Nat.reduceLT, decide_true, step1, isOwnCall, hxOp, px, pfieldAddr, fieldOf, ty25, fieldIn, ty3, Option.map_some, AS.eval, ne_eq, Nat.succ_ne_zero, not_false_eq_true, Nat.zero_add, AS.put, dropKey, pload, Heap.get_put, okOne, TK.isAgg, Bool.or_true, Nat.reduceAdd, List.length_cons, List.length_nil, Nat.reduceLeDiff, and_self, Lift.valOf, List.getD_cons_zero, pbinP, ofConst, ofVal, pbinI, Nat.add_zero, Specs.has, Specs.hasO, Nat.reduceSub, reduceCtorEq, pcall, okArg, List.all_cons, List.all_nil, Bool.and_true, Specs.at, sUsesR, List.map_cons, List.map_nil, Int.reduceLE, Int.reduceLT, Int.reduceToNat, c98, u, pun, ppick_bool, thenQ, Meet, HTo_self, hasAll]
  generalize (v0 || (b != 0 && !hasB (usesS o) 98)) = v1
  refine SWO.meetAt 11 101 [(1, .val (.pointer (some ⟨r, 0, none⟩))), (90, .bool (v1 || (c != 0 && !hasB (usesS o) 99)))] (h.put r (.cells 25 5 [.int .i64 o, .int .i64 a, .int .i64 b, .int .i64 c, .int .i64 i])) ?_ ?_
  · cases w2 : v1 with
    | true =>
      refine SWO.run [eUsesR] 1000 ?_
      simp only [eUsesR, List.drop_succ_cons, List.drop_zero, List.take_succ_cons, List.take_zero, Bool.true_or, ↓reduceIte, wpS, stops, Bool.false_eq_true, wantedA, List.getElem?_toArray, List.getElem?_cons_succ, List.getElem?_cons_zero, Option.bind_some, AS.get, Lift.look, Nat.reduceEqDiff, Option.getD_some, beq_tf, Option.some.injEq, okDst, Nat.reduceLT, decide_true, AS.put, dropKey, Specs.has, Specs.hasO, Nat.reduceLeDiff, Nat.reduceSub, reduceCtorEq, and_self, Bool.or_false, Bool.not_true, step1, isOwnCall, hxOp, px, AS.eval, ofConst, ofVal, ppick_true, thenQ, Meet, HTo_self, hasAll]
    | false =>
      by_cases z : c = 0
      · have y : (c != 0) = false := by simpa using z
        refine SWO.run [eUsesR] 1000 ?_
        simp only [eUsesR, List.drop_succ_cons, List.drop_zero, List.take_succ_cons, List.take_zero, y, Bool.false_and, Bool.or_false, Bool.false_or, wpS, stops, Bool.false_eq_true, ↓reduceIte, wantedA, List.getElem?_toArray, List.getElem?_cons_succ, List.getElem?_cons_zero, Option.bind_some, AS.get, Lift.look, Nat.reduceEqDiff, Option.getD_some, beq_self_eq_true, okDst, Nat.reduceLT, decide_true, step1, isOwnCall, hxOp, px, pfieldAddr, fieldOf, ty25, fieldIn, ty3, Option.map_some, AS.eval, ne_eq, Nat.succ_ne_zero, not_false_eq_true, Nat.zero_add, AS.put, dropKey, pload, Heap.get_put, okOne, TK.isAgg, Bool.or_true, Nat.reduceAdd, List.length_cons, List.length_nil, Nat.reduceLeDiff, and_self, Lift.valOf, List.getD_cons_zero, pbinP, ofConst, ofVal, pbinI, beq_ft, Option.some.injEq, Specs.has, Specs.hasO, Nat.reduceSub, reduceCtorEq, Bool.not_true, ppick_false, ppick_bool, thenQ, Meet, HTo_self, hasAll]
      · have y : (c != 0) = true := by simpa using z
        cases u : hasB (usesS o) 99
        · refine SWO.run [eUsesR] 1000 ?_
          simp only [eUsesR, List.drop_succ_cons, List.drop_zero, List.take_succ_cons, List.take_zero, y, Bool.not_false, Bool.and_true, Bool.or_true, Bool.true_or, ↓reduceIte, wpS, stops, Bool.false_eq_true, wantedA, List.getElem?_toArray, List.getElem?_cons_succ, List.getElem?_cons_zero, Option.bind_some, AS.get, Lift.look, Nat.reduceEqDiff, Option.getD_some, beq_self_eq_true, okDst, Nat.reduceLT, decide_true, step1, isOwnCall, hxOp, px, pfieldAddr, fieldOf, ty25, fieldIn, ty3, Option.map_some, AS.eval, ne_eq, Nat.succ_ne_zero, not_false_eq_true, Nat.zero_add, AS.put, dropKey, pload, Heap.get_put, okOne, TK.isAgg, Nat.reduceAdd, List.length_cons, List.length_nil, Nat.reduceLeDiff, and_self, Lift.valOf, List.getD_cons_zero, pbinP, ofConst, ofVal, pbinI, Nat.add_zero, Specs.has, Specs.hasO, Nat.reduceSub, reduceCtorEq, Bool.or_false, Bool.not_true, pcall, okArg, List.all_cons, List.all_nil, Specs.at, sUsesR, List.map_cons, List.map_nil, Int.reduceLE, Int.reduceLT, Int.reduceToNat, c99, u, pun, ppick_bool, thenQ, Meet, HTo_self, hasAll]
        · refine SWO.run [eUsesR] 1000 ?_
          simp only [eUsesR, List.drop_succ_cons, List.drop_zero, List.take_succ_cons, List.take_zero, y, Bool.not_true, Bool.and_false, Bool.or_false, Bool.false_or, wpS, stops, Bool.false_eq_true, ↓reduceIte, wantedA, List.getElem?_toArray, List.getElem?_cons_succ, List.getElem?_cons_zero, Option.bind_some, AS.get, Lift.look, Nat.reduceEqDiff, Option.getD_some, beq_self_eq_true, okDst, Nat.reduceLT, decide_true, step1, isOwnCall, hxOp, px, pfieldAddr, fieldOf, ty25, fieldIn, ty3, Option.map_some, AS.eval, ne_eq, Nat.succ_ne_zero, not_false_eq_true, Nat.zero_add, AS.put, dropKey, pload, Heap.get_put, okOne, TK.isAgg, Bool.or_true, Nat.reduceAdd, List.length_cons, List.length_nil, Nat.reduceLeDiff, and_self, Lift.valOf, List.getD_cons_zero, pbinP, ofConst, ofVal, pbinI, Nat.add_zero, Specs.has, Specs.hasO, Nat.reduceSub, reduceCtorEq, pcall, okArg, List.all_cons, List.all_nil, Bool.and_true, Specs.at, sUsesR, List.map_cons, List.map_nil, Int.reduceLE, Int.reduceLT, Int.reduceToNat, c99, u, pun, ppick_bool, thenQ, Meet, HTo_self, hasAll]
  generalize (v1 || (c != 0 && !hasB (usesS o) 99)) = v2
  cases w3 : v2 with
  | true =>
    refine SWO.run [eUsesR] 1000 ?_
    simp only [eUsesR, List.drop_succ_cons, List.drop_zero, Tryd.results11, Bool.true_or, ↓reduceIte, wpS, stops, Bool.false_eq_true, wantedA, List.getElem?_toArray, List.getElem?_cons_succ, List.getElem?_cons_zero, Option.bind_some, AS.get, Lift.look, Nat.reduceEqDiff, Option.getD_some, beq_tf, Option.some.injEq, okDst, Nat.reduceLT, decide_true, AS.put, dropKey, Specs.has, Specs.hasO, Nat.reduceLeDiff, Nat.reduceSub, reduceCtorEq, and_self, Bool.or_false, Bool.not_true, step1, isOwnCall, hxOp, px, AS.eval, ofConst, ofVal, ppick_true, thenQ, true_and]
    refine SW.run [] _ ?_
    simp only [wpC, isB, AS.get, Lift.look, tmpOf, ↓reduceIte, Option.getD_some, asB, mayStop, stops, isFlt, Specs.has, Specs.hasO, Bool.or_false, Bool.not_false, List.any_cons, List.any_nil, Bool.false_eq_true, wpS, wantedA, okDst, Nat.reduceLT, decide_true, step1, isOwnCall, hxOp, px, AS.eval, ofConst, ofVal, thenQ, RPost, sres, sresL, sres1, AS.put, dropKey, Nat.reduceEqDiff, Option.some.injEq, Ret_fin, exists_eq_left', true_and]
    exact HTo.put (.refl _ _) hr _
  | false =>
    by_cases z : i = 0
    · have y : (i != 0) = false := by simpa using z
      refine SWO.run [eUsesR] 1000 ?_
      simp only [eUsesR, List.drop_succ_cons, List.drop_zero, Tryd.results11, y, Bool.false_and, Bool.or_false, Bool.false_eq_true, ↓reduceIte, wpS, stops, wantedA, List.getElem?_toArray, List.getElem?_cons_succ, List.getElem?_cons_zero, Option.bind_some, AS.get, Lift.look, Nat.reduceEqDiff, Option.getD_some, beq_self_eq_true, okDst, Nat.reduceLT, decide_true, step1, isOwnCall, hxOp, px, pfieldAddr, fieldOf, ty25, fieldIn, ty3, Option.map_some, AS.eval, ne_eq, Nat.succ_ne_zero, not_false_eq_true, Nat.zero_add, AS.put, dropKey, pload, Heap.get_put, okOne, TK.isAgg, Bool.or_true, Nat.reduceAdd, List.length_cons, List.length_nil, Nat.le_refl, and_self, Lift.valOf, List.take_succ_cons, List.take_nil, List.getD_cons_zero, pbinP, ofConst, ofVal, pbinI, beq_ft, Option.some.injEq, Specs.has, Specs.hasO, Nat.reduceLeDiff, Nat.reduceSub, reduceCtorEq, Bool.not_true, ppick_false, ppick_bool, thenQ, true_and]
      refine SW.run [] _ ?_
      simp only [wpC, isB, AS.get, Lift.look, tmpOf, ↓reduceIte, Option.getD_some, asB, Bool.false_eq_true, thenQ, true_and]
      refine SW.run [] _ ?_
      simp only [wpC, mayStop, stops, isFlt, Specs.has, Specs.hasO, Bool.or_false, Bool.not_false, List.any_cons, List.any_nil, Bool.false_eq_true, ↓reduceIte, wpS, wantedA, okDst, Nat.reduceLT, decide_true, step1, isOwnCall, hxOp, px, AS.eval, ofConst, ofVal, thenQ, RPost, sres, sresL, sres1, AS.get, AS.put, dropKey, Nat.reduceEqDiff, Lift.look, Option.getD_some, Option.some.injEq, Ret_fin, exists_eq_left', true_and]
      exact HTo.put (.refl _ _) hr _
    · have y : (i != 0) = true := by simpa using z
      cases u : hasB (usesS o) 105
      · refine SWO.run [eUsesR] 1000 ?_
        simp only [eUsesR, List.drop_succ_cons, List.drop_zero, Tryd.results11, y, Bool.not_false, Bool.and_true, Bool.or_true, ↓reduceIte, wpS, stops, Bool.false_eq_true, wantedA, List.getElem?_toArray, List.getElem?_cons_succ, List.getElem?_cons_zero, Option.bind_some, AS.get, Lift.look, Nat.reduceEqDiff, Option.getD_some, beq_self_eq_true, okDst, Nat.reduceLT, decide_true, step1, isOwnCall, hxOp, px, pfieldAddr, fieldOf, ty25, fieldIn, ty3, Option.map_some, AS.eval, ne_eq, Nat.succ_ne_zero, not_false_eq_true, Nat.zero_add, AS.put, dropKey, pload, Heap.get_put, okOne, TK.isAgg, Nat.reduceAdd, List.length_cons, List.length_nil, Nat.le_refl, and_self, Lift.valOf, List.take_succ_cons, List.take_nil, List.getD_cons_zero, pbinP, ofConst, ofVal, pbinI, Nat.add_zero, Nat.reduceLeDiff, List.take_zero, Specs.has, Specs.hasO, Nat.reduceSub, reduceCtorEq, Bool.or_false, Bool.not_true, pcall, okArg, List.all_cons, List.all_nil, Specs.at, sUsesR, List.map_cons, List.map_nil, Int.reduceLE, Int.reduceLT, Int.reduceToNat, c105, u, pun, ppick_bool, thenQ, true_and]
        refine SW.run [] _ ?_
        simp only [wpC, isB, AS.get, Lift.look, tmpOf, ↓reduceIte, Option.getD_some, asB, mayStop, stops, isFlt, Specs.has, Specs.hasO, Bool.or_false, Bool.not_false, List.any_cons, List.any_nil, Bool.false_eq_true, wpS, wantedA, okDst, Nat.reduceLT, decide_true, step1, isOwnCall, hxOp, px, AS.eval, ofConst, ofVal, thenQ, RPost, sres, sresL, sres1, AS.put, dropKey, Nat.reduceEqDiff, Option.some.injEq, Ret_fin, exists_eq_left', true_and]
        exact HTo.put (.refl _ _) hr _
      · refine SWO.run [eUsesR] 1000 ?_
        simp only [eUsesR, List.drop_succ_cons, List.drop_zero, Tryd.results11, y, Bool.not_true, Bool.and_false, Bool.or_false, Bool.false_eq_true, ↓reduceIte, wpS, stops, wantedA, List.getElem?_toArray, List.getElem?_cons_succ, List.getElem?_cons_zero, Option.bind_some, AS.get, Lift.look, Nat.reduceEqDiff, Option.getD_some, beq_self_eq_true, okDst, Nat.reduceLT, decide_true, step1, isOwnCall, hxOp, px, pfieldAddr, fieldOf, ty25, fieldIn, ty3, Option.map_some, AS.eval, ne_eq, Nat.succ_ne_zero, not_false_eq_true, Nat.zero_add, AS.put, dropKey, pload, Heap.get_put, okOne, TK.isAgg, Bool.or_true, Nat.reduceAdd, List.length_cons, List.length_nil, Nat.le_refl, and_self, Lift.valOf, List.take_succ_cons, List.take_nil, List.getD_cons_zero, pbinP, ofConst, ofVal, pbinI, Nat.add_zero, Nat.reduceLeDiff, List.take_zero, Specs.has, Specs.hasO, Nat.reduceSub, reduceCtorEq, pcall, okArg, List.all_cons, List.all_nil, Bool.and_true, Specs.at, sUsesR, List.map_cons, List.map_nil, Int.reduceLE, Int.reduceLT, Int.reduceToNat, c105, u, pun, ppick_bool, thenQ, true_and]
        refine SW.run [] _ ?_
        simp only [wpC, isB, AS.get, Lift.look, tmpOf, ↓reduceIte, Option.getD_some, asB, Bool.false_eq_true, thenQ, true_and]
        refine SW.run [] _ ?_
        simp only [wpC, mayStop, stops, isFlt, Specs.has, Specs.hasO, Bool.or_false, Bool.not_false, List.any_cons, List.any_nil, Bool.false_eq_true, ↓reduceIte, wpS, wantedA, okDst, Nat.reduceLT, decide_true, step1, isOwnCall, hxOp, px, AS.eval, ofConst, ofVal, thenQ, RPost, sres, sresL, sres1, AS.get, AS.put, dropKey, Nat.reduceEqDiff, Lift.look, Option.getD_some, Option.some.injEq, Ret_fin, exists_eq_left', true_and]
        exact HTo.put (.refl _ _) hr _
noncomputable def eCheckR : SpecE env := ⟨11, sCheckR, fun args h hc => by
  unfold sCheckR at hc ⊢
  split at hc
  · rename_i o a b c i; exact .inl (CheckR_ok o a b c i h)
  · exact hc.elim⟩
end Go.Proofs.YthdmdeiaonkeoaaDoor
