/- Contracts of functions that the law reaches. -/
import Derived.Test.YthdmdeiaonkeoaaDoorEnv
import Derived.Test.YthdmdeiaonkeoaaDoorShelf
set_option linter.unusedSimpArgs false
set_option linter.unusedVariables false
namespace Go.Proofs.YthdmdeiaonkeoaaDoor
open Go Go.RowKit Go.Proofs.YthdmdeiaonkeoaaDoor Go.Proofs.YthdmdeiaonkeoaaDoor.Lift

/-! cpu.known, cpu.memory -/
def knownS (n : Int) : Bool := decide (0 ≤ n ∧ n < 32)
def memS (n : Int) : Bool := decide (4 ≤ n ∧ n ≤ 7)
def sKnown : List PV → Prop × PV
  | [.int .i64 n] => (True, .bool (knownS n))
  | _ => PBad
theorem Known_ok (n : Int) (h : Heap) : SCalls env 30 [.int .i64 n] h (Ret (.bool (knownS n)) h) := by
  refine SCalls.body Tryd.func30 rfl rfl (by simp [Tryd.ntmps30]) (SW.run [] _ ?_)
  by_cases h1 : 0 ≤ n
  · by_cases h2 : n < 32
    · simp only [wpC, mayStop, stops, isFlt, Specs.has, Specs.hasO, Bool.or_false, Bool.not_false, List.any_cons, List.any_nil, Bool.false_eq_true, ↓reduceIte, wpS, wantedA, okDst, Tryd.ntmps30, Nat.reduceLT, decide_true, step1, isOwnCall, hxOp, px, AS.eval, ofConst, ofVal, thenQ, AS.put, enumA, dropKey, reduceCtorEq, AS.get, Lift.look, Nat.succ_ne_zero, Option.getD_some, Nat.reduceEqDiff, pbinP, pbinI, h1, List.getElem?_toArray, List.getElem?_cons_succ, List.getElem?_cons_zero, Option.bind_some, beq_self_eq_true, h2, ppick_bool, RPost, sres, Tryd.results30, sresL, sres1, Option.some.injEq, knownS, and_self, Ret_fin, HTo_self, and_true, exists_eq_left']
    · simp only [wpC, mayStop, stops, isFlt, Specs.has, Specs.hasO, Bool.or_false, Bool.not_false, List.any_cons, List.any_nil, Bool.false_eq_true, ↓reduceIte, wpS, wantedA, okDst, Tryd.ntmps30, Nat.reduceLT, decide_true, step1, isOwnCall, hxOp, px, AS.eval, ofConst, ofVal, thenQ, AS.put, enumA, dropKey, reduceCtorEq, AS.get, Lift.look, Nat.succ_ne_zero, Option.getD_some, Nat.reduceEqDiff, pbinP, pbinI, h1, List.getElem?_toArray, List.getElem?_cons_succ, List.getElem?_cons_zero, Option.bind_some, beq_self_eq_true, h2, decide_false, ppick_bool, RPost, sres, Tryd.results30, sresL, sres1, Option.some.injEq, knownS, and_false, Ret_fin, HTo_self, and_true, exists_eq_left', and_self]
  · simp only [wpC, mayStop, stops, isFlt, Specs.has, Specs.hasO, Bool.or_false, Bool.not_false, List.any_cons, List.any_nil, Bool.false_eq_true, ↓reduceIte, wpS, wantedA, okDst, Tryd.ntmps30, Nat.reduceLT, decide_true, step1, isOwnCall, hxOp, px, AS.eval, ofConst, ofVal, thenQ, AS.put, enumA, dropKey, reduceCtorEq, AS.get, Lift.look, Nat.succ_ne_zero, Option.getD_some, Nat.reduceEqDiff, pbinP, pbinI, h1, decide_false, List.getElem?_toArray, List.getElem?_cons_succ, List.getElem?_cons_zero, Option.bind_some, beq_ft, Option.some.injEq, ppick_false, RPost, sres, Tryd.results30, sresL, sres1, knownS, false_and, Ret_fin, HTo_self, and_true, exists_eq_left', and_self]
noncomputable def eKnown : SpecE env := ⟨30, sKnown, fun args h hc => by
  unfold sKnown at hc ⊢
  split at hc
  · rename_i n; exact .inl (Known_ok n h)
  · exact hc.elim⟩
def sMem : List PV → Prop × PV
  | [.int .i64 n] => (True, .bool (memS n))
  | _ => PBad
theorem Mem_ok (n : Int) (h : Heap) : SCalls env 31 [.int .i64 n] h (Ret (.bool (memS n)) h) := by
  refine SCalls.body Tryd.func31 rfl rfl (by simp [Tryd.ntmps31]) (SW.run [] _ ?_)
  by_cases h1 : 4 ≤ n
  · by_cases h2 : n ≤ 7
    · simp only [wpC, mayStop, stops, isFlt, Specs.has, Specs.hasO, Bool.or_false, Bool.not_false, List.any_cons, List.any_nil, Bool.false_eq_true, ↓reduceIte, wpS, wantedA, okDst, Tryd.ntmps31, Nat.reduceLT, decide_true, step1, isOwnCall, hxOp, px, AS.eval, ofConst, ofVal, thenQ, AS.put, enumA, dropKey, reduceCtorEq, AS.get, Lift.look, Nat.succ_ne_zero, Option.getD_some, Nat.reduceEqDiff, pbinP, pbinI, h1, List.getElem?_toArray, List.getElem?_cons_succ, List.getElem?_cons_zero, Option.bind_some, beq_self_eq_true, h2, ppick_bool, RPost, sres, Tryd.results31, sresL, sres1, Option.some.injEq, memS, and_self, Ret_fin, HTo_self, and_true, exists_eq_left']
    · simp only [wpC, mayStop, stops, isFlt, Specs.has, Specs.hasO, Bool.or_false, Bool.not_false, List.any_cons, List.any_nil, Bool.false_eq_true, ↓reduceIte, wpS, wantedA, okDst, Tryd.ntmps31, Nat.reduceLT, decide_true, step1, isOwnCall, hxOp, px, AS.eval, ofConst, ofVal, thenQ, AS.put, enumA, dropKey, reduceCtorEq, AS.get, Lift.look, Nat.succ_ne_zero, Option.getD_some, Nat.reduceEqDiff, pbinP, pbinI, h1, List.getElem?_toArray, List.getElem?_cons_succ, List.getElem?_cons_zero, Option.bind_some, beq_self_eq_true, h2, decide_false, ppick_bool, RPost, sres, Tryd.results31, sresL, sres1, Option.some.injEq, memS, and_false, Ret_fin, HTo_self, and_true, exists_eq_left', and_self]
  · simp only [wpC, mayStop, stops, isFlt, Specs.has, Specs.hasO, Bool.or_false, Bool.not_false, List.any_cons, List.any_nil, Bool.false_eq_true, ↓reduceIte, wpS, wantedA, okDst, Tryd.ntmps31, Nat.reduceLT, decide_true, step1, isOwnCall, hxOp, px, AS.eval, ofConst, ofVal, thenQ, AS.put, enumA, dropKey, reduceCtorEq, AS.get, Lift.look, Nat.succ_ne_zero, Option.getD_some, Nat.reduceEqDiff, pbinP, pbinI, h1, decide_false, List.getElem?_toArray, List.getElem?_cons_succ, List.getElem?_cons_zero, Option.bind_some, beq_ft, Option.some.injEq, ppick_false, RPost, sres, Tryd.results31, sresL, sres1, memS, false_and, Ret_fin, HTo_self, and_true, exists_eq_left', and_self]
noncomputable def eMem : SpecE env := ⟨31, sMem, fun args h hc => by
  unfold sMem at hc ⊢
  split at hc
  · rename_i n; exact .inl (Mem_ok n h)
  · exact hc.elim⟩
/-! strings.Contains of one byte -/
def hasB (l : List UInt8) (c : UInt8) : Bool := decide (0 ≤ Lib.indexByte l c)
def sContains : List PV → Prop × PV
  | [.str l, .str [c]] => (True, .bool (hasB l c))
  | _ => PBad
set_option maxRecDepth 100000 in
theorem Contains_ok (l : List UInt8) (c : UInt8) (h : Heap) : SCalls env 33 [.str l, .str [c]] h (Ret (.bool (hasB l c)) h) :=
  SCalls.ofRead Tryd.func33 rfl rfl fun w I G vs g r => by
    obtain ⟨u, us, rfl, h1, u2, us2, rfl, h2, h3⟩ := r
    have h3 : us2 = [] := h3
    subst h3
    have h1 : u = .string ⟨l.toArray⟩ := h1
    have h2 : u2 = .string ⟨#[c]⟩ := h2
    subst h1; subst h2
    exact ⟨.bool (hasB l c), rfl, Tryd.strings_Contains_one ⟨l.toArray⟩ c w⟩
noncomputable def eContains : SpecE env := ⟨33, sContains, fun args h hc => by
  unfold sContains at hc ⊢
  split at hc
  · rename_i l c; exact .inl (Contains_ok l c h)
  · exact hc.elim⟩
/-! cpu.Uses -/
def usesS (n : Int) : List UInt8 := if knownS n = true then usesT.getD n.toNat [] else []
def sUses : List PV → Prop × PV
  | [.int .i64 n] => (True, .tuple [.bool (hasB (usesS n) 97), .bool (hasB (usesS n) 98), .bool (hasB (usesS n) 99), .bool (hasB (usesS n) 105)])
  | _ => PBad
theorem usesT_drop {n : Int} (h0 : 0 ≤ n) (h1 : n < 32) : ((usesT.map PV.str).drop n.toNat).take 1 = [.str (usesT.getD n.toNat [])] := by
  have : n.toNat < usesT.length := by show _ < 32; omega
  rw [← List.map_drop, ← List.map_take, List.drop_eq_getElem_cons this, List.getD_eq_getElem?_getD, List.getElem?_eq_getElem this]
  rfl
theorem Uses_ok (n : Int) (h : Heap) : SCalls env 13 [.int .i64 n] h (Ret (sUses [.int .i64 n]).2 h) := by
  refine SCalls.body Tryd.func13 rfl rfl (by simp [Tryd.ntmps13]) (SW.run [eKnown, eContains] _ ?_)
  cases hk : knownS n with
  | false =>
    simp only [wpC, mayStop, stops, isFlt, Specs.has, eKnown, eContains, Specs.hasO, Nat.reduceLeDiff, Nat.reduceSub, false_and, ↓reduceIte, Bool.or_false, List.any_cons, List.any_nil, Bool.false_eq_true, wpS, wantedA, okDst, Tryd.ntmps13, Nat.reduceLT, decide_true, step1, isOwnCall, hxOp, px, AS.eval, ofConst, ofVal, AS.put, enumA, dropKey, reduceCtorEq, Nat.reduceEqDiff, thenQ, Bool.not_true, AS.get, Lift.look, Nat.succ_ne_zero, Option.getD_some, and_self, pcall, okArg, List.all_cons, List.all_nil, Bool.and_true, Specs.at, List.map_cons, List.map_nil, sKnown, hk, pun, Bool.not_false, isB, tmpOf, asB, RPost, sres, Tryd.results13, sresL, sres1, Option.some.injEq, sUses, usesS, Ret_fin, HTo_self, and_true, exists_eq_left', true_and]
    rfl
  | true =>
    have hr : 0 ≤ n ∧ n < 32 := by simpa [knownS] using hk
    have hd := usesT_drop hr.1 hr.2
    simp only [wpC, mayStop, stops, isFlt, Specs.has, eKnown, eContains, Specs.hasO, Nat.reduceLeDiff, Nat.reduceSub, false_and, ↓reduceIte, Bool.or_false, List.any_cons, List.any_nil, Bool.false_eq_true, wpS, wantedA, okDst, Tryd.ntmps13, Nat.reduceLT, decide_true, step1, isOwnCall, hxOp, px, AS.eval, ofConst, ofVal, AS.put, enumA, dropKey, reduceCtorEq, Nat.reduceEqDiff, thenQ, Bool.not_true, AS.get, Lift.look, Nat.succ_ne_zero, Option.getD_some, and_self, pcall, okArg, List.all_cons, List.all_nil, Bool.and_true, Specs.at, List.map_cons, List.map_nil, sKnown, hk, pun, isB, tmpOf, asB, pindexAddr, ty74, ty9, gl0, hr.1, Int.cast_ofNat_Int, hr.2, Nat.mul_one, pload, okOne, TK.isAgg, beq_self_eq_true, Bool.or_true, List.length_drop, List.length_map, true_and, Lift.valOf, hd, List.getD_cons_zero, sContains, RPost, sres, Tryd.results13, sresL, sres1, Option.some.injEq, sUses, usesS, Ret_fin, HTo_self, and_true, exists_eq_left']
    show 1 ≤ 32 - n.toNat
    omega
noncomputable def eUses : SpecE env := ⟨13, sUses, fun args h hc => by
  unfold sUses at hc ⊢
  split at hc
  · rename_i n; exact .inl (Uses_ok n h)
  · exact hc.elim⟩
/-! (*cpu.Inst).fields: an instruction in a block -/
def instO (o a b c i : Int) : AObj := .cells 23 5 [.int .i64 o, .int .i64 a, .int .i64 b, .int .i64 c, .int .i64 i]
def ptrV (r k : Nat) : PV := .val (.pointer (some ⟨r, k, none⟩))
def fieldsV (r : Nat) (o : Int) : PV := .agg [ptrV r 1, .bool (hasB (usesS o) 97), ptrV r 2, .bool (hasB (usesS o) 98), ptrV r 3, .bool (hasB (usesS o) 99), ptrV r 4, .bool (hasB (usesS o) 105)]
theorem Fields_ok {r : Nat} {o a b c i : Int} {h : Heap} (hr : h r = some (instO o a b c i)) : SCalls env 32 [ptrV r 0] h (Ret (fieldsV r o) h) := by
  refine SCalls.body Tryd.func32 rfl rfl (by simp [Tryd.ntmps32]) ?_
  unfold ptrV instO at *
  refine SW.seq (SW.run [] _ ?_)
  simp only [wpC, Bool.false_eq_true, ↓reduceIte, wpS, stops, wantedA, okDst, Tryd.ntmps32, Nat.reduceLT, decide_true, step1, okAlloc, ty72, okZero, List.all_cons, Value.oneCell', List.all_nil, Bool.and_true, thenQ, AS.put, enumA, dropKey, reduceCtorEq, zeroOf, List.map_cons, ofVal, List.map_nil, List.length_cons, List.length_nil, Nat.zero_add, Nat.reduceAdd, true_and]
  intro q hq
  have hrq : ¬ r = q := by intro e; subst e; rw [hr] at hq; cases hq
  refine SW.seq (SW.run [eUses] _ ?_)
  simp only [wpC, Bool.false_eq_true, ↓reduceIte, wpS, stops, wantedA, okDst, Nat.reduceLT, decide_true, step1, isOwnCall, hxOp, px, AS.eval, AS.get, Lift.look, Nat.succ_ne_zero, Option.getD_some, AS.put, dropKey, Nat.reduceEqDiff, reduceCtorEq, pfieldAddr, fieldOf, ty23, fieldIn, List.getElem?_cons_zero, ty3, Option.map_some, ne_eq, not_false_eq_true, Nat.add_zero, pload, Heap.get_put, hrq, hr, okOne, TK.isAgg, beq_self_eq_true, Bool.or_true, Nat.zero_add, List.length_cons, List.length_nil, Nat.reduceAdd, Nat.reduceLeDiff, and_self, Lift.valOf, List.drop_zero, List.take_succ_cons, List.take_zero, List.getD_cons_zero, Specs.has, eUses, Specs.hasO, Nat.reduceSub, Bool.or_false, Bool.not_true, pcall, okArg, ofConst, ofVal, List.all_cons, List.all_nil, Bool.and_true, Specs.at, List.map_cons, List.map_nil, sUses, List.getElem?_cons_succ, thenQ, true_and]
  refine SW.seq (SW.regionAny [] [[0, 1, 2, 3, 4, 5, 6, 7, 8, 9, 10, 11, 12, 13, 14, 15, 16, 17, 18, 19, 20, 21]] rfl (by rfl) (by kernel_rfl) ?_)
  simp only [wpOL, wpO, LOp, List.getElem?_toArray, List.getElem?_cons_zero, okDst, Nat.reduceLT, decide_true, wantedA, ↓reduceIte, step1, isOwnCall, Bool.false_eq_true, hxOp, px, AS.eval, AS.get, Lift.look, Nat.succ_ne_zero, Option.getD_some, List.getElem?_cons_succ, AS.put, dropKey, Nat.reduceEqDiff, reduceCtorEq, pfieldAddr, fieldOf, ty23, fieldIn, ty3, Option.map_some, ne_eq, not_false_eq_true, Nat.zero_add, pbuild, ty71, List.map_cons, ofVal, List.map_nil, ofConst, pfill, placeOf, ty69, PV.cells, List.length_cons, List.length_nil, Nat.reduceAdd, Nat.reduceLeDiff, and_self, ty4, splice, List.take_zero, List.nil_append, List.drop_succ_cons, List.drop_zero, List.cons_append, Nat.le_refl, List.take_succ_cons, List.drop_nil, List.append_nil, List.all_cons, Option.isSome_some, List.all_nil, Bool.and_true, okZero, Value.oneCell', known, ty72, Nat.reduceMul, hx, Heap.get_put, known1, thenQ, true_and]
  refine SW.run [] _ ?_
  simp only [wpC, RPost, sres, Tryd.results32, sresL, sres1, AS.get, Lift.look, Nat.reduceEqDiff, ↓reduceIte, Option.getD_some, ty72, Heap.get_put, Nat.zero_add, List.length_cons, List.length_nil, Nat.reduceAdd, Nat.le_refl, okOne, TK.isAgg, Nat.reduceBEq, Bool.or_false, and_self, Lift.valOf, List.drop_zero, List.take_succ_cons, List.take_nil, Option.some.injEq, Ret_fin, exists_eq_left']
  refine ⟨rfl, ?_⟩
  rw [Heap.put_put]
  exact HTo.put (.refl _ _) hq _
end Go.Proofs.YthdmdeiaonkeoaaDoor
