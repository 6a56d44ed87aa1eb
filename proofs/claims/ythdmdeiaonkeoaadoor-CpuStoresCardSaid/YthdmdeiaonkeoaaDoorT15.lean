/- Contracts of functions that the law reaches. -/
import Derived.Test.YthdmdeiaonkeoaaDoorT3
set_option linter.unusedSimpArgs false
set_option linter.unusedVariables false
namespace Go.Proofs.YthdmdeiaonkeoaaDoor
open Go Go.RowKit Go.Proofs.YthdmdeiaonkeoaaDoor Go.Proofs.YthdmdeiaonkeoaaDoor.Lift

/-! Real numbers -/
/-- The word of a number. -/
def realN (n : Int) : Nat := (IntKind.u64.wrap n).toNat
def nanI : Int := 9221120237041090561
/-- The number of a word; every NaN is one number. -/
def bitsF (b : Nat) : Int := if (FloatKind.f64.format.order b b != some .eq) = true then nanI else IntKind.i64.wrap b
/-- An operation on real numbers, as numbers. -/
def fopS (op : BinOp) (x y : Int) : Int := match floatBits op .f64 (realN x) (realN y) with | some r => bitsF r | none => nanI
theorem fopS_law {op : BinOp} {x y : Int} {r : Nat} (h : FRes op .f64 (realN x) (realN y) r) : bitsF r = fopS op x y := by
  unfold FRes at h
  unfold fopS
  cases hf : floatBits op .f64 (realN x) (realN y) with
  | some b => rw [hf] at h; subst h; rfl
  | none =>
    rw [hf] at h
    have h : FloatKind.f64.format.order r r = none := h
    unfold bitsF
    rw [h]
    rfl
theorem fromBits_ok (n : Int) (h : Heap) : XCalls env 53 [.int .u64 n] h (.val (.float .f64 n.toNat)) := by
  intro w I G vs g r
  obtain ⟨u, us, rfl, h1, h2⟩ := r
  have h2 : us = [] := h2
  subst h2
  have h1 : u = .int .u64 n := h1
  subst h1
  refine ⟨.float .f64 n.toNat, ?_, ⟨rfl, rfl⟩⟩
  show (callFunc 53 #[Value.int .u64 n]).run Tryd.prog w = _
  rw [run_callFunc_extern Tryd.func53 (by kernel_rfl) (by kernel_rfl) (by kernel_rfl) (show Extern.find Tryd.f53 = some Extern.MathFloatBits.float64frombits by kernel_rfl)]
  rfl
theorem toBits_ok (n : Nat) (h : Heap) : XCalls env 54 [.val (.float .f64 n)] h (.int .u64 n) := by
  intro w I G vs g r
  obtain ⟨u, us, rfl, h1, h2⟩ := r
  have h2 : us = [] := h2
  subst h2
  obtain ⟨rfl, _⟩ : u = .float .f64 n ∧ _ := h1
  refine ⟨.int .u64 n, ?_, rfl⟩
  show (callFunc 54 #[Value.float .f64 n]).run Tryd.prog w = _
  rw [run_callFunc_extern Tryd.func54 (by kernel_rfl) (by kernel_rfl) (by kernel_rfl) (show Extern.find Tryd.f54 = some Extern.MathFloatBits.float64bits by kernel_rfl)]
  rfl
def sFromBits : List PV → Prop × PV
  | [.int .u64 n] => (True, .val (.float .f64 n.toNat))
  | _ => PBad
noncomputable def eFromBits : SpecE env := ⟨53, sFromBits, fun args h hc => by
  unfold sFromBits at hc ⊢
  split at hc
  · rename_i n; exact .inr (fromBits_ok n h)
  · exact hc.elim⟩
def sToBits : List PV → Prop × PV
  | [.val (.float .f64 n)] => (True, .int .u64 n)
  | _ => PBad
noncomputable def eToBits : SpecE env := ⟨54, sToBits, fun args h hc => by
  unfold sToBits at hc ⊢
  split at hc
  · rename_i n; exact .inr (toBits_ok n h)
  · exact hc.elim⟩
def sReal : List PV → Prop × PV
  | [.int .i64 n] => (True, .val (.float .f64 (realN n)))
  | _ => PBad
theorem real_ok (n : Int) (h : Heap) : SCalls env 44 [.int .i64 n] h (Ret (.val (.float .f64 (realN n))) h) := by
  refine SCalls.body Tryd.func44 rfl rfl (by simp [Tryd.ntmps44]) (SW.run [eFromBits] _ ?_)
  simp only [wpC, mayStop, stops, isFlt, Specs.has, eFromBits, Specs.hasO, Nat.reduceLeDiff, Nat.reduceSub, false_and, ↓reduceIte, Bool.or_false, List.any_cons, List.any_nil, Bool.false_eq_true, wpS, wantedA, okDst, Tryd.ntmps44, Nat.reduceLT, decide_true, step1, isOwnCall, hxOp, px, AS.eval, ofConst, ofVal, thenQ, Bool.not_true, AS.put, enumA, dropKey, reduceCtorEq, AS.get, Lift.look, Nat.succ_ne_zero, Option.getD_some, Nat.reduceEqDiff, ty2, ty92, pconvH, pconv, and_self, pcall, okArg, List.all_cons, List.all_nil, Bool.and_true, Specs.at, List.map_cons, List.map_nil, sFromBits, RPost, sres, Tryd.results44, sresL, sres1, Option.some.injEq, Ret_fin, HTo_self, and_true, exists_eq_left', true_and]
  rfl
theorem realR_ok (n : Int) (h : Heap) : SCalls env 47 [.int .i64 n] h (Ret (.val (.float .f64 (realN n))) h) := by
  refine SCalls.body Tryd.func47 rfl rfl (by simp [Tryd.ntmps47]) (SW.run [eFromBits] _ ?_)
  simp only [wpC, mayStop, stops, isFlt, Specs.has, eFromBits, Specs.hasO, Nat.reduceLeDiff, Nat.reduceSub, false_and, ↓reduceIte, Bool.or_false, List.any_cons, List.any_nil, Bool.false_eq_true, wpS, wantedA, okDst, Tryd.ntmps47, Nat.reduceLT, decide_true, step1, isOwnCall, hxOp, px, AS.eval, ofConst, ofVal, thenQ, Bool.not_true, AS.put, enumA, dropKey, reduceCtorEq, AS.get, Lift.look, Nat.succ_ne_zero, Option.getD_some, Nat.reduceEqDiff, ty2, ty92, pconvH, pconv, and_self, pcall, okArg, List.all_cons, List.all_nil, Bool.and_true, Specs.at, List.map_cons, List.map_nil, sFromBits, RPost, sres, Tryd.results47, sresL, sres1, Option.some.injEq, Ret_fin, HTo_self, and_true, exists_eq_left', true_and]
  rfl
noncomputable def eReal : SpecE env := ⟨44, sReal, fun args h hc => by
  unfold sReal at hc ⊢
  split at hc
  · rename_i n; exact .inl (real_ok n h)
  · exact hc.elim⟩
noncomputable def eRealR : SpecE env := ⟨47, sReal, fun args h hc => by
  unfold sReal at hc ⊢
  split at hc
  · rename_i n; exact .inl (realR_ok n h)
  · exact hc.elim⟩
def sBits : List PV → Prop × PV
  | [.val (.float .f64 n)] => (True, .int .i64 (bitsF n))
  | _ => PBad
theorem bits_ok (n : Nat) (h : Heap) : SCalls env 45 [.val (.float .f64 n)] h (Ret (.int .i64 (bitsF n)) h) := by
  refine SCalls.body Tryd.func45 rfl rfl (by simp [Tryd.ntmps45]) ?_
  unfold bitsF nanI
  cases hb : (FloatKind.f64.format.order n n != some .eq) with
  | true =>
    refine SW.run [eToBits] _ ?_
    simp only [wpC, mayStop, stops, isFlt, Specs.has, eToBits, Specs.hasO, Nat.reduceLeDiff, Nat.reduceSub, false_and, ↓reduceIte, Bool.or_false, List.any_cons, List.any_nil, Bool.false_eq_true, wpS, wantedA, okDst, Tryd.ntmps45, Nat.reduceLT, decide_true, step1, isOwnCall, hxOp, px, AS.eval, ofConst, ofVal, thenQ, AS.put, enumA, dropKey, reduceCtorEq, AS.get, Lift.look, Nat.succ_ne_zero, Option.getD_some, Nat.reduceEqDiff, pbinP, pflt, pfcmp, hb, isB, tmpOf, asB, RPost, sres, Tryd.results45, sresL, sres1, Option.some.injEq, Ret_fin, HTo_self, and_true, exists_eq_left', and_self]
  | false =>
    refine SW.run [eToBits] _ ?_
    simp only [wpC, mayStop, stops, isFlt, Specs.has, eToBits, Specs.hasO, Nat.reduceLeDiff, Nat.reduceSub, false_and, ↓reduceIte, Bool.or_false, List.any_cons, List.any_nil, Bool.false_eq_true, wpS, wantedA, okDst, Tryd.ntmps45, Nat.reduceLT, decide_true, step1, isOwnCall, hxOp, px, AS.eval, ofConst, ofVal, thenQ, AS.put, enumA, dropKey, reduceCtorEq, AS.get, Lift.look, Nat.succ_ne_zero, Option.getD_some, Nat.reduceEqDiff, pbinP, pflt, pfcmp, hb, isB, tmpOf, asB, Bool.not_true, and_self, pcall, okArg, List.all_cons, List.all_nil, Bool.and_true, Specs.at, List.map_cons, List.map_nil, sToBits, ty92, ty2, pconvH, pconv, RPost, sres, Tryd.results45, sresL, sres1, Option.some.injEq, Ret_fin, HTo_self, and_true, exists_eq_left']
theorem bitsR_ok (n : Nat) (h : Heap) : SCalls env 46 [.val (.float .f64 n)] h (Ret (.int .i64 (bitsF n)) h) := by
  refine SCalls.body Tryd.func46 rfl rfl (by simp [Tryd.ntmps46]) ?_
  unfold bitsF nanI
  cases hb : (FloatKind.f64.format.order n n != some .eq) with
  | true =>
    refine SW.run [eToBits] _ ?_
    simp only [wpC, mayStop, stops, isFlt, Specs.has, eToBits, Specs.hasO, Nat.reduceLeDiff, Nat.reduceSub, false_and, ↓reduceIte, Bool.or_false, List.any_cons, List.any_nil, Bool.false_eq_true, wpS, wantedA, okDst, Tryd.ntmps46, Nat.reduceLT, decide_true, step1, isOwnCall, hxOp, px, AS.eval, ofConst, ofVal, thenQ, AS.put, enumA, dropKey, reduceCtorEq, AS.get, Lift.look, Nat.succ_ne_zero, Option.getD_some, Nat.reduceEqDiff, pbinP, pflt, pfcmp, hb, isB, tmpOf, asB, RPost, sres, Tryd.results46, sresL, sres1, Option.some.injEq, Ret_fin, HTo_self, and_true, exists_eq_left', and_self]
  | false =>
    refine SW.run [eToBits] _ ?_
    simp only [wpC, mayStop, stops, isFlt, Specs.has, eToBits, Specs.hasO, Nat.reduceLeDiff, Nat.reduceSub, false_and, ↓reduceIte, Bool.or_false, List.any_cons, List.any_nil, Bool.false_eq_true, wpS, wantedA, okDst, Tryd.ntmps46, Nat.reduceLT, decide_true, step1, isOwnCall, hxOp, px, AS.eval, ofConst, ofVal, thenQ, AS.put, enumA, dropKey, reduceCtorEq, AS.get, Lift.look, Nat.succ_ne_zero, Option.getD_some, Nat.reduceEqDiff, pbinP, pflt, pfcmp, hb, isB, tmpOf, asB, Bool.not_true, and_self, pcall, okArg, List.all_cons, List.all_nil, Bool.and_true, Specs.at, List.map_cons, List.map_nil, sToBits, ty92, ty2, pconvH, pconv, RPost, sres, Tryd.results46, sresL, sres1, Option.some.injEq, Ret_fin, HTo_self, and_true, exists_eq_left']
noncomputable def eBits : SpecE env := ⟨45, sBits, fun args h hc => by
  unfold sBits at hc ⊢
  split at hc
  · rename_i n; exact .inl (bits_ok n h)
  · exact hc.elim⟩
noncomputable def eBitsR : SpecE env := ⟨46, sBits, fun args h hc => by
  unfold sBits at hc ⊢
  split at hc
  · rename_i n; exact .inl (bitsR_ok n h)
  · exact hc.elim⟩
end Go.Proofs.YthdmdeiaonkeoaaDoor
