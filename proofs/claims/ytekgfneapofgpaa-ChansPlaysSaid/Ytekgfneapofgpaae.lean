/- Contracts of functions that the law reaches. -/
import Derived.Test.Ytekgfneapofgpaad
set_option linter.unusedSimpArgs false
set_option linter.unusedVariables false
namespace Go.Proofs.Ytekgfneapofgpaa
open Go Go.RowKit Go.Proofs.Ytekgfneapofgpaa Go.Proofs.Ytekgfneapofgpaa.Lift

/-! slices.SortFunc of nothing -/
def nilS : PV := .val (.slice none 0 0)
def lessF : PV := .val (.func (.func 26) #[] #[])
theorem Ins_nil (A : Option Addr) (c : Nat) (h : Heap) : SCalls env 43 [.val (.slice A 0 c), .int .i64 0, .int .i64 0, lessF] h (Ret (.tuple []) h) := by
  refine SCalls.body Try.func43 rfl rfl (by simp [Try.ntmps43]) ?_
  have hw : IntKind.i64.wrap 1 = 1 := w64 (by omega) (by omega)
  refine SW.seq (SW.run [] _ ?_)
  simp only [wpC, Bool.false_eq_true, ↓reduceIte, wpS, stops, wantedA, okDst, Try.ntmps43, Nat.reduceLT, decide_true, step1, isOwnCall, hxOp, px, AS.eval, AS.get, enumA, Nat.zero_add, Nat.reduceAdd, lessF, Lift.look, reduceCtorEq, Option.getD_some, isFlt, ty3, AS.put, dropKey, Nat.reduceEqDiff, isNilC, pbinP, ofConst, ofVal, pbinI, Int.reduceAdd, hw, thenQ, true_and]
  refine SW.block (SW.loopH 53 (fun _ : Unit => [(2, .int .i64 0), (8, .int .i64 1)]) (fun _ => h) (fun _ => True) (fun _ => 0) () trivial ⟨rfl, .refl _ _, ?_⟩ fun _ _ => ?_)
  · simp only [hasAll, AS.get, Lift.look, Nat.reduceEqDiff, ↓reduceIte, reduceCtorEq, Option.getD_some, and_self]
  · refine SW.run [] _ ?_
    simp only [wpC, mayStop, stops, isFlt, Specs.has, Specs.hasO, Bool.or_false, Specs.hasH, Bool.not_false, List.any_cons, List.any_nil, Bool.false_eq_true, ↓reduceIte, wpS, wantedA, okDst, Nat.reduceLT, decide_true, step1, isOwnCall, hxOp, px, AS.eval, AS.get, Lift.look, Nat.reduceEqDiff, Option.getD_some, AS.put, dropKey, isNilC, pbinP, pbinI, Int.reduceLT, decide_false, thenQ, isB, tmpOf, asB, inQ, RPost, sres, Try.results43, sresL, Option.some.injEq, Ret_fin, HTo_self, and_true, exists_eq_left', and_self]
def sLen : List PV → Prop × PV
  | [.int .u64 n] => (n = 0, .int .i64 0)
  | _ => PBad
noncomputable def eBitsLen : SpecE env := ⟨39, sLen, fun args h hc => by
  unfold sLen at hc ⊢
  split at hc
  · rename_i n
    obtain rfl : n = 0 := hc
    refine .inl (SCalls.ofRead Try.func39 rfl rfl fun w I G vs g r => ?_)
    obtain ⟨v1, t1, rfl, r1, r3⟩ := r
    have r3 : t1 = [] := r3
    subst r3
    have r1 : v1 = _ := r1
    subst r1
    exact ⟨.int .i64 0, rfl, Try.bits_Len 0 w (by omega) (by omega)⟩
  · exact hc.elim⟩
theorem Pdq_nil (A : Option Addr) (c : Nat) (h : Heap) : SCalls env 38 [.val (.slice A 0 c), .int .i64 0, .int .i64 0, .int .i64 0, lessF] h (Ret (.tuple []) h) := by
  refine SCalls.body Try.func38 rfl rfl (by simp [Try.ntmps38]) ?_
  have hw : IntKind.i64.wrap 0 = 0 := w64 (by omega) (by omega)
  refine SW.seq (SW.run [] _ ?_)
  simp only [wpC, Bool.false_eq_true, ↓reduceIte, wpS, stops, wantedA, okDst, Try.ntmps38, Nat.reduceLT, decide_true, step1, isOwnCall, hxOp, px, AS.eval, ofConst, ofVal, thenQ, AS.put, enumA, Nat.zero_add, Nat.reduceAdd, lessF, dropKey, reduceCtorEq, Nat.reduceEqDiff, true_and]
  refine SW.seq (SW.run [] _ ?_)
  simp only [wpC, Bool.false_eq_true, ↓reduceIte, wpS, stops, wantedA, okDst, Nat.reduceLT, decide_true, step1, isOwnCall, hxOp, px, AS.eval, ofConst, ofVal, thenQ, AS.put, dropKey, Nat.reduceEqDiff, reduceCtorEq, true_and]
  refine SW.block (SW.loopH 148 (fun _ : Unit => [(0, .val (.slice A 0 c)), (1, .int .i64 0), (2, .int .i64 0), (3, .int .i64 0), (4, lessF), (10, .bool true), (11, .bool true)]) (fun _ => h) (fun _ => True) (fun _ => 0) () trivial ⟨rfl, .refl _ _, ?_⟩ fun _ _ => ?_)
  · simp only [hasAll, AS.get, Lift.look, Nat.succ_ne_zero, ↓reduceIte, Option.getD_some, Nat.reduceEqDiff, reduceCtorEq, lessF, and_self]
  · refine SW.run [] _ ?_
    simp only [wpC, mayStop, stops, isFlt, Specs.has, Specs.hasO, Bool.or_false, Specs.hasH, Bool.not_false, List.any_cons, ty3, List.any_nil, Bool.false_eq_true, ↓reduceIte, wpS, wantedA, okDst, Nat.reduceLT, decide_true, step1, isOwnCall, hxOp, px, AS.eval, AS.get, Lift.look, reduceCtorEq, Nat.reduceEqDiff, Option.getD_some, AS.put, dropKey, lessF, isNilC, pbinP, pbinI, Int.reduceSub, hw, thenQ, Bool.or_true, ofConst, ofVal, Int.reduceLE, isB, tmpOf, asB, Nat.succ_ne_zero, hasAll, and_true, false_and, and_false, true_and]
    refine SWO.callRet (.func 43) #[.tmp 26, .tmp 27, .tmp 28, .tmp 29] _ 43 #[] #[] rfl rfl rfl rfl rfl rfl (Ins_nil A c h) rfl rfl ?_
    refine SWO.run [] 1000 ?_
    simp only [wpS, thenQ, Try.results38, AS.put, dropKey, Nat.reduceEqDiff, ↓reduceIte, reduceCtorEq]
    refine SW.run [] _ ?_
    simp only [wpC, thenQ, inQ, RPost, sres, sresL, Option.some.injEq, Ret_fin, HTo_self, and_true, exists_eq_left']
theorem Sort_nil (A : Option Addr) (c : Nat) (h : Heap) : SCalls env 25 [.val (.slice A 0 c), lessF] h (Ret (.tuple []) h) := by
  refine SCalls.body Try.func25 rfl rfl (by simp [Try.ntmps25]) ?_
  have hw : IntKind.u64.wrap 0 = 0 := by decide
  refine SW.seq (SW.run [] _ ?_)
  simp only [wpC, Bool.false_eq_true, ↓reduceIte, wpS, stops, wantedA, okDst, Try.ntmps25, Nat.reduceLT, decide_true, step1, isOwnCall, hxOp, px, AS.eval, AS.get, enumA, Nat.zero_add, lessF, Lift.look, Option.getD_some, AS.put, dropKey, reduceCtorEq, Nat.reduceEqDiff, pcall, ty59, plen, okLen, and_self, Int.cast_ofNat_Int, thenQ, true_and]
  refine SW.run [eBitsLen] _ ?_
  simp only [wpC, Bool.false_eq_true, ↓reduceIte, wpS, stops, wantedA, okDst, Nat.reduceLT, decide_true, step1, isOwnCall, hxOp, px, AS.eval, AS.get, Lift.look, Nat.succ_ne_zero, Option.getD_some, AS.put, dropKey, Nat.reduceEqDiff, reduceCtorEq, ty3, ty88, pconvH, pconv, hw, Specs.has, eBitsLen, Specs.hasO, Bool.or_false, Specs.hasH, Bool.not_true, pcall, okArg, ofConst, ofVal, List.all_cons, List.all_nil, Bool.and_true, Specs.at, List.map_cons, List.map_nil, sLen, and_self, Bool.not_false, true_and]
  refine SWO.callRet (.func 38) #[.tmp 7, .const (.int .i64 0), .tmp 8, .tmp 11, .tmp 12] _ 38 #[] #[] rfl rfl rfl rfl rfl rfl (Pdq_nil A c h) rfl rfl ?_
  refine SWO.run [] 1000 ?_
  simp only [wpS, RPost, sres, AS.put, dropKey, Nat.reduceEqDiff, ↓reduceIte, reduceCtorEq, Try.results25, sresL, Option.some.injEq, Ret_fin, HTo_self, and_true, exists_eq_left']
end Go.Proofs.Ytekgfneapofgpaa
