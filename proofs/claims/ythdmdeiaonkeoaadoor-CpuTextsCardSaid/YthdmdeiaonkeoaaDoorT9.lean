/- Contracts of functions that the law reaches. -/
import Derived.Test.YthdmdeiaonkeoaaDoorT8
set_option linter.unusedSimpArgs false
set_option linter.unusedVariables false
namespace Go.Proofs.YthdmdeiaonkeoaaDoor
open Go Go.RowKit Go.Proofs.YthdmdeiaonkeoaaDoor Go.Proofs.YthdmdeiaonkeoaaDoor.Lift

/-! cpu.Name -/
def sName : List PV → Prop × PV
  | [.int .i64 o] => (True, .str (nameS o))
  | _ => PBad
theorem namesT_drop {n : Int} (h0 : 0 ≤ n) (h1 : n < 32) : ((namesT.map PV.str).drop n.toNat).take 1 = [.str (namesT.getD n.toNat [])] := by
  have : n.toNat < namesT.length := by show _ < 32; omega
  rw [← List.map_drop, ← List.map_take, List.drop_eq_getElem_cons this, List.getD_eq_getElem?_getD, List.getElem?_eq_getElem this]
  rfl
theorem Name_ok (n : Int) (h : Heap) : SCalls env 28 [.int .i64 n] h (Ret (.str (nameS n)) h) := by
  refine SCalls.body Tryd.func28 rfl rfl (by simp [Tryd.ntmps28]) (SW.run [eKnown] _ ?_)
  cases hk : knownS n with
  | false => simp only [wpC, mayStop, stops, isFlt, Specs.has, eKnown, Specs.hasO, Nat.reduceLeDiff, Nat.reduceSub, false_and, ↓reduceIte, Bool.or_false, List.any_cons, List.any_nil, Bool.false_eq_true, wpS, wantedA, okDst, Tryd.ntmps28, Nat.reduceLT, decide_true, step1, isOwnCall, hxOp, px, AS.eval, ofConst, ofVal, thenQ, Bool.not_true, AS.put, enumA, dropKey, reduceCtorEq, AS.get, Lift.look, Nat.succ_ne_zero, Option.getD_some, and_self, Nat.reduceEqDiff, pcall, okArg, List.all_cons, List.all_nil, Bool.and_true, Specs.at, List.map_cons, List.map_nil, sKnown, hk, pun, Bool.not_false, isB, tmpOf, asB, RPost, sres, Tryd.results28, sresL, sres1, Option.some.injEq, nameS, Ret_fin, HTo_self, and_true, exists_eq_left']
  | true =>
    have hr : 0 ≤ n ∧ n < 32 := by simpa [knownS] using hk
    have hd := namesT_drop hr.1 hr.2
    simp only [wpC, mayStop, stops, isFlt, Specs.has, eKnown, Specs.hasO, Nat.reduceLeDiff, Nat.reduceSub, false_and, ↓reduceIte, Bool.or_false, List.any_cons, List.any_nil, Bool.false_eq_true, wpS, wantedA, okDst, Tryd.ntmps28, Nat.reduceLT, decide_true, step1, isOwnCall, hxOp, px, AS.eval, ofConst, ofVal, thenQ, Bool.not_true, AS.put, enumA, dropKey, reduceCtorEq, AS.get, Lift.look, Nat.succ_ne_zero, Option.getD_some, and_self, Nat.reduceEqDiff, pcall, okArg, List.all_cons, List.all_nil, Bool.and_true, Specs.at, List.map_cons, List.map_nil, sKnown, hk, pun, isB, tmpOf, asB, pindexAddr, ty74, ty9, gl1, hr.1, Int.cast_ofNat_Int, hr.2, Nat.mul_one, pload, okOne, TK.isAgg, beq_self_eq_true, Bool.or_true, List.length_drop, List.length_map, true_and, Lift.valOf, hd, List.getD_cons_zero, RPost, sres, Tryd.results28, sresL, sres1, Option.some.injEq, nameS, Ret_fin, HTo_self, and_true, exists_eq_left']
    show 1 ≤ 32 - n.toNat
    omega
noncomputable def eName : SpecE env := ⟨28, sName, fun args h hc => by
  unfold sName at hc ⊢
  split at hc
  · rename_i n; exact .inl (Name_ok n h)
  · exact hc.elim⟩
/-! strconv.Itoa -/
def sItoa : List PV → Prop × PV
  | [.int .i64 n] => (-9223372036854775808 ≤ n ∧ n ≤ 9223372036854775807, .str (Lib.itoa n))
  | _ => PBad
set_option maxRecDepth 100000 in
theorem Itoa_ok (n : Int) (h : Heap) (h0 : -9223372036854775808 ≤ n) (h1 : n ≤ 9223372036854775807) : SCalls env 38 [.int .i64 n] h (Ret (.str (Lib.itoa n)) h) :=
  SCalls.ofBelow Tryd.func38 rfl rfl fun w I G vs g r => by
    obtain ⟨u, us, rfl, hu, hn⟩ := r
    have hn : us = [] := hn
    subst hn
    have hu : u = .int .i64 n := hu
    subst hu
    obtain ⟨t, fr, hw⟩ := gpow (g.inv : gwinv w I)
    have htab : Lib.TabIs Tryd.prog w "internal/strconv.uint64pow10" .u64 Lib.pow10Tab := by
      unfold Lib.TabIs World.var?
      rw [show Tryd.prog.globalNamed "internal/strconv.uint64pow10" = some 6 by kernel_rfl]
      rw [Option.bind_some, hw]
      rfl
    refine ⟨.string ⟨(Lib.itoa n).toArray⟩, fun _ => rfl, (Tryd.strconv_Itoa n h0 h1 w htab).mono ?_⟩
    rintro e w' ⟨he, k, os, rfl⟩
    exact ⟨he, rfl, rfl, rfl, by rw [Go.Sort.size_grow]; exact Nat.le_add_right _ _, fun j hj => Go.Sort.heap_grow_old _ _ hj⟩
noncomputable def eItoa : SpecE env := ⟨38, sItoa, fun args h hc => by
  unfold sItoa at hc ⊢
  split at hc
  · rename_i n; exact .inl (Itoa_ok n h hc.1 hc.2)
  · exact hc.elim⟩
end Go.Proofs.YthdmdeiaonkeoaaDoor
