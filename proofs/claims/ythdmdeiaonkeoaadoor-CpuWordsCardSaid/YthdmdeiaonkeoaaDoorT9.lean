/- Contracts of functions that the law reaches. -/
import Derived.Test.YthdmdeiaonkeoaaDoorT8
set_option linter.unusedSimpArgs false
set_option linter.unusedVariables false
namespace Go.Proofs.YthdmdeiaonkeoaaDoor
open Go Go.RowKit Go.Proofs.YthdmdeiaonkeoaaDoor Go.Proofs.YthdmdeiaonkeoaaDoor.Lift

/-! cpu.Name -/
def sName : List PV → Prop × PV
  | [.int .i64 o] => (True, .str (nameS o))
  | _ => PBad
theorem namesT_drop {n : Int} (h0 : 0 ≤ n) (h1 : n < 32) : ((namesT.map PV.str).drop n.toNat).take 1 = [.str (namesT.getD n.toNat [])] := by
  have : n.toNat < namesT.length := by show _ < 32; omega
  rw [← List.map_drop, ← List.map_take, List.drop_eq_getElem_cons this, List.getD_eq_getElem?_getD, List.getElem?_eq_getElem this]
  rfl
theorem Name_ok (n : Int) (h : Heap) : SCalls env 28 [.int .i64 n] h (Ret (.str (nameS n)) h) := by
  refine SCalls.body Tryd.func28 rfl rfl (by simp [Tryd.ntmps28]) (SW.run [eKnown] _ ?_)
  cases hk : knownS n with
  | false => simp only [wpC, mayStop, List.any_cons, List.any_nil, wpS, isB, asB, tmpOf, zeroOf, okAlloc, hxOp, Lift.hx, hxUS, HBad, pconvH, psame, stops, step1, wantedA, thenQ, inQ, px, pfieldAddr, pfield, pload, pindexAddr, pindex, pB, pslice, chunk, pbuild, pbuildSlice, pfill, placeOf, Lift.splice, known, unV, unVs, pmakeIface, pcall, plen, okLen, okOne, Lift.valOf, fieldOf, fieldIn, TK.isAgg, pbinP, pbinI, pbinS, pun, pflt, pfcmp, peq, peqK, fits, eqCells, pconv, unB, unR, unBs, enumA, AS.eval, AS.get, AS.put, dropKey, Lift.look, okDst, known1, PV.cells, ofConst, ofVal, okArg, okZero, Value.oneCell', Specs.has, Specs.at, Specs.hasO, Specs.atO, isOwnCall, ownSpec, PBad, ppick_bool, ppick_true, ppick_false, RPost, sres, sresL, sres1, Ret_fin, Has, hasAll, wrap_byte, w64_byte, w32_byte, byte_lt_T, UInt8.ofNat_toNat, LOp, wpO, wpOL, wpO2, dynOK, disj, ptrAt, ptrT, HTo_self, List.length_take, List.length_drop, Heap.get_put, some_none, cast0, cast1, Int.cast_ofNat_Int, Int.reduceBEq, Int.reduceBNe, Int.reduceEq, Int.reduceNe, Int.reduceAdd, Int.reduceSub, Int.reduceMul, beq_tf, beq_ft, Nat.reduceEqDiff, Nat.reduceLT, Nat.reduceLeDiff, Nat.reduceAdd, Nat.reduceMul, Nat.reduceSub, Nat.reduceBEq, ↓reduceIte, Option.getD_some, Option.getD_none, Option.map_some, Option.map_none, Option.bind_some, List.map_cons, List.map_nil, List.length_cons, List.length_nil, List.drop_zero, List.drop_succ_cons, List.drop_nil, List.take_zero, List.take_succ_cons, List.take_nil, List.getD_cons_zero, List.getD_cons_succ, List.append_nil, List.nil_append, List.cons_append, List.all_cons, List.all_nil, List.getElem?_cons_zero, List.getElem?_cons_succ, List.getElem?_toArray, List.getElem?_nil, List.replicate, List.flatten_cons, List.flatten_nil, Option.isSome_some, Option.isNone_some, Option.isNone_none, true_and, and_true, and_self, or_false, false_or, or_true, true_or, or_self, false_and, and_false, Bool.true_and, Bool.and_true, Bool.or_false, Bool.false_or, Bool.true_or, Bool.or_true, Bool.true_eq_false, Bool.false_eq_true, Bool.not_true, Bool.not_false, beq_self_eq_true, decide_true, decide_false, decide_eq_true_eq, decide_eq_false_iff_not, Option.some.injEq, exists_eq_left', ne_eq, Nat.succ_ne_zero, not_false_eq_true, not_true_eq_false, forall_const, implies_true, true_implies, false_implies, reduceCtorEq, Nat.zero_le, Nat.le_refl, Nat.zero_add, Nat.add_zero, Int.toNat_natCast, Int.reduceLE, Int.reduceLT, Int.reduceToNat, Int.natCast_nonneg, ty1, ty2, ty3, ty4, ty5, ty6, ty7, ty8, ty9, ty10, ty11, ty12, ty13, ty14, ty15, ty16, ty17, ty18, ty19, ty20, ty21, ty22, ty23, ty24, ty25, ty26, ty28, ty29, ty30, ty32, ty33, ty35, ty36, ty37, ty39, ty40, ty41, ty42, ty43, ty44, ty45, ty46, ty47, ty49, ty50, ty52, ty53, ty54, ty55, ty56, ty57, ty58, ty59, ty61, ty62, ty63, ty64, ty65, ty66, ty67, ty68, ty69, ty70, ty71, ty72, ty73, ty74, ty75, ty76, ty77, ty78, ty79, ty80, ty81, ty82, ty83, ty84, ty86, ty87, ty88, ty89, ty90, ty91, ty92, ty93, ty94, ty95, ty96, ty97, ty98, ty99, ty100, ty102, ty103, ty104, ty105, ty106, ty107, ty108, ty109, ty110, ty112, ty113, ty115, ty117, ty118, ty119, ty120, ty121, ty123, ty124, ty125, ty126, ty127, ty128, ty129, ty130, ty131, ty132, ty133, ty134, ty136, ty137, ty138, ty139, ty140, ty141, ty142, ty143, ty144, ty145, ty146, ty147, ty148, ty149, ty150, ty151, ty152, ty153, ty154, ty155, eqk23, eqk25, Tryd.ntmps28, Tryd.results28, eKnown, sKnown, hk, nameS]
  | true =>
    have hr : 0 ≤ n ∧ n < 32 := by simpa [knownS] using hk
    have hd := namesT_drop hr.1 hr.2
    simp only [wpC, mayStop, List.any_cons, List.any_nil, wpS, isB, asB, tmpOf, zeroOf, okAlloc, hxOp, Lift.hx, hxUS, HBad, pconvH, psame, stops, step1, wantedA, thenQ, inQ, px, pfieldAddr, pfield, pload, pindexAddr, pindex, pB, pslice, chunk, pbuild, pbuildSlice, pfill, placeOf, Lift.splice, known, unV, unVs, pmakeIface, pcall, plen, okLen, okOne, Lift.valOf, fieldOf, fieldIn, TK.isAgg, pbinP, pbinI, pbinS, pun, pflt, pfcmp, peq, peqK, fits, eqCells, pconv, unB, unR, unBs, enumA, AS.eval, AS.get, AS.put, dropKey, Lift.look, okDst, known1, PV.cells, ofConst, ofVal, okArg, okZero, Value.oneCell', Specs.has, Specs.at, Specs.hasO, Specs.atO, isOwnCall, ownSpec, PBad, ppick_bool, ppick_true, ppick_false, RPost, sres, sresL, sres1, Ret_fin, Has, hasAll, wrap_byte, w64_byte, w32_byte, byte_lt_T, UInt8.ofNat_toNat, LOp, wpO, wpOL, wpO2, dynOK, disj, ptrAt, ptrT, HTo_self, List.length_take, List.length_drop, Heap.get_put, some_none, cast0, cast1, Int.cast_ofNat_Int, Int.reduceBEq, Int.reduceBNe, Int.reduceEq, Int.reduceNe, Int.reduceAdd, Int.reduceSub, Int.reduceMul, beq_tf, beq_ft, Nat.reduceEqDiff, Nat.reduceLT, Nat.reduceLeDiff, Nat.reduceAdd, Nat.reduceMul, Nat.reduceSub, Nat.reduceBEq, ↓reduceIte, Option.getD_some, Option.getD_none, Option.map_some, Option.map_none, Option.bind_some, List.map_cons, List.map_nil, List.length_cons, List.length_nil, List.drop_zero, List.drop_succ_cons, List.drop_nil, List.take_zero, List.take_succ_cons, List.take_nil, List.getD_cons_zero, List.getD_cons_succ, List.append_nil, List.nil_append, List.cons_append, List.all_cons, List.all_nil, List.getElem?_cons_zero, List.getElem?_cons_succ, List.getElem?_toArray, List.getElem?_nil, List.replicate, List.flatten_cons, List.flatten_nil, Option.isSome_some, Option.isNone_some, Option.isNone_none, true_and, and_true, and_self, or_false, false_or, or_true, true_or, or_self, false_and, and_false, Bool.true_and, Bool.and_true, Bool.or_false, Bool.false_or, Bool.true_or, Bool.or_true, Bool.true_eq_false, Bool.false_eq_true, Bool.not_true, Bool.not_false, beq_self_eq_true, decide_true, decide_false, decide_eq_true_eq, decide_eq_false_iff_not, Option.some.injEq, exists_eq_left', ne_eq, Nat.succ_ne_zero, not_false_eq_true, not_true_eq_false, forall_const, implies_true, true_implies, false_implies, reduceCtorEq, Nat.zero_le, Nat.le_refl, Nat.zero_add, Nat.add_zero, Int.toNat_natCast, Int.reduceLE, Int.reduceLT, Int.reduceToNat, Int.natCast_nonneg, ty1, ty2, ty3, ty4, ty5, ty6, ty7, ty8, ty9, ty10, ty11, ty12, ty13, ty14, ty15, ty16, ty17, ty18, ty19, ty20, ty21, ty22, ty23, ty24, ty25, ty26, ty28, ty29, ty30, ty32, ty33, ty35, ty36, ty37, ty39, ty40, ty41, ty42, ty43, ty44, ty45, ty46, ty47, ty49, ty50, ty52, ty53, ty54, ty55, ty56, ty57, ty58, ty59, ty61, ty62, ty63, ty64, ty65, ty66, ty67, ty68, ty69, ty70, ty71, ty72, ty73, ty74, ty75, ty76, ty77, ty78, ty79, ty80, ty81, ty82, ty83, ty84, ty86, ty87, ty88, ty89, ty90, ty91, ty92, ty93, ty94, ty95, ty96, ty97, ty98, ty99, ty100, ty102, ty103, ty104, ty105, ty106, ty107, ty108, ty109, ty110, ty112, ty113, ty115, ty117, ty118, ty119, ty120, ty121, ty123, ty124, ty125, ty126, ty127, ty128, ty129, ty130, ty131, ty132, ty133, ty134, ty136, ty137, ty138, ty139, ty140, ty141, ty142, ty143, ty144, ty145, ty146, ty147, ty148, ty149, ty150, ty151, ty152, ty153, ty154, ty155, eqk23, eqk25, Tryd.ntmps28, Tryd.results28, eKnown, sKnown, hk, nameS, gl1, hr.1, hr.2, Nat.mul_one, hd, List.length_map]
    show 1 ≤ 32 - n.toNat
    omega
noncomputable def eName : SpecE env := ⟨28, sName, fun args h hc => by
  unfold sName at hc ⊢
  split at hc
  · rename_i n; exact .inl (Name_ok n h)
  · exact hc.elim⟩
/-! strconv.Itoa -/
def sItoa : List PV → Prop × PV
  | [.int .i64 n] => (-9223372036854775808 ≤ n ∧ n ≤ 9223372036854775807, .str (Lib.itoa n))
  | _ => PBad
set_option maxRecDepth 100000 in
theorem Itoa_ok (n : Int) (h : Heap) (h0 : -9223372036854775808 ≤ n) (h1 : n ≤ 9223372036854775807) : SCalls env 38 [.int .i64 n] h (Ret (.str (Lib.itoa n)) h) :=
  SCalls.ofBelow Tryd.func38 rfl rfl fun w I G vs g r => by
    obtain ⟨u, us, rfl, hu, hn⟩ := r
    have hn : us = [] := hn
    subst hn
    have hu : u = .int .i64 n := hu
    subst hu
    obtain ⟨_, t, fr, hw⟩ := (g.inv : gwinv w I)
    have htab : Lib.TabIs Tryd.prog w "internal/strconv.uint64pow10" .u64 Lib.pow10Tab := by
      unfold Lib.TabIs World.var?
      rw [show Tryd.prog.globalNamed "internal/strconv.uint64pow10" = some 6 by kernel_rfl]
      rw [Option.bind_some, hw]
      rfl
    refine ⟨.string ⟨(Lib.itoa n).toArray⟩, fun _ => rfl, (Tryd.strconv_Itoa n h0 h1 w htab).mono ?_⟩
    rintro e w' ⟨he, k, os, rfl⟩
    exact ⟨he, rfl, rfl, rfl, by rw [Go.Sort.size_grow]; exact Nat.le_add_right _ _, fun j hj => Go.Sort.heap_grow_old _ _ hj⟩
noncomputable def eItoa : SpecE env := ⟨38, sItoa, fun args h hc => by
  unfold sItoa at hc ⊢
  split at hc
  · rename_i n; exact .inl (Itoa_ok n h hc.1 hc.2)
  · exact hc.elim⟩
end Go.Proofs.YthdmdeiaonkeoaaDoor
