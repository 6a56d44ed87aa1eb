/- Contracts of functions that the law reaches. -/
import Derived.Test.YtincpomenogppaaGreatDoorV0
import Derived.Test.YtincpomenogppaaGreatDoorLiftH
set_option linter.unusedSimpArgs false
set_option linter.unusedVariables false
namespace Go.Proofs.YtincpomenogppaaGreatDoor
open Go Go.RowKit Go.Proofs.YtincpomenogppaaGreatDoor Go.Proofs.YtincpomenogppaaGreatDoor.Lift
set_option maxRecDepth 100000

theorem HasSuffix0M_ok (l p : List UInt8) (h : Heap) (hl : l.length ≤ 9000000000000000000) : SCalls envM 108 [.str l, .str p] h (Ret (.bool (suffixS l p)) h) := by
  refine SCalls.body Tryz.func108 rfl rfl (by simp [Tryz.ntmps108]) (SW.run [] _ ?_)
  by_cases h1 : p.length ≤ l.length
  · have hw : IntKind.i64.wrap ((l.length : Int) - (p.length : Int)) = ((l.length - p.length : Nat) : Int) := by rw [w64 (by omega) (by omega)]; omega
    simp only [wpC, mayStop, stops, isFlt, envM_ty, Specs.has, Specs.hasO, Bool.or_false, Specs.hasH, Bool.not_false, List.any_cons, List.any_nil, Bool.false_eq_true, ↓reduceIte, wpS, wantedA, okDst, Tryz.ntmps108, Nat.reduceLT, decide_true, step1, isOwnCall, hxOp, px, AS.eval, ofConst, ofVal, thenQ, ty3, AS.put, enumA, Nat.zero_add, dropKey, reduceCtorEq, Nat.reduceEqDiff, AS.get, Lift.look, Nat.succ_ne_zero, Option.getD_some, pcall, ty9, plen, okLen, and_self, isNilC, pbinP, pbinI, Int.ofNat_le, h1, List.getElem?_toArray, List.getElem?_cons_succ, List.getElem?_cons_zero, Option.bind_some, beq_self_eq_true, hw, pslice, pB, Int.natCast_nonneg, Nat.le_refl, and_true, true_and, Int.toNat_natCast, pbinS, ppick_bool, RPost, sres, Tryz.results108, sresL, sres1, Option.some.injEq, suffixS, Bool.true_and, Ret_fin, HTo_self, exists_eq_left']
    simp
  · simp only [wpC, mayStop, stops, isFlt, envM_ty, Specs.has, Specs.hasO, Bool.or_false, Specs.hasH, Bool.not_false, List.any_cons, List.any_nil, Bool.false_eq_true, ↓reduceIte, wpS, wantedA, okDst, Tryz.ntmps108, Nat.reduceLT, decide_true, step1, isOwnCall, hxOp, px, AS.eval, ofConst, ofVal, thenQ, ty3, AS.put, enumA, Nat.zero_add, dropKey, reduceCtorEq, Nat.reduceEqDiff, AS.get, Lift.look, Nat.succ_ne_zero, Option.getD_some, pcall, ty9, plen, okLen, and_self, isNilC, pbinP, pbinI, Int.ofNat_le, h1, decide_false, List.getElem?_toArray, List.getElem?_cons_succ, List.getElem?_cons_zero, Option.bind_some, beq_ft, Option.some.injEq, ppick_false, RPost, sres, Tryz.results108, sresL, sres1, suffixS, Bool.false_and, Ret_fin, HTo_self, and_true, exists_eq_left']
noncomputable def eHasSuffix0M : SpecE envM := ⟨108, sSuffix, fun args h hc => by
  unfold sSuffix at hc ⊢
  split at hc
  · rename_i l p; exact .inl (HasSuffix0M_ok l p h hc)
  · exact hc.elim⟩
theorem TrimSuffix0M_ok (l p : List UInt8) (h : Heap) (hl : l.length ≤ 9000000000000000000) : SCalls envM 97 [.str l, .str p] h (Ret (.str (cutS l p)) h) := by
  refine SCalls.body Tryz.func97 rfl rfl (by simp [Tryz.ntmps97]) (SW.run [eHasSuffix0M] _ ?_)
  cases e : suffixS l p
  · simp only [wpC, mayStop, stops, isFlt, envM_ty, Specs.has, eHasSuffix0M, Specs.hasO, Bool.or_false, Specs.hasH, List.any_cons, List.any_nil, Bool.false_eq_true, ↓reduceIte, wpS, wantedA, okDst, Tryz.ntmps97, Nat.reduceLT, decide_true, step1, isOwnCall, hxOp, px, AS.eval, ofConst, ofVal, thenQ, Bool.not_true, ty3, AS.put, enumA, Nat.zero_add, dropKey, reduceCtorEq, Nat.reduceEqDiff, AS.get, Lift.look, Nat.succ_ne_zero, Option.getD_some, pcall, okArg, List.all_cons, List.all_nil, Bool.and_true, Specs.at, List.map_cons, List.map_nil, sSuffix, e, true_and, isB, tmpOf, asB, RPost, sres, Tryz.results97, sresL, sres1, Option.some.injEq, cutS, Ret_fin, HTo_self, and_true, exists_eq_left', and_self]
    exact hl
  · have h1 := suffix_len e
    have hw : IntKind.i64.wrap ((l.length : Int) - (p.length : Int)) = ((l.length - p.length : Nat) : Int) := by rw [w64 (by omega) (by omega)]; omega
    simp only [wpC, mayStop, stops, isFlt, envM_ty, Specs.has, eHasSuffix0M, Specs.hasO, Bool.or_false, Specs.hasH, List.any_cons, List.any_nil, Bool.false_eq_true, ↓reduceIte, wpS, wantedA, okDst, Tryz.ntmps97, Nat.reduceLT, decide_true, step1, isOwnCall, hxOp, px, AS.eval, ofConst, ofVal, thenQ, Bool.not_true, ty3, AS.put, enumA, Nat.zero_add, dropKey, reduceCtorEq, Nat.reduceEqDiff, AS.get, Lift.look, Nat.succ_ne_zero, Option.getD_some, pcall, okArg, List.all_cons, List.all_nil, Bool.and_true, Specs.at, List.map_cons, List.map_nil, sSuffix, e, true_and, isB, tmpOf, asB, ty9, plen, okLen, and_self, isNilC, pbinP, pbinI, hw, pslice, pB, Int.cast_ofNat_Int, Int.reduceLE, Int.natCast_nonneg, Int.reduceToNat, Int.toNat_natCast, List.drop_zero, RPost, sres, Tryz.results97, sresL, sres1, Option.some.injEq, cutS, Ret_fin, HTo_self, and_true, exists_eq_left']
    refine ⟨hl, ?_⟩
    omega
noncomputable def eTrimSuffix0M : SpecE envM := ⟨97, sTrimSuffix, fun args h hc => by
  unfold sTrimSuffix at hc ⊢
  split at hc
  · rename_i l p; exact .inl (TrimSuffix0M_ok l p h hc)
  · exact hc.elim⟩
theorem TrimSuffixM_ok (l p : List UInt8) (h : Heap) (hl : l.length ≤ 9000000000000000000) : SCalls envM 44 [.str l, .str p] h (Ret (.str (cutS l p)) h) := by
  refine SCalls.body Tryz.func44 rfl rfl (by simp [Tryz.ntmps44]) (SW.run [eTrimSuffix0M] _ ?_)
  simp only [wpC, mayStop, stops, isFlt, envM_ty, Specs.has, eTrimSuffix0M, Specs.hasO, Bool.or_false, Specs.hasH, List.any_cons, List.any_nil, Bool.false_eq_true, ↓reduceIte, wpS, wantedA, okDst, Tryz.ntmps44, Nat.reduceLT, decide_true, step1, isOwnCall, hxOp, px, AS.eval, ofConst, ofVal, thenQ, Bool.not_true, AS.put, enumA, Nat.zero_add, dropKey, reduceCtorEq, Nat.reduceEqDiff, AS.get, Lift.look, Nat.succ_ne_zero, Option.getD_some, pcall, okArg, List.all_cons, List.all_nil, Bool.and_true, Specs.at, List.map_cons, List.map_nil, sTrimSuffix, true_and, RPost, sres, Tryz.results44, sresL, sres1, Option.some.injEq, Ret_fin, HTo_self, and_true, exists_eq_left', and_self]
  exact hl
noncomputable def eTrimSuffixM : SpecE envM := ⟨44, sTrimSuffix, fun args h hc => by
  unfold sTrimSuffix at hc ⊢
  split at hc
  · rename_i l p; exact .inl (TrimSuffixM_ok l p h hc)
  · exact hc.elim⟩
theorem ContM_ok (l : List UInt8) (h : Heap) (hl : l.length ≤ 1000000) : SCalls envM 43 [.str l] h (Ret (.str (cutS l [10])) h) := by
  refine SCalls.body Tryz.func43 rfl rfl (by simp [Tryz.ntmps43]) ?_
  have h9 : l.length ≤ 9000000000000000000 := by omega
  refine SW.seq (SW.run [] _ ?_)
  simp only [wpC, Bool.false_eq_true, ↓reduceIte, wpS, stops, wantedA, okDst, Tryz.ntmps43, Nat.reduceLT, decide_true, step1, isOwnCall, hxOp, px, AS.eval, ofConst, ofVal, thenQ, AS.put, enumA, dropKey, reduceCtorEq, true_and]
  refine SW.run [eTrimSuffixM] _ ?_
  simp only [wpC, mayStop, stops, isFlt, envM_ty, Specs.has, eTrimSuffixM, Specs.hasO, Bool.or_false, Specs.hasH, List.any_cons, ↓reduceIte, Bool.not_true, List.any_nil, Bool.false_eq_true, wpS, wantedA, okDst, Nat.reduceLT, decide_true, step1, isOwnCall, hxOp, px, AS.eval, AS.get, Lift.look, Nat.succ_ne_zero, Option.getD_some, AS.put, dropKey, Nat.reduceEqDiff, reduceCtorEq, pcall, okArg, ofConst, ofVal, List.all_cons, List.all_nil, Bool.and_true, Specs.at, List.map_cons, List.map_nil, sTrimSuffix, h9, and_self, thenQ, RPost, sres, Tryz.results43, sresL, sres1, Option.some.injEq, Ret_fin, HTo_self, and_true, exists_eq_left']
def HandG.dyn {E : Env} {ops : Array Oper} (m : Nat) (o : Oper) (c : Operand) (xs : Array Operand) (ts : Array TypeId) (f : FuncId) (A : List PV) (H : Heap) (Rel : PV → Heap → Prop) (ho : ops[m]? = some o) (hop : o.op = .call { callee := .value c, args := xs, argTypes := ts })
    (hc : SCalls E f A H (fun e h' => ∃ p, e = .ret p ∧ Rel p h')) : HandG E ops where
  m := m
  o := o
  xs := (c :: xs.toList).toArray
  A := .val (.func (.func f) #[] #[]) :: A
  H := H
  Rel := Rel
  ho := ho
  hx := fun y hy => by
    rw [hop]
    simp only [List.mem_cons] at hy
    rcases hy with rfl | hy
    · simp [Op.operands, Call.operands]
    · simp [Op.operands, Call.operands]
      exact .inr (by simpa using hy)
  sw := fun {K Q a} h => by
    obtain ⟨h1, h2, h3, h4, h5, h6⟩ := h
    have h3 : a.eval E c :: xs.toList.map (a.eval E) = .val (.func (.func f) #[] #[]) :: A := h3
    injection h3 with e1 h3
    refine SWO.call c xs ts f #[] #[] hop e1 rfl rfl ?_ (by simp [h3]; rfl) (by rw [h1]; exact hc) h4 h5 (fun p h' q => ?_) (fun c h' q => ?_)
    · have h2 : (c :: xs.toList).all (fun x => okArg (a.eval E x)) = true := h2
      rw [List.all_cons, Bool.and_eq_true] at h2
      exact h2.2
    · obtain ⟨p', e, r⟩ := q
      injection e with e
      subst e
      exact SWO.nil (h6 _ _ r)
    · obtain ⟨p', e, _⟩ := q
      cases e
end Go.Proofs.YtincpomenogppaaGreatDoor

namespace Go.Proofs.YtincpomenogppaaGreatDoor
open Go Go.RowKit Go.Proofs.YtincpomenogppaaGreatDoor Go.Proofs.YtincpomenogppaaGreatDoor.Lift
set_option maxRecDepth 100000

def cntC : PV := .val (.func (.func 43) #[] #[])
theorem StClM_ok (x y : List UInt8) (hx : x.length ≤ 1000000) (hy : y.length ≤ 1000000) (h : Heap) : SCalls envM 46 [.str x, .str y, .elem [cntC]] h (Ret (.int .i64 (Lib.compareBytes (cutS x [10]) (cutS y [10]))) h) := by
  refine SCalls.body Tryz.func46 rfl rfl (by simp [Tryz.ntmps46]) ?_
  refine SW.seq (SW.run [] _ ?_)
  simp only [wpC, Bool.false_eq_true, ↓reduceIte, wpS, stops, wantedA, okDst, Tryz.ntmps46, Nat.reduceLT, decide_true, step1, isOwnCall, hxOp, px, AS.eval, ofConst, ofVal, thenQ, AS.put, enumA, Nat.zero_add, Nat.reduceAdd, dropKey, reduceCtorEq, Nat.reduceEqDiff, true_and]
  refine SW.seq (SW.regionCut [] rfl (RestC.cutE [] (HandG.dyn 2 _ (.tmp 6) #[.tmp 7] _ 43 [.str x] h (fun p h' => p = .str (cutS x [10]) ∧ h' = h) rfl rfl ((ContM_ok x h hx).mono fun e h' q => ⟨_, q.1, rfl, q.2⟩)) (fun _ => True) (fun p h' q r _ => by rw [q.2]; rfl) [(0, true), (1, false), (3, true), (4, false)] 5 (k := 3) rfl (by kernel_rfl) ?_))
  simp only [wpE, keptE, AS.get, Lift.look, ptrAt, List.getElem?_toArray, List.getElem?_cons_zero, ptrT, Nat.reduceEqDiff, ↓reduceIte, reduceCtorEq, cntC, Option.getD_some, forall_const, LOp, okDst, Nat.reduceLT, decide_true, wantedA, step1, isOwnCall, Bool.false_eq_true, hxOp, px, pload, envM_ty, ty40, AS.eval, okOne, TK.isAgg, beq_self_eq_true, Bool.or_true, List.length_cons, List.length_nil, Nat.zero_add, Nat.le_refl, and_self, Lift.valOf, List.take_succ_cons, List.take_nil, List.getD_cons_zero, AS.put, dropKey, List.getElem?_cons_succ, Nat.succ_ne_zero, false_implies, HandOK, HandG.dyn, List.getElem_toArray, List.getElem_cons_succ, List.getElem_cons_zero, okArg, ofConst, ofVal, List.all_cons, List.all_nil, Bool.and_true, List.map_cons, List.map_nil, Nat.reduceAdd, true_and]
  rintro p h' ⟨rfl, rfl⟩
  refine RestC.cut [] [] 5 (k := 2) rfl (by kernel_rfl) ?_
  simp only [wpO, List.getElem?_toArray, List.getElem?_cons_succ, List.getElem?_cons_zero, Option.toList_some]
  refine SWO.callRet (.tmp 9) #[.tmp 10] _ 43 #[] #[] rfl rfl rfl rfl rfl rfl (ContM_ok y _ hy) rfl rfl ?_
  refine SWO.run [] 1000 ?_
  simp only [wpS, thenQ, AS.put, dropKey, Nat.reduceEqDiff, ↓reduceIte, reduceCtorEq]
  refine RestC.last [eCompareM] [6, 7] rfl (by kernel_rfl) ?_
  simp only [wpO, LOp, List.getElem?_toArray, List.getElem?_cons_succ, List.getElem?_cons_zero, okDst, Nat.reduceLT, decide_true, wantedA, ↓reduceIte, step1, isOwnCall, Specs.hasO, Bool.false_eq_true, hxOp, Specs.hasH, px, pcall, okArg, AS.eval, AS.get, Lift.look, ofConst, ofVal, List.all_cons, Nat.reduceEqDiff, Option.getD_some, List.all_nil, Bool.and_true, Specs.at, eCompareM, List.map_cons, List.map_nil, sCompare, and_self, AS.put, dropKey, reduceCtorEq, thenQ, Tryz.results46, true_and]
  refine SW.run [] _ ?_
  simp only [wpC, RPost, sres, sresL, sres1, AS.get, Lift.look, ↓reduceIte, Option.getD_some, Option.some.injEq, Ret_fin, HTo_self, and_true, exists_eq_left']
end Go.Proofs.YtincpomenogppaaGreatDoor
