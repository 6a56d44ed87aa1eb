/- Contracts of functions that the law reaches. -/
import Derived.Test.YtincpomenogppaaGreatDoorEnv
set_option linter.unusedSimpArgs false
set_option linter.unusedVariables false
namespace Go.Proofs.YtincpomenogppaaGreatDoor
open Go Go.RowKit Go.Proofs.YtincpomenogppaaGreatDoor Go.Proofs.YtincpomenogppaaGreatDoor.Lift
set_option maxRecDepth 100000

theorem noEscape_ok (v : Value) (hv : v.oneCell' = true) (h : Heap) : XCalls env 142 [.val v] h (.val v) :=
  XCalls.noEscape Tryz.func142 (by kernel_rfl) (by kernel_rfl) (by kernel_rfl) (by kernel_rfl) v hv h
def sNoEscape : List PV → Prop × PV
  | [.val v] => (v.oneCell' = true, .val v)
  | _ => PBad
noncomputable def eNoEscape : SpecE env := ⟨142, sNoEscape, fun args h hc => by
  unfold sNoEscape at hc ⊢
  split at hc
  · rename_i v; exact .inr (noEscape_ok v hc h)
  · exact hc.elim⟩
theorem copyCheck_ok {r : Nat} {p : Option Addr} {v : Value} {h : Heap} (hp : p = none ∨ p = some ⟨r, 0, none⟩) (hr : h r = some (.cells 83 2 [.val (.pointer p), .val v])) :
    SCalls env 104 [.val (.pointer (some ⟨r, 0, none⟩))] h (Ret (.tuple []) (h.put r (.cells 83 2 [.val (.pointer (some ⟨r, 0, none⟩)), .val v]))) := by
  refine SCalls.body Tryz.func104 rfl rfl (by simp [Tryz.ntmps104]) (SW.run [eNoEscape] _ ?_)
  rcases hp with rfl | rfl
  · simp only [wpC, mayStop, stops, isFlt, Specs.has, eNoEscape, Specs.hasO, Bool.or_false, Specs.hasH, List.any_cons, List.any_nil, Bool.false_eq_true, ↓reduceIte, wpS, wantedA, okDst, Tryz.ntmps104, Nat.reduceLT, decide_true, step1, isOwnCall, hxOp, px, AS.eval, AS.get, enumA, Lift.look, Option.getD_some, AS.put, dropKey, reduceCtorEq, Nat.reduceEqDiff, pfieldAddr, fieldOf, ty83, fieldIn, List.getElem?_cons_zero, ty81, Option.map_some, ne_eq, Nat.succ_ne_zero, not_false_eq_true, Nat.add_zero, pload, hr, okOne, TK.isAgg, beq_self_eq_true, Bool.or_true, Nat.zero_add, List.length_cons, List.length_nil, Nat.reduceAdd, Nat.reduceLeDiff, and_self, Lift.valOf, List.drop_zero, List.take_succ_cons, List.take_zero, List.getD_cons_zero, isNilC, pbinP, pflt, peq, peqK, ofConst, ofVal, Option.isNone_none, thenQ, isB, tmpOf, asB, ty169, pconvH, Bool.not_true, pcall, okArg, List.all_cons, List.all_nil, Bool.and_true, Specs.at, List.map_cons, List.map_nil, sNoEscape, Value.oneCell', hx, known1, PV.cells, splice, List.nil_append, List.drop_succ_cons, List.cons_append, RPost, sres, Tryz.results104, sresL, Option.some.injEq, Ret_fin, HTo_self, and_true, exists_eq_left', true_and]
    kernel_rfl
  · simp only [wpC, mayStop, stops, isFlt, Specs.has, Specs.hasO, Bool.or_false, Specs.hasH, List.any_cons, List.any_nil, Bool.false_eq_true, ↓reduceIte, wpS, wantedA, okDst, Tryz.ntmps104, Nat.reduceLT, decide_true, step1, isOwnCall, hxOp, px, AS.eval, AS.get, enumA, Lift.look, Option.getD_some, AS.put, dropKey, reduceCtorEq, Nat.reduceEqDiff, pfieldAddr, fieldOf, ty83, fieldIn, List.getElem?_cons_zero, ty81, Option.map_some, ne_eq, Nat.succ_ne_zero, not_false_eq_true, Nat.add_zero, pload, hr, okOne, TK.isAgg, beq_self_eq_true, Bool.or_true, Nat.zero_add, List.length_cons, List.length_nil, Nat.reduceAdd, Nat.reduceLeDiff, and_self, Lift.valOf, List.drop_zero, List.take_succ_cons, List.take_zero, List.getD_cons_zero, isNilC, pbinP, pflt, peq, peqK, ofConst, ofVal, thenQ, isB, tmpOf, asB, psame, RPost, sres, Tryz.results104, sresL, Option.some.injEq, Ret_fin, exists_eq_left', true_and]
    exact HTo_put_self hr
theorem WriteByte_ok {r : Nat} {bs : List UInt8} {b : UInt8} {h : Heap} (hr : h r = some (.bld 83 5 bs)) (hlen : bs.length + 1 ≤ 140737488355328) :
    SCalls env 74 [.val (.pointer (some ⟨r, 0, none⟩)), .int .u8 b.toNat] h (Ret (.val .nilIface) (h.put r (.bld 83 5 (bs ++ [b])))) := by
  refine SCalls.body Tryz.func74 rfl rfl (by simp [Tryz.ntmps74]) ?_
  refine SW.open_bld hr fun p u H hp (hown : Own (h.put r _) _ _ _ _ _) hcu => ?_
  refine SW.run [] _ ?_
  simp only [wpC, mayStop, stops, isFlt, Specs.has, Specs.hasO, Bool.or_false, Specs.hasH, Bool.not_false, List.any_cons, List.any_nil, Bool.false_eq_true, ↓reduceIte, wpS, wantedA, okDst, Tryz.ntmps74, Nat.reduceLT, decide_true, step1, isOwnCall, hxOp, px, AS.eval, ofConst, ofVal, thenQ, Bool.or_true, AS.put, enumA, Nat.zero_add, dropKey, reduceCtorEq, Nat.reduceEqDiff, AS.get, Lift.look, Nat.succ_ne_zero, Option.getD_some, Tryz.results74, true_and]
  refine SWO.call (.func 104) _ _ 104 #[] #[] rfl rfl rfl rfl rfl rfl (copyCheck_ok hp hown.at) rfl rfl ?_ (by rintro c h' ⟨e1, _⟩; cases e1)
  rintro q h' ⟨e1, rfl⟩
  injection e1 with e1
  subst e1
  have hown := hown.reput (Y := .cells 83 2 [.val (.pointer (some ⟨r, 0, none⟩)), .val u])
  have hat := hown.at
  refine SWO.run [] 1000 ?_
  simp only [wpS, thenQ, AS.put, dropKey, Nat.reduceEqDiff, ↓reduceIte, reduceCtorEq]
  refine SW.run [] _ ?_
  simp only [wpC, mayStop, stops, isFlt, Specs.has, Specs.hasO, Bool.or_false, Specs.hasH, Bool.not_false, List.any_cons, List.any_nil, Bool.or_true, ↓reduceIte, Bool.false_eq_true, wpS, wantedA, okDst, Nat.reduceLT, decide_true, step1, isOwnCall, hxOp, px, AS.eval, AS.get, Lift.look, Nat.succ_ne_zero, Option.getD_some, AS.put, dropKey, Nat.reduceEqDiff, reduceCtorEq, pfieldAddr, fieldOf, ty83, fieldIn, List.getElem?_cons_succ, List.getElem?_cons_zero, ty65, Option.map_some, ne_eq, not_false_eq_true, Nat.zero_add, pload, Heap.get_put, okOne, TK.isAgg, beq_self_eq_true, Nat.reduceAdd, List.length_cons, List.length_nil, Nat.le_refl, and_self, Lift.valOf, List.drop_succ_cons, List.drop_zero, List.take_succ_cons, List.take_nil, List.getD_cons_zero, pbuildSlice, ty5, List.replicate, List.map_cons, ofVal, List.map_nil, List.flatten_cons, List.flatten_nil, List.append_nil, ofConst, pfill, PV.cells, Nat.reduceMul, splice, List.take_zero, List.nil_append, List.drop_nil, Nat.reduceLeDiff, okZero, List.all_cons, Value.oneCell', List.all_nil, Bool.and_true, known, chunk, true_and]
  refine SWO.append (.tmp 11) (.tmp 13) 65 65 rfl ty65 rfl ty5 (by decide) rfl ty65 rfl hown (ys := elB [b]) rfl (by rw [elB_len, elB_len]; simp; omega) (by rw [elB_len, elB_len]; simp [maxLen]; omega) rfl rfl ?_
  intro v h' (hown' : Own (h.put r _) 5 1 _ _ _) _ hcap
  rw [elB_append] at hown'
  have hat' := hown'.at
  obtain ⟨u', rfl⟩ : ∃ u', v = .val u' := by rcases hown' with ⟨e, _⟩ | ⟨_, _, e, _⟩ <;> exact ⟨_, e⟩
  refine SWO.run [] 1000 ?_
  simp only [wpS, stops, Bool.false_eq_true, ↓reduceIte, wantedA, okDst, AS.put, dropKey, Nat.reduceEqDiff, reduceCtorEq, Nat.reduceLT, decide_true, step1, isOwnCall, hxOp, px, AS.eval, AS.get, Lift.look, Option.getD_some, pfieldAddr, fieldOf, ty83, fieldIn, List.getElem?_cons_succ, List.getElem?_cons_zero, ty65, Option.map_some, ne_eq, Nat.succ_ne_zero, not_false_eq_true, Nat.zero_add, hx, hat', known1, PV.cells, List.length_cons, List.length_nil, Nat.reduceAdd, Nat.le_refl, and_self, splice, List.take_succ_cons, List.take_zero, List.cons_append, List.nil_append, List.drop_succ_cons, List.drop_nil, List.append_nil, thenQ, true_and]
  refine SW.run [] _ ?_
  simp only [wpC, mayStop, stops, isFlt, Specs.has, Specs.hasO, Bool.or_false, Specs.hasH, Bool.not_false, List.any_cons, List.any_nil, Bool.false_eq_true, ↓reduceIte, wpS, wantedA, okDst, Nat.reduceLT, decide_true, step1, isOwnCall, hxOp, px, AS.eval, ofConst, ofVal, thenQ, RPost, sres, sresL, sres1, AS.get, AS.put, dropKey, Nat.reduceEqDiff, reduceCtorEq, Lift.look, Option.getD_some, Option.some.injEq, Ret_fin, exists_eq_left', true_and]
  have hown2 := hown'.reput (Y := .cells 83 2 [.val (.pointer (some ⟨r, 0, none⟩)), .val u'])
  refine HTo.close hown2 fun hc => ?_
  obtain ⟨hc1, hc2⟩ := hcap hc
  cases hc2
theorem WriteString_ok {r : Nat} {bs : List UInt8} {l : List UInt8} {h : Heap} (hr : h r = some (.bld 83 5 bs)) (hlen : bs.length + l.length ≤ 140737488355328) :
    SCalls env 53 [.val (.pointer (some ⟨r, 0, none⟩)), .str l] h (Ret (.tuple [.int .i64 l.length, .val .nilIface]) (h.put r (.bld 83 5 (bs ++ l)))) := by
  refine SCalls.body Tryz.func53 rfl rfl (by simp [Tryz.ntmps53]) ?_
  refine SW.open_bld hr fun p u H hp (hown : Own (h.put r _) _ _ _ _ _) hcu => ?_
  refine SW.run [] _ ?_
  simp only [wpC, mayStop, stops, isFlt, Specs.has, Specs.hasO, Bool.or_false, Specs.hasH, Bool.not_false, List.any_cons, List.any_nil, Bool.false_eq_true, ↓reduceIte, wpS, wantedA, okDst, Tryz.ntmps53, Nat.reduceLT, decide_true, step1, isOwnCall, hxOp, px, AS.eval, ofConst, ofVal, AS.put, enumA, Nat.zero_add, dropKey, reduceCtorEq, Nat.reduceEqDiff, thenQ, Bool.or_true, AS.get, Lift.look, Nat.succ_ne_zero, Option.getD_some, Tryz.results53, true_and]
  refine SWO.call (.func 104) _ _ 104 #[] #[] rfl rfl rfl rfl rfl rfl (copyCheck_ok hp hown.at) rfl rfl ?_ (by rintro c h' ⟨e1, _⟩; cases e1)
  rintro q h' ⟨e1, rfl⟩
  injection e1 with e1
  subst e1
  have hown := hown.reput (Y := .cells 83 2 [.val (.pointer (some ⟨r, 0, none⟩)), .val u])
  have hat := hown.at
  refine SWO.run [] 1000 ?_
  simp only [wpS, thenQ, AS.put, dropKey, Nat.reduceEqDiff, ↓reduceIte, reduceCtorEq]
  refine SW.run [] _ ?_
  simp only [wpC, mayStop, stops, isFlt, Specs.has, Specs.hasO, Bool.or_false, Specs.hasH, Bool.not_false, List.any_cons, List.any_nil, Bool.or_true, ↓reduceIte, Bool.false_eq_true, wpS, wantedA, okDst, Nat.reduceLT, decide_true, step1, isOwnCall, hxOp, px, AS.eval, AS.get, Lift.look, Nat.succ_ne_zero, Option.getD_some, AS.put, dropKey, Nat.reduceEqDiff, reduceCtorEq, pfieldAddr, fieldOf, ty83, fieldIn, List.getElem?_cons_succ, List.getElem?_cons_zero, ty65, Option.map_some, ne_eq, not_false_eq_true, Nat.zero_add, pload, Heap.get_put, okOne, TK.isAgg, beq_self_eq_true, Nat.reduceAdd, List.length_cons, List.length_nil, Nat.le_refl, and_self, Lift.valOf, List.drop_succ_cons, List.drop_zero, List.take_succ_cons, List.take_nil, List.getD_cons_zero, true_and]
  refine SWO.append (.tmp 12) (.tmp 13) 65 9 rfl ty65 rfl ty5 (by decide) rfl ty9 rfl hown (ys := elB l) rfl (by rw [elB_len, elB_len]; simp; omega) (by rw [elB_len, elB_len]; simp [maxLen]; omega) rfl rfl ?_
  intro v h' (hown' : Own (h.put r _) 5 1 _ _ _) _ hcap
  rw [elB_append] at hown'
  have hat' := hown'.at
  obtain ⟨u', rfl⟩ : ∃ u', v = .val u' := by rcases hown' with ⟨e, _⟩ | ⟨_, _, e, _⟩ <;> exact ⟨_, e⟩
  refine SWO.run [] 1000 ?_
  simp only [wpS, stops, Bool.false_eq_true, ↓reduceIte, wantedA, okDst, AS.put, dropKey, Nat.reduceEqDiff, reduceCtorEq, Nat.reduceLT, decide_true, step1, isOwnCall, hxOp, px, AS.eval, AS.get, Lift.look, Option.getD_some, pfieldAddr, fieldOf, ty83, fieldIn, List.getElem?_cons_succ, List.getElem?_cons_zero, ty65, Option.map_some, ne_eq, Nat.succ_ne_zero, not_false_eq_true, Nat.zero_add, hx, hat', known1, PV.cells, List.length_cons, List.length_nil, Nat.reduceAdd, Nat.le_refl, and_self, splice, List.take_succ_cons, List.take_zero, List.cons_append, List.nil_append, List.drop_succ_cons, List.drop_nil, List.append_nil, thenQ, true_and]
  refine SW.run [] _ ?_
  simp only [wpC, mayStop, stops, isFlt, Specs.has, Specs.hasO, Bool.or_false, Specs.hasH, Bool.not_false, List.any_cons, List.any_nil, Bool.false_eq_true, ↓reduceIte, wpS, wantedA, okDst, Nat.reduceLT, decide_true, step1, isOwnCall, hxOp, px, AS.eval, AS.get, Lift.look, Nat.reduceEqDiff, reduceCtorEq, Option.getD_some, AS.put, dropKey, pcall, ty9, plen, okLen, and_self, ofConst, ofVal, thenQ, RPost, sres, sresL, sres1, Option.some.injEq, Ret_fin, exists_eq_left', true_and]
  have hown2 := hown'.reput (Y := .cells 83 2 [.val (.pointer (some ⟨r, 0, none⟩)), .val u'])
  refine HTo.close hown2 fun hc => ?_
  obtain ⟨hc1, hc2⟩ := hcap hc
  have hc1 : PV.val u' = .val u := hc1
  rw [hc1] at hc ⊢
  rw [hcu hc]
end Go.Proofs.YtincpomenogppaaGreatDoor

namespace Go.Proofs.YtincpomenogppaaGreatDoor
open Go Go.RowKit Go.Proofs.YtincpomenogppaaGreatDoor Go.Proofs.YtincpomenogppaaGreatDoor.Lift
set_option maxRecDepth 100000

theorem take_bytePVs (bs : List UInt8) : (bytePVs bs).take bs.length = bytePVs bs := by
  have : (bytePVs bs).length = bs.length := by simp [bytePVs]
  rw [← this, List.take_length]
theorem unBs_bytePVs (bs : List UInt8) : unBs (bytePVs bs) = some bs := unBs_map bs
theorem String_ok {r : Nat} {bs : List UInt8} {h : Heap} (hr : h r = some (.bld 83 5 bs)) (hlen : bs.length ≤ 140737488355328) :
    SCalls env 58 [.val (.pointer (some ⟨r, 0, none⟩))] h (Ret (.str bs) (h.del r)) := by
  refine SCalls.body Tryz.func58 rfl rfl (by simp [Tryz.ntmps58]) ?_
  have hsub : HSub (h.del r) h := fun k => by
    by_cases e : k = r
    · subst e; exact .inl (Heap.del_same _ _)
    · exact .inr (Heap.del_ne _ e)
  refine SW.unfold hr (fun hb p hp => ?_) (fun k cap h1 h2 h3 h4 h5 => ?_)
  · subst hb
    refine SW.seq (SW.run [] _ ?_)
    simp only [wpC, Bool.false_eq_true, ↓reduceIte, wpS, stops, wantedA, okDst, Tryz.ntmps58, Nat.reduceLT, decide_true, step1, isOwnCall, hxOp, px, AS.eval, ofConst, ofVal, thenQ, Tryz.results58, AS.put, enumA, dropKey, reduceCtorEq, true_and]
    refine SW.seq (SW.regionAny [] [[0, 1, 2, 3, 4, 5, 6, 7, 8, 9, 10, 11]] rfl (by rfl) (by kernel_rfl) ?_)
    simp only [wpOL, wpO, LOp, List.getElem?_toArray, List.getElem?_cons_zero, okDst, Nat.reduceLT, decide_true, wantedA, ↓reduceIte, step1, isOwnCall, Bool.false_eq_true, hxOp, px, AS.eval, AS.get, Lift.look, Nat.succ_ne_zero, Option.getD_some, List.getElem?_cons_succ, AS.put, dropKey, Nat.reduceEqDiff, reduceCtorEq, pfieldAddr, fieldOf, ty83, fieldIn, ty65, Option.map_some, ne_eq, not_false_eq_true, Nat.zero_add, pload, Heap.get_put, okOne, TK.isAgg, beq_self_eq_true, Bool.or_true, Nat.reduceAdd, List.length_cons, List.length_nil, Nat.le_refl, and_self, Lift.valOf, List.drop_succ_cons, List.drop_zero, List.take_succ_cons, List.take_nil, List.getD_cons_zero, pcall, plen, okLen, Int.cast_ofNat_Int, hx, hxUS, thenQ, true_and]
    refine SW.run [] _ ?_
    simp only [wpC, RPost, sres, sresL, sres1, AS.get, Lift.look, ↓reduceIte, Option.getD_some, Option.some.injEq, Ret_fin, exists_eq_left', true_and]
    have e : h.del r = (h.put r (.cells 83 2 [.val (.pointer p), .val (.slice none 0 0)])).del r := by
      funext k
      by_cases e : k = r
      · subst e; rw [Heap.del_same, Heap.del_same]
      · rw [Heap.del_ne _ e, Heap.del_ne _ e, Heap.put_ne _ _ e]
    rw [e]
    exact HTo.del _ _
  · refine SW.seq (SW.run [] _ ?_)
    simp only [wpC, Bool.false_eq_true, ↓reduceIte, wpS, stops, wantedA, okDst, Tryz.ntmps58, Nat.reduceLT, decide_true, step1, isOwnCall, hxOp, px, AS.eval, ofConst, ofVal, thenQ, Tryz.results58, AS.put, enumA, dropKey, reduceCtorEq, true_and]
    refine SW.seq (SW.regionAny [] [[0, 1, 2, 3, 4, 5, 6, 7, 8, 9, 10, 11]] rfl (by rfl) (by kernel_rfl) ?_)
    have h2' := Ne.symm h2
    have hc : ¬ cap = 0 := by omega
    have hfin : ∀ o o' : AObj, HTo env ((h.put r o).put k o') (h.del r) := fun o o' => HSub.to fun j => by
      by_cases e : j = r
      · subst e; exact .inl (Heap.del_same _ _)
      · rw [Heap.del_ne _ e]
        by_cases e2 : j = k
        · subst e2; exact .inl h1
        · exact .inr (by rw [Heap.put_ne _ _ e2, Heap.put_ne _ _ e])
    cases bs with
    | nil =>
      simp only [wpOL, wpO, LOp, List.getElem?_toArray, List.getElem?_cons_zero, okDst, Nat.reduceLT, decide_true, wantedA, ↓reduceIte, step1, isOwnCall, Bool.false_eq_true, hxOp, px, AS.eval, AS.get, Lift.look, Nat.succ_ne_zero, Option.getD_some, List.getElem?_cons_succ, AS.put, dropKey, Nat.reduceEqDiff, reduceCtorEq, List.length_nil, pfieldAddr, fieldOf, ty83, fieldIn, ty65, Option.map_some, ne_eq, not_false_eq_true, Nat.zero_add, pload, Heap.get_put, h2', okOne, TK.isAgg, beq_self_eq_true, Bool.or_true, Nat.reduceAdd, List.length_cons, Nat.le_refl, and_self, Lift.valOf, List.drop_succ_cons, List.drop_zero, List.take_succ_cons, List.take_nil, List.getD_cons_zero, pcall, hc, plen, okLen, Int.cast_ofNat_Int, hx, hxUS, thenQ, true_and]
      refine SW.run [] _ ?_
      simp only [wpC, RPost, sres, sresL, sres1, AS.get, Lift.look, ↓reduceIte, Option.getD_some, Option.some.injEq, Ret_fin, exists_eq_left', true_and]
      exact hfin _ _
    | cons b bs =>
      have ht : List.take (bs.length + 1) (bytePVs (b :: bs)) = bytePVs (b :: bs) := take_bytePVs (b :: bs)
      simp only [wpOL, wpO, LOp, List.getElem?_toArray, List.getElem?_cons_zero, okDst, Nat.reduceLT, decide_true, wantedA, ↓reduceIte, step1, isOwnCall, Bool.false_eq_true, hxOp, px, AS.eval, AS.get, Lift.look, Nat.succ_ne_zero, Option.getD_some, List.getElem?_cons_succ, AS.put, dropKey, Nat.reduceEqDiff, reduceCtorEq, List.length_cons, pfieldAddr, fieldOf, ty83, fieldIn, ty65, Option.map_some, ne_eq, not_false_eq_true, Nat.zero_add, pload, Heap.get_put, h2', okOne, TK.isAgg, beq_self_eq_true, Bool.or_true, Nat.reduceAdd, List.length_nil, Nat.le_refl, and_self, Lift.valOf, List.drop_succ_cons, List.drop_zero, List.take_succ_cons, List.take_nil, List.getD_cons_zero, pcall, hc, plen, okLen, hx, hxUS, ty141, ty5, ht, unBs_bytePVs, Nat.reduceLeDiff, true_and, and_true, thenQ]
      refine ⟨by simp only [List.length_cons] at hlen; omega, SW.run [] _ ?_⟩
      simp only [wpC, RPost, sres, sresL, sres1, AS.get, Lift.look, ↓reduceIte, Option.getD_some, Option.some.injEq, Ret_fin, exists_eq_left', true_and]
      rw [Heap.del_put _ _ _ (by rw [Heap.put_none]; exact ⟨h2, h1⟩)]
      refine HSub.to fun j => ?_
      by_cases e : j = r
      · subst e; exact .inl (Heap.del_same _ _)
      · exact .inr (by rw [Heap.del_ne _ e, Heap.put_ne _ _ e])
end Go.Proofs.YtincpomenogppaaGreatDoor

namespace Go.Proofs.YtincpomenogppaaGreatDoor
open Go Go.RowKit Go.Proofs.YtincpomenogppaaGreatDoor Go.Proofs.YtincpomenogppaaGreatDoor.Lift
set_option maxRecDepth 100000

end Go.Proofs.YtincpomenogppaaGreatDoor

namespace Go.Proofs.YtincpomenogppaaGreatDoor
open Go Go.RowKit Go.Proofs.YtincpomenogppaaGreatDoor Go.Proofs.YtincpomenogppaaGreatDoor.Lift
set_option maxRecDepth 100000

def lenS (l : List UInt8) (w : Bool) : Nat := if w = true then l.length / 4 else l.length
def sLen : List PV → Prop × PV
  | [.agg [.str l, .bool w]] => (l.length ≤ 1000000000, .int .i64 (lenS l w))
  | _ => PBad
end Go.Proofs.YtincpomenogppaaGreatDoor

namespace Go.Proofs.YtincpomenogppaaGreatDoor
open Go Go.RowKit Go.Proofs.YtincpomenogppaaGreatDoor Go.Proofs.YtincpomenogppaaGreatDoor.Lift
set_option maxRecDepth 100000

end Go.Proofs.YtincpomenogppaaGreatDoor

namespace Go.Proofs.YtincpomenogppaaGreatDoor
open Go Go.RowKit Go.Proofs.YtincpomenogppaaGreatDoor Go.Proofs.YtincpomenogppaaGreatDoor.Lift
set_option maxRecDepth 100000

theorem runesAt_len (s : ByteArray) : ∀ n i, (runesAt s n i).length ≤ n
  | 0, _ => Nat.le_refl _
  | n + 1, i => by
    unfold runesAt
    split
    · simp only [List.length_cons]
      exact Nat.succ_le_succ (runesAt_len s n _)
    · exact Nat.zero_le _
end Go.Proofs.YtincpomenogppaaGreatDoor
