/- Contracts of functions that the law reaches. -/
import Derived.Test.YtincpomenogppaaDoorEnv
set_option linter.unusedSimpArgs false
set_option linter.unusedVariables false
namespace Go.Proofs.YtincpomenogppaaDoor
open Go Go.RowKit Go.Proofs.YtincpomenogppaaDoor Go.Proofs.YtincpomenogppaaDoor.Lift
set_option maxRecDepth 100000

theorem noEscape_ok (v : Value) (hv : v.oneCell' = true) (h : Heap) : XCalls env 78 [.val v] h (.val v) :=
  XCalls.noEscape Tryd.func78 (by kernel_rfl) (by kernel_rfl) (by kernel_rfl) (by kernel_rfl) v hv h
def sNoEscape : List PV → Prop × PV
  | [.val v] => (v.oneCell' = true, .val v)
  | _ => PBad
noncomputable def eNoEscape : SpecE env := ⟨78, sNoEscape, fun args h hc => by
  unfold sNoEscape at hc ⊢
  split at hc
  · rename_i v; exact .inr (noEscape_ok v hc h)
  · exact hc.elim⟩
theorem copyCheck_ok {r : Nat} {p : Option Addr} {v : Value} {h : Heap} (hp : p = none ∨ p = some ⟨r, 0, none⟩) (hr : h r = some (.cells 75 2 [.val (.pointer p), .val v])) :
    SCalls env 59 [.val (.pointer (some ⟨r, 0, none⟩))] h (Ret (.tuple []) (h.put r (.cells 75 2 [.val (.pointer (some ⟨r, 0, none⟩)), .val v]))) := by
  refine SCalls.body Tryd.func59 rfl rfl (by simp [Tryd.ntmps59]) (SW.run [eNoEscape] _ ?_)
  rcases hp with rfl | rfl
  · simp only [wpC, mayStop, stops, isFlt, Specs.has, eNoEscape, Specs.hasO, Bool.or_false, Specs.hasH, List.any_cons, List.any_nil, Bool.false_eq_true, ↓reduceIte, wpS, wantedA, okDst, Tryd.ntmps59, Nat.reduceLT, decide_true, step1, isOwnCall, hxOp, px, AS.eval, AS.get, enumA, Lift.look, Option.getD_some, AS.put, dropKey, reduceCtorEq, Nat.reduceEqDiff, pfieldAddr, fieldOf, ty75, fieldIn, List.getElem?_cons_zero, ty72, Option.map_some, ne_eq, Nat.succ_ne_zero, not_false_eq_true, Nat.add_zero, pload, hr, okOne, TK.isAgg, beq_self_eq_true, Bool.or_true, Nat.zero_add, List.length_cons, List.length_nil, Nat.reduceAdd, Nat.reduceLeDiff, and_self, Lift.valOf, List.drop_zero, List.take_succ_cons, List.take_zero, List.getD_cons_zero, isNilC, pbinP, pflt, peq, peqK, ofConst, ofVal, Option.isNone_none, thenQ, isB, tmpOf, asB, ty115, pconvH, Bool.not_true, pcall, okArg, List.all_cons, List.all_nil, Bool.and_true, Specs.at, List.map_cons, List.map_nil, sNoEscape, Value.oneCell', hx, known1, PV.cells, splice, List.nil_append, List.drop_succ_cons, List.cons_append, RPost, sres, Tryd.results59, sresL, Option.some.injEq, Ret_fin, HTo_self, and_true, exists_eq_left', true_and]
    kernel_rfl
  · simp only [wpC, mayStop, stops, isFlt, Specs.has, Specs.hasO, Bool.or_false, Specs.hasH, List.any_cons, List.any_nil, Bool.false_eq_true, ↓reduceIte, wpS, wantedA, okDst, Tryd.ntmps59, Nat.reduceLT, decide_true, step1, isOwnCall, hxOp, px, AS.eval, AS.get, enumA, Lift.look, Option.getD_some, AS.put, dropKey, reduceCtorEq, Nat.reduceEqDiff, pfieldAddr, fieldOf, ty75, fieldIn, List.getElem?_cons_zero, ty72, Option.map_some, ne_eq, Nat.succ_ne_zero, not_false_eq_true, Nat.add_zero, pload, hr, okOne, TK.isAgg, beq_self_eq_true, Bool.or_true, Nat.zero_add, List.length_cons, List.length_nil, Nat.reduceAdd, Nat.reduceLeDiff, and_self, Lift.valOf, List.drop_zero, List.take_succ_cons, List.take_zero, List.getD_cons_zero, isNilC, pbinP, pflt, peq, peqK, ofConst, ofVal, thenQ, isB, tmpOf, asB, psame, RPost, sres, Tryd.results59, sresL, Option.some.injEq, Ret_fin, exists_eq_left', true_and]
    exact HTo_put_self hr
theorem WriteByte_ok {r : Nat} {bs : List UInt8} {b : UInt8} {h : Heap} (hr : h r = some (.bld 75 5 bs)) (hlen : bs.length + 1 ≤ 140737488355328) :
    SCalls env 57 [.val (.pointer (some ⟨r, 0, none⟩)), .int .u8 b.toNat] h (Ret (.val .nilIface) (h.put r (.bld 75 5 (bs ++ [b])))) := by
  refine SCalls.body Tryd.func57 rfl rfl (by simp [Tryd.ntmps57]) ?_
  refine SW.open_bld hr fun p u H hp (hown : Own (h.put r _) _ _ _ _ _) hcu => ?_
  refine SW.run [] _ ?_
  simp only [wpC, mayStop, stops, isFlt, Specs.has, Specs.hasO, Bool.or_false, Specs.hasH, Bool.not_false, List.any_cons, List.any_nil, Bool.false_eq_true, ↓reduceIte, wpS, wantedA, okDst, Tryd.ntmps57, Nat.reduceLT, decide_true, step1, isOwnCall, hxOp, px, AS.eval, ofConst, ofVal, thenQ, Bool.or_true, AS.put, enumA, Nat.zero_add, dropKey, reduceCtorEq, Nat.reduceEqDiff, AS.get, Lift.look, Nat.succ_ne_zero, Option.getD_some, Tryd.results57, true_and]
  refine SWO.call (.func 59) _ _ 59 #[] #[] rfl rfl rfl rfl rfl rfl (copyCheck_ok hp hown.at) rfl rfl ?_ (by rintro c h' ⟨e1, _⟩; cases e1)
  rintro q h' ⟨e1, rfl⟩
  injection e1 with e1
  subst e1
  have hown := hown.reput (Y := .cells 75 2 [.val (.pointer (some ⟨r, 0, none⟩)), .val u])
  have hat := hown.at
  refine SWO.run [] 1000 ?_
  simp only [wpS, thenQ, AS.put, dropKey, Nat.reduceEqDiff, ↓reduceIte, reduceCtorEq]
  refine SW.run [] _ ?_
  simp only [wpC, mayStop, stops, isFlt, Specs.has, Specs.hasO, Bool.or_false, Specs.hasH, Bool.not_false, List.any_cons, List.any_nil, Bool.or_true, ↓reduceIte, Bool.false_eq_true, wpS, wantedA, okDst, Nat.reduceLT, decide_true, step1, isOwnCall, hxOp, px, AS.eval, AS.get, Lift.look, Nat.succ_ne_zero, Option.getD_some, AS.put, dropKey, Nat.reduceEqDiff, reduceCtorEq, pfieldAddr, fieldOf, ty75, fieldIn, List.getElem?_cons_succ, List.getElem?_cons_zero, ty73, Option.map_some, ne_eq, not_false_eq_true, Nat.zero_add, pload, Heap.get_put, okOne, TK.isAgg, beq_self_eq_true, Nat.reduceAdd, List.length_cons, List.length_nil, Nat.le_refl, and_self, Lift.valOf, List.drop_succ_cons, List.drop_zero, List.take_succ_cons, List.take_nil, List.getD_cons_zero, pbuildSlice, ty5, List.replicate, List.map_cons, ofVal, List.map_nil, List.flatten_cons, List.flatten_nil, List.append_nil, ofConst, pfill, PV.cells, Nat.reduceMul, splice, List.take_zero, List.nil_append, List.drop_nil, Nat.reduceLeDiff, okZero, List.all_cons, Value.oneCell', List.all_nil, Bool.and_true, known, chunk, true_and]
  refine SWO.append (.tmp 11) (.tmp 13) 73 73 rfl ty73 rfl ty5 (by decide) rfl ty73 rfl hown (ys := elB [b]) rfl (by rw [elB_len, elB_len]; simp; omega) (by rw [elB_len, elB_len]; simp [maxLen]; omega) rfl rfl ?_
  intro v h' (hown' : Own (h.put r _) 5 1 _ _ _) _ hcap
  rw [elB_append] at hown'
  have hat' := hown'.at
  obtain ⟨u', rfl⟩ : ∃ u', v = .val u' := by rcases hown' with ⟨e, _⟩ | ⟨_, _, e, _⟩ <;> exact ⟨_, e⟩
  refine SWO.run [] 1000 ?_
  simp only [wpS, stops, Bool.false_eq_true, ↓reduceIte, wantedA, okDst, AS.put, dropKey, Nat.reduceEqDiff, reduceCtorEq, Nat.reduceLT, decide_true, step1, isOwnCall, hxOp, px, AS.eval, AS.get, Lift.look, Option.getD_some, pfieldAddr, fieldOf, ty75, fieldIn, List.getElem?_cons_succ, List.getElem?_cons_zero, ty73, Option.map_some, ne_eq, Nat.succ_ne_zero, not_false_eq_true, Nat.zero_add, hx, hat', known1, PV.cells, List.length_cons, List.length_nil, Nat.reduceAdd, Nat.le_refl, and_self, splice, List.take_succ_cons, List.take_zero, List.cons_append, List.nil_append, List.drop_succ_cons, List.drop_nil, List.append_nil, thenQ, true_and]
  refine SW.run [] _ ?_
  simp only [wpC, mayStop, stops, isFlt, Specs.has, Specs.hasO, Bool.or_false, Specs.hasH, Bool.not_false, List.any_cons, List.any_nil, Bool.false_eq_true, ↓reduceIte, wpS, wantedA, okDst, Nat.reduceLT, decide_true, step1, isOwnCall, hxOp, px, AS.eval, ofConst, ofVal, thenQ, RPost, sres, sresL, sres1, AS.get, AS.put, dropKey, Nat.reduceEqDiff, reduceCtorEq, Lift.look, Option.getD_some, Option.some.injEq, Ret_fin, exists_eq_left', true_and]
  have hown2 := hown'.reput (Y := .cells 75 2 [.val (.pointer (some ⟨r, 0, none⟩)), .val u'])
  refine HTo.close hown2 fun hc => ?_
  obtain ⟨hc1, hc2⟩ := hcap hc
  cases hc2
theorem WriteString_ok {r : Nat} {bs : List UInt8} {l : List UInt8} {h : Heap} (hr : h r = some (.bld 75 5 bs)) (hlen : bs.length + l.length ≤ 140737488355328) :
    SCalls env 37 [.val (.pointer (some ⟨r, 0, none⟩)), .str l] h (Ret (.tuple [.int .i64 l.length, .val .nilIface]) (h.put r (.bld 75 5 (bs ++ l)))) := by
  refine SCalls.body Tryd.func37 rfl rfl (by simp [Tryd.ntmps37]) ?_
  refine SW.open_bld hr fun p u H hp (hown : Own (h.put r _) _ _ _ _ _) hcu => ?_
  refine SW.run [] _ ?_
  simp only [wpC, mayStop, stops, isFlt, Specs.has, Specs.hasO, Bool.or_false, Specs.hasH, Bool.not_false, List.any_cons, List.any_nil, Bool.false_eq_true, ↓reduceIte, wpS, wantedA, okDst, Tryd.ntmps37, Nat.reduceLT, decide_true, step1, isOwnCall, hxOp, px, AS.eval, ofConst, ofVal, AS.put, enumA, Nat.zero_add, dropKey, reduceCtorEq, Nat.reduceEqDiff, thenQ, Bool.or_true, AS.get, Lift.look, Nat.succ_ne_zero, Option.getD_some, Tryd.results37, true_and]
  refine SWO.call (.func 59) _ _ 59 #[] #[] rfl rfl rfl rfl rfl rfl (copyCheck_ok hp hown.at) rfl rfl ?_ (by rintro c h' ⟨e1, _⟩; cases e1)
  rintro q h' ⟨e1, rfl⟩
  injection e1 with e1
  subst e1
  have hown := hown.reput (Y := .cells 75 2 [.val (.pointer (some ⟨r, 0, none⟩)), .val u])
  have hat := hown.at
  refine SWO.run [] 1000 ?_
  simp only [wpS, thenQ, AS.put, dropKey, Nat.reduceEqDiff, ↓reduceIte, reduceCtorEq]
  refine SW.run [] _ ?_
  simp only [wpC, mayStop, stops, isFlt, Specs.has, Specs.hasO, Bool.or_false, Specs.hasH, Bool.not_false, List.any_cons, List.any_nil, Bool.or_true, ↓reduceIte, Bool.false_eq_true, wpS, wantedA, okDst, Nat.reduceLT, decide_true, step1, isOwnCall, hxOp, px, AS.eval, AS.get, Lift.look, Nat.succ_ne_zero, Option.getD_some, AS.put, dropKey, Nat.reduceEqDiff, reduceCtorEq, pfieldAddr, fieldOf, ty75, fieldIn, List.getElem?_cons_succ, List.getElem?_cons_zero, ty73, Option.map_some, ne_eq, not_false_eq_true, Nat.zero_add, pload, Heap.get_put, okOne, TK.isAgg, beq_self_eq_true, Nat.reduceAdd, List.length_cons, List.length_nil, Nat.le_refl, and_self, Lift.valOf, List.drop_succ_cons, List.drop_zero, List.take_succ_cons, List.take_nil, List.getD_cons_zero, true_and]
  refine SWO.append (.tmp 12) (.tmp 13) 73 9 rfl ty73 rfl ty5 (by decide) rfl ty9 rfl hown (ys := elB l) rfl (by rw [elB_len, elB_len]; simp; omega) (by rw [elB_len, elB_len]; simp [maxLen]; omega) rfl rfl ?_
  intro v h' (hown' : Own (h.put r _) 5 1 _ _ _) _ hcap
  rw [elB_append] at hown'
  have hat' := hown'.at
  obtain ⟨u', rfl⟩ : ∃ u', v = .val u' := by rcases hown' with ⟨e, _⟩ | ⟨_, _, e, _⟩ <;> exact ⟨_, e⟩
  refine SWO.run [] 1000 ?_
  simp only [wpS, stops, Bool.false_eq_true, ↓reduceIte, wantedA, okDst, AS.put, dropKey, Nat.reduceEqDiff, reduceCtorEq, Nat.reduceLT, decide_true, step1, isOwnCall, hxOp, px, AS.eval, AS.get, Lift.look, Option.getD_some, pfieldAddr, fieldOf, ty75, fieldIn, List.getElem?_cons_succ, List.getElem?_cons_zero, ty73, Option.map_some, ne_eq, Nat.succ_ne_zero, not_false_eq_true, Nat.zero_add, hx, hat', known1, PV.cells, List.length_cons, List.length_nil, Nat.reduceAdd, Nat.le_refl, and_self, splice, List.take_succ_cons, List.take_zero, List.cons_append, List.nil_append, List.drop_succ_cons, List.drop_nil, List.append_nil, thenQ, true_and]
  refine SW.run [] _ ?_
  simp only [wpC, mayStop, stops, isFlt, Specs.has, Specs.hasO, Bool.or_false, Specs.hasH, Bool.not_false, List.any_cons, List.any_nil, Bool.false_eq_true, ↓reduceIte, wpS, wantedA, okDst, Nat.reduceLT, decide_true, step1, isOwnCall, hxOp, px, AS.eval, AS.get, Lift.look, Nat.reduceEqDiff, reduceCtorEq, Option.getD_some, AS.put, dropKey, pcall, ty9, plen, okLen, and_self, ofConst, ofVal, thenQ, RPost, sres, sresL, sres1, Option.some.injEq, Ret_fin, exists_eq_left', true_and]
  have hown2 := hown'.reput (Y := .cells 75 2 [.val (.pointer (some ⟨r, 0, none⟩)), .val u'])
  refine HTo.close hown2 fun hc => ?_
  obtain ⟨hc1, hc2⟩ := hcap hc
  have hc1 : PV.val u' = .val u := hc1
  rw [hc1] at hc ⊢
  rw [hcu hc]
end Go.Proofs.YtincpomenogppaaDoor
