/- Contracts of functions that the law reaches. -/
import Derived.Test.YthlibdhjcjangaaEnv
set_option linter.unusedSimpArgs false
set_option linter.unusedVariables false
namespace Go.Proofs.Ythlibdhjcjangaa
open Go Go.RowKit Go.Proofs.Ythlibdhjcjangaa Go.Proofs.Ythlibdhjcjangaa.Lift

theorem noEscape_ok (v : Value) (hv : v.oneCell' = true) (h : Heap) : XCalls env 57 [.val v] h (.val v) :=
  XCalls.noEscape Try.func57 (by kernel_rfl) (by kernel_rfl) (by kernel_rfl) (by kernel_rfl) v hv h
def sNoEscape : List PV → Prop × PV
  | [.val v] => (v.oneCell' = true, .val v)
  | _ => PBad
noncomputable def eNoEscape : SpecE env := ⟨57, sNoEscape, fun args h hc => by
  unfold sNoEscape at hc ⊢
  split at hc
  · rename_i v; exact .inr (noEscape_ok v hc h)
  · exact hc.elim⟩
theorem copyCheck_ok {r : Nat} {p : Option Addr} {v : Value} {h : Heap} (hp : p = none ∨ p = some ⟨r, 0, none⟩) (hr : h r = some (.cells 68 2 [.val (.pointer p), .val v])) :
    SCalls env 53 [.val (.pointer (some ⟨r, 0, none⟩))] h (Ret (.tuple []) (h.put r (.cells 68 2 [.val (.pointer (some ⟨r, 0, none⟩)), .val v]))) := by
  refine SCalls.body Try.func53 rfl rfl (by simp [Try.ntmps53]) (SW.run [eNoEscape] _ ?_)
  rcases hp with rfl | rfl
  · simp only [wpC, mayStop, List.any_cons, List.any_nil, wpS, isB, asB, tmpOf, hxOp, Lift.hx, pconvH, stops, step1, wantedA, thenQ, px, pfieldAddr, pload, Lift.splice, pcall, okOne, Lift.valOf, fieldOf, fieldIn, TK.isAgg, pbinP, peq, peqK, enumA, AS.eval, AS.get, AS.put, dropKey, Lift.look, okDst, known1, PV.cells, ofConst, ofVal, okArg, Value.oneCell', Specs.has, Specs.at, RPost, sres, sresL, Ret_fin, HTo_self, Nat.reduceEqDiff, Nat.reduceLT, Nat.reduceLeDiff, Nat.reduceAdd, ↓reduceIte, Option.getD_some, Option.map_some, List.map_cons, List.map_nil, List.length_cons, List.length_nil, List.drop_zero, List.drop_succ_cons, List.take_zero, List.take_succ_cons, List.getD_cons_zero, List.nil_append, List.cons_append, List.all_cons, List.all_nil, List.getElem?_cons_zero, Option.isNone_none, true_and, and_true, and_self, Bool.and_true, Bool.or_false, Bool.or_true, Bool.false_eq_true, Bool.not_true, beq_self_eq_true, decide_true, Option.some.injEq, exists_eq_left', ne_eq, Nat.succ_ne_zero, not_false_eq_true, reduceCtorEq, Nat.zero_add, Nat.add_zero, ty66, ty68, ty80, Try.ntmps53, Try.results53, hr, eNoEscape, sNoEscape]
    kernel_rfl
  · simp only [wpC, mayStop, List.any_cons, List.any_nil, wpS, isB, asB, tmpOf, hxOp, psame, stops, step1, wantedA, thenQ, px, pfieldAddr, pload, okOne, Lift.valOf, fieldOf, fieldIn, TK.isAgg, pbinP, peq, peqK, enumA, AS.eval, AS.get, AS.put, dropKey, Lift.look, okDst, ofConst, ofVal, Specs.has, RPost, sres, sresL, Ret_fin, Nat.reduceEqDiff, Nat.reduceLT, Nat.reduceLeDiff, Nat.reduceAdd, ↓reduceIte, Option.getD_some, Option.map_some, List.length_cons, List.length_nil, List.drop_zero, List.take_zero, List.take_succ_cons, List.getD_cons_zero, List.getElem?_cons_zero, true_and, and_self, Bool.or_false, Bool.or_true, Bool.false_eq_true, beq_self_eq_true, decide_true, Option.some.injEq, exists_eq_left', ne_eq, Nat.succ_ne_zero, not_false_eq_true, reduceCtorEq, Nat.zero_add, Nat.add_zero, ty66, ty68, Try.ntmps53, Try.results53, hr]
    exact HTo_put_self hr
theorem WriteByte_ok {r : Nat} {bs : List UInt8} {b : UInt8} {h : Heap} (hr : h r = some (.bld 68 5 bs)) (hlen : bs.length + 1 ≤ 140737488355328) :
    SCalls env 45 [.val (.pointer (some ⟨r, 0, none⟩)), .int .u8 b.toNat] h (Ret (.val .nilIface) (h.put r (.bld 68 5 (bs ++ [b])))) := by
  refine SCalls.body Try.func45 rfl rfl (by simp [Try.ntmps45]) ?_
  refine SW.open_bld hr fun p u H hp (hown : Own (h.put r _) _ _ _ _ _) hcu => ?_
  refine SW.run [] _ ?_
  simp only [wpC, mayStop, List.any_cons, List.any_nil, wpS, hxOp, stops, step1, wantedA, thenQ, px, enumA, AS.eval, AS.get, AS.put, dropKey, Lift.look, okDst, ofConst, ofVal, Specs.has, Nat.reduceEqDiff, Nat.reduceLT, ↓reduceIte, Option.getD_some, true_and, Bool.or_false, Bool.or_true, Bool.false_eq_true, Bool.not_false, decide_true, Nat.succ_ne_zero, reduceCtorEq, Nat.zero_add, Try.ntmps45, Try.results45]
  refine SWO.call (.func 53) _ _ 53 #[] #[] rfl rfl rfl rfl rfl rfl (copyCheck_ok hp hown.at) rfl rfl ?_ (by rintro c h' ⟨e1, _⟩; cases e1)
  rintro q h' ⟨e1, rfl⟩
  injection e1 with e1
  subst e1
  have hown := hown.reput (Y := .cells 68 2 [.val (.pointer (some ⟨r, 0, none⟩)), .val u])
  have hat := hown.at
  refine SWO.run [] 1000 ?_
  simp only [wpS, thenQ, AS.put, dropKey, Nat.reduceEqDiff, ↓reduceIte, reduceCtorEq]
  refine SW.run [] _ ?_
  simp only [wpC, mayStop, List.any_cons, List.any_nil, wpS, hxOp, stops, step1, wantedA, px, pfieldAddr, pload, chunk, pbuildSlice, pfill, Lift.splice, known, okOne, Lift.valOf, fieldOf, fieldIn, TK.isAgg, AS.eval, AS.get, AS.put, dropKey, Lift.look, okDst, PV.cells, ofConst, ofVal, okZero, Value.oneCell', Specs.has, Heap.get_put, Nat.reduceEqDiff, Nat.reduceLT, Nat.reduceLeDiff, Nat.reduceAdd, Nat.reduceMul, ↓reduceIte, Option.getD_some, Option.map_some, List.map_cons, List.map_nil, List.length_cons, List.length_nil, List.drop_zero, List.drop_succ_cons, List.drop_nil, List.take_zero, List.take_succ_cons, List.take_nil, List.getD_cons_zero, List.append_nil, List.nil_append, List.all_cons, List.all_nil, List.getElem?_cons_zero, List.getElem?_cons_succ, List.replicate, List.flatten_cons, List.flatten_nil, true_and, and_self, Bool.and_true, Bool.or_false, Bool.or_true, Bool.false_eq_true, Bool.not_false, beq_self_eq_true, decide_true, ne_eq, Nat.succ_ne_zero, not_false_eq_true, reduceCtorEq, Nat.le_refl, Nat.zero_add, ty5, ty39, ty68]
  refine SWO.append (.tmp 11) (.tmp 13) 39 39 rfl ty39 rfl ty5 (by decide) rfl ty39 rfl hown (ys := elB [b]) rfl (by rw [elB_len, elB_len]; simp; omega) (by rw [elB_len, elB_len]; simp [maxLen]; omega) rfl rfl ?_
  intro v h' (hown' : Own (h.put r _) 5 1 _ _ _) _ hcap
  rw [elB_append] at hown'
  have hat' := hown'.at
  obtain ⟨u', rfl⟩ : ∃ u', v = .val u' := by rcases hown' with ⟨e, _⟩ | ⟨_, _, e, _⟩ <;> exact ⟨_, e⟩
  refine SWO.run [] 1000 ?_
  simp only [wpS, hxOp, Lift.hx, stops, step1, wantedA, thenQ, px, pfieldAddr, Lift.splice, fieldOf, fieldIn, AS.eval, AS.get, AS.put, dropKey, Lift.look, okDst, known1, PV.cells, Nat.reduceEqDiff, Nat.reduceLT, Nat.reduceAdd, ↓reduceIte, Option.getD_some, Option.map_some, List.length_cons, List.length_nil, List.drop_succ_cons, List.drop_nil, List.take_zero, List.take_succ_cons, List.append_nil, List.nil_append, List.cons_append, List.getElem?_cons_zero, List.getElem?_cons_succ, true_and, and_self, Bool.false_eq_true, decide_true, ne_eq, Nat.succ_ne_zero, not_false_eq_true, reduceCtorEq, Nat.le_refl, Nat.zero_add, ty39, ty68, hat']
  refine SW.run [] _ ?_
  simp only [wpC, mayStop, List.any_cons, List.any_nil, wpS, hxOp, stops, step1, wantedA, thenQ, px, AS.eval, AS.get, AS.put, dropKey, Lift.look, okDst, ofConst, ofVal, Specs.has, RPost, sres, sresL, sres1, Ret_fin, Nat.reduceEqDiff, Nat.reduceLT, ↓reduceIte, Option.getD_some, true_and, Bool.or_false, Bool.false_eq_true, Bool.not_false, decide_true, Option.some.injEq, exists_eq_left', reduceCtorEq]
  have hown2 := hown'.reput (Y := .cells 68 2 [.val (.pointer (some ⟨r, 0, none⟩)), .val u'])
  refine HTo.close hown2 fun hc => ?_
  obtain ⟨hc1, hc2⟩ := hcap hc
  cases hc2
theorem Write_ok {r : Nat} {bs : List UInt8} {l : List UInt8} {h : Heap} (hr : h r = some (.bld 68 5 bs)) (hlen : bs.length + l.length ≤ 140737488355328) :
    SCalls env 54 [.val (.pointer (some ⟨r, 0, none⟩)), .list 1 (elB l)] h (Ret (.tuple [.int .i64 l.length, .val .nilIface]) (h.put r (.bld 68 5 (bs ++ l)))) := by
  refine SCalls.body Try.func54 rfl rfl (by simp [Try.ntmps54]) ?_
  refine SW.open_bld hr fun p u H hp (hown : Own (h.put r _) _ _ _ _ _) hcu => ?_
  refine SW.run [] _ ?_
  simp only [wpC, mayStop, List.any_cons, List.any_nil, wpS, hxOp, stops, step1, wantedA, thenQ, px, enumA, AS.eval, AS.get, AS.put, dropKey, Lift.look, okDst, ofConst, ofVal, Specs.has, Nat.reduceEqDiff, Nat.reduceLT, ↓reduceIte, Option.getD_some, true_and, Bool.or_false, Bool.or_true, Bool.false_eq_true, Bool.not_false, decide_true, Nat.succ_ne_zero, reduceCtorEq, Nat.zero_add, Try.ntmps54, Try.results54]
  refine SWO.call (.func 53) _ _ 53 #[] #[] rfl rfl rfl rfl rfl rfl (copyCheck_ok hp hown.at) rfl rfl ?_ (by rintro c h' ⟨e1, _⟩; cases e1)
  rintro q h' ⟨e1, rfl⟩
  injection e1 with e1
  subst e1
  have hown := hown.reput (Y := .cells 68 2 [.val (.pointer (some ⟨r, 0, none⟩)), .val u])
  have hat := hown.at
  refine SWO.run [] 1000 ?_
  simp only [wpS, thenQ, AS.put, dropKey, Nat.reduceEqDiff, ↓reduceIte, reduceCtorEq]
  refine SW.run [] _ ?_
  simp only [wpC, mayStop, List.any_cons, List.any_nil, wpS, hxOp, stops, step1, wantedA, px, pfieldAddr, pload, okOne, Lift.valOf, fieldOf, fieldIn, TK.isAgg, AS.eval, AS.get, AS.put, dropKey, Lift.look, okDst, Specs.has, Heap.get_put, Nat.reduceEqDiff, Nat.reduceLT, Nat.reduceAdd, ↓reduceIte, Option.getD_some, Option.map_some, List.length_cons, List.length_nil, List.drop_zero, List.drop_succ_cons, List.take_succ_cons, List.take_nil, List.getD_cons_zero, List.getElem?_cons_zero, List.getElem?_cons_succ, true_and, and_self, Bool.or_false, Bool.or_true, Bool.false_eq_true, Bool.not_false, beq_self_eq_true, decide_true, ne_eq, Nat.succ_ne_zero, not_false_eq_true, reduceCtorEq, Nat.le_refl, Nat.zero_add, ty39, ty68]
  refine SWO.append (.tmp 12) (.tmp 13) 39 39 rfl ty39 rfl ty5 (by decide) rfl ty39 rfl hown (ys := elB l) rfl (by rw [elB_len, elB_len]; simp; omega) (by rw [elB_len, elB_len]; simp [maxLen]; omega) rfl rfl ?_
  intro v h' (hown' : Own (h.put r _) 5 1 _ _ _) _ hcap
  rw [elB_append] at hown'
  have hat' := hown'.at
  obtain ⟨u', rfl⟩ : ∃ u', v = .val u' := by rcases hown' with ⟨e, _⟩ | ⟨_, _, e, _⟩ <;> exact ⟨_, e⟩
  refine SWO.run [] 1000 ?_
  simp only [wpS, hxOp, Lift.hx, stops, step1, wantedA, thenQ, px, pfieldAddr, Lift.splice, fieldOf, fieldIn, AS.eval, AS.get, AS.put, dropKey, Lift.look, okDst, known1, PV.cells, Nat.reduceEqDiff, Nat.reduceLT, Nat.reduceAdd, ↓reduceIte, Option.getD_some, Option.map_some, List.length_cons, List.length_nil, List.drop_succ_cons, List.drop_nil, List.take_zero, List.take_succ_cons, List.append_nil, List.nil_append, List.cons_append, List.getElem?_cons_zero, List.getElem?_cons_succ, true_and, and_self, Bool.false_eq_true, decide_true, ne_eq, Nat.succ_ne_zero, not_false_eq_true, reduceCtorEq, Nat.le_refl, Nat.zero_add, ty39, ty68, hat']
  refine SW.run [] _ ?_
  simp only [wpC, mayStop, List.any_cons, List.any_nil, wpS, hxOp, stops, step1, wantedA, thenQ, px, pcall, plen, okLen, AS.eval, AS.get, AS.put, dropKey, Lift.look, okDst, ofConst, ofVal, Specs.has, RPost, sres, sresL, sres1, Ret_fin, Nat.reduceEqDiff, Nat.reduceLT, ↓reduceIte, Option.getD_some, true_and, and_self, Bool.or_false, Bool.false_eq_true, Bool.not_false, decide_true, Option.some.injEq, exists_eq_left', reduceCtorEq, ty39, elB_len]
  have hown2 := hown'.reput (Y := .cells 68 2 [.val (.pointer (some ⟨r, 0, none⟩)), .val u'])
  refine HTo.close hown2 fun hc => ?_
  obtain ⟨hc1, hc2⟩ := hcap hc
  have hc1 : PV.val u' = .val u := hc1
  rw [hc1] at hc ⊢
  rw [hcu hc]
theorem WriteString_ok {r : Nat} {bs : List UInt8} {l : List UInt8} {h : Heap} (hr : h r = some (.bld 68 5 bs)) (hlen : bs.length + l.length ≤ 140737488355328) :
    SCalls env 41 [.val (.pointer (some ⟨r, 0, none⟩)), .str l] h (Ret (.tuple [.int .i64 l.length, .val .nilIface]) (h.put r (.bld 68 5 (bs ++ l)))) := by
  refine SCalls.body Try.func41 rfl rfl (by simp [Try.ntmps41]) ?_
  refine SW.open_bld hr fun p u H hp (hown : Own (h.put r _) _ _ _ _ _) hcu => ?_
  refine SW.run [] _ ?_
  simp only [wpC, mayStop, List.any_cons, List.any_nil, wpS, hxOp, stops, step1, wantedA, thenQ, px, enumA, AS.eval, AS.get, AS.put, dropKey, Lift.look, okDst, ofConst, ofVal, Specs.has, Nat.reduceEqDiff, Nat.reduceLT, ↓reduceIte, Option.getD_some, true_and, Bool.or_false, Bool.or_true, Bool.false_eq_true, Bool.not_false, decide_true, Nat.succ_ne_zero, reduceCtorEq, Nat.zero_add, Try.ntmps41, Try.results41]
  refine SWO.call (.func 53) _ _ 53 #[] #[] rfl rfl rfl rfl rfl rfl (copyCheck_ok hp hown.at) rfl rfl ?_ (by rintro c h' ⟨e1, _⟩; cases e1)
  rintro q h' ⟨e1, rfl⟩
  injection e1 with e1
  subst e1
  have hown := hown.reput (Y := .cells 68 2 [.val (.pointer (some ⟨r, 0, none⟩)), .val u])
  have hat := hown.at
  refine SWO.run [] 1000 ?_
  simp only [wpS, thenQ, AS.put, dropKey, Nat.reduceEqDiff, ↓reduceIte, reduceCtorEq]
  refine SW.run [] _ ?_
  simp only [wpC, mayStop, List.any_cons, List.any_nil, wpS, hxOp, stops, step1, wantedA, px, pfieldAddr, pload, okOne, Lift.valOf, fieldOf, fieldIn, TK.isAgg, AS.eval, AS.get, AS.put, dropKey, Lift.look, okDst, Specs.has, Heap.get_put, Nat.reduceEqDiff, Nat.reduceLT, Nat.reduceAdd, ↓reduceIte, Option.getD_some, Option.map_some, List.length_cons, List.length_nil, List.drop_zero, List.drop_succ_cons, List.take_succ_cons, List.take_nil, List.getD_cons_zero, List.getElem?_cons_zero, List.getElem?_cons_succ, true_and, and_self, Bool.or_false, Bool.or_true, Bool.false_eq_true, Bool.not_false, beq_self_eq_true, decide_true, ne_eq, Nat.succ_ne_zero, not_false_eq_true, reduceCtorEq, Nat.le_refl, Nat.zero_add, ty39, ty68]
  refine SWO.append (.tmp 12) (.tmp 13) 39 9 rfl ty39 rfl ty5 (by decide) rfl ty9 rfl hown (ys := elB l) rfl (by rw [elB_len, elB_len]; simp; omega) (by rw [elB_len, elB_len]; simp [maxLen]; omega) rfl rfl ?_
  intro v h' (hown' : Own (h.put r _) 5 1 _ _ _) _ hcap
  rw [elB_append] at hown'
  have hat' := hown'.at
  obtain ⟨u', rfl⟩ : ∃ u', v = .val u' := by rcases hown' with ⟨e, _⟩ | ⟨_, _, e, _⟩ <;> exact ⟨_, e⟩
  refine SWO.run [] 1000 ?_
  simp only [wpS, hxOp, Lift.hx, stops, step1, wantedA, thenQ, px, pfieldAddr, Lift.splice, fieldOf, fieldIn, AS.eval, AS.get, AS.put, dropKey, Lift.look, okDst, known1, PV.cells, Nat.reduceEqDiff, Nat.reduceLT, Nat.reduceAdd, ↓reduceIte, Option.getD_some, Option.map_some, List.length_cons, List.length_nil, List.drop_succ_cons, List.drop_nil, List.take_zero, List.take_succ_cons, List.append_nil, List.nil_append, List.cons_append, List.getElem?_cons_zero, List.getElem?_cons_succ, true_and, and_self, Bool.false_eq_true, decide_true, ne_eq, Nat.succ_ne_zero, not_false_eq_true, reduceCtorEq, Nat.le_refl, Nat.zero_add, ty39, ty68, hat']
  refine SW.run [] _ ?_
  simp only [wpC, mayStop, List.any_cons, List.any_nil, wpS, hxOp, stops, step1, wantedA, thenQ, px, pcall, plen, okLen, AS.eval, AS.get, AS.put, dropKey, Lift.look, okDst, ofConst, ofVal, Specs.has, RPost, sres, sresL, sres1, Ret_fin, Nat.reduceEqDiff, Nat.reduceLT, ↓reduceIte, Option.getD_some, true_and, and_self, Bool.or_false, Bool.false_eq_true, Bool.not_false, decide_true, Option.some.injEq, exists_eq_left', reduceCtorEq, ty9]
  have hown2 := hown'.reput (Y := .cells 68 2 [.val (.pointer (some ⟨r, 0, none⟩)), .val u'])
  refine HTo.close hown2 fun hc => ?_
  obtain ⟨hc1, hc2⟩ := hcap hc
  have hc1 : PV.val u' = .val u := hc1
  rw [hc1] at hc ⊢
  rw [hcu hc]
end Go.Proofs.Ythlibdhjcjangaa
