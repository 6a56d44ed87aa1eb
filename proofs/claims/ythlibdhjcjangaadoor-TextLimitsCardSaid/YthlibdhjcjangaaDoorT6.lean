/- Contracts of functions that the law reaches. -/
import Derived.Test.YthlibdhjcjangaaDoorT5
set_option linter.unusedSimpArgs false
set_option linter.unusedVariables false
namespace Go.Proofs.YthlibdhjcjangaaDoor
open Go Go.RowKit Go.Proofs.YthlibdhjcjangaaDoor Go.Proofs.YthlibdhjcjangaaDoor.Lift
set_option maxRecDepth 100000

theorem unR_elR (ns : List Int) : unR (elR ns) = some ns := unR_map ns
noncomputable def ePackWide : SpecE env := ⟨35, sPackWide, fun args h hc => by
  unfold sPackWide at hc ⊢
  split at hc
  · rename_i xs
    split at hc
    · rename_i ns hns
      rw [unR_spec hns]
      exact .inl (PackWide_ok ns h hc)
    · exact hc.elim
  · exact hc.elim⟩
/-- Is a character wide? -/
def anyWide (ns : List Int) : Bool := ns.any fun c => decide (255 < c)
def packL (ns : List Int) : List UInt8 := if anyWide ns = true then ns.flatMap be4 else ns.map u8of
def sPack : List PV → Prop × PV
  | [.list 1 xs] => match unR xs with
    | some ns => (ns.length ≤ 1000000000, .agg [.str (packL ns), .bool (anyWide ns)])
    | none => PBad
  | _ => PBad
theorem Pack_ok (ns : List Int) (h : Heap) (hn : ns.length ≤ 1000000000) : SCalls env 24 [.list 1 (elR ns)] h (Ret (.agg [.str (packL ns), .bool (anyWide ns)]) h) := by
  refine SCalls.body Tryd.func24 rfl rfl (by simp [Tryd.ntmps24]) ?_
  refine SW.seq (SW.run [] _ ?_)
  simp only [wpC, Bool.false_eq_true, ↓reduceIte, wpS, stops, wantedA, okDst, Tryd.ntmps24, Nat.reduceLT, decide_true, step1, okAlloc, ty24, okZero, List.all_cons, Value.oneCell', List.all_nil, Bool.and_true, thenQ, AS.put, enumA, dropKey, reduceCtorEq, zeroOf, List.map_cons, ofVal, List.map_nil, List.length_cons, List.length_nil, Nat.zero_add, Nat.reduceAdd, true_and]
  intro r0 hr0
  refine SW.seq (SW.run [] _ ?_)
  simp only [wpC, Bool.false_eq_true, ↓reduceIte, wpS, stops, wantedA, okDst, Nat.reduceLT, decide_true, step1, okAlloc, ty71, okZero, List.all_cons, Value.oneCell', List.all_nil, Bool.and_true, Heap.get_put, some_none, thenQ, AS.put, dropKey, Nat.reduceEqDiff, reduceCtorEq, zeroOf, List.map_cons, ofVal, List.map_nil, List.length_cons, List.length_nil, Nat.zero_add, Nat.reduceAdd, true_and]
  rintro r hr
  have hrr := hr.1
  have hrr' := Ne.symm hr.1
  refine SW.fold_nil (r := r) (T := 71) (e := 5) (p := none) (.inl rfl) (Heap.put_same _ _ _) ?_
  simp only [Heap.put_put]
  refine SW.seq (SW.seq (SW.run [] _ ?_))
  simp only [wpC, Bool.false_eq_true, ↓reduceIte, wpS, stops, wantedA, okDst, Nat.reduceLT, decide_true, step1, isOwnCall, hxOp, px, AS.eval, AS.get, Lift.look, Nat.succ_ne_zero, Option.getD_some, AS.put, dropKey, Nat.reduceEqDiff, reduceCtorEq, pcall, ty56, plen, elR_len, okLen, and_self, ofConst, ofVal, thenQ, true_and]
  refine SW.block (SW.loopK 23 (fun i => [(0, .list 1 (elR ns)), (2, .val (.pointer (some ⟨r0, 0, none⟩))), (3, .val (.pointer (some ⟨r, 0, none⟩))), (6, .list 1 (elR ns)), (7, .int .i64 ns.length), (8, .int .i64 (i : Nat))]) (fun i => (h.put r0 (.cells 24 2 [.str [], .bool false])).put r (.bld 71 5 ((ns.take i).map u8of))) (fun i => i ≤ ns.length ∧ anyWide (ns.take i) = false) (fun i => ns.length - i) 0 ⟨Nat.zero_le _, rfl⟩ ?_ ?_)
  · simp only [Has, List.take_zero, List.map_nil, hasAll, AS.get, Lift.look, Nat.succ_ne_zero, ↓reduceIte, Option.getD_some, Nat.reduceEqDiff, Int.cast_ofNat_Int, and_self]
    try simp
  rintro i ⟨hi, hno⟩
  refine SW.run [ePackWide] _ ?_
  by_cases hlt : i < ns.length
  · by_cases hw : 255 < ns.getD i 0
    · simp only [wpC, mayStop, stops, isFlt, Specs.has, ePackWide, Specs.hasO, Bool.or_false, Specs.hasH, List.any_cons, List.any_nil, Bool.false_eq_true, ↓reduceIte, wpS, wantedA, okDst, Nat.reduceLT, decide_true, step1, isOwnCall, hxOp, px, isNilC, pbinP, AS.eval, AS.get, Lift.look, reduceCtorEq, Nat.reduceEqDiff, Option.getD_some, pbinI, Int.ofNat_lt, hlt, thenQ, isB, AS.put, dropKey, tmpOf, asB, Bool.not_true, Bool.not_false, Bool.or_true, pindexAddr, ty56, ty21, ne_eq, Nat.succ_ne_zero, not_false_eq_true, Int.natCast_nonneg, Int.toNat_natCast, true_and, elR_getD hlt, pload, okOne, TK.isAgg, beq_self_eq_true, List.length_cons, List.length_nil, Nat.zero_add, Nat.le_refl, and_self, Lift.valOf, List.take_succ_cons, List.take_nil, List.getD_cons_zero, ofConst, ofVal, hw, pcall, okArg, List.all_cons, List.all_nil, Bool.and_true, Specs.at, List.map_cons, List.map_nil, sPackWide, unR_elR, pbuild, ty24, pfill, placeOf, List.getElem?_cons_zero, ty9, Option.map_some, PV.cells, Nat.reduceAdd, Nat.reduceLeDiff, List.getElem?_cons_succ, ty4, splice, List.take_zero, List.nil_append, List.drop_succ_cons, List.drop_zero, List.cons_append, List.drop_nil, List.append_nil, Option.isSome_some, okZero, Value.oneCell', known, hx, Heap.get_put, hrr', known1, inQ, RPost, sres, Tryd.results24, sresL, sres1, Nat.reduceBEq, Option.some.injEq, Ret_fin, exists_eq_left']
      have hany : anyWide ns = true := by
        unfold anyWide
        rw [List.any_eq_true]
        refine ⟨ns.getD i 0, ?_, by simpa using hw⟩
        rw [List.getD_eq_getElem?_getD, List.getElem?_eq_getElem hlt]
        exact List.getElem_mem hlt
      exact ⟨by rw [elR_len]; exact hlt, hn, by unfold packL; rw [hany]; rfl, HTo.put3 _ _ _ hr0 hr.2 hr0⟩
    · simp only [wpC, mayStop, stops, isFlt, Specs.has, ePackWide, Specs.hasO, Bool.or_false, Specs.hasH, List.any_cons, List.any_nil, Bool.false_eq_true, ↓reduceIte, wpS, wantedA, okDst, Nat.reduceLT, decide_true, step1, isOwnCall, hxOp, px, isNilC, pbinP, AS.eval, AS.get, Lift.look, reduceCtorEq, Nat.reduceEqDiff, Option.getD_some, pbinI, Int.ofNat_lt, hlt, thenQ, isB, AS.put, dropKey, tmpOf, asB, Bool.not_true, Bool.not_false, Bool.or_true, pindexAddr, ty56, ty21, ne_eq, Nat.succ_ne_zero, not_false_eq_true, Int.natCast_nonneg, Int.toNat_natCast, true_and, elR_getD hlt, pload, okOne, TK.isAgg, beq_self_eq_true, List.length_cons, List.length_nil, Nat.zero_add, Nat.le_refl, and_self, Lift.valOf, List.take_succ_cons, List.take_nil, List.getD_cons_zero, ofConst, ofVal, hw, decide_false, ty5, pconvH, pconv, wrap_byte, Has, hasAll, and_true]
      refine ⟨by rw [elR_len]; exact hlt, ?_⟩
      refine SWO.call (.func 45) _ _ 45 #[] #[] rfl rfl rfl rfl rfl rfl (WriteByte_ok (Heap.put_same _ _ _) ?_) rfl rfl ?_ (by rintro c h' ⟨e1, _⟩; cases e1)
      · simp
        omega
      rintro q h' ⟨e1, rfl⟩
      injection e1 with e1
      subst e1
      refine SWO.run [] 1000 ?_
      simp only [wpS, inQ, thenQ, AS.put, dropKey, Nat.reduceEqDiff, ↓reduceIte, reduceCtorEq]
      refine SW.run [] _ ?_
      simp only [wpC, Bool.false_eq_true, ↓reduceIte, wpS, stops, isFlt, ty3, wantedA, okDst, Nat.reduceLT, decide_true, step1, isOwnCall, hxOp, px, isNilC, pbinP, AS.eval, AS.get, Lift.look, Nat.reduceEqDiff, reduceCtorEq, Option.getD_some, ofConst, ofVal, pbinI, AS.put, dropKey, thenQ, Nat.succ_ne_zero, true_and]
      refine ⟨i + 1, ⟨hlt, ?_⟩, by omega, ?_, by rw [w64 (by omega) (by omega)]; rfl⟩
      · unfold anyWide at hno ⊢
        rw [take_next hlt 0, List.any_append, hno]
        simpa using hw
      · rw [Heap.put_put, take_next hlt 0, List.map_append]
        rfl
  · simp only [wpC, mayStop, stops, isFlt, Specs.has, Specs.hasO, Bool.or_false, Specs.hasH, List.any_cons, List.any_nil, Bool.false_eq_true, ↓reduceIte, wpS, wantedA, okDst, Nat.reduceLT, decide_true, step1, isOwnCall, hxOp, px, isNilC, pbinP, AS.eval, AS.get, Lift.look, reduceCtorEq, Nat.reduceEqDiff, Option.getD_some, pbinI, Int.ofNat_lt, hlt, decide_false, thenQ, isB, AS.put, dropKey, tmpOf, asB, inQ, true_and]
    have hi' : i = ns.length := by omega
    subst hi'
    rw [List.take_length] at hno ⊢
    refine SW.run [] _ ?_
    simp only [wpC, mayStop, stops, isFlt, Specs.has, Specs.hasO, Bool.or_false, Specs.hasH, Bool.not_false, List.any_cons, List.any_nil, Bool.or_true, ↓reduceIte, Bool.false_eq_true, wpS]
    refine SWO.call (.func 36) _ _ 36 #[] #[] rfl rfl rfl rfl rfl rfl (String_ok (Heap.put_same _ _ _) ?_) rfl rfl ?_ (by rintro c h' ⟨e1, _⟩; cases e1)
    · simp
      omega
    rintro q h' ⟨e1, rfl⟩
    injection e1 with e1
    subst e1
    rw [Heap.del_put _ _ _ (by rw [Heap.put_none]; exact ⟨hr.1, hr.2⟩)]
    refine SWO.run [] 1000 ?_
    simp only [wpS, stops, Bool.false_eq_true, ↓reduceIte, wantedA, okDst, AS.put, dropKey, Nat.reduceEqDiff, reduceCtorEq, Nat.reduceLT, decide_true, step1, isOwnCall, hxOp, px, pbuild, ty24, List.map_cons, ofVal, List.map_nil, AS.eval, AS.get, Lift.look, ofConst, Option.getD_some, pfill, placeOf, List.getElem?_cons_zero, ty9, Option.map_some, PV.cells, List.length_cons, List.length_nil, Nat.zero_add, Nat.reduceAdd, Nat.reduceLeDiff, and_self, splice, List.take_zero, List.nil_append, List.drop_succ_cons, List.drop_zero, List.cons_append, List.all_cons, Option.isSome_some, ty4, List.all_nil, Bool.and_true, okZero, Value.oneCell', known, hx, Heap.get_put, known1, Nat.le_refl, List.drop_nil, List.append_nil, thenQ, true_and]
    refine SW.run [] _ ?_
    simp only [wpC, RPost, sres, Tryd.results24, sresL, sres1, AS.get, Lift.look, Nat.reduceEqDiff, ↓reduceIte, reduceCtorEq, Option.getD_some, ty24, Heap.get_put, Nat.zero_add, List.length_cons, List.length_nil, Nat.reduceAdd, Nat.le_refl, okOne, TK.isAgg, Nat.reduceBEq, Bool.or_false, and_self, Lift.valOf, List.drop_zero, List.take_succ_cons, List.take_nil, Option.some.injEq, packL, hno, Bool.false_eq_true, Ret_fin, exists_eq_left', true_and]
    exact HTo.put2 _ _ hr0 hr0
noncomputable def ePack : SpecE env := ⟨24, sPack, fun args h hc => by
  unfold sPack at hc ⊢
  split at hc
  · rename_i xs
    split at hc
    · rename_i ns hns
      rw [unR_spec hns]
      exact .inl (Pack_ok ns h hc)
    · exact hc.elim
  · exact hc.elim⟩
end Go.Proofs.YthlibdhjcjangaaDoor
