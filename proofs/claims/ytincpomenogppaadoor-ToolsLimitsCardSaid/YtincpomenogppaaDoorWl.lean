/- Contracts of functions that the law reaches. -/
import Derived.Test.YtincpomenogppaaDoorWk
set_option linter.unusedSimpArgs false
set_option linter.unusedVariables false
namespace Go.Proofs.YtincpomenogppaaDoor
open Go Go.RowKit Go.Proofs.YtincpomenogppaaDoor Go.Proofs.YtincpomenogppaaDoor.Lift
set_option maxRecDepth 100000

/-! ToolsDiff -/
theorem untilE_small {x y : List (List UInt8)} (hx : x.length ≤ 1000) (hy : y.length ≤ 1000) (i j p q : Nat) : ∀ e ∈ untilE x y i j p q, e.small := by
  unfold untilE
  split
  · intro e he
    rw [List.mem_singleton.1 he]
    constructor
    · show ((x.take p).drop i).length ≤ 1000000
      rw [List.length_drop, List.length_take]; omega
    · show ((y.take q).drop j).length ≤ 1000000
      rw [List.length_drop, List.length_take]; omega
  · intro e he; cases he
theorem diffP_all {x y : List (List UInt8)} (hx : x.length ≤ 1000) (hy : y.length ≤ 1000) : ∀ n p i j, x.length - p ≤ n → (diffP x y p i j).length ≤ n + 1 ∧ ∀ e ∈ diffP x y p i j, e.small
  | 0, p, i, j, h => by
    rw [diffP_end (.inl (by omega))]
    exact ⟨untilE_len _ _ _ _ _ _, untilE_small hx hy _ _ _ _⟩
  | n + 1, p, i, j, h => by
    rw [diffP]
    split
    · split
      · exact ⟨Nat.le_trans (untilE_len _ _ _ _ _ _) (by omega), untilE_small hx hy _ _ _ _⟩
      · split
        · have := diffP_all hx hy n (p + 1) i j (by omega)
          exact ⟨by omega, this.2⟩
        · have h1 := diffP_all hx hy n (p + 1) (p + 1) (j + (idxL (y.drop j) x[p]).toNat + 1) (by omega)
          have h2 := untilE_len x y i j p (j + (idxL (y.drop j) x[p]).toNat)
          refine ⟨by rw [List.length_append]; omega, fun e he => ?_⟩
          rcases List.mem_append.1 he with he | he
          · exact untilE_small hx hy _ _ _ _ e he
          · exact h1.2 e he
    · exact ⟨Nat.le_trans (untilE_len _ _ _ _ _ _) (by omega), untilE_small hx hy _ _ _ _⟩
def sAwake : List PV → Prop × PV
  | [] => (True, .bool true)
  | _ => PBad
noncomputable def eAwake : SpecE env := ⟨7, sAwake, fun args h hc => by
  unfold sAwake at hc ⊢
  split at hc
  · exact .inl (Awake_ok h)
  · exact hc.elim⟩
set_option maxHeartbeats 4000000 in
theorem ToolsDiff_ok (a b : List UInt8) (h : Heap) : SCalls env 3 [.str a, .str b] h (Ret (.bool true) h) := by
  refine SCalls.body Tryd.func3 rfl rfl (by simp [Tryd.ntmps3]) ?_
  refine SW.seq (SW.run [] _ ?_)
  simp only [wpC, Bool.false_eq_true, ↓reduceIte, wpS, stops, wantedA, okDst, Tryd.ntmps3, Nat.reduceLT, decide_true, step1, isOwnCall, hxOp, px, AS.eval, ofConst, ofVal, thenQ, AS.put, enumA, Nat.zero_add, dropKey, reduceCtorEq, Nat.reduceEqDiff, true_and]
  refine SW.seq (SW.run [eAwake] _ ?_)
  simp only [wpC, mayStop, stops, isFlt, Specs.has, eAwake, Specs.hasO, Bool.or_false, Specs.hasH, List.any_cons, ↓reduceIte, Bool.not_true, List.any_nil, Bool.false_eq_true, wpS, wantedA, okDst, Nat.reduceLT, decide_true, step1, isOwnCall, hxOp, px, pcall, okArg, AS.eval, AS.get, Lift.look, ofConst, ofVal, List.all_nil, Specs.at, List.map_nil, sAwake, and_self, AS.put, dropKey, Nat.reduceEqDiff, reduceCtorEq, pun, Option.getD_some, thenQ, isB, tmpOf, asB, true_and]
  have hu : unS [[.str a], [.str b]] = some [a, b] := rfl
  have h2 : ([a, b] : List (List UInt8)).length ≤ 1000000000 := by show 2 ≤ _; omega
  refine SW.seq (SW.run [eSmall] _ ?_)
  cases hsm : smallS [a, b]
  · simp only [wpC, mayStop, stops, isFlt, Specs.has, eSmall, Specs.hasO, Bool.or_false, Specs.hasH, List.any_cons, ↓reduceIte, Bool.not_true, List.any_nil, Bool.false_eq_true, wpS, wantedA, okDst, Nat.reduceLT, decide_true, step1, isOwnCall, hxOp, px, AS.eval, AS.get, Lift.look, Nat.succ_ne_zero, Option.getD_some, AS.put, dropKey, Nat.reduceEqDiff, reduceCtorEq, pbuildSlice, ty34, ty9, List.replicate, List.map_cons, ofVal, List.map_nil, List.flatten_cons, List.flatten_nil, List.append_nil, List.cons_append, List.nil_append, ofConst, pfill, PV.cells, List.length_cons, List.length_nil, Nat.zero_add, Nat.reduceMul, Nat.reduceAdd, Nat.reduceLeDiff, and_self, splice, List.take_zero, List.drop_succ_cons, List.drop_zero, Nat.le_refl, List.take_succ_cons, List.drop_nil, okZero, List.all_cons, Value.oneCell', List.all_nil, Bool.and_true, known, chunk, List.take_nil, pcall, okArg, Specs.at, sSmall, hu, hsm, pun, Bool.not_false, thenQ, isB, tmpOf, asB, RPost, sres, Tryd.results3, sresL, sres1, Option.some.injEq, Ret_fin, HTo_self, and_true, exists_eq_left']
  simp only [wpC, mayStop, stops, isFlt, Specs.has, eSmall, Specs.hasO, Bool.or_false, Specs.hasH, List.any_cons, ↓reduceIte, Bool.not_true, List.any_nil, Bool.false_eq_true, wpS, wantedA, okDst, Nat.reduceLT, decide_true, step1, isOwnCall, hxOp, px, AS.eval, AS.get, Lift.look, Nat.succ_ne_zero, Option.getD_some, AS.put, dropKey, Nat.reduceEqDiff, reduceCtorEq, pbuildSlice, ty34, ty9, List.replicate, List.map_cons, ofVal, List.map_nil, List.flatten_cons, List.flatten_nil, List.append_nil, List.cons_append, List.nil_append, ofConst, pfill, PV.cells, List.length_cons, List.length_nil, Nat.zero_add, Nat.reduceMul, Nat.reduceAdd, Nat.reduceLeDiff, and_self, splice, List.take_zero, List.drop_succ_cons, List.drop_zero, Nat.le_refl, List.take_succ_cons, List.drop_nil, okZero, List.all_cons, Value.oneCell', List.all_nil, Bool.and_true, known, chunk, List.take_nil, pcall, okArg, Specs.at, sSmall, hu, hsm, pun, thenQ, isB, tmpOf, asB, true_and]
  obtain ⟨ha3, hb3⟩ : a.length ≤ 300 ∧ b.length ≤ 300 := by
    unfold smallS at hsm
    simpa using hsm
  have ha6 : a.length ≤ 1000000 := by omega
  have hb6 : b.length ≤ 1000000 := by omega
  have hla := linesOf_len a
  have hlb := linesOf_len b
  have hla9 : (linesOf a).length ≤ 1000000000 := by omega
  have hdr : diffR a b = .tuple [.list 4 (edL (diffS (linesOf a) (linesOf b))), .int .i64 0] := by
    unfold diffR; rw [if_neg (by omega)]
  have hall := diffP_all (x := linesOf a) (y := linesOf b) (by omega) (by omega) 1000 0 0 0 (by omega)
  have hel : (diffS (linesOf a) (linesOf b)).length ≤ 1000000 := by unfold diffS; omega
  have hes : ∀ e ∈ diffS (linesOf a) (linesOf b), e.small := by unfold diffS; exact hall.2
  clear hall
  generalize diffS (linesOf a) (linesOf b) = es at hdr hel hes ⊢
  have heq : eqEds es es = true := by unfold eqEds; simp
  refine SW.seq (SW.run [eDiff] _ ?_)
  simp only [wpC, Bool.false_eq_true, ↓reduceIte, wpS, stops, wantedA, okDst, Nat.reduceLT, decide_true, step1, isOwnCall, hxOp, px, AS.eval, AS.get, Lift.look, Nat.succ_ne_zero, Option.getD_some, AS.put, dropKey, Nat.reduceEqDiff, reduceCtorEq, Specs.has, eDiff, Specs.hasO, Bool.or_false, Specs.hasH, Bool.not_true, pcall, okArg, ofConst, ofVal, List.all_cons, List.all_nil, Bool.and_true, Specs.at, List.map_cons, List.map_nil, sDiff, ha6, hb6, and_self, hdr, List.getElem?_cons_zero, List.getElem?_cons_succ, thenQ, true_and]
  refine SW.seq (SW.run [eRDiff] _ ?_)
  simp only [wpC, Bool.false_eq_true, ↓reduceIte, wpS, stops, wantedA, okDst, Nat.reduceLT, decide_true, step1, isOwnCall, hxOp, px, AS.eval, AS.get, Lift.look, Nat.succ_ne_zero, Option.getD_some, AS.put, dropKey, Nat.reduceEqDiff, reduceCtorEq, Specs.has, eRDiff, Specs.hasO, Bool.or_false, Specs.hasH, Bool.not_true, pcall, okArg, ofConst, ofVal, List.all_cons, List.all_nil, Bool.and_true, Specs.at, List.map_cons, List.map_nil, sDiff, ha6, hb6, and_self, hdr, List.getElem?_cons_zero, List.getElem?_cons_succ, thenQ, true_and]
  refine SW.seq (SW.region (SWO.run [eEdits es, eEqualEd es es, eLines, eRLines, eEqualL] 18 ?_))
  simp only [wpS, stops, Bool.false_eq_true, ↓reduceIte, wantedA, okDst, Nat.reduceLT, decide_true, step1, isOwnCall, hxOp, px, AS.eval, AS.get, Lift.look, Nat.reduceEqDiff, Option.getD_some, AS.put, dropKey, reduceCtorEq, isNilC, pbinP, pbinI, beq_self_eq_true, List.getElem?_toArray, List.getElem?_cons_succ, List.getElem?_cons_zero, Option.bind_some, Specs.has, eEdits, Specs.hasO, Bool.or_false, Specs.hasH, Bool.not_true, pcall, okArg, ofConst, ofVal, List.all_cons, List.all_nil, Bool.and_true, Specs.at, List.map_cons, List.map_nil, sEdits, hel, and_true, true_and, eEqualEd, sEqualEd, heq, ppick_bool, Nat.succ_ne_zero, eLines, sLines, ha6, and_self, eRLines, eEqualL, sEqualL, unS_el, hla9]
  refine ⟨hes, hes, ?_⟩
  refine SWO.call (.func 14) #[.tmp 45] _ 14 #[] #[] rfl rfl rfl rfl rfl rfl (LinesO_ok b hb6 h) rfl rfl ?_ (fun c h' hc => by obtain ⟨_, hc, _⟩ := hc; cases hc)
  rintro v h1 ⟨u, e1, ow⟩
  injection e1 with e1
  subst e1
  have hfl := linesOf_flat b
  have hj := JoinO_ok ow (by rw [hfl]; omega) (by omega)
  rw [hfl] at hj
  have hto : HTo env h1 h := HTo.own ow
  obtain ⟨A, N, rfl⟩ := ow.slice
  refine SWO.call (.func 16) #[.tmp 46, .const (.string ⟨#[]⟩)] _ 16 #[] #[] rfl rfl rfl rfl rfl rfl hj rfl rfl ?_ (fun c h' hc => by cases hc.1)
  rintro p' h' ⟨hp', rfl⟩
  injection hp' with hp'
  subst hp'
  refine SWO.run [] 1000 ?_
  simp only [wpS, stops, Bool.false_eq_true, ↓reduceIte, wantedA, List.getElem?_toArray, List.getElem?_cons_succ, List.getElem?_cons_zero, Option.bind_some, AS.get, AS.put, dropKey, Nat.reduceEqDiff, reduceCtorEq, Lift.look, Option.getD_some, beq_self_eq_true, okDst, Nat.reduceLT, decide_true, step1, isOwnCall, hxOp, px, AS.eval, isNilC, pbinP, pbinS, ofConst, ofVal, ppick_bool, thenQ, true_and]
  refine SW.run [] _ ?_
  simp only [wpC, RPost, sres, Tryd.results3, sresL, sres1, AS.get, Lift.look, ↓reduceIte, Option.getD_some, Option.some.injEq, Ret_fin, exists_eq_left', true_and]
  exact hto
end Go.Proofs.YtincpomenogppaaDoor
