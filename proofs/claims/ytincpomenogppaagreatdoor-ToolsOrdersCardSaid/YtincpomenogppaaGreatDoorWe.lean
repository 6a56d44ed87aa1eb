/- Contracts of functions that the law reaches. -/
import Derived.Test.YtincpomenogppaaGreatDoorWd
set_option linter.unusedSimpArgs false
set_option linter.unusedVariables false
namespace Go.Proofs.YtincpomenogppaaGreatDoor
open Go Go.RowKit Go.Proofs.YtincpomenogppaaGreatDoor Go.Proofs.YtincpomenogppaaGreatDoor.Lift
set_option maxRecDepth 100000

def sWS (args : List PV) (h : Heap) : Prop × PV × Heap :=
  match args with
  | [.val (.pointer (some ⟨r, 0, none⟩)), .str l] => match h r with
    | some (.bld T e bs) => (T = 83 ∧ e = 5 ∧ bs.length + l.length ≤ 140737488355328, .tuple [.int .i64 l.length, .val .nilIface], h.put r (.bld 83 5 (bs ++ l)))
    | _ => HBad h
  | _ => HBad h
noncomputable def eWS : SpecH env := ⟨53, sWS, fun args h hc => by
  unfold sWS at hc ⊢
  split at hc
  · rename_i r l
    split at hc
    · rename_i T e bs hr
      obtain ⟨rfl, rfl, h1⟩ := hc
      simp only [hr]
      exact WriteString_ok hr h1
    · exact hc.elim
  · exact hc.elim⟩
def sBS (args : List PV) (h : Heap) : Prop × PV × Heap :=
  match args with
  | [.val (.pointer (some ⟨r, 0, none⟩))] => match h r with
    | some (.bld T e bs) => (T = 83 ∧ e = 5 ∧ bs.length ≤ 140737488355328, .str bs, h.del r)
    | _ => HBad h
  | _ => HBad h
noncomputable def eBS : SpecH env := ⟨58, sBS, fun args h hc => by
  unfold sBS at hc ⊢
  split at hc
  · rename_i r
    split at hc
    · rename_i T e bs hr
      obtain ⟨rfl, rfl, h1⟩ := hc
      simp only [hr]
      exact String_ok hr h1
    · exact hc.elim
  · exact hc.elim⟩
def sWB (args : List PV) (h : Heap) : Prop × PV × Heap :=
  match args with
  | [.val (.pointer (some ⟨r, 0, none⟩)), .int .u8 b] => match h r with
    | some (.bld T e bs) => (T = 83 ∧ e = 5 ∧ bs.length + 1 ≤ 140737488355328 ∧ b = ((UInt8.ofNat b.toNat).toNat : Nat), .val .nilIface, h.put r (.bld 83 5 (bs ++ [UInt8.ofNat b.toNat])))
    | _ => HBad h
  | _ => HBad h
noncomputable def eWB : SpecH env := ⟨74, sWB, fun args h hc => by
  unfold sWB at hc ⊢
  split at hc
  · rename_i r b
    split at hc
    · rename_i T e bs hr
      obtain ⟨rfl, rfl, h1, h2⟩ := hc
      simp only [hr]
      have := WriteByte_ok (b := UInt8.ofNat b.toNat) hr h1
      rw [← h2] at this
      exact this
    · exact hc.elim
  · exact hc.elim⟩
theorem Inc.gone {h0 h1 : Heap} (i : Lift.Inc h0 h1) {q : Nat} (hq : h0 q = none) : Lift.Inc h0 (h1.del q) := fun k X e => by
  by_cases hk : k = q
  · subst hk; rw [hq] at e; cases e
  · rw [Heap.del_ne _ hk]; exact i k X e
def negB (e : Ed) : Bool := decide (e.a < 0) || decide (e.b < 0)
set_option maxHeartbeats 2000000 in
theorem ShowNeg_ok (x : Ed) (h : Heap) : SCalls env 52 [.agg (edV x)] h (Ret (.bool (negB x)) h) := by
  refine SCalls.body Tryz.func52 rfl rfl (by simp [Tryz.ntmps52]) ?_
  refine SW.seq (SW.run [] _ ?_)
  simp only [wpC, Bool.false_eq_true, ↓reduceIte, wpS, stops, wantedA, okDst, Tryz.ntmps52, Nat.reduceLT, decide_true, step1, known1, AS.eval, AS.get, enumA, edV, Lift.look, Option.getD_some, AS.put, dropKey, reduceCtorEq, isOwnCall, hxOp, px, ofConst, ofVal, thenQ, Nat.reduceEqDiff, PV.cells, List.length_cons, List.length_nil, Nat.zero_add, Nat.reduceAdd, true_and]
  intro a hna
  have i2 : Lift.Inc h (h.put a (.cells 79 4 [.int .i64 x.a, .int .i64 x.b, .list 1 (strL x.del), .list 1 (strL x.ins)])) := Inc.over (incSelf h) hna _
  refine SW.run [] _ ?_
  by_cases e1 : x.a < 0
  · simp only [wpC, mayStop, stops, isFlt, Specs.has, Specs.hasO, Bool.or_false, Specs.hasH, Bool.not_false, List.any_cons, List.any_nil, Bool.false_eq_true, ↓reduceIte, wpS, wantedA, okDst, Nat.reduceLT, decide_true, step1, isOwnCall, hxOp, px, pfieldAddr, fieldOf, ty79, fieldIn, List.getElem?_cons_zero, ty3, Option.map_some, AS.eval, AS.get, Lift.look, Nat.reduceEqDiff, Option.getD_some, ne_eq, Nat.succ_ne_zero, not_false_eq_true, Nat.add_zero, AS.put, dropKey, reduceCtorEq, pload, Heap.get_put, okOne, TK.isAgg, beq_self_eq_true, Bool.or_true, Nat.zero_add, List.length_cons, List.length_nil, Nat.reduceAdd, Nat.reduceLeDiff, and_self, Lift.valOf, List.drop_zero, List.take_succ_cons, List.take_zero, List.getD_cons_zero, isNilC, pbinP, ofConst, ofVal, pbinI, e1, List.getElem?_toArray, List.getElem?_cons_succ, Option.bind_some, beq_tf, Option.some.injEq, ppick_true, thenQ, RPost, sres, Tryz.results52, sresL, sres1, negB, Bool.true_or, Ret_fin, exists_eq_left', true_and]
    exact Inc.to i2
  · simp only [wpC, mayStop, stops, isFlt, Specs.has, Specs.hasO, Bool.or_false, Specs.hasH, Bool.not_false, List.any_cons, List.any_nil, Bool.false_eq_true, ↓reduceIte, wpS, wantedA, okDst, Nat.reduceLT, decide_true, step1, isOwnCall, hxOp, px, pfieldAddr, fieldOf, ty79, fieldIn, List.getElem?_cons_zero, ty3, Option.map_some, AS.eval, AS.get, Lift.look, Nat.reduceEqDiff, Option.getD_some, ne_eq, Nat.succ_ne_zero, not_false_eq_true, Nat.add_zero, AS.put, dropKey, reduceCtorEq, pload, Heap.get_put, okOne, TK.isAgg, beq_self_eq_true, Bool.or_true, Nat.zero_add, List.length_cons, List.length_nil, Nat.reduceAdd, Nat.reduceLeDiff, and_self, Lift.valOf, List.drop_zero, List.take_succ_cons, List.take_zero, List.getD_cons_zero, isNilC, pbinP, ofConst, ofVal, pbinI, e1, decide_false, List.getElem?_toArray, List.getElem?_cons_succ, Option.bind_some, List.drop_succ_cons, ppick_bool, thenQ, RPost, sres, Tryz.results52, sresL, sres1, Option.some.injEq, negB, Bool.false_or, Ret_fin, exists_eq_left', true_and]
    exact Inc.to i2
def negS (es : List Ed) : Bool := es.any negB
set_option maxHeartbeats 4000000 in
theorem AnyNeg_ok (es : List Ed) (hl : es.length ≤ 1000000) (h : Heap) : ∃ z : Int, (negS es = decide (0 ≤ z)) ∧ SCalls env 103 [.list 4 (edL es), .val (.func (.func 52) #[] #[])] h (Ret (.int .i64 z) h) := by
  have key : ∀ z : Int, z = (if negS es then ((es.findIdx negB : Nat) : Int) else -1) → SCalls env 103 [.list 4 (edL es), .val (.func (.func 52) #[] #[])] h (Ret (.int .i64 z) h) := by
    intro z hz
    refine SCalls.body Tryz.func103 rfl rfl (by simp [Tryz.ntmps103]) ?_
    refine SW.seq (SW.run [] _ ?_)
    simp only [wpC, Bool.false_eq_true, ↓reduceIte, wpS, stops, wantedA, okDst, Tryz.ntmps103, Nat.reduceLT, decide_true, step1, isOwnCall, hxOp, px, AS.eval, ofConst, ofVal, thenQ, AS.put, enumA, Nat.zero_add, dropKey, reduceCtorEq, Nat.reduceEqDiff, true_and]
    refine SW.seq (SW.seq (SW.run [] _ ?_))
    simp only [wpC, Bool.false_eq_true, ↓reduceIte, wpS, stops, wantedA, okDst, Nat.reduceLT, decide_true, step1, isOwnCall, hxOp, px, AS.eval, AS.get, Lift.look, Nat.succ_ne_zero, Option.getD_some, AS.put, dropKey, Nat.reduceEqDiff, reduceCtorEq, pcall, ty28, plen, edL_len, okLen, and_self, ofConst, ofVal, thenQ, true_and]
    refine SW.block (SW.loop (fun bb st => ∃ i : Nat, i ≤ es.length ∧ es.length - i = bb ∧ (es.take i).any negB = false ∧ Lift.Inc h st.h ∧ st.n = 19 ∧ hasAll st [(0, .list 4 (edL es)), (1, .val (.func (.func 52) #[] #[])), (6, .list 4 (edL es)), (7, .int .i64 (es.length : Nat)), (8, .int .i64 (i : Nat))]) es.length ⟨0, Nat.zero_le _, rfl, rfl, incSelf h, rfl, ?_⟩ ?_)
    · simp only [hasAll, AS.get, Lift.look, Nat.succ_ne_zero, ↓reduceIte, Option.getD_some, Nat.reduceEqDiff, reduceCtorEq, Int.cast_ofNat_Int, and_self]
    rintro bb st ⟨i, hi, hbb, htk, inc, hn, hs'⟩
    refine SW.norm ⟨hn, rfl, hs'⟩ ?_
    generalize st.h = H at inc
    clear hn hs'
    refine SW.seq (SW.run [] _ ?_)
    by_cases hlt : i < es.length
    · have hw : IntKind.i64.wrap ((i : Int) + 1) = ((i + 1 : Nat) : Int) := by rw [w64 (by omega) (by omega)]; rfl
      have hg := edL_at hlt
      simp only [wpC, Bool.false_eq_true, ↓reduceIte, wpS, stops, wantedA, okDst, Nat.reduceLT, decide_true, step1, isOwnCall, hxOp, px, isNilC, pbinP, AS.eval, AS.get, Lift.look, reduceCtorEq, Nat.reduceEqDiff, Option.getD_some, pbinI, Int.ofNat_lt, hlt, thenQ, hasAll, and_true, AS.put, dropKey, true_and]
      refine SW.seq (SW.run [] _ ?_)
      simp only [wpC, isB, AS.get, Lift.look, tmpOf, ↓reduceIte, Option.getD_some, asB, thenQ, true_and]
      refine SW.seq (SW.block (SW.seq (SW.run [] _ ?_)))
      simp only [wpC, Bool.false_eq_true, ↓reduceIte, wpS, stops, wantedA, okDst, Nat.reduceLT, decide_true, step1, isOwnCall, hxOp, px, AS.eval, AS.get, Lift.look, Nat.reduceEqDiff, reduceCtorEq, Option.getD_some, AS.put, dropKey, thenQ, true_and]
      refine SW.seq (SW.run [] _ ?_)
      simp only [wpC, Bool.false_eq_true, ↓reduceIte, wpS, stops, wantedA, okDst, Nat.reduceLT, decide_true, step1, isOwnCall, hxOp, px, AS.eval, AS.get, Lift.look, Nat.reduceEqDiff, reduceCtorEq, Option.getD_some, AS.put, dropKey, Nat.succ_ne_zero, pindexAddr, ty28, ty79, ne_eq, not_false_eq_true, Int.natCast_nonneg, Int.toNat_natCast, edL_len, hlt, and_self, hg, edV, pload, okOne, TK.isAgg, Nat.reduceBEq, Bool.or_false, List.length_cons, List.length_nil, Nat.zero_add, Nat.reduceAdd, Nat.le_refl, Lift.valOf, List.take_succ_cons, List.take_nil, true_and]
      refine SWO.call (.tmp 11) #[.tmp 15] _ 52 #[] #[] rfl rfl rfl rfl rfl rfl (ShowNeg_ok es[i] H) rfl rfl ?_ (fun c h' hc => by cases hc.1)
      rintro p' h' ⟨hp', rfl⟩
      injection hp' with hp'
      subst hp'
      refine SWO.run [] 1000 ?_
      cases heq : negB es[i]
      · simp only [wpS, thenQ, AS.put, dropKey, Nat.reduceEqDiff, ↓reduceIte, reduceCtorEq]
        refine SW.run [] _ ?_
        simp only [wpC, isB, AS.get, Lift.look, tmpOf, ↓reduceIte, Option.getD_some, asB, Bool.false_eq_true, inQ, thenQ, true_and]
        refine SW.run [] _ ?_
        simp only [wpC, Bool.false_eq_true, ↓reduceIte, wpS, stops, isFlt, ty3, wantedA, okDst, Nat.reduceLT, decide_true, step1, isOwnCall, hxOp, px, isNilC, pbinP, AS.eval, AS.get, Lift.look, Nat.reduceEqDiff, reduceCtorEq, Option.getD_some, ofConst, ofVal, pbinI, hw, AS.put, dropKey, thenQ, Nat.succ_ne_zero, true_and]
        exact ⟨es.length - (i + 1), by omega, i + 1, by omega, rfl, by rw [List.take_succ_eq_append_getElem hlt, List.any_append, htk]; simp [heq], inc, rfl⟩
      · have h1 : negS es = true := by unfold negS; rw [List.any_eq_true]; exact ⟨_, List.getElem_mem hlt, heq⟩
        have h2 : es.findIdx negB = i := by
          rw [List.findIdx_eq hlt]
          refine ⟨heq, fun j hj => ?_⟩
          rw [List.any_eq_false] at htk
          have hj2 : j < (es.take i).length := by rw [List.length_take]; omega
          have := htk _ (List.getElem_mem hj2)
          rw [List.getElem_take] at this
          simpa using this
        rw [h1, if_pos rfl, h2] at hz
        simp only [wpS, thenQ, AS.put, dropKey, Nat.reduceEqDiff, ↓reduceIte, reduceCtorEq]
        refine SW.run [] _ ?_
        simp only [wpC, isB, AS.get, Lift.look, tmpOf, ↓reduceIte, Option.getD_some, asB, mayStop, stops, isFlt, Specs.has, Specs.hasO, Bool.or_false, Specs.hasH, Bool.not_false, List.any_cons, List.any_nil, Bool.false_eq_true, wpS, wantedA, okDst, Nat.reduceLT, decide_true, step1, isOwnCall, hxOp, px, AS.eval, Nat.reduceEqDiff, AS.put, dropKey, reduceCtorEq, thenQ, inQ, RPost, sres, Tryz.results103, sresL, sres1, Option.some.injEq, hz, Ret_fin, exists_eq_left', true_and]
        exact Inc.to inc
    · have h1 : negS es = false := by
        rw [List.take_of_length_le (by omega)] at htk
        exact htk
      rw [h1] at hz
      have hz : z = -1 := hz
      simp only [wpC, Bool.false_eq_true, ↓reduceIte, wpS, stops, wantedA, okDst, Nat.reduceLT, decide_true, step1, isOwnCall, hxOp, px, isNilC, pbinP, AS.eval, AS.get, Lift.look, reduceCtorEq, Nat.reduceEqDiff, Option.getD_some, pbinI, Int.ofNat_lt, hlt, decide_false, thenQ, hasAll, and_true, AS.put, dropKey, true_and]
      refine SW.seq (SW.run [] _ ?_)
      simp only [wpC, isB, AS.get, Lift.look, tmpOf, ↓reduceIte, Option.getD_some, asB, Bool.false_eq_true, thenQ, inQ, true_and]
      refine SW.run [] _ ?_
      simp only [wpC, mayStop, stops, isFlt, Specs.has, Specs.hasO, Bool.or_false, Specs.hasH, Bool.not_false, List.any_cons, List.any_nil, Bool.false_eq_true, ↓reduceIte, wpS, wantedA, okDst, Nat.reduceLT, decide_true, step1, isOwnCall, hxOp, px, AS.eval, ofConst, ofVal, thenQ, RPost, sres, AS.put, dropKey, Nat.reduceEqDiff, reduceCtorEq, Tryz.results103, sresL, sres1, AS.get, Lift.look, Option.getD_some, Option.some.injEq, hz, Ret_fin, exists_eq_left', true_and]
      exact Inc.to inc
  refine ⟨_, ?_, key _ rfl⟩
  cases negS es
  · rfl
  · symm; rw [decide_eq_true_iff]; exact Int.natCast_nonneg _
set_option maxHeartbeats 2000000 in
theorem ContNeg_ok (es : List Ed) (hl : es.length ≤ 1000000) (h : Heap) : SCalls env 51 [.list 4 (edL es), .val (.func (.func 52) #[] #[])] h (Ret (.bool (negS es)) h) := by
  refine SCalls.body Tryz.func51 rfl rfl (by simp [Tryz.ntmps51]) ?_
  obtain ⟨z, hz, hc⟩ := AnyNeg_ok es hl h
  refine SW.seq (SW.run [] _ ?_)
  simp only [wpC, Bool.false_eq_true, ↓reduceIte, wpS, stops, wantedA, okDst, Tryz.ntmps51, Nat.reduceLT, decide_true, step1, isOwnCall, hxOp, px, AS.eval, ofConst, ofVal, thenQ, AS.put, enumA, Nat.zero_add, dropKey, reduceCtorEq, Nat.reduceEqDiff, true_and]
  refine SW.run [] _ ?_
  simp only [wpC, mayStop, stops, isFlt, Specs.has, Specs.hasO, Bool.or_false, Specs.hasH, Bool.not_false, List.any_cons, List.any_nil, Bool.or_true, ↓reduceIte, Bool.false_eq_true, wpS, wantedA, okDst, Nat.reduceLT, decide_true, step1, isOwnCall, hxOp, px, AS.eval, AS.get, Lift.look, Nat.succ_ne_zero, Option.getD_some, AS.put, dropKey, Nat.reduceEqDiff, reduceCtorEq, true_and]
  refine SWO.call (.func 103) #[.tmp 5, .tmp 6] _ 103 #[] #[] rfl rfl rfl rfl rfl rfl hc rfl rfl ?_ (fun c h' hc => by cases hc.1)
  rintro p' h' ⟨hp', rfl⟩
  injection hp' with hp'
  subst hp'
  refine SWO.run [] 1000 ?_
  simp only [wpS, stops, Bool.false_eq_true, ↓reduceIte, wantedA, okDst, AS.put, dropKey, Nat.reduceEqDiff, reduceCtorEq, Nat.reduceLT, decide_true, step1, isOwnCall, hxOp, px, isNilC, pbinP, AS.eval, AS.get, Lift.look, Option.getD_some, ofConst, ofVal, pbinI, thenQ, true_and]
  refine SW.run [] _ ?_
  simp only [wpC, RPost, sres, Tryz.results51, sresL, sres1, AS.get, Lift.look, ↓reduceIte, Option.getD_some, Option.some.injEq, hz, Ret_fin, HTo_self, and_true, exists_eq_left']
def sContNeg : List PV → Prop × PV
  | [.list 4 xs, .val (.func (.func g) a b)] => match unE xs with
    | some es => (g = 52 ∧ a = #[] ∧ b = #[] ∧ es.length ≤ 1000000, .bool (negS es))
    | none => PBad
  | _ => PBad
noncomputable def eContNeg : SpecE env := ⟨51, sContNeg, fun args h hc => by
  unfold sContNeg at hc ⊢
  split at hc
  · split at hc
    · rename_i es hes
      obtain ⟨rfl, rfl, rfl, h1⟩ := hc
      rw [unE_spec hes]; exact .inl (ContNeg_ok es h1 h)
    · exact hc.elim
  · exact hc.elim⟩
end Go.Proofs.YtincpomenogppaaGreatDoor
