/- Contracts of functions that the law reaches. -/
import Derived.Test.YtincpomenogppaaDoorWr
set_option linter.unusedSimpArgs false
set_option linter.unusedVariables false
namespace Go.Proofs.YtincpomenogppaaDoor
open Go Go.RowKit Go.Proofs.YtincpomenogppaaDoor Go.Proofs.YtincpomenogppaaDoor.Lift
set_option maxRecDepth 100000

/-! ToolsApplies -/
def Ed.within (x y : List (List UInt8)) (e : Ed) : Prop := (∀ l ∈ e.del, l ∈ x) ∧ ∀ l ∈ e.ins, l ∈ y
theorem until_in (x y : List (List UInt8)) (i j p q : Nat) : ∀ e ∈ untilE x y i j p q, e.within x y := by
  unfold untilE
  split
  · intro e he
    rw [List.mem_singleton.1 he]
    exact ⟨fun l hl => List.mem_of_mem_take (List.mem_of_mem_drop hl), fun l hl => List.mem_of_mem_take (List.mem_of_mem_drop hl)⟩
  · intro e he; cases he
theorem diffP_in {x y : List (List UInt8)} : ∀ n p i j, x.length - p ≤ n → ∀ e ∈ diffP x y p i j, e.within x y
  | 0, p, i, j, h => by
    rw [diffP_end (.inl (by omega))]
    exact until_in _ _ _ _ _ _
  | n + 1, p, i, j, h => by
    rw [diffP]
    split
    · split
      · exact until_in _ _ _ _ _ _
      · split
        · exact diffP_in n (p + 1) i j (by omega)
        · intro e he
          rcases List.mem_append.1 he with he | he
          · exact until_in _ _ _ _ _ _ e he
          · exact diffP_in n (p + 1) _ _ (by omega) e he
    · exact until_in _ _ _ _ _ _
theorem costS_ins : ∀ es : List Ed, insN es ≤ costS es ∧ insN (es.map revE) ≤ costS es
  | [] => ⟨Nat.le_refl _, Nat.le_refl _⟩
  | e :: es => by
    obtain ⟨h1, h2⟩ := costS_ins es
    have e1 : insN (e :: es) = e.ins.length + insN es := rfl
    have e2 : costS (e :: es) = (e.del.length + e.ins.length) + costS es := rfl
    have e3 : insN ((e :: es).map revE) = e.del.length + insN (es.map revE) := rfl
    omega
theorem costS_next {es : List Ed} {i : Nat} (h : i < es.length) : costS (es.take (i + 1)) = costS (es.take i) + (es[i].del.length + es[i].ins.length) := by
  rw [List.take_succ_eq_append_getElem h, costS_append]
  rfl
theorem costS_pre (es : List Ed) (i : Nat) : costS (es.take i) ≤ costS es := by
  have := costS_append (es.take i) (es.drop i)
  rw [List.take_append_drop] at this
  omega
theorem rev_rev (es : List Ed) : (es.map revE).map revE = es := by
  rw [List.map_map, show (revE ∘ revE) = id from rfl, List.map_id]
def sRev : List PV → Prop × PV
  | [.list 4 xs] => match unE xs with
    | some es => ((∀ e ∈ es, e.small) ∧ es.length ≤ 1000000, .list 4 (edL (es.map revE)))
    | none => PBad
  | _ => PBad
noncomputable def eRev : SpecE env := ⟨20, sRev, fun args h hc => by
  unfold sRev at hc ⊢
  split at hc
  · split at hc
    · rename_i es hes; rw [unE_spec hes]; exact .inl (Reverse_ok es hc.1 hc.2 h)
    · exact hc.elim
  · exact hc.elim⟩
def costV (x y : List UInt8) : Nat := costS (diffS (linesOf x) (linesOf y))
set_option maxHeartbeats 4000000 in
theorem Cost_ok (x y : List UInt8) (hx : x.length ≤ 300) (hy : y.length ≤ 300) (h : Heap) : SCalls env 21 [.str x, .str y] h (Ret (.int .i64 (costV x y : Nat)) h) := by
  refine SCalls.body Tryd.func21 rfl rfl (by simp [Tryd.ntmps21]) ?_
  have hx6 : x.length ≤ 1000000 := by omega
  have hy6 : y.length ≤ 1000000 := by omega
  have hlx := linesOf_len x
  have hly := linesOf_len y
  have hdr : diffR x y = .tuple [.list 4 (edL (diffS (linesOf x) (linesOf y))), .int .i64 0] := by
    unfold diffR; rw [if_neg (by omega)]
  have hall := diffP_all (x := linesOf x) (y := linesOf y) (by omega) (by omega) 1000 0 0 0 (by omega)
  have hel : (diffS (linesOf x) (linesOf y)).length ≤ 1000000 := by unfold diffS; omega
  have hes : ∀ e ∈ diffS (linesOf x) (linesOf y), e.small := by unfold diffS; exact hall.2
  have hin : ∀ e ∈ diffS (linesOf x) (linesOf y), e.within (linesOf x) (linesOf y) := by unfold diffS; exact diffP_in 1000 0 0 0 (by omega)
  have hp1 := diff_patch (linesOf x) (linesOf y) (Lined.of y)
  obtain ⟨_, _, hp2⟩ := patch_back (Lined.of x) _ 0 [] (Nat.zero_le _) rfl hp1
  have hcs := cost_diff (linesOf x) (linesOf y)
  unfold costV
  clear hall
  generalize diffS (linesOf x) (linesOf y) = es at hdr hel hes hin hp1 hp2 hcs ⊢
  have hp2 : patchE (linesOf y) 0 [] (es.map revE) = (0, linesOf x) := hp2
  obtain ⟨hin1, hin2⟩ := costS_ins es
  have hc6 : costS es ≤ 600 := by omega
  have hi1 : insN es ≤ 1000000 := by omega
  have hi2 : insN (es.map revE) ≤ 1000000 := by omega
  have hpr1 : patchR x es = .tuple [.str y, .int .i64 0] := by unfold patchR; rw [hp1, if_pos rfl, linesOf_flat]
  have hpr2 : patchR y (es.map revE) = .tuple [.str x, .int .i64 0] := by unfold patchR; rw [hp2, if_pos rfl, linesOf_flat]
  have hs1 : ∀ e ∈ es, e.small ∧ ∀ l ∈ e.ins, l.length ≤ 1000000000 := fun e he => ⟨hes e he, fun l hl => by have := linesOf_short ((hin e he).2 l hl); omega⟩
  have hs2r : ∀ e ∈ es.map revE, e.small := fun e he => by
    obtain ⟨e', he', rfl⟩ := List.mem_map.1 he
    exact ⟨(hes e' he').2, (hes e' he').1⟩
  have hs2 : ∀ e ∈ es.map revE, e.small ∧ ∀ l ∈ e.ins, l.length ≤ 1000000000 := fun e he => by
    refine ⟨hs2r e he, ?_⟩
    obtain ⟨e', he', rfl⟩ := List.mem_map.1 he
    exact fun l hl => by have := linesOf_short ((hin e' he').1 l hl); omega
  have hrl : (es.map revE).length ≤ 1000000 := by rw [List.length_map]; exact hel
  have hf1 : (linesOf y).flatten.length ≤ 140737488355328 := by rw [linesOf_flat]; omega
  have hf2 : (linesOf x).flatten.length ≤ 140737488355328 := by rw [linesOf_flat]; omega
  have heq : eqEds es es = true := by unfold eqEds; simp
  refine SW.seq (SW.run [] _ ?_)
  simp only [wpC, Bool.false_eq_true, ↓reduceIte, wpS, stops, wantedA, okDst, Tryd.ntmps21, Nat.reduceLT, decide_true, step1, isOwnCall, hxOp, px, AS.eval, ofConst, ofVal, thenQ, AS.put, enumA, Nat.zero_add, dropKey, reduceCtorEq, Nat.reduceEqDiff, true_and]
  refine SW.seq (SW.run [eDiff] _ ?_)
  simp only [wpC, Bool.false_eq_true, ↓reduceIte, wpS, stops, wantedA, okDst, Nat.reduceLT, decide_true, step1, isOwnCall, hxOp, px, AS.eval, AS.get, Lift.look, Nat.succ_ne_zero, Option.getD_some, AS.put, dropKey, Nat.reduceEqDiff, reduceCtorEq, Specs.has, eDiff, Specs.hasO, Bool.or_false, Specs.hasH, Bool.not_true, pcall, okArg, ofConst, ofVal, List.all_cons, List.all_nil, Bool.and_true, Specs.at, List.map_cons, List.map_nil, sDiff, hx6, hy6, and_self, hdr, List.getElem?_cons_zero, List.getElem?_cons_succ, thenQ, true_and]
  refine SW.seq (SW.run [] _ ?_)
  simp only [wpC, mayStop, stops, isFlt, Specs.has, Specs.hasO, Bool.or_false, Specs.hasH, Bool.not_false, List.any_cons, List.any_nil, Bool.false_eq_true, ↓reduceIte, wpS, wantedA, okDst, Nat.reduceLT, decide_true, step1, isOwnCall, hxOp, px, AS.eval, AS.get, Lift.look, Option.getD_some, AS.put, dropKey, Nat.reduceEqDiff, reduceCtorEq, isNilC, pbinP, ofConst, ofVal, pbinI, bne_self_eq_false, thenQ, isB, tmpOf, asB, true_and]
  refine SW.seq (SW.run [] _ ?_)
  simp only [wpC, Bool.false_eq_true, ↓reduceIte, wpS, stops, wantedA, okDst, Nat.reduceLT, decide_true, step1, isOwnCall, hxOp, px, AS.eval, ofConst, ofVal, thenQ, AS.put, dropKey, Nat.reduceEqDiff, reduceCtorEq, true_and]
  refine SW.seq (SW.seq (SW.run [] _ ?_))
  simp only [wpC, Bool.false_eq_true, ↓reduceIte, wpS, stops, wantedA, okDst, Nat.reduceLT, decide_true, step1, isOwnCall, hxOp, px, AS.eval, AS.get, Lift.look, Nat.reduceEqDiff, Option.getD_some, AS.put, dropKey, reduceCtorEq, pcall, ty24, plen, edL_len, okLen, and_self, ofConst, ofVal, thenQ, true_and]
  refine SW.block (SW.loop (fun bb st => ∃ i : Nat, i ≤ es.length ∧ es.length - i = bb ∧ Lift.Inc h st.h ∧ st.n = 75 ∧ hasAll st [(0, .str x), (1, .str y), (5, .list 4 (edL es)), (7, .int .i64 (costS (es.take i) : Nat)), (21, .list 4 (edL es)), (22, .int .i64 (es.length : Nat)), (23, .int .i64 (i : Nat))]) es.length ⟨0, Nat.zero_le _, rfl, incSelf h, rfl, ?_⟩ ?_)
  · simp only [hasAll, AS.get, Lift.look, Nat.succ_ne_zero, ↓reduceIte, Option.getD_some, Nat.reduceEqDiff, reduceCtorEq, List.take_zero, Int.cast_ofNat_Int, and_self, and_true, true_and]
    rfl
  rintro bb st ⟨i, hi, hbb, inc, hn', hs'⟩
  refine SW.norm ⟨hn', rfl, hs'⟩ ?_
  generalize st.h = H at inc
  clear hn' hs'
  refine SW.seq (SW.run [] _ ?_)
  by_cases hlt : i < es.length
  · have hw : IntKind.i64.wrap ((i : Int) + 1) = ((i + 1 : Nat) : Int) := by rw [w64 (by omega) (by omega)]; rfl
    have hg := edL_at hlt
    have hnx := costS_next hlt
    have hpre := costS_pre es (i + 1)
    simp only [wpC, Bool.false_eq_true, ↓reduceIte, wpS, stops, wantedA, okDst, Nat.reduceLT, decide_true, step1, isOwnCall, hxOp, px, isNilC, pbinP, AS.eval, AS.get, Lift.look, reduceCtorEq, Nat.reduceEqDiff, Option.getD_some, pbinI, Int.ofNat_lt, hlt, thenQ, hasAll, and_true, AS.put, dropKey, true_and]
    refine SW.seq (SW.run [] _ ?_)
    simp only [wpC, isB, AS.get, Lift.look, tmpOf, ↓reduceIte, Option.getD_some, asB, thenQ, true_and]
    refine SW.seq (SW.block (SW.seq (SW.run [] _ ?_)))
    simp only [wpC, Bool.false_eq_true, ↓reduceIte, wpS, stops, wantedA, okDst, Nat.reduceLT, decide_true, step1, isOwnCall, hxOp, px, pindexAddr, ty24, ty45, AS.eval, AS.get, Lift.look, Nat.reduceEqDiff, reduceCtorEq, Option.getD_some, ne_eq, Nat.succ_ne_zero, not_false_eq_true, Int.natCast_nonneg, Int.toNat_natCast, edL_len, hlt, and_self, hg, edV, AS.put, dropKey, pload, okOne, TK.isAgg, Nat.reduceBEq, Bool.or_false, List.length_cons, List.length_nil, Nat.zero_add, Nat.reduceAdd, Nat.le_refl, Lift.valOf, List.take_succ_cons, List.take_nil, okAlloc, okZero, List.all_cons, Value.oneCell', List.all_nil, Bool.and_true, Lift.hx, zeroOf, List.map_cons, ofVal, List.map_nil, Heap.get_put, known1, PV.cells, splice, List.take_zero, List.nil_append, List.drop_succ_cons, List.drop_nil, List.append_nil, thenQ, true_and]
    intro r hr
    rw [Heap.put_put]
    obtain ⟨e, he⟩ : ∃ e, e = es[i] := ⟨_, rfl⟩
    rw [← he] at hnx ⊢
    have inc2 : Lift.Inc h (H.put r (.cells 45 4 [.int .i64 e.a, .int .i64 e.b, .list 1 (strL e.del), .list 1 (strL e.ins)])) := Inc.over inc (incFresh inc hr) _
    have gr : (H.put r (.cells 45 4 [.int .i64 e.a, .int .i64 e.b, .list 1 (strL e.del), .list 1 (strL e.ins)])) r = some (.cells 45 4 [.int .i64 e.a, .int .i64 e.b, .list 1 (strL e.del), .list 1 (strL e.ins)]) := Heap.put_same _ _ _
    generalize H.put r (.cells 45 4 [.int .i64 e.a, .int .i64 e.b, .list 1 (strL e.del), .list 1 (strL e.ins)]) = H2 at gr inc2 ⊢
    have hw1 : IntKind.i64.wrap (((e.del.length : Nat) : Int) + ((e.ins.length : Nat) : Int)) = ((e.del.length + e.ins.length : Nat) : Int) := by rw [w64 (by omega) (by omega)]; rfl
    have hw2 : IntKind.i64.wrap (((costS (es.take i) : Nat) : Int) + ((e.del.length + e.ins.length : Nat) : Int)) = ((costS (es.take (i + 1)) : Nat) : Int) := by rw [w64 (by omega) (by omega), hnx]; rfl
    refine SW.run [] _ ?_
    simp only [wpC, Bool.false_eq_true, ↓reduceIte, wpS, stops, wantedA, okDst, Nat.reduceLT, decide_true, step1, isOwnCall, hxOp, px, AS.eval, AS.get, Lift.look, Nat.reduceEqDiff, reduceCtorEq, Option.getD_some, AS.put, dropKey, pfieldAddr, fieldOf, ty45, fieldIn, List.getElem?_cons_succ, List.getElem?_cons_zero, ty34, Option.map_some, ne_eq, Nat.succ_ne_zero, not_false_eq_true, Nat.zero_add, pload, gr, okOne, TK.isAgg, beq_self_eq_true, Bool.or_true, Nat.reduceAdd, List.length_cons, List.length_nil, Nat.reduceLeDiff, and_self, Lift.valOf, List.drop_succ_cons, List.drop_zero, List.take_succ_cons, List.take_zero, List.getD_cons_zero, pcall, plen, strL_len, okLen, Nat.le_refl, List.take_nil, isFlt, ty3, isNilC, pbinP, pbinI, hw1, hw2, inQ, thenQ, true_and]
    refine SW.run [] _ ?_
    simp only [wpC, Bool.false_eq_true, ↓reduceIte, wpS, stops, isFlt, ty3, wantedA, okDst, Nat.reduceLT, decide_true, step1, isOwnCall, hxOp, px, isNilC, pbinP, AS.eval, AS.get, Lift.look, Nat.reduceEqDiff, reduceCtorEq, Option.getD_some, ofConst, ofVal, pbinI, hw, AS.put, dropKey, thenQ, Nat.succ_ne_zero, true_and]
    exact ⟨es.length - (i + 1), by omega, i + 1, by omega, rfl, inc2, rfl, rfl⟩
  · have hie : es.take i = es := List.take_of_length_le (by omega)
    rw [hie]
    simp only [wpC, Bool.false_eq_true, ↓reduceIte, wpS, stops, wantedA, okDst, Nat.reduceLT, decide_true, step1, isOwnCall, hxOp, px, isNilC, pbinP, AS.eval, AS.get, Lift.look, reduceCtorEq, Nat.reduceEqDiff, Option.getD_some, pbinI, Int.ofNat_lt, hlt, decide_false, thenQ, hasAll, and_true, AS.put, dropKey, true_and]
    refine SW.seq (SW.run [ePatch x es] _ ?_)
    simp only [wpC, isB, AS.get, Lift.look, tmpOf, ↓reduceIte, Option.getD_some, asB, Bool.false_eq_true, thenQ, inQ, true_and]
    refine SW.seq (SW.run [ePatch x es] _ ?_)
    simp only [wpC, Bool.false_eq_true, ↓reduceIte, wpS, stops, wantedA, okDst, Nat.reduceLT, decide_true, step1, isOwnCall, hxOp, px, AS.eval, AS.get, Lift.look, Nat.succ_ne_zero, Option.getD_some, AS.put, dropKey, Nat.reduceEqDiff, reduceCtorEq, Specs.has, ePatch, Specs.hasO, Bool.or_false, Specs.hasH, Bool.not_true, pcall, okArg, ofConst, ofVal, List.all_cons, List.all_nil, Bool.and_true, Specs.at, List.map_cons, List.map_nil, sPatch, hx6, hel, hi1, hp1, hf1, and_self, and_true, true_and, hpr1, List.getElem?_cons_zero, List.getElem?_cons_succ, thenQ]
    refine ⟨hs1, ?_⟩
    refine SW.seq (SW.run [eReverse es, ePatch y (es.map revE)] _ ?_)
    simp only [wpC, Bool.false_eq_true, ↓reduceIte, wpS, stops, wantedA, okDst, Nat.reduceLT, decide_true, step1, isOwnCall, hxOp, px, AS.eval, AS.get, Lift.look, Nat.reduceEqDiff, reduceCtorEq, Option.getD_some, AS.put, dropKey, Specs.has, eReverse, Specs.hasO, Bool.or_false, Specs.hasH, Bool.not_true, pcall, okArg, ofConst, ofVal, List.all_cons, List.all_nil, Bool.and_true, Specs.at, List.map_cons, List.map_nil, sReverse, hel, and_true, true_and, ePatch, sPatch, hy6, hrl, hi2, hp2, hf2, and_self, hpr2, List.getElem?_cons_zero, List.getElem?_cons_succ, thenQ]
    refine ⟨hes, hs2, ?_⟩
    have hrr := rev_rev es
    refine SW.seq (SW.run [eRev, eEqualEd es es] _ ?_)
    simp only [wpC, mayStop, stops, isFlt, Specs.has, eRev, eEqualEd, Specs.hasO, Bool.or_false, Specs.hasH, List.any_cons, ↓reduceIte, Bool.not_true, Nat.reduceEqDiff, List.any_nil, Bool.false_eq_true, wpS, wantedA, okDst, Nat.reduceLT, decide_true, step1, isOwnCall, hxOp, px, AS.eval, AS.get, Lift.look, Option.getD_some, AS.put, dropKey, reduceCtorEq, isNilC, pbinP, ofConst, ofVal, pbinI, bne_self_eq_false, List.getElem?_toArray, List.getElem?_cons_succ, List.getElem?_cons_zero, Option.bind_some, beq_self_eq_true, ppick_bool, pbinS, Nat.succ_ne_zero, pcall, okArg, List.all_cons, List.all_nil, Bool.and_true, Specs.at, List.map_cons, List.map_nil, sRev, unE_el, hel, and_true, true_and, hrl, hrr, sEqualEd, heq, pun, thenQ, isB, tmpOf, asB]
    refine ⟨hes, hs2r, hes, ?_⟩
    refine SW.run [] _ ?_
    simp only [wpC, mayStop, stops, isFlt, Specs.has, Specs.hasO, Bool.or_false, Specs.hasH, Bool.not_false, List.any_cons, List.any_nil, Bool.false_eq_true, ↓reduceIte, wpS, wantedA, okDst, Nat.reduceLT, decide_true, step1, isOwnCall, hxOp, px, AS.eval, AS.get, Lift.look, Nat.reduceEqDiff, reduceCtorEq, Option.getD_some, AS.put, dropKey, thenQ, RPost, sres, Tryd.results21, sresL, sres1, Option.some.injEq, Ret_fin, exists_eq_left', true_and]
    exact Inc.to inc
theorem cost_facts (a b c : List UInt8) : costV a a = 0 ∧ costV a b = costV b a ∧ costV a c ≤ costV a b + costV b c := by
  unfold costV
  have h1 := cost_diff (linesOf a) (linesOf a)
  have h2 := cost_diff (linesOf a) (linesOf b)
  have h3 := cost_diff (linesOf b) (linesOf a)
  have h4 := cost_diff (linesOf a) (linesOf c)
  have h5 := cost_diff (linesOf b) (linesOf c)
  have k1 := lcs_self (linesOf a)
  have k2 := lcs_comm (linesOf a) (linesOf b)
  have k3 := lcs_tri (linesOf a) (linesOf b) (linesOf c)
  omega
theorem costV_le {a b : List UInt8} (ha : a.length ≤ 300) (hb : b.length ≤ 300) : costV a b ≤ 600 := by
  unfold costV
  have h2 := cost_diff (linesOf a) (linesOf b)
  have h3 := linesOf_len a
  have h4 := linesOf_len b
  omega
set_option maxHeartbeats 4000000 in
theorem ToolsApplies_ok (a b c : List UInt8) (h : Heap) : SCalls env 5 [.str a, .str b, .str c] h (Ret (.bool true) h) := by
  refine SCalls.body Tryd.func5 rfl rfl (by simp [Tryd.ntmps5]) ?_
  refine SW.seq (SW.run [] _ ?_)
  simp only [wpC, Bool.false_eq_true, ↓reduceIte, wpS, stops, wantedA, okDst, Tryd.ntmps5, Nat.reduceLT, decide_true, step1, isOwnCall, hxOp, px, AS.eval, ofConst, ofVal, thenQ, AS.put, enumA, Nat.zero_add, Nat.reduceAdd, dropKey, reduceCtorEq, Nat.reduceEqDiff, true_and]
  refine SW.seq (SW.run [eAwake] _ ?_)
  simp only [wpC, mayStop, stops, isFlt, Specs.has, eAwake, Specs.hasO, Bool.or_false, Specs.hasH, List.any_cons, ↓reduceIte, Bool.not_true, List.any_nil, Bool.false_eq_true, wpS, wantedA, okDst, Nat.reduceLT, decide_true, step1, isOwnCall, hxOp, px, pcall, okArg, AS.eval, AS.get, Lift.look, ofConst, ofVal, List.all_nil, Specs.at, List.map_nil, sAwake, and_self, AS.put, dropKey, Nat.reduceEqDiff, reduceCtorEq, pun, Option.getD_some, thenQ, isB, tmpOf, asB, true_and]
  have hu : unS [[.str a], [.str b], [.str c]] = some [a, b, c] := rfl
  have h2 : ([a, b, c] : List (List UInt8)).length ≤ 1000000000 := by show 3 ≤ _; omega
  refine SW.seq (SW.run [eSmall] _ ?_)
  cases hsm : smallS [a, b, c]
  · simp only [wpC, mayStop, stops, isFlt, Specs.has, eSmall, Specs.hasO, Bool.or_false, Specs.hasH, List.any_cons, ↓reduceIte, Bool.not_true, List.any_nil, Bool.false_eq_true, wpS, wantedA, okDst, Nat.reduceLT, decide_true, step1, isOwnCall, hxOp, px, AS.eval, AS.get, Lift.look, Nat.succ_ne_zero, Option.getD_some, AS.put, dropKey, Nat.reduceEqDiff, reduceCtorEq, pbuildSlice, ty34, ty9, List.replicate, List.map_cons, ofVal, List.map_nil, List.flatten_cons, List.flatten_nil, List.append_nil, List.cons_append, List.nil_append, ofConst, pfill, PV.cells, List.length_cons, List.length_nil, Nat.zero_add, Nat.reduceMul, Nat.reduceAdd, Nat.reduceLeDiff, and_self, splice, List.take_zero, List.drop_succ_cons, List.drop_zero, List.take_succ_cons, Nat.le_refl, List.drop_nil, okZero, List.all_cons, Value.oneCell', List.all_nil, Bool.and_true, known, chunk, List.take_nil, pcall, okArg, Specs.at, sSmall, hu, hsm, pun, Bool.not_false, thenQ, isB, tmpOf, asB, RPost, sres, Tryd.results5, sresL, sres1, Option.some.injEq, Ret_fin, HTo_self, and_true, exists_eq_left']
  simp only [wpC, mayStop, stops, isFlt, Specs.has, eSmall, Specs.hasO, Bool.or_false, Specs.hasH, List.any_cons, ↓reduceIte, Bool.not_true, List.any_nil, Bool.false_eq_true, wpS, wantedA, okDst, Nat.reduceLT, decide_true, step1, isOwnCall, hxOp, px, AS.eval, AS.get, Lift.look, Nat.succ_ne_zero, Option.getD_some, AS.put, dropKey, Nat.reduceEqDiff, reduceCtorEq, pbuildSlice, ty34, ty9, List.replicate, List.map_cons, ofVal, List.map_nil, List.flatten_cons, List.flatten_nil, List.append_nil, List.cons_append, List.nil_append, ofConst, pfill, PV.cells, List.length_cons, List.length_nil, Nat.zero_add, Nat.reduceMul, Nat.reduceAdd, Nat.reduceLeDiff, and_self, splice, List.take_zero, List.drop_succ_cons, List.drop_zero, List.take_succ_cons, Nat.le_refl, List.drop_nil, okZero, List.all_cons, Value.oneCell', List.all_nil, Bool.and_true, known, chunk, List.take_nil, pcall, okArg, Specs.at, sSmall, hu, hsm, pun, thenQ, isB, tmpOf, asB, true_and]
  obtain ⟨ha3, hb3, hc3⟩ : a.length ≤ 300 ∧ b.length ≤ 300 ∧ c.length ≤ 300 := by
    unfold smallS at hsm
    simpa using hsm
  obtain ⟨f1, f2, f3⟩ := cost_facts a b c
  have l1 := costV_le ha3 hb3
  have l2 := costV_le hb3 hc3
  have l3 := costV_le ha3 hc3
  refine SW.seq (SW.run [] _ ?_)
  simp only [wpC, Bool.false_eq_true, ↓reduceIte, wpS, stops, wantedA, okDst, Nat.reduceLT, decide_true, step1, isOwnCall, hxOp, px, AS.eval, thenQ, AS.put, dropKey, Nat.reduceEqDiff, reduceCtorEq, true_and]
  refine SW.seq (SW.run [] _ ?_)
  simp only [wpC, Bool.false_eq_true, ↓reduceIte, wpS, stops, wantedA, okDst, Nat.reduceLT, decide_true, step1, isOwnCall, hxOp, px, AS.eval, AS.get, Lift.look, Option.getD_some, AS.put, dropKey, Nat.reduceEqDiff, reduceCtorEq, Nat.succ_ne_zero, true_and]
  refine SWO.call (.tmp 21) #[.tmp 22, .tmp 23] _ 21 #[] #[] rfl rfl rfl rfl rfl rfl (Cost_ok a b ha3 hb3 h) rfl rfl ?_ (fun c h' hc => by cases hc.1)
  rintro p' h' ⟨hp', rfl⟩
  injection hp' with hp'
  subst hp'
  refine SWO.run [] 1000 ?_
  simp only [wpS, stops, Bool.false_eq_true, ↓reduceIte, wantedA, okDst, AS.put, dropKey, Nat.reduceEqDiff, reduceCtorEq, Nat.reduceLT, decide_true, step1, isOwnCall, hxOp, px, AS.eval, AS.get, Lift.look, Option.getD_some, true_and]
  refine SWO.call (.tmp 25) #[.tmp 26, .tmp 27] _ 21 #[] #[] rfl rfl rfl rfl rfl rfl (Cost_ok b c hb3 hc3 h') rfl rfl ?_ (fun c h' hc => by cases hc.1)
  rintro p' h' ⟨hp', rfl⟩
  injection hp' with hp'
  subst hp'
  refine SWO.run [] 1000 ?_
  simp only [wpS, stops, Bool.false_eq_true, ↓reduceIte, wantedA, okDst, AS.put, dropKey, Nat.reduceEqDiff, reduceCtorEq, Nat.reduceLT, decide_true, step1, isOwnCall, hxOp, px, AS.eval, AS.get, Lift.look, Option.getD_some, Nat.succ_ne_zero, true_and]
  refine SWO.call (.tmp 29) #[.tmp 30, .tmp 31] _ 21 #[] #[] rfl rfl rfl rfl rfl rfl (Cost_ok a c ha3 hc3 h') rfl rfl ?_ (fun c h' hc => by cases hc.1)
  rintro p' h' ⟨hp', rfl⟩
  injection hp' with hp'
  subst hp'
  refine SWO.run [] 1000 ?_
  simp only [wpS, stops, Bool.false_eq_true, ↓reduceIte, wantedA, okDst, AS.put, dropKey, Nat.reduceEqDiff, reduceCtorEq, Nat.reduceLT, decide_true, step1, isOwnCall, hxOp, px, AS.eval, AS.get, Lift.look, Option.getD_some, Nat.succ_ne_zero, true_and]
  refine SWO.call (.tmp 33) #[.tmp 34, .tmp 35] _ 21 #[] #[] rfl rfl rfl rfl rfl rfl (Cost_ok b a hb3 ha3 h') rfl rfl ?_ (fun c h' hc => by cases hc.1)
  rintro p' h' ⟨hp', rfl⟩
  injection hp' with hp'
  subst hp'
  refine SWO.run [] 1000 ?_
  simp only [wpS, stops, Bool.false_eq_true, ↓reduceIte, wantedA, okDst, AS.put, dropKey, Nat.reduceEqDiff, reduceCtorEq, Nat.reduceLT, decide_true, step1, isOwnCall, hxOp, px, AS.eval, AS.get, Lift.look, Option.getD_some, Nat.succ_ne_zero, true_and]
  refine SWO.call (.tmp 37) #[.tmp 38, .tmp 39] _ 21 #[] #[] rfl rfl rfl rfl rfl rfl (Cost_ok a a ha3 ha3 h') rfl rfl ?_ (fun c h' hc => by cases hc.1)
  rintro p' h' ⟨hp', rfl⟩
  injection hp' with hp'
  subst hp'
  refine SWO.run [] 1000 ?_
  rw [f1, ← f2]
  have w1 : (0 : Int) ≤ ((costV a b : Nat) : Int) := by omega
  have w2 : (0 : Int) ≤ ((costV b c : Nat) : Int) := by omega
  have w3 : (0 : Int) ≤ ((costV a c : Nat) : Int) := by omega
  have w4 : IntKind.i64.wrap (((costV a b : Nat) : Int) + ((costV b c : Nat) : Int)) = ((costV a b : Nat) : Int) + ((costV b c : Nat) : Int) := w64 (by omega) (by omega)
  have w5 : ((costV a c : Nat) : Int) ≤ ((costV a b : Nat) : Int) + ((costV b c : Nat) : Int) := by omega
  simp only [wpS, stops, Bool.false_eq_true, ↓reduceIte, wantedA, okDst, AS.put, Int.cast_ofNat_Int, dropKey, Nat.reduceEqDiff, reduceCtorEq, Nat.reduceLT, decide_true, step1, isOwnCall, hxOp, px, AS.eval, AS.get, Lift.look, Option.getD_some, thenQ, true_and]
  refine SW.run [] _ ?_
  simp only [wpC, mayStop, stops, isFlt, Specs.has, Specs.hasO, Bool.or_false, Specs.hasH, Bool.not_false, List.any_cons, ty3, List.any_nil, Bool.false_eq_true, ↓reduceIte, wpS, wantedA, okDst, Nat.reduceLT, decide_true, step1, isOwnCall, hxOp, px, AS.eval, AS.get, Lift.look, Nat.reduceEqDiff, Option.getD_some, AS.put, dropKey, reduceCtorEq, isNilC, pbinP, ofConst, ofVal, pbinI, w1, List.getElem?_toArray, List.getElem?_cons_succ, List.getElem?_cons_zero, Option.bind_some, beq_self_eq_true, w2, ppick_bool, w3, w4, w5, thenQ, RPost, sres, Tryd.results5, sresL, sres1, Option.some.injEq, Ret_fin, HTo_self, and_true, exists_eq_left', and_self]
end Go.Proofs.YtincpomenogppaaDoor
