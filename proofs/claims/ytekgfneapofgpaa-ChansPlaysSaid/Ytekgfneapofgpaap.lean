/- Contracts of functions that the law reaches. -/
import Derived.Test.Ytekgfneapofgpaao
set_option linter.unusedSimpArgs false
set_option linter.unusedVariables false
namespace Go.Proofs.Ytekgfneapofgpaa
open Go Go.RowKit Go.Proofs.Ytekgfneapofgpaa Go.Proofs.Ytekgfneapofgpaa.Lift

/-! More of the reference: what only reads -/
theorem fil_take {es : List It} {i : Nat} (h : i < es.length) (c : Int) (s : Bool) : fil (es.take (i + 1)) c s = if ((es[i].ch == c) && (es[i].sd == s)) = true then fil (es.take i) c s ++ [es[i]] else fil (es.take i) c s := by
  rw [take_snoc h]
  unfold fil
  rw [List.filter_append, List.filter_cons]
  cases e : ((es[i].ch == c) && (es[i].sd == s))
  · simp [e]
  · simp [e]
set_option maxHeartbeats 1000000 in
set_option maxRecDepth 100000 in
theorem RQueue_ok {m : Nat} {ps : List Int} {es : List It} {h : Heap} (rd : Rd m ps es h) (c : Int) (s : Bool) (hl : es.length ≤ 1000000) : SCalls env 35 [adr m, .int .i64 c, .bool s] h (Ret (.list 4 (elE (fil es c s))) h) := by
  obtain ⟨v1, v2, hm, _, ⟨A, cap, rfl, hc1, hc2, hw1, hr⟩⟩ := rd
  rw [elE_len] at hm hc1
  refine SCalls.body Try.func35 rfl rfl (by simp [Try.ntmps35]) ?_
  refine SW.seq (SW.run [] _ ?_)
  simp only [wpC, Bool.false_eq_true, ↓reduceIte, wpS, stops, wantedA, okDst, Try.ntmps35, Nat.reduceLT, decide_true, step1, isOwnCall, hxOp, px, AS.eval, ofConst, ofVal, thenQ, AS.put, enumA, Nat.zero_add, Nat.reduceAdd, dropKey, reduceCtorEq, Nat.reduceEqDiff, true_and]
  refine SW.seq (SW.run [] _ ?_)
  simp only [wpC, Bool.false_eq_true, ↓reduceIte, wpS, stops, wantedA, okDst, Nat.reduceLT, decide_true, step1, isOwnCall, hxOp, px, AS.eval, ofConst, ofVal, thenQ, AS.put, dropKey, Nat.reduceEqDiff, reduceCtorEq, true_and]
  refine SW.seq (SW.seq (SW.run [] _ ?_))
  simp only [wpC, Bool.false_eq_true, ↓reduceIte, wpS, stops, wantedA, okDst, Nat.reduceLT, decide_true, step1, isOwnCall, hxOp, px, AS.eval, ofConst, ofVal, thenQ, AS.put, dropKey, Nat.reduceEqDiff, reduceCtorEq, true_and]
  refine SW.block (SW.loop (fun n a => ∃ (i : Nat) (v : PV), i ≤ es.length ∧ es.length - i = n ∧ Own h 78 4 (elE (fil (es.take i) c s)) v a.h ∧ a.n = 51 ∧ hasAll a [(0, adr m), (1, .int .i64 c), (2, .bool s), (7, v), (8, .int .i64 (i : Nat))]) es.length ⟨0, .val (.slice none 0 0), Nat.zero_le _, rfl, Own.nil _ _ _, rfl, ?_⟩ ?_)
  · simp only [hasAll, AS.get, Lift.look, Nat.succ_ne_zero, ↓reduceIte, adr, Option.getD_some, Nat.reduceEqDiff, reduceCtorEq, Int.cast_ofNat_Int, and_self]
  rintro n a ⟨i, v, hi, hn', ho, hn, hs⟩
  refine SW.norm ⟨hn, rfl, hs⟩ ?_
  generalize a.h = H at ho
  clear hn hs
  have k1 := ho.inc _ _ hm
  refine SW.seq (SW.run [] _ ?_)
  by_cases hlt : i < es.length
  · have hw : IntKind.i64.wrap ((i : Int) + 1) = ((i + 1 : Nat) : Int) := by rw [w64 (by omega) (by omega)]; rfl
    obtain ⟨r, hA, hr3⟩ : ∃ r, A = some ⟨r, 0, none⟩ ∧ h r = some (.cells 78 (cap * 4) (elE es).flatten) := by
      rcases hr with ⟨_, he, _⟩ | hr
      · have := elE_len es; rw [he] at this; simp at this; omega
      · exact hr
    subst hA
    have k2 := ho.inc _ _ hr3
    obtain ⟨f0, f2, f3, f4, hfl⟩ := elE_flat hlt
    have l2 : i * 4 + 2 + 1 ≤ (elE es).flatten.length := by omega
    have l3 : i * 4 + 3 + 1 ≤ (elE es).flatten.length := by omega
    have hft := fil_take hlt c s
    obtain ⟨X, hX⟩ : ∃ X, X = es[i] := ⟨_, rfl⟩
    rw [← hX] at f0 f2 f3 f4 hft
    have hFl : (fil (es.take i) c s).length ≤ 1000000 := Nat.le_trans (List.length_filter_le _ _) (by rw [List.length_take]; omega)
    simp only [wpC, mayStop, stops, isFlt, Specs.has, Specs.hasO, Bool.or_false, Specs.hasH, Bool.not_false, List.any_cons, List.any_nil, Bool.false_eq_true, ↓reduceIte, wpS, wantedA, okDst, Nat.reduceLT, decide_true, step1, isOwnCall, hxOp, px, AS.eval, AS.get, Lift.look, reduceCtorEq, Nat.reduceEqDiff, Option.getD_some, AS.put, dropKey, adr, Nat.succ_ne_zero, pfieldAddr, fieldOf, ty47, fieldIn, List.getElem?_cons_succ, List.getElem?_cons_zero, ty45, Option.map_some, ne_eq, not_false_eq_true, Nat.zero_add, pload, k1, okOne, TK.isAgg, beq_self_eq_true, Bool.or_true, Nat.reduceAdd, List.length_cons, List.length_nil, Nat.le_refl, and_self, Lift.valOf, List.drop_succ_cons, List.drop_zero, List.take_succ_cons, List.take_nil, List.getD_cons_zero, pcall, plen, okLen, isNilC, pbinP, pbinI, Int.ofNat_lt, hlt, thenQ, isB, tmpOf, asB, hasAll, and_true, true_and]
    refine SW.seq (SW.block (SW.run [] _ ?_))
    cases e1 : (X.ch == c)
    · rw [e1, Bool.false_and, if_neg (by simp)] at hft
      simp only [wpC, mayStop, stops, isFlt, Specs.has, Specs.hasO, Bool.or_false, Specs.hasH, Bool.not_false, List.any_cons, List.any_nil, Bool.false_eq_true, ↓reduceIte, wpS, wantedA, okDst, Nat.reduceLT, decide_true, step1, isOwnCall, hxOp, px, AS.eval, AS.get, Lift.look, Nat.succ_ne_zero, Option.getD_some, AS.put, dropKey, Nat.reduceEqDiff, reduceCtorEq, pfieldAddr, fieldOf, ty47, fieldIn, List.getElem?_cons_succ, List.getElem?_cons_zero, ty45, Option.map_some, ne_eq, not_false_eq_true, Nat.zero_add, pload, k1, okOne, TK.isAgg, beq_self_eq_true, Bool.or_true, Nat.reduceAdd, List.length_cons, List.length_nil, Nat.le_refl, and_self, Lift.valOf, List.drop_succ_cons, List.drop_zero, List.take_succ_cons, List.take_nil, List.getD_cons_zero, pindexAddr, ty78, Int.natCast_nonneg, Int.ofNat_lt, hlt, Int.toNat_natCast, ty3, k2, l2, f2, isNilC, pbinP, pbinI, e1, List.getElem?_toArray, Option.bind_some, beq_ft, Option.some.injEq, ofConst, ofVal, ppick_false, thenQ, isB, tmpOf, asB, inQ, true_and]
      refine SW.run [] _ ?_
      simp only [wpC, Bool.false_eq_true, ↓reduceIte, wpS, stops, wantedA, okDst, Nat.reduceLT, decide_true, step1, isOwnCall, hxOp, px, AS.eval, AS.get, Lift.look, Nat.reduceEqDiff, reduceCtorEq, Option.getD_some, isFlt, ty3, AS.put, dropKey, isNilC, pbinP, ofConst, ofVal, pbinI, hw, thenQ, Nat.succ_ne_zero, true_and]
      exact ⟨n - 1, by omega, i + 1, v, hlt, by omega, by rw [hft]; exact ho, rfl, rfl⟩
    · cases e2 : (X.sd == s)
      · rw [e2, Bool.and_false, if_neg (by simp)] at hft
        simp only [wpC, mayStop, stops, isFlt, Specs.has, Specs.hasO, Bool.or_false, Specs.hasH, Bool.not_false, List.any_cons, List.any_nil, Bool.false_eq_true, ↓reduceIte, wpS, wantedA, okDst, Nat.reduceLT, decide_true, step1, isOwnCall, hxOp, px, AS.eval, AS.get, Lift.look, Nat.succ_ne_zero, Option.getD_some, AS.put, dropKey, Nat.reduceEqDiff, reduceCtorEq, pfieldAddr, fieldOf, ty47, fieldIn, List.getElem?_cons_succ, List.getElem?_cons_zero, ty45, Option.map_some, ne_eq, not_false_eq_true, Nat.zero_add, pload, k1, okOne, TK.isAgg, beq_self_eq_true, Bool.or_true, Nat.reduceAdd, List.length_cons, List.length_nil, Nat.le_refl, and_self, Lift.valOf, List.drop_succ_cons, List.drop_zero, List.take_succ_cons, List.take_nil, List.getD_cons_zero, pindexAddr, ty78, Int.natCast_nonneg, Int.ofNat_lt, hlt, Int.toNat_natCast, ty3, k2, l2, f2, isNilC, pbinP, pbinI, e1, List.getElem?_toArray, Option.bind_some, ty4, l3, f3, pflt, peq, peqK, e2, ofConst, ofVal, ppick_bool, thenQ, isB, tmpOf, asB, inQ, true_and]
        refine SW.run [] _ ?_
        simp only [wpC, Bool.false_eq_true, ↓reduceIte, wpS, stops, wantedA, okDst, Nat.reduceLT, decide_true, step1, isOwnCall, hxOp, px, AS.eval, AS.get, Lift.look, Nat.reduceEqDiff, reduceCtorEq, Option.getD_some, isFlt, ty3, AS.put, dropKey, isNilC, pbinP, ofConst, ofVal, pbinI, hw, thenQ, Nat.succ_ne_zero, true_and]
        exact ⟨n - 1, by omega, i + 1, v, hlt, by omega, by rw [hft]; exact ho, rfl, rfl⟩
      · rw [e1, e2, Bool.and_self, if_pos rfl] at hft
        simp only [wpC, mayStop, stops, isFlt, Specs.has, Specs.hasO, Bool.or_false, Specs.hasH, Bool.not_false, List.any_cons, List.any_nil, Bool.false_eq_true, ↓reduceIte, wpS, wantedA, okDst, Nat.reduceLT, decide_true, step1, isOwnCall, hxOp, px, AS.eval, AS.get, Lift.look, Nat.succ_ne_zero, Option.getD_some, AS.put, dropKey, Nat.reduceEqDiff, reduceCtorEq, pfieldAddr, fieldOf, ty47, fieldIn, List.getElem?_cons_succ, List.getElem?_cons_zero, ty45, Option.map_some, ne_eq, not_false_eq_true, Nat.zero_add, pload, k1, okOne, TK.isAgg, beq_self_eq_true, Bool.or_true, Nat.reduceAdd, List.length_cons, List.length_nil, Nat.le_refl, and_self, Lift.valOf, List.drop_succ_cons, List.drop_zero, List.take_succ_cons, List.take_nil, List.getD_cons_zero, pindexAddr, ty78, Int.natCast_nonneg, Int.ofNat_lt, hlt, Int.toNat_natCast, ty3, k2, l2, f2, isNilC, pbinP, pbinI, e1, List.getElem?_toArray, Option.bind_some, ty4, l3, f3, pflt, peq, peqK, e2, ofConst, ofVal, ppick_bool, thenQ, isB, tmpOf, asB, Nat.reduceBEq, f4, enC, pbuildSlice, List.replicate, List.map_cons, List.map_nil, List.flatten_cons, List.flatten_nil, List.append_nil, pfill, PV.cells, Nat.reduceMul, splice, List.take_zero, List.nil_append, List.drop_nil, Nat.reduceLeDiff, okZero, List.all_cons, Value.oneCell', List.all_nil, Bool.and_true, known, chunk, true_and]
        refine SWO.append (.tmp 40) (.tmp 48) 45 45 rfl ty45 rfl ty78 (by decide) rfl ty45 rfl ho (ys := [enC X]) rfl (by rw [elE_len]; show (_ + 1) * 32 ≤ _; omega) (by rw [elE_len]; simp [maxLen]; omega) rfl rfl ?_
        intro v' h' ow _ _
        refine SWO.run [] 1000 ?_
        simp only [wpS, stops, Bool.false_eq_true, ↓reduceIte, wantedA, okDst, AS.put, dropKey, Nat.reduceEqDiff, reduceCtorEq, Nat.reduceLT, decide_true, step1, isOwnCall, hxOp, px, AS.eval, AS.get, Lift.look, Option.getD_some, inQ, thenQ, true_and]
        refine SW.run [] _ ?_
        simp only [wpC, Bool.false_eq_true, ↓reduceIte, wpS, stops, wantedA, okDst, Nat.reduceLT, decide_true, step1, isOwnCall, hxOp, px, AS.eval, AS.get, Lift.look, Nat.reduceEqDiff, reduceCtorEq, Option.getD_some, isFlt, ty3, AS.put, dropKey, isNilC, pbinP, ofConst, ofVal, pbinI, hw, thenQ, Nat.succ_ne_zero, true_and]
        exact ⟨n - 1, by omega, i + 1, v', hlt, by omega, by rw [hft, elE_snoc]; exact ow, rfl, rfl⟩
  · obtain rfl : i = es.length := by omega
    rw [List.take_length] at ho
    simp only [wpC, mayStop, stops, isFlt, Specs.has, Specs.hasO, Bool.or_false, Specs.hasH, Bool.not_false, List.any_cons, List.any_nil, Bool.false_eq_true, ↓reduceIte, wpS, wantedA, okDst, Nat.reduceLT, decide_true, step1, isOwnCall, hxOp, px, AS.eval, AS.get, Lift.look, reduceCtorEq, Nat.reduceEqDiff, Option.getD_some, AS.put, dropKey, adr, Nat.succ_ne_zero, pfieldAddr, fieldOf, ty47, fieldIn, List.getElem?_cons_succ, List.getElem?_cons_zero, ty45, Option.map_some, ne_eq, not_false_eq_true, Nat.zero_add, pload, k1, okOne, TK.isAgg, beq_self_eq_true, Bool.or_true, Nat.reduceAdd, List.length_cons, List.length_nil, Nat.le_refl, and_self, Lift.valOf, List.drop_succ_cons, List.drop_zero, List.take_succ_cons, List.take_nil, List.getD_cons_zero, pcall, plen, okLen, isNilC, pbinP, pbinI, Int.ofNat_lt, Nat.lt_irrefl, decide_false, thenQ, isB, tmpOf, asB, inQ, true_and]
    refine SW.own_let 7 rfl ho ?_
    refine SW.run [] _ ?_
    simp only [wpC, mayStop, stops, isFlt, Specs.has, Specs.hasO, Bool.or_false, Specs.hasH, Bool.not_false, List.any_cons, List.any_nil, Bool.false_eq_true, ↓reduceIte, wpS, wantedA, okDst, AS.put, dropKey, Nat.reduceEqDiff, reduceCtorEq, Nat.reduceLT, decide_true, step1, isOwnCall, hxOp, px, AS.eval, AS.get, Lift.look, Option.getD_some, thenQ, RPost, sres, Try.results35, sresL, sres1, Option.some.injEq, Ret_fin, HTo_self, and_true, exists_eq_left', and_self]
/-- Which offers can meet. -/
def canR (es : List It) (p : Int) (os : List (Int × Bool)) (j : Nat) : Bool := match os[j]? with | some o => decide (0 ≤ firstI es p o.1 o.2) | none => false
def readyR (es : List It) (p : Int) (os : List (Int × Bool)) (n : Nat) : List Nat := (List.range n).filter (canR es p os)
theorem readyR_next (es : List It) (p : Int) (os : List (Int × Bool)) (n : Nat) : readyR es p os (n + 1) = if canR es p os n then readyR es p os n ++ [n] else readyR es p os n := by
  unfold readyR
  rw [List.range_succ, List.filter_append, List.filter_cons]
  cases canR es p os n <;> simp
theorem Rd.inc {m : Nat} {ps : List Int} {es : List It} {h h' : Heap} (rd : Rd m ps es h) (k : ∀ r X, h r = some X → h' r = some X) : Rd m ps es h' := by
  obtain ⟨v1, v2, hm, ⟨A, c, e1, e2, e3, e4, e5⟩, ⟨A', c', f1, f2, f3, f4, f5⟩⟩ := rd
  exact ⟨v1, v2, k _ _ hm, ⟨A, c, e1, e2, e3, e4, e5.imp id fun ⟨r, a, b⟩ => ⟨r, a, k _ _ b⟩⟩, ⟨A', c', f1, f2, f3, f4, f5.imp id fun ⟨r, a, b⟩ => ⟨r, a, k _ _ b⟩⟩⟩
def sFirstR (m : Nat) (ps : List Int) (es : List It) : List PV → Heap → Prop × PV × Heap
  | [.val (.pointer (some ⟨a, 0, none⟩)), .int .i64 p, .agg [.int .i64 c, .bool s]], h => (a = m ∧ Rd m ps es h ∧ es.length ≤ 1000000, .int .i64 (firstI es p c s), h)
  | _, h => HBad h
noncomputable def eFirstR (m : Nat) (ps : List Int) (es : List It) : SpecH env := ⟨41, sFirstR m ps es, fun args h hc => by
  unfold sFirstR at hc ⊢
  split at hc
  · rename_i a p c s
    obtain ⟨rfl, hr, hl⟩ := hc
    exact RFirst_ok hr p c s hl
  · exact hc.elim⟩
set_option maxHeartbeats 1000000 in
set_option maxRecDepth 100000 in
theorem RReady_ok {m : Nat} {ps : List Int} {es : List It} {h : Heap} (rd : Rd m ps es h) (p : Int) (os : List (Int × Bool)) (hl : es.length ≤ 1000000) (ho : os.length ≤ 1000000) : SCalls env 29 [adr m, .int .i64 p, .list 2 (elO os)] h (Ret (.list 1 (elN (readyR es p os os.length))) h) := by
  refine SCalls.body Try.func29 rfl rfl (by simp [Try.ntmps29]) ?_
  refine SW.seq (SW.run [] _ ?_)
  simp only [wpC, Bool.false_eq_true, ↓reduceIte, wpS, stops, wantedA, okDst, Try.ntmps29, Nat.reduceLT, decide_true, step1, isOwnCall, hxOp, px, AS.eval, ofConst, ofVal, thenQ, AS.put, enumA, Nat.zero_add, Nat.reduceAdd, dropKey, reduceCtorEq, Nat.reduceEqDiff, true_and]
  refine SW.seq (SW.run [] _ ?_)
  simp only [wpC, Bool.false_eq_true, ↓reduceIte, wpS, stops, wantedA, okDst, Nat.reduceLT, decide_true, step1, isOwnCall, hxOp, px, AS.eval, ofConst, ofVal, thenQ, AS.put, dropKey, Nat.reduceEqDiff, reduceCtorEq, true_and]
  refine SW.seq (SW.seq (SW.run [] _ ?_))
  simp only [wpC, Bool.false_eq_true, ↓reduceIte, wpS, stops, wantedA, okDst, Nat.reduceLT, decide_true, step1, isOwnCall, hxOp, px, AS.eval, ofConst, ofVal, thenQ, AS.put, dropKey, Nat.reduceEqDiff, reduceCtorEq, true_and]
  refine SW.block (SW.loop (fun n a => ∃ (i : Nat) (v : PV), i ≤ os.length ∧ os.length - i = n ∧ Own h 3 1 (elN (readyR es p os i)) v a.h ∧ a.n = 28 ∧ hasAll a [(0, adr m), (1, .int .i64 p), (2, .list 2 (elO os)), (7, v), (8, .int .i64 (i : Nat))]) os.length ⟨0, .val (.slice none 0 0), Nat.zero_le _, rfl, Own.nil _ _ _, rfl, ?_⟩ ?_)
  · simp only [hasAll, AS.get, Lift.look, Nat.succ_ne_zero, ↓reduceIte, adr, Option.getD_some, Nat.reduceEqDiff, reduceCtorEq, Int.cast_ofNat_Int, and_self]
  rintro n a ⟨i, v, hi, hn', hw1, hn, hs⟩
  refine SW.norm ⟨hn, rfl, hs⟩ ?_
  generalize a.h = H at hw1
  clear hn hs
  have rd1 := rd.inc hw1.inc
  refine SW.seq (SW.run [] _ ?_)
  by_cases hlt : i < os.length
  · have hw : IntKind.i64.wrap ((i : Int) + 1) = ((i + 1 : Nat) : Int) := by rw [w64 (by omega) (by omega)]; rfl
    have hg := elO_at hlt
    have hrn := readyR_next es p os i
    have hcr : canR es p os i = decide (0 ≤ firstI es p os[i].1 os[i].2) := by unfold canR; rw [List.getElem?_eq_getElem hlt]
    have hel : (elN (readyR es p os i)).length ≤ i := by unfold elN readyR; rw [List.length_map]; exact Nat.le_trans (List.length_filter_le _ _) (by simp)
    simp only [wpC, mayStop, stops, isFlt, Specs.has, Specs.hasO, Bool.or_false, Specs.hasH, Bool.not_false, List.any_cons, List.any_nil, Bool.false_eq_true, ↓reduceIte, wpS, wantedA, okDst, Nat.reduceLT, decide_true, step1, isOwnCall, hxOp, px, AS.eval, AS.get, Lift.look, reduceCtorEq, Nat.reduceEqDiff, Option.getD_some, AS.put, dropKey, pcall, ty76, plen, elO_len, okLen, and_self, isNilC, pbinP, pbinI, Int.ofNat_lt, hlt, thenQ, isB, tmpOf, asB, hasAll, and_true, true_and]
    refine SW.seq (SW.block (SW.run [eFirstR m ps es] _ ?_))
    by_cases hf : 0 ≤ firstI es p os[i].1 os[i].2
    · rw [hcr, decide_eq_true hf, if_pos rfl] at hrn
      simp only [wpC, mayStop, stops, isFlt, Specs.has, Specs.hasO, Bool.or_false, Specs.hasH, eFirstR, Bool.false_or, List.any_cons, ↓reduceIte, Bool.not_true, List.any_nil, Bool.false_eq_true, wpS, wantedA, okDst, Nat.reduceLT, decide_true, step1, isOwnCall, hxOp, px, AS.eval, AS.get, Lift.look, Nat.succ_ne_zero, adr, Option.getD_some, AS.put, dropKey, Nat.reduceEqDiff, reduceCtorEq, pindexAddr, ty76, ty81, ne_eq, not_false_eq_true, Int.natCast_nonneg, Int.toNat_natCast, elO_len, hlt, and_self, hg, pload, okOne, TK.isAgg, Nat.reduceBEq, List.length_cons, List.length_nil, Nat.zero_add, Nat.reduceAdd, Nat.le_refl, Lift.valOf, List.take_succ_cons, List.take_nil, Bool.or_true, hx, okArg, ofConst, ofVal, List.all_cons, List.all_nil, Bool.and_true, Specs.atH, List.map_cons, List.map_nil, sFirstR, true_and, isNilC, pbinP, pbinI, hf, thenQ, isB, tmpOf, asB, pbuildSlice, ty31, ty3, List.replicate, List.flatten_cons, List.flatten_nil, List.append_nil, pfill, PV.cells, Nat.reduceMul, splice, List.take_zero, List.nil_append, List.drop_succ_cons, List.drop_nil, Nat.reduceLeDiff, okZero, Value.oneCell', known, chunk]
      refine ⟨⟨rd1, hl⟩, ?_⟩
      refine SWO.append (.tmp 23) (.tmp 25) 31 31 rfl ty31 rfl ty3 (by decide) rfl ty31 rfl hw1 (ys := [[.int .i64 (i : Nat)]]) rfl (by show (_ + 1) * 8 ≤ _; omega) (by simp [maxLen]; omega) rfl rfl ?_
      intro v' h' ow _ _
      refine SWO.run [] 1000 ?_
      simp only [wpS, stops, Bool.false_eq_true, ↓reduceIte, wantedA, okDst, AS.put, dropKey, Nat.reduceEqDiff, reduceCtorEq, Nat.reduceLT, decide_true, step1, isOwnCall, hxOp, px, AS.eval, AS.get, Lift.look, Option.getD_some, inQ, thenQ, true_and]
      refine SW.run [] _ ?_
      simp only [wpC, Bool.false_eq_true, ↓reduceIte, wpS, stops, wantedA, okDst, Nat.reduceLT, decide_true, step1, isOwnCall, hxOp, px, AS.eval, AS.get, Lift.look, Nat.reduceEqDiff, reduceCtorEq, Option.getD_some, isFlt, ty3, AS.put, dropKey, isNilC, pbinP, ofConst, ofVal, pbinI, hw, thenQ, Nat.succ_ne_zero, true_and]
      exact ⟨n - 1, by omega, i + 1, v', hlt, by omega, by rw [hrn]; unfold elN; rw [List.map_append]; exact ow, rfl, rfl⟩
    · rw [hcr, decide_eq_false hf, if_neg (by simp)] at hrn
      simp only [wpC, mayStop, stops, isFlt, Specs.has, Specs.hasO, Bool.or_false, Specs.hasH, eFirstR, Bool.false_or, List.any_cons, ↓reduceIte, Bool.not_true, List.any_nil, Bool.false_eq_true, wpS, wantedA, okDst, Nat.reduceLT, decide_true, step1, isOwnCall, hxOp, px, AS.eval, AS.get, Lift.look, Nat.succ_ne_zero, adr, Option.getD_some, AS.put, dropKey, Nat.reduceEqDiff, reduceCtorEq, pindexAddr, ty76, ty81, ne_eq, not_false_eq_true, Int.natCast_nonneg, Int.toNat_natCast, elO_len, hlt, and_self, hg, pload, okOne, TK.isAgg, Nat.reduceBEq, List.length_cons, List.length_nil, Nat.zero_add, Nat.reduceAdd, Nat.le_refl, Lift.valOf, List.take_succ_cons, List.take_nil, Bool.or_true, hx, okArg, ofConst, ofVal, List.all_cons, List.all_nil, Bool.and_true, Specs.atH, List.map_cons, List.map_nil, sFirstR, true_and, isNilC, pbinP, pbinI, hf, decide_false, thenQ, isB, tmpOf, asB, inQ]
      refine ⟨⟨rd1, hl⟩, ?_⟩
      refine SW.run [] _ ?_
      simp only [wpC, Bool.false_eq_true, ↓reduceIte, wpS, stops, wantedA, okDst, Nat.reduceLT, decide_true, step1, isOwnCall, hxOp, px, AS.eval, AS.get, Lift.look, Nat.reduceEqDiff, reduceCtorEq, Option.getD_some, isFlt, ty3, AS.put, dropKey, isNilC, pbinP, ofConst, ofVal, pbinI, hw, thenQ, Nat.succ_ne_zero, true_and]
      exact ⟨n - 1, by omega, i + 1, v, hlt, by omega, by rw [hrn]; exact hw1, rfl, rfl⟩
  · obtain rfl : i = os.length := by omega
    simp only [wpC, mayStop, stops, isFlt, Specs.has, Specs.hasO, Bool.or_false, Specs.hasH, Bool.not_false, List.any_cons, List.any_nil, Bool.false_eq_true, ↓reduceIte, wpS, wantedA, okDst, Nat.reduceLT, decide_true, step1, isOwnCall, hxOp, px, AS.eval, AS.get, Lift.look, reduceCtorEq, Nat.reduceEqDiff, Option.getD_some, AS.put, dropKey, adr, pcall, ty76, plen, elO_len, okLen, and_self, isNilC, pbinP, pbinI, Int.ofNat_lt, Nat.lt_irrefl, decide_false, thenQ, isB, tmpOf, asB, inQ, true_and]
    refine SW.own_let 7 rfl hw1 ?_
    refine SW.run [] _ ?_
    simp only [wpC, mayStop, stops, isFlt, Specs.has, Specs.hasO, Bool.or_false, Specs.hasH, Bool.not_false, List.any_cons, List.any_nil, Bool.false_eq_true, ↓reduceIte, wpS, wantedA, okDst, AS.put, dropKey, Nat.reduceEqDiff, reduceCtorEq, Nat.reduceLT, decide_true, step1, isOwnCall, hxOp, px, AS.eval, AS.get, Lift.look, Option.getD_some, thenQ, RPost, sres, Try.results29, sresL, sres1, Option.some.injEq, Ret_fin, HTo_self, and_true, exists_eq_left', and_self]
set_option maxRecDepth 100000 in
theorem Offers_ok (os : List (Int × Bool)) (h : Heap) (ho : os.length ≤ 1000000) : SCalls env 30 [.list 2 (elO os)] h (Ret (.list 2 (elO os)) h) := by
  refine SCalls.body Try.func30 rfl rfl (by simp [Try.ntmps30]) ?_
  refine SW.seq (SW.run [] _ ?_)
  simp only [wpC, Bool.false_eq_true, ↓reduceIte, wpS, stops, wantedA, okDst, Try.ntmps30, Nat.reduceLT, decide_true, step1, isOwnCall, hxOp, px, AS.eval, ofConst, ofVal, thenQ, AS.put, enumA, dropKey, reduceCtorEq, true_and]
  refine SW.seq (SW.run [] _ ?_)
  simp only [wpC, Bool.false_eq_true, ↓reduceIte, wpS, stops, wantedA, okDst, Nat.reduceLT, decide_true, step1, isOwnCall, hxOp, px, AS.eval, ofConst, ofVal, thenQ, AS.put, dropKey, Nat.reduceEqDiff, reduceCtorEq, true_and]
  refine SW.seq (SW.seq (SW.run [] _ ?_))
  simp only [wpC, Bool.false_eq_true, ↓reduceIte, wpS, stops, wantedA, okDst, Nat.reduceLT, decide_true, step1, isOwnCall, hxOp, px, AS.eval, ofConst, ofVal, thenQ, AS.put, dropKey, Nat.reduceEqDiff, reduceCtorEq, true_and]
  refine SW.block (SW.loop (fun n a => ∃ (i : Nat) (v : PV), i ≤ os.length ∧ os.length - i = n ∧ Own h 81 2 (elO (os.take i)) v a.h ∧ a.n = 26 ∧ hasAll a [(0, .list 2 (elO os)), (3, v), (4, .int .i64 (i : Nat))]) os.length ⟨0, .val (.slice none 0 0), Nat.zero_le _, rfl, Own.nil _ _ _, rfl, ?_⟩ ?_)
  · simp only [hasAll, AS.get, Lift.look, Nat.succ_ne_zero, ↓reduceIte, Option.getD_some, Nat.reduceEqDiff, Int.cast_ofNat_Int, and_self]
  rintro n a ⟨i, v, hi, hn', hw1, hn, hs⟩
  refine SW.norm ⟨hn, rfl, hs⟩ ?_
  generalize a.h = H at hw1
  clear hn hs
  refine SW.seq (SW.run [] _ ?_)
  by_cases hlt : i < os.length
  · have hw : IntKind.i64.wrap ((i : Int) + 1) = ((i + 1 : Nat) : Int) := by rw [w64 (by omega) (by omega)]; rfl
    have hg := elO_at hlt
    have hel : (elO (os.take i)).length = i := by rw [elO_len, List.length_take]; omega
    have hnx : elO (os.take (i + 1)) = elO (os.take i) ++ [[.int .i64 os[i].1, .bool os[i].2]] := by rw [take_snoc hlt]; unfold elO; rw [List.map_append]; rfl
    simp only [wpC, mayStop, stops, isFlt, Specs.has, Specs.hasO, Bool.or_false, Specs.hasH, Bool.not_false, List.any_cons, List.any_nil, Bool.false_eq_true, ↓reduceIte, wpS, wantedA, okDst, Nat.reduceLT, decide_true, step1, isOwnCall, hxOp, px, AS.eval, AS.get, Lift.look, reduceCtorEq, Nat.reduceEqDiff, Option.getD_some, AS.put, dropKey, Nat.succ_ne_zero, pcall, ty28, plen, elO_len, okLen, and_self, isNilC, pbinP, pbinI, Int.ofNat_lt, hlt, thenQ, isB, tmpOf, asB, hasAll, and_true, true_and]
    refine SW.seq (SW.block (SW.regionChain [] [([0, 1, 2, 3, 4, 5, 6, 7, 8, 9, 10, 11, 12], 13)] [14] rfl (by rfl) (by kernel_rfl) ?_))
    simp only [wpChain, wpO, LOp, List.getElem?_toArray, List.getElem?_cons_zero, okDst, Nat.reduceLT, decide_true, wantedA, ↓reduceIte, step1, isOwnCall, Bool.false_eq_true, hxOp, px, AS.eval, AS.get, Lift.look, Nat.reduceEqDiff, reduceCtorEq, Option.getD_some, List.getElem?_cons_succ, AS.put, dropKey, Nat.succ_ne_zero, pindexAddr, ty28, ty39, ne_eq, not_false_eq_true, Int.natCast_nonneg, Int.toNat_natCast, elO_len, hlt, and_self, hg, pfieldAddr, fieldOf, fieldIn, ty3, Option.map_some, List.drop_zero, pload, okOne, TK.isAgg, beq_self_eq_true, Bool.or_true, List.length_cons, List.length_nil, Nat.zero_add, Nat.reduceAdd, Nat.reduceLeDiff, Lift.valOf, List.take_succ_cons, List.take_zero, List.getD_cons_zero, ty4, List.drop_succ_cons, Nat.le_refl, List.take_nil, pbuild, ty81, List.map_cons, ofVal, List.map_nil, ofConst, pfill, placeOf, PV.cells, splice, List.nil_append, List.cons_append, List.drop_nil, List.append_nil, List.all_cons, Option.isSome_some, List.all_nil, Bool.and_true, okZero, Value.oneCell', known, pbuildSlice, ty76, List.replicate, List.flatten_cons, List.flatten_nil, Nat.reduceMul, chunk, Option.toList_some, decide_eq_true_eq, inQ, thenQ, true_and]
    refine SWO.append (.tmp 11) (.tmp 23) 76 76 rfl ty76 rfl ty81 (by decide) rfl ty76 rfl hw1 (ys := [[.int .i64 os[i].1, .bool os[i].2]]) rfl (by rw [hel]; show (i + 1) * 16 ≤ _; omega) (by rw [hel]; simp [maxLen]; omega) rfl rfl ?_
    intro v' h' ow _ _
    refine SWO.run [] 1000 ?_
    simp only [wpS, thenQ, AS.put, dropKey, Nat.reduceEqDiff, ↓reduceIte, reduceCtorEq, Nat.reduceLT, Lift.look, Option.getD_some, true_and]
    refine SW.run [] _ ?_
    simp only [wpC, Bool.false_eq_true, ↓reduceIte, wpS, stops, wantedA, okDst, Nat.reduceLT, decide_true, step1, isOwnCall, hxOp, px, AS.eval, AS.get, Lift.look, Nat.reduceEqDiff, reduceCtorEq, Option.getD_some, isFlt, ty3, AS.put, dropKey, isNilC, pbinP, ofConst, ofVal, pbinI, hw, thenQ, Nat.succ_ne_zero, true_and]
    exact ⟨n - 1, by omega, i + 1, v', hlt, by omega, by rw [hnx]; exact ow, rfl, rfl⟩
  · obtain rfl : i = os.length := by omega
    rw [List.take_length] at hw1
    simp only [wpC, mayStop, stops, isFlt, Specs.has, Specs.hasO, Bool.or_false, Specs.hasH, Bool.not_false, List.any_cons, List.any_nil, Bool.false_eq_true, ↓reduceIte, wpS, wantedA, okDst, Nat.reduceLT, decide_true, step1, isOwnCall, hxOp, px, AS.eval, AS.get, Lift.look, reduceCtorEq, Nat.reduceEqDiff, Option.getD_some, AS.put, dropKey, Nat.succ_ne_zero, pcall, ty28, plen, elO_len, okLen, and_self, isNilC, pbinP, pbinI, Int.ofNat_lt, Nat.lt_irrefl, decide_false, thenQ, isB, tmpOf, asB, inQ, true_and]
    refine SW.own_let 3 rfl hw1 ?_
    refine SW.run [] _ ?_
    simp only [wpC, mayStop, stops, isFlt, Specs.has, Specs.hasO, Bool.or_false, Specs.hasH, Bool.not_false, List.any_cons, List.any_nil, Bool.false_eq_true, ↓reduceIte, wpS, wantedA, okDst, AS.put, dropKey, Nat.reduceEqDiff, reduceCtorEq, Nat.reduceLT, decide_true, step1, isOwnCall, hxOp, px, AS.eval, AS.get, Lift.look, Option.getD_some, thenQ, RPost, sres, Try.results30, sresL, sres1, Option.some.injEq, Ret_fin, HTo_self, and_true, exists_eq_left', and_self]
end Go.Proofs.Ytekgfneapofgpaa
