/- Contracts of functions that the law reaches. -/
import Derived.Test.Ytekgfneapofgpaaq
set_option linter.unusedSimpArgs false
set_option linter.unusedVariables false
namespace Go.Proofs.Ytekgfneapofgpaa
open Go Go.RowKit Go.Proofs.Ytekgfneapofgpaa Go.Proofs.Ytekgfneapofgpaa.Lift

/-! The reference: a process leaves -/
def sWaitsR (m : Nat) (ps : List Int) (es : List It) : List PV → Heap → Prop × PV × Heap
  | [.val (.pointer (some ⟨a, 0, none⟩)), .int .i64 p], h => (a = m ∧ Rd m ps es h ∧ ps.length ≤ 1000000, .bool (ps.contains p), h)
  | _, h => HBad h
noncomputable def eWaitsR (m : Nat) (ps : List Int) (es : List It) : SpecH env := ⟨34, sWaitsR m ps es, fun args h hc => by
  unfold sWaitsR at hc ⊢
  split at hc
  · rename_i a p
    obtain ⟨rfl, hr, hl⟩ := hc
    exact RWaits_ok hr p hl
  · exact hc.elim⟩
def keepP (p : Int) (ps : List Int) : List Int := ps.filter fun x => !(x == p)
theorem keepP_take {ps : List Int} {i : Nat} (h : i < ps.length) (p : Int) : keepP p (ps.take (i + 1)) = if (ps[i] == p) = true then keepP p (ps.take i) else keepP p (ps.take i) ++ [ps[i]] := by
  rw [take_snoc h]
  unfold keepP
  rw [List.filter_append, List.filter_cons]
  cases e : (ps[i] == p) <;> simp [e]
theorem keepS_take {es : List It} {i : Nat} (h : i < es.length) (g : It → Bool) : keepS g (es.take (i + 1)) = if g es[i] = true then keepS g (es.take i) else keepS g (es.take i) ++ [es[i]] := by
  rw [take_snoc h]
  unfold keepS
  rw [List.filter_append, List.filter_cons]
  cases e : g es[i] <;> simp [e]
theorem Own.form {h h' : Heap} {t : TypeId} {sz : Nat} {xs : List (List PV)} {v : PV} (o : Own h t sz xs v h') : ∃ A cap, v = .val (.slice A xs.length cap) := by
  rcases o with ⟨rfl, rfl, _⟩ | ⟨r, cap, rfl, _⟩
  · exact ⟨_, _, rfl⟩
  · exact ⟨_, _, rfl⟩
set_option maxHeartbeats 1000000 in
set_option maxRecDepth 100000 in
theorem RLeave_ok (p : Int) {h0 hA h : Heap} {gn : It → Bool} {B : Bo} {m : Nat} {ps : List Int} {es : List It} (r : RefOn h0 m ps es hA) (b : BOn hA gn B h) (hlp : ps.length ≤ 1000000) (hle : es.length ≤ 1000000) (hp : ps.contains p = true) :
    SCalls env 33 [adr m, .int .i64 p] h (fun e h' => e = .ret (.bool true) ∧ ∃ hA', RefOn h0 m (keepP p ps) (keepS (fun i => i.pid == p) es) hA' ∧ BOn hA' gn B h') := by
  have rd := r.rd b.inc
  obtain ⟨v1, v2, hm, h0m, r1, r2, i0⟩ := r
  obtain ⟨A1, c1, rfl, q1, q2, q3, q4⟩ := r1.at b.inc
  obtain ⟨A2, c2, rfl, s1, s2, s3, s4⟩ := r2.at b.inc
  have hm1 := b.inc _ _ hm
  rw [elP_len, elE_len] at hm1
  obtain ⟨Q, hQ⟩ : ∃ Q : SEnd → Heap → Prop, Q = (fun e h' => e = .ret (.bool true) ∧ ∃ hA', RefOn h0 m (keepP p ps) (keepS (fun i => i.pid == p) es) hA' ∧ BOn hA' gn B h') := ⟨_, rfl⟩
  rw [← hQ]
  refine SCalls.body Try.func33 rfl rfl (by simp [Try.ntmps33]) ?_
  refine SW.seq (SW.run [] _ ?_)
  simp only [wpC, Bool.false_eq_true, ↓reduceIte, wpS, stops, wantedA, okDst, Try.ntmps33, Nat.reduceLT, decide_true, step1, isOwnCall, hxOp, px, AS.eval, ofConst, ofVal, thenQ, AS.put, enumA, Nat.zero_add, dropKey, reduceCtorEq, Nat.reduceEqDiff, true_and]
  refine SW.seq (SW.run [eWaitsR m ps es] _ ?_)
  simp only [wpC, mayStop, stops, isFlt, Specs.has, Specs.hasO, Bool.or_false, Specs.hasH, eWaitsR, Bool.false_or, List.any_cons, ↓reduceIte, Bool.not_true, List.any_nil, Bool.false_eq_true, wpS, wantedA, okDst, Nat.reduceLT, decide_true, step1, isOwnCall, hxOp, px, AS.eval, AS.get, Lift.look, Nat.succ_ne_zero, adr, Option.getD_some, AS.put, dropKey, Nat.reduceEqDiff, reduceCtorEq, Bool.or_true, hx, okArg, ofConst, ofVal, List.all_cons, List.all_nil, Bool.and_true, Specs.atH, List.map_cons, List.map_nil, sWaitsR, true_and, hp, pun, thenQ, isB, tmpOf, asB]
  refine ⟨⟨rd, hlp⟩, ?_⟩
  refine SW.seq (SW.run [] _ ?_)
  simp only [wpC, Bool.false_eq_true, ↓reduceIte, wpS, stops, wantedA, okDst, Nat.reduceLT, decide_true, step1, isOwnCall, hxOp, px, AS.eval, ofConst, ofVal, thenQ, AS.put, dropKey, Nat.reduceEqDiff, reduceCtorEq, true_and]
  refine SW.seq (SW.seq (SW.run [] _ ?_))
  simp only [wpC, Bool.false_eq_true, ↓reduceIte, wpS, stops, wantedA, okDst, Nat.reduceLT, decide_true, step1, isOwnCall, hxOp, px, AS.eval, ofConst, ofVal, thenQ, AS.put, dropKey, Nat.reduceEqDiff, reduceCtorEq, true_and]
  refine SW.block (SW.loop (fun n a => ∃ (i : Nat) (v : PV), i ≤ ps.length ∧ ps.length - i = n ∧ Own h 3 1 (elP (keepP p (ps.take i))) v a.h ∧ a.n = 78 ∧ hasAll a [(0, adr m), (1, .int .i64 p), (5, v), (6, .int .i64 (i : Nat))]) ps.length ⟨0, .val (.slice none 0 0), Nat.zero_le _, rfl, Own.nil _ _ _, rfl, ?_⟩ ?_)
  · simp only [hasAll, AS.get, Lift.look, Nat.succ_ne_zero, ↓reduceIte, Option.getD_some, adr, Nat.reduceEqDiff, reduceCtorEq, Int.cast_ofNat_Int, and_self]
  rintro n a ⟨i, v, hi, hn', ho, hn, hs⟩
  refine SW.norm ⟨hn, rfl, hs⟩ ?_
  generalize a.h = H at ho
  clear hn hs
  have k1 := ho.inc _ _ hm1
  refine SW.seq (SW.run [] _ ?_)
  by_cases hlt : i < ps.length
  · have hw : IntKind.i64.wrap ((i : Int) + 1) = ((i + 1 : Nat) : Int) := by rw [w64 (by omega) (by omega)]; rfl
    obtain ⟨rr, hAA, hr3⟩ : ∃ r, A1 = some ⟨r, 0, none⟩ ∧ h r = some (.cells 3 (c1 * 1) (elP ps).flatten) := by
      rcases q4 with ⟨_, he, _⟩ | hr
      · have := elP_len ps; rw [he] at this; simp at this; omega
      · exact hr
    subst hAA
    have k2 := ho.inc _ _ hr3
    obtain ⟨f0, hfl⟩ := elP_flat hlt
    have hft := keepP_take hlt p
    have hFl : (keepP p (ps.take i)).length ≤ 1000000 := Nat.le_trans (List.length_filter_le _ _) (by rw [List.length_take]; omega)
    simp only [wpC, mayStop, stops, isFlt, Specs.has, Specs.hasO, Bool.or_false, Specs.hasH, Bool.not_false, List.any_cons, List.any_nil, Bool.false_eq_true, ↓reduceIte, wpS, wantedA, okDst, Nat.reduceLT, decide_true, step1, isOwnCall, hxOp, px, AS.eval, AS.get, Lift.look, reduceCtorEq, Nat.reduceEqDiff, Option.getD_some, AS.put, dropKey, adr, Nat.succ_ne_zero, pfieldAddr, fieldOf, ty47, fieldIn, List.getElem?_cons_zero, ty31, Option.map_some, ne_eq, not_false_eq_true, Nat.add_zero, pload, k1, okOne, TK.isAgg, beq_self_eq_true, Bool.or_true, Nat.zero_add, List.length_cons, List.length_nil, Nat.reduceAdd, Nat.reduceLeDiff, and_self, Lift.valOf, List.drop_zero, List.take_succ_cons, List.take_zero, List.getD_cons_zero, pcall, plen, okLen, isNilC, pbinP, pbinI, Int.ofNat_lt, hlt, thenQ, isB, tmpOf, asB, hasAll, and_true, true_and]
    refine SW.seq (SW.block (SW.run [] _ ?_))
    cases e1 : (ps[i] == p)
    · rw [e1, if_neg (by simp)] at hft
      simp only [wpC, mayStop, stops, isFlt, Specs.has, Specs.hasO, Bool.or_false, Specs.hasH, Bool.not_false, List.any_cons, List.any_nil, Bool.false_eq_true, ↓reduceIte, wpS, wantedA, okDst, Nat.reduceLT, decide_true, step1, isOwnCall, hxOp, px, AS.eval, AS.get, Lift.look, Nat.succ_ne_zero, Option.getD_some, AS.put, dropKey, Nat.reduceEqDiff, reduceCtorEq, pfieldAddr, fieldOf, ty47, fieldIn, List.getElem?_cons_zero, ty31, Option.map_some, ne_eq, not_false_eq_true, Nat.add_zero, pload, k1, okOne, TK.isAgg, beq_self_eq_true, Bool.or_true, Nat.zero_add, List.length_cons, List.length_nil, Nat.reduceAdd, Nat.reduceLeDiff, and_self, Lift.valOf, List.drop_zero, List.take_succ_cons, List.take_zero, List.getD_cons_zero, pindexAddr, ty3, Int.natCast_nonneg, Int.ofNat_lt, hlt, Int.toNat_natCast, k2, hfl, f0, isNilC, pbinP, pbinI, bne, e1, thenQ, isB, tmpOf, asB, pbuildSlice, List.replicate, List.map_cons, ofVal, List.map_nil, List.flatten_cons, List.flatten_nil, List.append_nil, ofConst, pfill, PV.cells, Nat.reduceMul, Nat.le_refl, splice, List.nil_append, List.drop_succ_cons, List.drop_nil, okZero, List.all_cons, Value.oneCell', List.all_nil, Bool.and_true, known, chunk, List.take_nil, true_and]
      refine SWO.append (.tmp 31) (.tmp 39) 31 31 rfl ty31 rfl ty3 (by decide) rfl ty31 rfl ho (ys := [[.int .i64 ps[i]]]) rfl (by rw [elP_len]; show (_ + 1) * 8 ≤ _; omega) (by rw [elP_len]; simp [maxLen]; omega) rfl rfl ?_
      intro v' h' ow _ _
      refine SWO.run [] 1000 ?_
      simp only [wpS, stops, Bool.false_eq_true, ↓reduceIte, wantedA, okDst, AS.put, dropKey, Nat.reduceEqDiff, reduceCtorEq, Nat.reduceLT, decide_true, step1, isOwnCall, hxOp, px, AS.eval, AS.get, Lift.look, Option.getD_some, inQ, thenQ, true_and]
      refine SW.run [] _ ?_
      simp only [wpC, Bool.false_eq_true, ↓reduceIte, wpS, stops, wantedA, okDst, Nat.reduceLT, decide_true, step1, isOwnCall, hxOp, px, AS.eval, AS.get, Lift.look, Nat.reduceEqDiff, reduceCtorEq, Option.getD_some, isFlt, ty3, AS.put, dropKey, isNilC, pbinP, ofConst, ofVal, pbinI, hw, thenQ, Nat.succ_ne_zero, true_and]
      exact ⟨n - 1, by omega, i + 1, v', hlt, by omega, by rw [hft]; unfold elP; rw [List.map_append]; exact ow, rfl, rfl⟩
    · rw [e1, if_pos rfl] at hft
      simp only [wpC, mayStop, stops, isFlt, Specs.has, Specs.hasO, Bool.or_false, Specs.hasH, Bool.not_false, List.any_cons, List.any_nil, Bool.false_eq_true, ↓reduceIte, wpS, wantedA, okDst, Nat.reduceLT, decide_true, step1, isOwnCall, hxOp, px, AS.eval, AS.get, Lift.look, Nat.succ_ne_zero, Option.getD_some, AS.put, dropKey, Nat.reduceEqDiff, reduceCtorEq, pfieldAddr, fieldOf, ty47, fieldIn, List.getElem?_cons_zero, ty31, Option.map_some, ne_eq, not_false_eq_true, Nat.add_zero, pload, k1, okOne, TK.isAgg, beq_self_eq_true, Bool.or_true, Nat.zero_add, List.length_cons, List.length_nil, Nat.reduceAdd, Nat.reduceLeDiff, and_self, Lift.valOf, List.drop_zero, List.take_succ_cons, List.take_zero, List.getD_cons_zero, pindexAddr, ty3, Int.natCast_nonneg, Int.ofNat_lt, hlt, Int.toNat_natCast, k2, hfl, f0, isNilC, pbinP, pbinI, bne, e1, Bool.not_true, thenQ, isB, tmpOf, asB, inQ, true_and]
      refine SW.run [] _ ?_
      simp only [wpC, Bool.false_eq_true, ↓reduceIte, wpS, stops, wantedA, okDst, Nat.reduceLT, decide_true, step1, isOwnCall, hxOp, px, AS.eval, AS.get, Lift.look, Nat.reduceEqDiff, reduceCtorEq, Option.getD_some, isFlt, ty3, AS.put, dropKey, isNilC, pbinP, ofConst, ofVal, pbinI, hw, thenQ, Nat.succ_ne_zero, true_and]
      exact ⟨n - 1, by omega, i + 1, v, hlt, by omega, by rw [hft]; exact ho, rfl, rfl⟩
  · obtain rfl : i = ps.length := by omega
    rw [List.take_length] at ho
    simp only [wpC, mayStop, stops, isFlt, Specs.has, Specs.hasO, Bool.or_false, Specs.hasH, Bool.not_false, List.any_cons, List.any_nil, Bool.false_eq_true, ↓reduceIte, wpS, wantedA, okDst, Nat.reduceLT, decide_true, step1, isOwnCall, hxOp, px, AS.eval, AS.get, Lift.look, reduceCtorEq, Nat.reduceEqDiff, Option.getD_some, AS.put, dropKey, adr, Nat.succ_ne_zero, pfieldAddr, fieldOf, ty47, fieldIn, List.getElem?_cons_zero, ty31, Option.map_some, ne_eq, not_false_eq_true, Nat.add_zero, pload, k1, okOne, TK.isAgg, beq_self_eq_true, Bool.or_true, Nat.zero_add, List.length_cons, List.length_nil, Nat.reduceAdd, Nat.reduceLeDiff, and_self, Lift.valOf, List.drop_zero, List.take_succ_cons, List.take_zero, List.getD_cons_zero, pcall, plen, okLen, isNilC, pbinP, pbinI, Int.ofNat_lt, Nat.lt_irrefl, decide_false, thenQ, isB, tmpOf, asB, inQ, true_and]
    obtain ⟨hA1, b1, i1, w1⟩ := RowIn.ofOwn ho b i0
    obtain ⟨Av, cv, ev⟩ := Own.form ho
    have k2 : ∀ r X, h r = some X → H r = some X := ho.inc
    clear ho
    subst ev
    refine SW.seq (SW.run [] _ ?_)
    simp only [wpC, Bool.false_eq_true, ↓reduceIte, wpS, stops, wantedA, okDst, Nat.reduceLT, decide_true, step1, isOwnCall, hxOp, px, AS.eval, ofConst, ofVal, thenQ, AS.put, dropKey, Nat.reduceEqDiff, reduceCtorEq, true_and]
    refine SW.seq (SW.seq (SW.run [] _ ?_))
    simp only [wpC, Bool.false_eq_true, ↓reduceIte, wpS, stops, wantedA, okDst, Nat.reduceLT, decide_true, step1, isOwnCall, hxOp, px, AS.eval, ofConst, ofVal, thenQ, AS.put, dropKey, Nat.reduceEqDiff, reduceCtorEq, true_and]
    obtain ⟨L1, hL1⟩ : ∃ n, n = (elP (keepP p ps)).length := ⟨_, rfl⟩
    rw [← hL1] at w1 ⊢
    refine SW.block (SW.loop (fun n a => ∃ (i : Nat) (v : PV), i ≤ es.length ∧ es.length - i = n ∧ Own H 78 4 (elE (keepS (fun x => x.pid == p) (es.take i))) v a.h ∧ a.n = 78 ∧ hasAll a [(0, adr m), (1, .int .i64 p), (5, .val (.slice Av L1 cv)), (7, v), (8, .int .i64 (i : Nat))]) es.length ⟨0, .val (.slice none 0 0), Nat.zero_le _, rfl, Own.nil _ _ _, rfl, ?_⟩ ?_)
    · simp only [hasAll, AS.get, Lift.look, Nat.succ_ne_zero, ↓reduceIte, Option.getD_some, adr, Nat.reduceEqDiff, reduceCtorEq, Int.cast_ofNat_Int, and_self]
    clear hi hlt hn'
    rintro n a ⟨i, v, hi, hn', ho, hn, hs⟩
    refine SW.norm ⟨hn, rfl, hs⟩ ?_
    generalize a.h = H2 at ho
    clear hn hs
    have k3 := ho.inc _ _ k1
    refine SW.seq (SW.run [] _ ?_)
    by_cases hlt : i < es.length
    · have hw : IntKind.i64.wrap ((i : Int) + 1) = ((i + 1 : Nat) : Int) := by rw [w64 (by omega) (by omega)]; rfl
      obtain ⟨rr, hAA, hr3⟩ : ∃ r, A2 = some ⟨r, 0, none⟩ ∧ h r = some (.cells 78 (c2 * 4) (elE es).flatten) := by
        rcases s4 with ⟨_, he, _⟩ | hr
        · have := elE_len es; rw [he] at this; simp at this; omega
        · exact hr
      subst hAA
      have k4 := ho.inc _ _ (k2 _ _ hr3)
      obtain ⟨f0, f2, f3, f4, hfl⟩ := elE_flat hlt
      have l1 : i * 4 + 1 ≤ (elE es).flatten.length := by omega
      have hft := keepS_take hlt (fun x => x.pid == p)
      have hFl : (keepS (fun x => x.pid == p) (es.take i)).length ≤ 1000000 := Nat.le_trans (keep_len _ _) (by rw [List.length_take]; omega)
      obtain ⟨X, hX⟩ : ∃ X, X = es[i] := ⟨_, rfl⟩
      rw [← hX] at f0 f2 f3 f4 hft
      simp only [wpC, mayStop, stops, isFlt, Specs.has, Specs.hasO, Bool.or_false, Specs.hasH, Bool.not_false, List.any_cons, List.any_nil, Bool.false_eq_true, ↓reduceIte, wpS, wantedA, okDst, Nat.reduceLT, decide_true, step1, isOwnCall, hxOp, px, AS.eval, AS.get, Lift.look, reduceCtorEq, Nat.reduceEqDiff, Option.getD_some, AS.put, dropKey, adr, Nat.succ_ne_zero, pfieldAddr, fieldOf, ty47, fieldIn, List.getElem?_cons_succ, List.getElem?_cons_zero, ty45, Option.map_some, ne_eq, not_false_eq_true, Nat.zero_add, pload, k3, okOne, TK.isAgg, beq_self_eq_true, Bool.or_true, Nat.reduceAdd, List.length_cons, List.length_nil, Nat.le_refl, and_self, Lift.valOf, List.drop_succ_cons, List.drop_zero, List.take_succ_cons, List.take_nil, List.getD_cons_zero, pcall, plen, okLen, isNilC, pbinP, pbinI, Int.ofNat_lt, hlt, thenQ, isB, tmpOf, asB, hasAll, and_true, true_and]
      refine SW.seq (SW.block (SW.run [] _ ?_))
      cases e1 : (X.pid == p)
      · rw [e1, if_neg (by simp)] at hft
        simp only [wpC, mayStop, stops, isFlt, Specs.has, Specs.hasO, Bool.or_false, Specs.hasH, Bool.not_false, List.any_cons, List.any_nil, Bool.false_eq_true, ↓reduceIte, wpS, wantedA, okDst, Nat.reduceLT, decide_true, step1, isOwnCall, hxOp, px, AS.eval, AS.get, Lift.look, Nat.succ_ne_zero, Option.getD_some, AS.put, dropKey, Nat.reduceEqDiff, reduceCtorEq, pfieldAddr, fieldOf, ty47, fieldIn, List.getElem?_cons_succ, List.getElem?_cons_zero, ty45, Option.map_some, ne_eq, not_false_eq_true, Nat.zero_add, pload, k3, okOne, TK.isAgg, beq_self_eq_true, Bool.or_true, Nat.reduceAdd, List.length_cons, List.length_nil, Nat.le_refl, and_self, Lift.valOf, List.drop_succ_cons, List.drop_zero, List.take_succ_cons, List.take_nil, List.getD_cons_zero, pindexAddr, ty78, Int.natCast_nonneg, Int.ofNat_lt, hlt, Int.toNat_natCast, ty3, Nat.add_zero, k4, l1, f0, isNilC, pbinP, pbinI, bne, e1, thenQ, isB, tmpOf, asB, Nat.reduceBEq, hfl, f4, enC, pbuildSlice, List.replicate, List.map_cons, ofVal, List.map_nil, List.flatten_cons, List.flatten_nil, List.append_nil, ofConst, pfill, PV.cells, Nat.reduceMul, splice, List.take_zero, List.nil_append, List.drop_nil, Nat.reduceLeDiff, okZero, List.all_cons, Value.oneCell', List.all_nil, Bool.and_true, known, chunk, true_and]
        refine SWO.append (.tmp 60) (.tmp 68) 45 45 rfl ty45 rfl ty78 (by decide) rfl ty45 rfl ho (ys := [enC X]) rfl (by rw [elE_len]; show (_ + 1) * 32 ≤ _; omega) (by rw [elE_len]; simp [maxLen]; omega) rfl rfl ?_
        intro v' h' ow _ _
        refine SWO.run [] 1000 ?_
        simp only [wpS, stops, Bool.false_eq_true, ↓reduceIte, wantedA, okDst, AS.put, dropKey, Nat.reduceEqDiff, reduceCtorEq, Nat.reduceLT, decide_true, step1, isOwnCall, hxOp, px, AS.eval, AS.get, Lift.look, Option.getD_some, inQ, thenQ, true_and]
        refine SW.run [] _ ?_
        simp only [wpC, Bool.false_eq_true, ↓reduceIte, wpS, stops, wantedA, okDst, Nat.reduceLT, decide_true, step1, isOwnCall, hxOp, px, AS.eval, AS.get, Lift.look, Nat.reduceEqDiff, reduceCtorEq, Option.getD_some, isFlt, ty3, AS.put, dropKey, isNilC, pbinP, ofConst, ofVal, pbinI, hw, thenQ, Nat.succ_ne_zero, true_and]
        exact ⟨n - 1, by omega, i + 1, v', hlt, by omega, by rw [hft, elE_snoc]; exact ow, rfl, rfl⟩
      · rw [e1, if_pos rfl] at hft
        simp only [wpC, mayStop, stops, isFlt, Specs.has, Specs.hasO, Bool.or_false, Specs.hasH, Bool.not_false, List.any_cons, List.any_nil, Bool.false_eq_true, ↓reduceIte, wpS, wantedA, okDst, Nat.reduceLT, decide_true, step1, isOwnCall, hxOp, px, AS.eval, AS.get, Lift.look, Nat.succ_ne_zero, Option.getD_some, AS.put, dropKey, Nat.reduceEqDiff, reduceCtorEq, pfieldAddr, fieldOf, ty47, fieldIn, List.getElem?_cons_succ, List.getElem?_cons_zero, ty45, Option.map_some, ne_eq, not_false_eq_true, Nat.zero_add, pload, k3, okOne, TK.isAgg, beq_self_eq_true, Bool.or_true, Nat.reduceAdd, List.length_cons, List.length_nil, Nat.le_refl, and_self, Lift.valOf, List.drop_succ_cons, List.drop_zero, List.take_succ_cons, List.take_nil, List.getD_cons_zero, pindexAddr, ty78, Int.natCast_nonneg, Int.ofNat_lt, hlt, Int.toNat_natCast, ty3, Nat.add_zero, k4, l1, f0, isNilC, pbinP, pbinI, bne, e1, Bool.not_true, thenQ, isB, tmpOf, asB, inQ, true_and]
        refine SW.run [] _ ?_
        simp only [wpC, Bool.false_eq_true, ↓reduceIte, wpS, stops, wantedA, okDst, Nat.reduceLT, decide_true, step1, isOwnCall, hxOp, px, AS.eval, AS.get, Lift.look, Nat.reduceEqDiff, reduceCtorEq, Option.getD_some, isFlt, ty3, AS.put, dropKey, isNilC, pbinP, ofConst, ofVal, pbinI, hw, thenQ, Nat.succ_ne_zero, true_and]
        exact ⟨n - 1, by omega, i + 1, v, hlt, by omega, by rw [hft]; exact ho, rfl, rfl⟩
    · obtain rfl : i = es.length := by omega
      rw [List.take_length] at ho
      simp only [wpC, mayStop, stops, isFlt, Specs.has, Specs.hasO, Bool.or_false, Specs.hasH, Bool.not_false, List.any_cons, List.any_nil, Bool.false_eq_true, ↓reduceIte, wpS, wantedA, okDst, Nat.reduceLT, decide_true, step1, isOwnCall, hxOp, px, AS.eval, AS.get, Lift.look, reduceCtorEq, Nat.reduceEqDiff, Option.getD_some, AS.put, dropKey, adr, Nat.succ_ne_zero, pfieldAddr, fieldOf, ty47, fieldIn, List.getElem?_cons_succ, List.getElem?_cons_zero, ty45, Option.map_some, ne_eq, not_false_eq_true, Nat.zero_add, pload, k3, okOne, TK.isAgg, beq_self_eq_true, Bool.or_true, Nat.reduceAdd, List.length_cons, List.length_nil, Nat.le_refl, and_self, Lift.valOf, List.drop_succ_cons, List.drop_zero, List.take_succ_cons, List.take_nil, List.getD_cons_zero, pcall, plen, okLen, isNilC, pbinP, pbinI, Int.ofNat_lt, Nat.lt_irrefl, decide_false, thenQ, isB, tmpOf, asB, inQ, true_and]
      obtain ⟨hA2, b2, i2, w2⟩ := RowIn.ofOwn ho b1 (incTrans i0 i1)
      obtain ⟨Aw, cw, ew⟩ := Own.form ho
      clear ho
      subst ew
      obtain ⟨L2, hL2⟩ : ∃ n, n = (elE (keepS (fun x => x.pid == p) es)).length := ⟨_, rfl⟩
      rw [← hL2] at w2 ⊢
      refine SW.seq (SW.run [] _ ?_)
      simp only [wpC, Bool.false_eq_true, ↓reduceIte, wpS, stops, wantedA, okDst, Nat.reduceLT, decide_true, step1, isOwnCall, hxOp, px, AS.eval, AS.get, Lift.look, Nat.succ_ne_zero, Option.getD_some, AS.put, dropKey, Nat.reduceEqDiff, reduceCtorEq, pfieldAddr, fieldOf, ty47, fieldIn, List.getElem?_cons_zero, ty31, Option.map_some, ne_eq, not_false_eq_true, Nat.add_zero, hx, k3, known1, PV.cells, List.length_cons, List.length_nil, Nat.zero_add, Nat.reduceAdd, Nat.reduceLeDiff, and_self, splice, List.take_zero, List.nil_append, List.drop_succ_cons, List.drop_zero, List.cons_append, List.getElem?_cons_succ, ty45, Heap.get_put, Nat.le_refl, List.take_succ_cons, List.drop_nil, List.append_nil, thenQ, true_and]
      refine SW.run [] _ ?_
      simp only [wpC, mayStop, stops, isFlt, Specs.has, Specs.hasO, Bool.or_false, Specs.hasH, Bool.not_false, List.any_cons, List.any_nil, Bool.false_eq_true, ↓reduceIte, wpS, wantedA, okDst, Nat.reduceLT, decide_true, step1, isOwnCall, hxOp, px, AS.eval, ofConst, ofVal, thenQ, RPost, sres, AS.put, dropKey, Nat.reduceEqDiff, reduceCtorEq, Try.results33, sresL, sres1, AS.get, Lift.look, Option.getD_some, Option.some.injEq, exists_eq_left', true_and]
      rw [Heap.put_put]
      refine ⟨_, .refl _ _, ?_⟩
      rw [hQ]
      have m2 : hA2 m = some (.cells 47 2 [.val (.slice A1 (elP ps).length c1), .val (.slice A2 (elE es).length c2)]) := i2 _ _ (i1 _ _ hm)
      refine ⟨rfl, hA2.put m (.cells 47 2 [.val (.slice Av L1 cv), .val (.slice Aw L2 cw)]), ⟨_, _, Heap.put_same _ _ _, h0m, w1.keep fun r cs n e => ?_, w2.keep fun r cs n e => ?_, fun k Y e => ?_⟩, b2.over (.inl (by rw [m2]; simp)) _⟩
      · have e := i2 _ _ e
        have : r ≠ m := by rintro rfl; rw [m2] at e; cases e
        rw [Heap.put_ne _ _ this]; exact e
      · have : r ≠ m := by rintro rfl; rw [m2] at e; cases e
        rw [Heap.put_ne _ _ this]; exact e
      · have : k ≠ m := by rintro rfl; rw [h0m] at e; cases e
        rw [Heap.put_ne _ _ this]; exact i2 _ _ (i1 _ _ (i0 _ _ e))
theorem RLeave_no (p : Int) {h : Heap} {m : Nat} {ps : List Int} {es : List It} (rd : Rd m ps es h) (hlp : ps.length ≤ 1000000) (hp : ps.contains p = false) : SCalls env 33 [adr m, .int .i64 p] h (Ret (.bool false) h) := by
  refine SCalls.body Try.func33 rfl rfl (by simp [Try.ntmps33]) ?_
  refine SW.seq (SW.run [] _ ?_)
  simp only [wpC, Bool.false_eq_true, ↓reduceIte, wpS, stops, wantedA, okDst, Try.ntmps33, Nat.reduceLT, decide_true, step1, isOwnCall, hxOp, px, AS.eval, ofConst, ofVal, thenQ, AS.put, enumA, Nat.zero_add, dropKey, reduceCtorEq, Nat.reduceEqDiff, true_and]
  refine SW.seq (SW.run [eWaitsR m ps es] _ ?_)
  simp only [wpC, mayStop, stops, isFlt, Specs.has, Specs.hasO, Bool.or_false, Specs.hasH, eWaitsR, Bool.false_or, List.any_cons, ↓reduceIte, Bool.not_true, List.any_nil, Bool.false_eq_true, wpS, wantedA, okDst, Nat.reduceLT, decide_true, step1, isOwnCall, hxOp, px, AS.eval, AS.get, Lift.look, Nat.succ_ne_zero, adr, Option.getD_some, AS.put, dropKey, Nat.reduceEqDiff, reduceCtorEq, Bool.or_true, hx, okArg, ofConst, ofVal, List.all_cons, List.all_nil, Bool.and_true, Specs.atH, List.map_cons, List.map_nil, sWaitsR, true_and, hp, pun, Bool.not_false, thenQ, isB, tmpOf, asB, RPost, sres, Try.results33, sresL, sres1, Option.some.injEq, Ret_fin, HTo_self, and_true, exists_eq_left', and_self]
  exact ⟨rd, hlp⟩
end Go.Proofs.Ytekgfneapofgpaa
