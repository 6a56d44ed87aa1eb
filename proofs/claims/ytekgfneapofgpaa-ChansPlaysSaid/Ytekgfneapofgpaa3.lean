/- Contracts of functions that the law reaches. -/
import Derived.Test.Ytekgfneapofgpaa2
set_option linter.unusedSimpArgs false
set_option linter.unusedVariables false
namespace Go.Proofs.Ytekgfneapofgpaa
open Go Go.RowKit Go.Proofs.Ytekgfneapofgpaa Go.Proofs.Ytekgfneapofgpaa.Lift

/-! (*Board).first -/
def openI (gn : It → Bool) (p : Int) (i : It) : Bool := !(gn i || i.pid == p)
def fstS (gn : It → Bool) (B : Bo) (p c : Int) (s : Bool) : Option It := (qOf B.qs c (!s)).bind fun q => q.l.find? (openI gn p)
def fstV : Option It → PV
  | some i => .tuple [adr i.a, .bool true]
  | none => .tuple [.val (.pointer none), .bool false]
theorem take_none {α : Type} {f : α → Bool} {l : List α} {i : Nat} (hlt : i < l.length) (h : ∀ x ∈ l.take i, f x = false) (hf : f l[i] = false) : ∀ x ∈ l.take (i + 1), f x = false := by
  intro x hx
  rw [List.take_add_one, List.getElem?_eq_getElem hlt] at hx
  rcases List.mem_append.1 hx with hx | hx
  · exact h x hx
  · simp at hx; rw [hx]; exact hf
theorem take_find {α : Type} {f : α → Bool} {l : List α} {i : Nat} (hlt : i < l.length) (h : ∀ x ∈ l.take i, f x = false) (hf : f l[i] = true) : l.find? f = some l[i] := by
  have e : l = l.take i ++ l[i] :: l.drop (i + 1) := by
    rw [← List.drop_eq_getElem_cons hlt, List.take_append_drop]
  generalize hy : l[i] = y at *
  rw [e, List.find?_append, List.find?_eq_none.2 (fun x hx => by rw [h x hx]; decide)]
  simp [hf]
theorem first_find {h0 h : Heap} {gn : It → Bool} {B : Bo} (b : BOn h0 gn B h) {q : Qu} (hq : q ∈ B.qs) {i : Nat} (hi : i < q.l.length) : h q.l[i].a = some (itC (gn q.l[i]) q.l[i]) := b.hi _ (b.hsub q hq _ (List.getElem_mem hi))
theorem First_ok (p c : Int) (s : Bool) {h0 h : Heap} {gn : It → Bool} {B : Bo} (b : BOn h0 gn B h) : SCalls env 23 [adr B.rb, .int .i64 p, .agg [.int .i64 c, .bool s]] h (Ret (fstV (fstS gn B p c s)) h) := by
  have h1 := b.hb
  have h2 := b.hq
  have h3 := qE_fits B.qs
  have h4 := q_find c (!s) B.qs
  refine SCalls.body Try.func23 rfl rfl (by simp [Try.ntmps23]) ?_
  refine SW.seq (SW.run [] _ ?_)
  simp only [wpC, Bool.false_eq_true, ↓reduceIte, wpS, stops, wantedA, okDst, Try.ntmps23, Nat.reduceLT, decide_true, step1, known1, AS.eval, AS.get, enumA, Nat.zero_add, Nat.reduceAdd, Lift.look, reduceCtorEq, Nat.reduceEqDiff, Option.getD_some, AS.put, dropKey, isOwnCall, hxOp, px, ofConst, ofVal, PV.cells, List.length_cons, List.length_nil, thenQ, true_and]
  intro r hr
  have hrb : ¬ r = B.rb := by rintro rfl; rw [hr] at h1; cases h1
  have hbr : ¬ B.rb = r := fun e => hrb e.symm
  have hqr : ¬ B.rq = r := by rintro rfl; rw [hr] at h2; cases h2
  refine SW.scope (SW.seq (SW.regionAny [] [[0, 1, 2, 3, 4, 5, 6, 7, 8, 9, 10, 11, 12, 13, 14, 15]] rfl (by rfl) (by kernel_rfl) ?_))
  unfold fstS
  cases hq : qOf B.qs c (!s) with
  | none =>
    rw [hq] at h4
    simp only [wpOL, wpO, LOp, List.getElem?_toArray, List.getElem?_cons_zero, okDst, Nat.reduceLT, decide_true, wantedA, ↓reduceIte, step1, isOwnCall, Bool.false_eq_true, hxOp, px, AS.eval, AS.get, Lift.look, Nat.succ_ne_zero, adr, Option.getD_some, List.getElem?_cons_succ, AS.put, dropKey, Nat.reduceEqDiff, reduceCtorEq, pfieldAddr, fieldOf, ty58, fieldIn, ty55, Option.map_some, ne_eq, not_false_eq_true, Nat.add_zero, pload, Heap.get_put, hbr, h1, boC, okOne, TK.isAgg, beq_self_eq_true, Bool.or_true, Nat.zero_add, List.length_cons, List.length_nil, Nat.reduceAdd, Nat.reduceLeDiff, and_self, Lift.valOf, List.drop_zero, List.take_succ_cons, List.take_zero, List.getD_cons_zero, ty39, ty3, ty4, Nat.le_refl, List.drop_succ_cons, List.take_nil, pun, pbuild, List.map_cons, ofVal, List.map_nil, ofConst, pfill, placeOf, PV.cells, splice, List.nil_append, List.cons_append, List.drop_nil, List.append_nil, List.all_cons, Option.isSome_some, List.all_nil, Bool.and_true, okZero, Value.oneCell', known, plookup, ty64, hqr, h2, isAggV, glook, kk39, h3, fits, qE_len, h4, Option.map_none, Option.getD_none, Option.isSome_none, thenQ, true_and]
    refine SW.run [] _ ?_
    simp only [wpC, mayStop, stops, isFlt, Specs.has, Specs.hasO, Bool.or_false, Specs.hasH, Bool.not_false, List.any_cons, List.any_nil, Bool.false_eq_true, ↓reduceIte, wpS, wantedA, okDst, Nat.reduceLT, decide_true, step1, isOwnCall, hxOp, px, AS.eval, AS.get, Lift.look, Option.getD_some, AS.put, dropKey, Nat.reduceEqDiff, reduceCtorEq, pun, thenQ, isB, tmpOf, asB, ofConst, ofVal, noGo, RPost, sres, Try.results23, sresL, sres1, Option.some.injEq, fstV, Option.bind_none, Ret_fin, exists_eq_left', true_and]
    exact HTo.put (.refl _ _) hr _
  | some q =>
    rw [hq] at h4
    obtain ⟨hmem, _, _⟩ := qOf_mem hq
    have k1 := b.hqa q hmem
    have k2 := b.hbuf q hmem
    have har : ¬ q.qa = r := by rintro rfl; rw [hr] at k1; cases k1
    have hbu : ¬ q.buf = r := by rintro rfl; rw [hr] at k2; cases k2
    simp only [wpOL, wpO, LOp, List.getElem?_toArray, List.getElem?_cons_zero, okDst, Nat.reduceLT, decide_true, wantedA, ↓reduceIte, step1, isOwnCall, Bool.false_eq_true, hxOp, px, AS.eval, AS.get, Lift.look, Nat.succ_ne_zero, adr, Option.getD_some, List.getElem?_cons_succ, AS.put, dropKey, Nat.reduceEqDiff, reduceCtorEq, pfieldAddr, fieldOf, ty58, fieldIn, ty55, Option.map_some, ne_eq, not_false_eq_true, Nat.add_zero, pload, Heap.get_put, hbr, h1, boC, okOne, TK.isAgg, beq_self_eq_true, Bool.or_true, Nat.zero_add, List.length_cons, List.length_nil, Nat.reduceAdd, Nat.reduceLeDiff, and_self, Lift.valOf, List.drop_zero, List.take_succ_cons, List.take_zero, List.getD_cons_zero, ty39, ty3, ty4, Nat.le_refl, List.drop_succ_cons, List.take_nil, pun, pbuild, List.map_cons, ofVal, List.map_nil, ofConst, pfill, placeOf, PV.cells, splice, List.nil_append, List.cons_append, List.drop_nil, List.append_nil, List.all_cons, Option.isSome_some, List.all_nil, Bool.and_true, okZero, Value.oneCell', known, plookup, ty64, hqr, h2, isAggV, glook, kk39, h3, fits, qE_len, h4, thenQ, Option.bind_some, true_and]
    refine SW.seq (SW.run [] _ ?_)
    simp only [wpC, mayStop, stops, isFlt, Specs.has, Specs.hasO, Bool.or_false, Specs.hasH, Bool.not_false, List.any_cons, List.any_nil, Bool.false_eq_true, ↓reduceIte, wpS, wantedA, okDst, Nat.reduceLT, decide_true, step1, isOwnCall, hxOp, px, AS.eval, AS.get, Lift.look, Option.getD_some, AS.put, dropKey, Nat.reduceEqDiff, reduceCtorEq, pun, Bool.not_true, thenQ, isB, tmpOf, asB, true_and]
    refine SW.seq (SW.label ?_)
    simp only [thenQ]
    refine SW.seq (SW.seq (SW.run [] _ ?_))
    simp only [wpC, Bool.false_eq_true, ↓reduceIte, wpS, stops, wantedA, okDst, Nat.reduceLT, decide_true, step1, isOwnCall, hxOp, px, AS.eval, AS.get, Lift.look, Nat.reduceEqDiff, Option.getD_some, AS.put, dropKey, reduceCtorEq, pfieldAddr, fieldOf, ty67, fieldIn, List.getElem?_cons_zero, ty59, Option.map_some, ne_eq, Nat.succ_ne_zero, not_false_eq_true, Nat.add_zero, pload, Heap.get_put, har, k1, quC, okOne, TK.isAgg, beq_self_eq_true, Bool.or_true, Nat.zero_add, List.length_cons, List.length_nil, Nat.le_refl, and_self, Lift.valOf, List.drop_zero, List.take_succ_cons, List.take_nil, List.getD_cons_zero, pcall, plen, okLen, ofConst, ofVal, thenQ, true_and]
    refine SW.block (SW.loopH 52 (fun i : Nat => [(1, .int .i64 p), (6, .val (.pointer none)), (7, .bool false), (31, .val (.slice (some ⟨q.buf, 0, none⟩) q.l.length q.cap)), (32, .int .i64 (q.l.length : Nat)), (33, .int .i64 (i : Nat))]) (fun _ => h) (fun i => i ≤ q.l.length ∧ ∀ x ∈ q.l.take i, openI gn p x = false) (fun i => q.l.length - i) 0 ⟨Nat.zero_le _, by simp⟩ ⟨rfl, HTo.put (.refl _ _) hr _, ?_⟩ ?_)
    · simp only [hasAll, AS.get, Lift.look, Nat.reduceEqDiff, ↓reduceIte, reduceCtorEq, Option.getD_some, Int.cast_ofNat_Int, and_self]
    · rintro i ⟨hi, hsk⟩
      refine SW.run [] _ ?_
      by_cases hlt : i < q.l.length
      · have hw : IntKind.i64.wrap ((i : Int) + 1) = ((i + 1 : Nat) : Int) := by rw [w64 (by omega) (by have := (b.hcap q hmem).2; have := (b.hcap q hmem).1; simp only [maxLen] at *; omega)]; rfl
        have hra := adrs_at hlt
        have hit := first_find b hmem hlt
        have hrl : i + 1 ≤ q.l.length := hlt
        cases hg : gn q.l[i] with
        | true =>
          have ho : openI gn p q.l[i] = false := by unfold openI; rw [hg]; rfl
          simp only [wpC, mayStop, stops, isFlt, Specs.has, Specs.hasO, Bool.or_false, Specs.hasH, Bool.not_false, List.any_cons, List.any_nil, Bool.false_eq_true, ↓reduceIte, wpS, wantedA, okDst, Nat.reduceLT, decide_true, step1, isOwnCall, hxOp, px, isNilC, pbinP, AS.eval, AS.get, Lift.look, Nat.reduceEqDiff, Option.getD_some, pbinI, Int.ofNat_lt, hlt, thenQ, isB, AS.put, dropKey, tmpOf, asB, pindexAddr, ty59, ty61, Int.natCast_nonneg, and_self, Int.toNat_natCast, Nat.mul_one, Nat.zero_add, pload, k2, rowC, okOne, TK.isAgg, beq_self_eq_true, Bool.or_true, adrs_len, hrl, Lift.valOf, hra, adr, List.getD_cons_zero, pfieldAddr, fieldOf, ty63, fieldIn, List.getElem?_cons_succ, List.getElem?_cons_zero, ty4, Option.map_some, ne_eq, Nat.succ_ne_zero, not_false_eq_true, hit, itC, hg, Nat.reduceAdd, List.length_cons, List.length_nil, Nat.reduceLeDiff, List.drop_succ_cons, List.drop_zero, List.take_succ_cons, List.take_zero, List.getElem?_toArray, Option.bind_some, beq_tf, Option.some.injEq, ofConst, ofVal, ppick_true, inQ, ty3, hw, HTo_self, hasAll, and_true, true_and]
          exact ⟨i + 1, ⟨hlt, take_none hlt hsk ho⟩, by omega, rfl⟩
        | false =>
          by_cases hp : q.l[i].pid = p
          · have ho : openI gn p q.l[i] = false := by unfold openI; rw [hg, hp]; simp
            have hpb : (q.l[i].pid == p) = true := by simpa using hp
            simp only [wpC, mayStop, stops, isFlt, Specs.has, Specs.hasO, Bool.or_false, Specs.hasH, Bool.not_false, List.any_cons, List.any_nil, Bool.false_eq_true, ↓reduceIte, wpS, wantedA, okDst, Nat.reduceLT, decide_true, step1, isOwnCall, hxOp, px, isNilC, pbinP, AS.eval, AS.get, Lift.look, Nat.reduceEqDiff, Option.getD_some, pbinI, Int.ofNat_lt, hlt, thenQ, isB, AS.put, dropKey, tmpOf, asB, pindexAddr, ty59, ty61, Int.natCast_nonneg, and_self, Int.toNat_natCast, Nat.mul_one, Nat.zero_add, pload, k2, rowC, okOne, TK.isAgg, beq_self_eq_true, Bool.or_true, adrs_len, hrl, Lift.valOf, hra, adr, List.getD_cons_zero, pfieldAddr, fieldOf, ty63, fieldIn, List.getElem?_cons_succ, List.getElem?_cons_zero, ty4, Option.map_some, ne_eq, Nat.succ_ne_zero, not_false_eq_true, hit, itC, hg, Nat.reduceAdd, List.length_cons, List.length_nil, Nat.reduceLeDiff, List.drop_succ_cons, List.drop_zero, List.take_succ_cons, List.take_zero, List.getElem?_toArray, Option.bind_some, ty35, ty3, Nat.add_zero, hpb, ofConst, ofVal, ppick_bool, inQ, hw, HTo_self, hasAll, and_true, true_and]
            exact ⟨i + 1, ⟨hlt, take_none hlt hsk ho⟩, by omega, rfl⟩
          · have hpb : (q.l[i].pid == p) = false := by simpa using hp
            have ho : openI gn p q.l[i] = true := by unfold openI; rw [hg, hpb]; rfl
            have hf := take_find hlt hsk ho
            simp only [wpC, mayStop, stops, isFlt, Specs.has, Specs.hasO, Bool.or_false, Specs.hasH, Bool.not_false, List.any_cons, List.any_nil, Bool.false_eq_true, ↓reduceIte, wpS, wantedA, okDst, Nat.reduceLT, decide_true, step1, isOwnCall, hxOp, px, isNilC, pbinP, AS.eval, AS.get, Lift.look, Nat.reduceEqDiff, Option.getD_some, pbinI, Int.ofNat_lt, hlt, thenQ, isB, AS.put, dropKey, tmpOf, asB, pindexAddr, ty59, ty61, Int.natCast_nonneg, and_self, Int.toNat_natCast, Nat.mul_one, Nat.zero_add, pload, k2, rowC, okOne, TK.isAgg, beq_self_eq_true, Bool.or_true, adrs_len, hrl, Lift.valOf, hra, adr, List.getD_cons_zero, pfieldAddr, fieldOf, ty63, fieldIn, List.getElem?_cons_succ, List.getElem?_cons_zero, ty4, Option.map_some, ne_eq, Nat.succ_ne_zero, not_false_eq_true, hit, itC, hg, Nat.reduceAdd, List.length_cons, List.length_nil, Nat.reduceLeDiff, List.drop_succ_cons, List.drop_zero, List.take_succ_cons, List.take_zero, List.getElem?_toArray, Option.bind_some, ty35, ty3, Nat.add_zero, hpb, ofConst, ofVal, ppick_bool, inQ, noGo, RPost, sres, Try.results23, sresL, sres1, Option.some.injEq, fstV, hf, Ret_fin, HTo_self, and_true, exists_eq_left']
      · obtain rfl : i = q.l.length := by omega
        rw [List.take_length] at hsk
        have hf : q.l.find? (openI gn p) = none := List.find?_eq_none.2 (fun x hx => by rw [hsk x hx]; decide)
        simp only [wpC, mayStop, stops, isFlt, Specs.has, Specs.hasO, Bool.or_false, Specs.hasH, Bool.not_false, List.any_cons, List.any_nil, Bool.false_eq_true, ↓reduceIte, wpS, wantedA, okDst, Nat.reduceLT, decide_true, step1, isOwnCall, hxOp, px, isNilC, pbinP, AS.eval, AS.get, Lift.look, Nat.reduceEqDiff, Option.getD_some, pbinI, Int.ofNat_lt, Nat.lt_irrefl, decide_false, thenQ, isB, AS.put, dropKey, tmpOf, asB, inQ, true_and]
        refine SW.run [] _ ?_
        simp only [wpC, mayStop, stops, isFlt, Specs.has, Specs.hasO, Bool.or_false, Specs.hasH, Bool.not_false, List.any_cons, List.any_nil, Bool.false_eq_true, ↓reduceIte, wpS, wantedA, okDst, Nat.reduceLT, decide_true, step1, isOwnCall, hxOp, px, AS.eval, ofConst, ofVal, AS.put, dropKey, Nat.reduceEqDiff, thenQ, noGo, RPost, sres, Try.results23, sresL, sres1, AS.get, Lift.look, Option.getD_some, Option.some.injEq, fstV, hf, Ret_fin, HTo_self, and_true, exists_eq_left', and_self]
end Go.Proofs.Ytekgfneapofgpaa
