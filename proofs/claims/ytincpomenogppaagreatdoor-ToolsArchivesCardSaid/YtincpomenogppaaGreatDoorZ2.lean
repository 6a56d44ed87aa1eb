/- Contracts of functions that the law reaches. -/
import Derived.Test.YtincpomenogppaaGreatDoorXb
set_option linter.unusedSimpArgs false
set_option linter.unusedVariables false
namespace Go.Proofs.YtincpomenogppaaGreatDoor
open Go Go.RowKit Go.Proofs.YtincpomenogppaaGreatDoor Go.Proofs.YtincpomenogppaaGreatDoor.Lift
set_option maxRecDepth 100000

def decR (s : List UInt8) (at_ : Nat) : PV := .tuple [.int .i64 (decB (s.drop at_)), .int .i64 ((at_ + (rnumF 0 (s.drop at_)).2 : Nat) : Int)]
set_option maxHeartbeats 4000000 in
set_option maxRecDepth 100000 in
theorem RDecimal_ok (s : List UInt8) (a : Nat) (hs : s.length ≤ 1000000) (ha : a ≤ s.length) (h : Heap) : SCalls env 85 [.str s, .int .i64 (a : Nat)] h (Ret (decR s a) h) := by
  refine SCalls.body Tryz.func85 rfl rfl (by simp [Tryz.ntmps85]) ?_
  have hlen := rnumF_len (s.drop a) 0
  rw [List.length_drop] at hlen
  have hnum := rnumF_bounds (s.drop a) 0 (by omega)
  unfold decR
  have hrn : decB (s.drop a) = if (rnumF 0 (s.drop a)).2 = 0 ∨ (rnumF 0 (s.drop a)).1 < 0 ∨ Lib.itoa (rnumF 0 (s.drop a)).1 ≠ (s.drop a).take (rnumF 0 (s.drop a)).2 then -1 else (rnumF 0 (s.drop a)).1 := rfl
  generalize decB (s.drop a) = rv at *
  obtain ⟨F, hF⟩ : ∃ F, F = rnumF 0 (s.drop a) := ⟨_, rfl⟩
  rw [← hF] at hlen hnum hrn ⊢
  refine SW.seq (SW.run [] _ ?_)
  simp only [wpC, Bool.false_eq_true, ↓reduceIte, wpS, stops, wantedA, okDst, Tryz.ntmps85, Nat.reduceLT, decide_true, step1, isOwnCall, hxOp, px, AS.eval, ofConst, ofVal, AS.put, enumA, Nat.zero_add, dropKey, reduceCtorEq, Nat.reduceEqDiff, thenQ, true_and]
  refine SW.seq (SW.run [] _ ?_)
  simp only [wpC, Bool.false_eq_true, ↓reduceIte, wpS, stops, wantedA, okDst, Nat.reduceLT, decide_true, step1, isOwnCall, hxOp, px, AS.eval, AS.get, Lift.look, Nat.reduceEqDiff, reduceCtorEq, Option.getD_some, AS.put, dropKey, ofConst, ofVal, thenQ, true_and]
  refine SW.seq (SW.block ?_)
  refine SW.loopK 60 (fun x : Nat × Nat => [(0, .str s), (1, .int .i64 (x.1 : Nat)), (6, .int .i64 (x.2 : Nat)), (7, .int .i64 (a : Nat))]) (fun _ => h) (fun x => a ≤ x.1 ∧ x.1 ≤ s.length ∧ x.2 ≤ 9223372036854775807 ∧ F.1 = (rnumF x.2 (s.drop x.1)).1 ∧ F.2 = (rnumF x.2 (s.drop x.1)).2 + (x.1 - a)) (fun x => s.length - x.1) (a, 0) ⟨Nat.le_refl _, ha, by show 0 ≤ _; omega, by rw [hF], by rw [hF]; simp⟩ ?_ ?_
  · simp only [Has, hasAll, AS.get, Lift.look, Nat.succ_ne_zero, ↓reduceIte, Option.getD_some, Nat.reduceEqDiff, reduceCtorEq, Int.cast_ofNat_Int, and_self]
  rintro ⟨j, acc⟩ ⟨h1, h2, h3, h4, h5⟩
  have h1 : a ≤ j := h1
  have h2 : j ≤ s.length := h2
  have h3 : acc ≤ 9223372036854775807 := h3
  have h4 : F.1 = (rnumF acc (s.drop j)).1 := h4
  have h5 : F.2 = (rnumF acc (s.drop j)).2 + (j - a) := h5
  by_cases hgo : ∃ hj : j < s.length, digB s[j] = true
  · obtain ⟨hj, hdg⟩ := hgo
    rw [List.drop_eq_getElem_cons hj] at h4 h5
    unfold rnumF at h4 h5
    rw [if_pos hdg] at h4 h5
    have hdg2 := hdg
    unfold digB at hdg2
    rw [Bool.and_eq_true, decide_eq_true_eq, decide_eq_true_eq] at hdg2
    obtain ⟨d1, d2⟩ := hdg2
    have hgt : s.getD j 0 = s[j] := by rw [List.getD_eq_getElem?_getD, List.getElem?_eq_getElem hj]; rfl
    obtain ⟨b, hb⟩ : ∃ b, b = s[j] := ⟨_, rfl⟩
    rw [← hb] at hgt d1 d2 h4 h5
    have hj' : (j : Int) < (s.length : Int) := by omega
    have k1 : (48 : Int) ≤ ((b.toNat : Nat) : Int) := by omega
    have k2 : ((b.toNat : Nat) : Int) ≤ 57 := by omega
    have w1 : IntKind.u8.wrap (((b.toNat : Nat) : Int) - 48) = ((b.toNat - 48 : Nat) : Int) := by
      rw [IntKind.wrap_u8]; omega
    have w2 : IntKind.i64.wrap ((b.toNat - 48 : Nat) : Int) = ((b.toNat - 48 : Nat) : Int) := w64 (by omega) (by omega)
    have w3 : IntKind.i64.wrap (9223372036854775807 - ((b.toNat - 48 : Nat) : Int)) = ((9223372036854775807 - (b.toNat - 48) : Nat) : Int) := by rw [w64 (by omega) (by omega)]; omega
    have w4 : IntKind.i64.wrap (Int.tdiv ((9223372036854775807 - (b.toNat - 48) : Nat) : Int) 10) = (((9223372036854775807 - (b.toNat - 48)) / 10 : Nat) : Int) := by
      have := (Int.ofNat_tdiv (9223372036854775807 - (b.toNat - 48)) 10).symm
      rw [show Int.tdiv ((9223372036854775807 - (b.toNat - 48) : Nat) : Int) 10 = (((9223372036854775807 - (b.toNat - 48)) / 10 : Nat) : Int) from this, w64 (by omega) (by omega)]
    have wj : IntKind.i64.wrap ((j : Int) + 1) = ((j + 1 : Nat) : Int) := by rw [w64 (by omega) (by omega)]; rfl
    by_cases hov : (9223372036854775807 - (b.toNat - 48)) / 10 < acc
    · rw [if_pos hov] at h4 h5
      have k3 : (((9223372036854775807 - (b.toNat - 48)) / 10 : Nat) : Int) < ((acc : Nat) : Int) := by omega
      have hj2 : j = a + F.2 := by omega
      have hr1 : rv = -1 := by rw [hrn, if_pos (.inr (.inl (by rw [h4]; decide)))]
      subst hr1
      refine SW.run [] _ ?_
      simp only [wpC, mayStop, stops, isFlt, Specs.has, Specs.hasO, Bool.or_false, Specs.hasH, Bool.not_false, List.any_cons, List.any_nil, Bool.false_eq_true, ↓reduceIte, wpS, wantedA, okDst, Nat.reduceLT, decide_true, step1, isOwnCall, hxOp, px, AS.eval, AS.get, Lift.look, reduceCtorEq, Option.getD_some, AS.put, dropKey, Nat.reduceEqDiff, Nat.succ_ne_zero, pcall, ty9, plen, okLen, and_self, isNilC, pbinP, pbinI, hj', List.getElem?_toArray, List.getElem?_cons_succ, List.getElem?_cons_zero, Option.bind_some, beq_self_eq_true, pindex, Int.natCast_nonneg, Int.toNat_natCast, hj, hgt, ofConst, ofVal, k1, ppick_bool, k2, thenQ, isB, tmpOf, asB, ty5, ty3, w1, pconvH, pconv, w2, w3, ne_eq, Int.reduceEq, not_false_eq_true, w4, k3, inQ, RPost, sres, Tryz.results85, sresL, sres1, Option.some.injEq, Ret_fin, HTo_self, and_true, exists_eq_left', true_and]
      rw [show a + F.2 = j from hj2.symm]
    · rw [if_neg hov] at h4 h5
      have k3 : ¬ (((9223372036854775807 - (b.toNat - 48)) / 10 : Nat) : Int) < ((acc : Nat) : Int) := by omega
      have w5 : IntKind.i64.wrap (10 * ((acc : Nat) : Int)) = 10 * ((acc : Nat) : Int) := w64 (by omega) (by omega)
      have w6 : IntKind.i64.wrap (10 * ((acc : Nat) : Int) + ((b.toNat - 48 : Nat) : Int)) = ((10 * acc + (b.toNat - 48) : Nat) : Int) := by rw [w64 (by omega) (by omega)]; omega
      refine SW.run [] _ ?_
      simp only [wpC, mayStop, stops, isFlt, Specs.has, Specs.hasO, Bool.or_false, Specs.hasH, Bool.not_false, List.any_cons, List.any_nil, Bool.false_eq_true, ↓reduceIte, wpS, wantedA, okDst, Nat.reduceLT, decide_true, step1, isOwnCall, hxOp, px, AS.eval, AS.get, Lift.look, reduceCtorEq, Option.getD_some, AS.put, dropKey, Nat.reduceEqDiff, Nat.succ_ne_zero, pcall, ty9, plen, okLen, and_self, isNilC, pbinP, pbinI, hj', List.getElem?_toArray, List.getElem?_cons_succ, List.getElem?_cons_zero, Option.bind_some, beq_self_eq_true, pindex, Int.natCast_nonneg, Int.toNat_natCast, hj, hgt, ofConst, ofVal, k1, ppick_bool, k2, thenQ, isB, tmpOf, asB, ty5, ty3, w1, pconvH, pconv, w2, w3, ne_eq, Int.reduceEq, not_false_eq_true, w4, k3, decide_false, w5, w6, wj, inQ, Has, hasAll, and_true, true_and]
      exact ⟨(j + 1, 10 * acc + (b.toNat - 48)), ⟨by show a ≤ j + 1; omega, by show j + 1 ≤ _; omega, by show 10 * acc + (b.toNat - 48) ≤ _; omega, h4, by show F.2 = (rnumF (10 * acc + (b.toNat - 48)) (s.drop (j + 1))).2 + (j + 1 - a); have h5 : F.2 = (rnumF (10 * acc + (b.toNat - 48)) (s.drop (j + 1))).2 + 1 + (j - a) := h5; omega⟩, by show s.length - (j + 1) < _; omega, rfl, rfl⟩
  · have hstop : rnumF acc (s.drop j) = (((acc : Nat) : Int), 0) := by
      by_cases hj : j < s.length
      · rw [List.drop_eq_getElem_cons hj]
        unfold rnumF
        rw [if_neg (fun k => hgo ⟨hj, k⟩)]
      · rw [List.drop_of_length_le (by omega)]; rfl
    rw [hstop] at h4 h5
    have h4 : F.1 = ((acc : Nat) : Int) := h4
    have h5 : F.2 = j - a := by rw [h5]; show 0 + _ = _; omega
    have hja : (((j : Nat) : Int) == ((a : Nat) : Int)) = decide (F.2 = 0) := by
      by_cases k : F.2 = 0
      · have : j = a := by omega
        rw [this]; simp [k]
      · have : ¬ ((j : Nat) : Int) = ((a : Nat) : Int) := by omega
        simp [k, this]
    have hj2 : a + F.2 = j := by omega
    rw [hj2]
    refine SW.seq (SW.meet1 60 [(0, .str s), (1, .int .i64 (j : Nat)), (6, .int .i64 (acc : Nat)), (7, .int .i64 (a : Nat)), (24, .bool false)] h ?_ ?_)
    · refine SW.run [] _ ?_
      by_cases hj : j < s.length
      · have hj' : (j : Int) < (s.length : Int) := by omega
        have hgt : s.getD j 0 = s[j] := by rw [List.getD_eq_getElem?_getD, List.getElem?_eq_getElem hj]; rfl
        have hdg : digB s[j] = false := by cases e : digB s[j]; rfl; exact absurd ⟨hj, e⟩ hgo
        obtain ⟨b, hb⟩ : ∃ b, b = s[j] := ⟨_, rfl⟩
        rw [← hb] at hgt hdg
        by_cases d1 : 48 ≤ b.toNat
        · have d2 : ¬ b.toNat ≤ 57 := fun k => by unfold digB at hdg; simp [d1, k] at hdg
          have k1 : (48 : Int) ≤ ((b.toNat : Nat) : Int) := by omega
          have k2 : ¬ ((b.toNat : Nat) : Int) ≤ 57 := by omega
          simp only [wpC, Bool.false_eq_true, ↓reduceIte, wpS, stops, wantedA, okDst, Nat.reduceLT, decide_true, step1, isOwnCall, hxOp, px, AS.eval, AS.get, Lift.look, reduceCtorEq, Option.getD_some, AS.put, dropKey, Nat.reduceEqDiff, Nat.succ_ne_zero, pcall, ty9, plen, okLen, and_self, isNilC, pbinP, pbinI, hj', List.getElem?_toArray, List.getElem?_cons_succ, List.getElem?_cons_zero, Option.bind_some, beq_self_eq_true, pindex, Int.natCast_nonneg, Int.toNat_natCast, hj, hgt, ofConst, ofVal, k1, ppick_bool, k2, decide_false, thenQ, Meet, HTo_self, hasAll]
        · have k1 : ¬ (48 : Int) ≤ ((b.toNat : Nat) : Int) := by omega
          simp only [wpC, Bool.false_eq_true, ↓reduceIte, wpS, stops, wantedA, okDst, Nat.reduceLT, decide_true, step1, isOwnCall, hxOp, px, AS.eval, AS.get, Lift.look, reduceCtorEq, Option.getD_some, AS.put, dropKey, Nat.reduceEqDiff, Nat.succ_ne_zero, pcall, ty9, plen, okLen, and_self, isNilC, pbinP, pbinI, hj', List.getElem?_toArray, List.getElem?_cons_succ, List.getElem?_cons_zero, Option.bind_some, beq_self_eq_true, pindex, Int.natCast_nonneg, Int.toNat_natCast, hj, hgt, ofConst, ofVal, k1, decide_false, ppick_bool, beq_ft, Option.some.injEq, ppick_false, thenQ, Meet, HTo_self, hasAll]
      · have hj' : ¬ (j : Int) < (s.length : Int) := by omega
        simp only [wpC, Bool.false_eq_true, ↓reduceIte, wpS, stops, wantedA, okDst, Nat.reduceLT, decide_true, step1, isOwnCall, hxOp, px, AS.eval, AS.get, Lift.look, reduceCtorEq, Option.getD_some, AS.put, dropKey, Nat.reduceEqDiff, Nat.succ_ne_zero, pcall, ty9, plen, okLen, and_self, isNilC, pbinP, pbinI, hj', decide_false, List.getElem?_toArray, List.getElem?_cons_succ, List.getElem?_cons_zero, Option.bind_some, beq_ft, Option.some.injEq, ofConst, ofVal, ppick_false, thenQ, Meet, HTo_self, hasAll]
    refine SW.run [] _ ?_
    simp only [wpC, isB, AS.get, Lift.look, tmpOf, reduceCtorEq, ↓reduceIte, Nat.reduceEqDiff, Option.getD_some, asB, Bool.false_eq_true, thenQ, inQ, true_and]
    have hjl : j ≤ s.length := h2
    have hcut : List.drop a (List.take j s) = (s.drop a).take F.2 := by rw [List.drop_take, h5]
    have ha1 : ((acc : Nat) : Int) ≤ 9223372036854775807 := by omega
    have hle : ((a : Nat) : Int) ≤ ((j : Nat) : Int) := by omega
    have hle2 : ((j : Nat) : Int) ≤ ((s.length : Nat) : Int) := by omega
    refine SW.seq (SW.seq (SW.regionAny [eDigits] [[0, 1, 2, 3, 4, 5, 6, 7, 8, 9, 10, 11]] rfl (by rfl) (by kernel_rfl) ?_))
    by_cases k : F.2 = 0
    · have hr1 : rv = -1 := by rw [hrn, if_pos (.inl k)]
      subst hr1
      simp only [wpOL, wpO, LOp, List.getElem?_toArray, List.getElem?_cons_zero, okDst, Nat.reduceLT, decide_true, wantedA, ↓reduceIte, step1, isOwnCall, Bool.false_eq_true, hxOp, px, AS.eval, AS.get, Lift.look, reduceCtorEq, Option.getD_some, List.getElem?_cons_succ, AS.put, dropKey, Nat.reduceEqDiff, isNilC, pbinP, pbinI, hja, k, Option.bind_some, beq_tf, Option.some.injEq, ofConst, ofVal, ppick_true, thenQ, true_and]
      refine SW.run [] _ ?_
      simp only [wpC, isB, AS.get, Lift.look, tmpOf, ↓reduceIte, Option.getD_some, asB, mayStop, stops, isFlt, Specs.has, Specs.hasO, Bool.or_false, Specs.hasH, Bool.not_false, List.any_cons, List.any_nil, Bool.false_eq_true, wpS, wantedA, okDst, Nat.reduceLT, decide_true, step1, isOwnCall, hxOp, px, AS.eval, Nat.reduceEqDiff, reduceCtorEq, AS.put, dropKey, ofConst, ofVal, thenQ, RPost, sres, Tryz.results85, sresL, sres1, Option.some.injEq, Ret_fin, HTo_self, and_true, exists_eq_left', and_self]
    · cases hq : (Lib.itoa ((acc : Nat) : Int) == List.drop a (List.take j s))
      · have hq' : Lib.itoa ((acc : Nat) : Int) ≠ List.drop a (List.take j s) := by simpa using hq
        have hr1 : rv = -1 := by rw [hrn, if_pos (.inr (.inr (by rw [h4, ← hcut]; exact hq')))]
        subst hr1
        simp only [wpOL, wpO, LOp, List.getElem?_toArray, List.getElem?_cons_zero, okDst, Nat.reduceLT, decide_true, wantedA, ↓reduceIte, step1, isOwnCall, Bool.false_eq_true, hxOp, px, AS.eval, AS.get, Lift.look, reduceCtorEq, Option.getD_some, List.getElem?_cons_succ, AS.put, dropKey, Nat.reduceEqDiff, isNilC, pbinP, pbinI, hja, k, decide_false, Option.bind_some, beq_self_eq_true, Specs.hasO, Specs.hasH, pcall, okArg, ofConst, ofVal, List.all_cons, List.all_nil, Bool.and_true, Specs.at, eDigits, List.map_cons, List.map_nil, sDigits, Int.natCast_nonneg, ha1, and_self, Nat.succ_ne_zero, pslice, ty9, pB, hle, hle2, Int.toNat_natCast, pbinS, hq, Bool.not_false, ppick_bool, thenQ, true_and]
        refine SW.run [] _ ?_
        simp only [wpC, isB, AS.get, Lift.look, tmpOf, ↓reduceIte, Option.getD_some, asB, mayStop, stops, isFlt, Specs.has, Specs.hasO, Bool.or_false, Specs.hasH, Bool.not_false, List.any_cons, List.any_nil, Bool.false_eq_true, wpS, wantedA, okDst, Nat.reduceLT, decide_true, step1, isOwnCall, hxOp, px, AS.eval, Nat.reduceEqDiff, reduceCtorEq, AS.put, dropKey, ofConst, ofVal, thenQ, RPost, sres, Tryz.results85, sresL, sres1, Option.some.injEq, Ret_fin, HTo_self, and_true, exists_eq_left', and_self]
      · have hq' : Lib.itoa ((acc : Nat) : Int) = List.drop a (List.take j s) := by simpa using hq
        have hr1 : rv = ((acc : Nat) : Int) := by
          rw [hrn, if_neg, h4]
          rintro (e | e | e)
          · exact k e
          · omega
          · rw [h4, ← hcut] at e; exact e hq'
        subst hr1
        simp only [wpOL, wpO, LOp, List.getElem?_toArray, List.getElem?_cons_zero, okDst, Nat.reduceLT, decide_true, wantedA, ↓reduceIte, step1, isOwnCall, Bool.false_eq_true, hxOp, px, AS.eval, AS.get, Lift.look, reduceCtorEq, Option.getD_some, List.getElem?_cons_succ, AS.put, dropKey, Nat.reduceEqDiff, isNilC, pbinP, pbinI, hja, k, decide_false, Option.bind_some, beq_self_eq_true, Specs.hasO, Specs.hasH, pcall, okArg, ofConst, ofVal, List.all_cons, List.all_nil, Bool.and_true, Specs.at, eDigits, List.map_cons, List.map_nil, sDigits, Int.natCast_nonneg, ha1, and_self, Nat.succ_ne_zero, pslice, ty9, pB, hle, hle2, Int.toNat_natCast, pbinS, hq, Bool.not_true, ppick_bool, thenQ, true_and]
        refine SW.run [] _ ?_
        simp only [wpC, isB, AS.get, Lift.look, tmpOf, ↓reduceIte, Option.getD_some, asB, Bool.false_eq_true, thenQ, true_and]
        refine SW.run [] _ ?_
        simp only [wpC, mayStop, stops, isFlt, Specs.has, Specs.hasO, Bool.or_false, Specs.hasH, Bool.not_false, List.any_cons, List.any_nil, Bool.false_eq_true, ↓reduceIte, wpS, wantedA, okDst, Nat.reduceLT, decide_true, step1, isOwnCall, hxOp, px, AS.eval, AS.get, Lift.look, Nat.reduceEqDiff, reduceCtorEq, Option.getD_some, AS.put, dropKey, thenQ, RPost, sres, Tryz.results85, sresL, sres1, Option.some.injEq, Ret_fin, HTo_self, and_true, exists_eq_left', and_self]
def sRDecimal : List PV → Prop × PV
  | [.str s, .int .i64 a] => (s.length ≤ 1000000 ∧ 0 ≤ a ∧ a ≤ s.length, decR s a.toNat)
  | _ => PBad
noncomputable def eRDecimal : SpecE env := ⟨85, sRDecimal, fun args h hc => by
  unfold sRDecimal at hc ⊢
  split at hc
  · rename_i s a
    obtain ⟨c1, c2, c3⟩ := hc
    obtain ⟨n, rfl⟩ : ∃ n : Nat, a = (n : Int) := ⟨a.toNat, by omega⟩
    rw [Int.toNat_natCast]
    exact .inl (RDecimal_ok s n c1 (by omega) h)
  · exact hc.elim⟩
set_option maxHeartbeats 2000000 in
theorem RName_ok (l : List UInt8) (h : Heap) (hl : l.length ≤ 1000000000) : SCalls env 83 [.str l] h (Ret (.bool (namedS l)) h) := by
  refine SCalls.body Tryz.func83 rfl rfl (by simp [Tryz.ntmps83]) ?_
  refine SW.seq (SW.run [] _ ?_)
  simp only [wpC, Bool.false_eq_true, ↓reduceIte, wpS, stops, wantedA, okDst, Tryz.ntmps83, Nat.reduceLT, decide_true, step1, isOwnCall, hxOp, px, AS.eval, ofConst, ofVal, thenQ, AS.put, enumA, dropKey, reduceCtorEq, true_and]
  refine SW.seq (SW.seq (SW.run [] _ ?_))
  simp only [wpC, Bool.false_eq_true, ↓reduceIte, wpS, stops, wantedA, okDst, Nat.reduceLT, decide_true, step1, isOwnCall, hxOp, px, AS.eval, ofConst, ofVal, thenQ, AS.put, dropKey, Nat.reduceEqDiff, reduceCtorEq, true_and]
  refine SW.block (SW.loopK 27 (fun i : Nat => [(0, .str l), (3, .int .i64 (i : Nat))]) (fun _ => h) (fun i => i ≤ l.length ∧ (l.take i).all plainB = true) (fun i => l.length - i) 0 ⟨Nat.zero_le _, rfl⟩ ?_ ?_)
  · simp only [Has, hasAll, AS.get, Lift.look, Nat.succ_ne_zero, ↓reduceIte, Option.getD_some, Int.cast_ofNat_Int, and_self]
  rintro i ⟨hi, hno⟩
  refine SW.seq (SW.run [] _ ?_)
  by_cases hlt : i < l.length
  · have hw : IntKind.i64.wrap ((i : Int) + 1) = ((i + 1 : Nat) : Int) := by rw [w64 (by omega) (by omega)]; rfl
    have hlt2 : (i : Int) < (l.length : Int) := by omega
    have hg : l.getD i 0 = l[i] := by rw [List.getD_eq_getElem?_getD, List.getElem?_eq_getElem hlt]; rfl
    have hnam : plainB l[i] = false → namedS l = false := fun hp => by
      have : l.all plainB = false := by
        rw [Bool.eq_false_iff]
        intro hc
        have h1 := List.all_eq_true.1 hc _ (List.getElem_mem hlt)
        rw [hp] at h1; cases h1
      unfold namedS; rw [this]; rfl
    simp only [wpC, mayStop, stops, isFlt, Specs.has, Specs.hasO, Bool.or_false, Specs.hasH, Bool.not_false, List.any_cons, List.any_nil, Bool.false_eq_true, ↓reduceIte, wpS, wantedA, okDst, Nat.reduceLT, decide_true, step1, isOwnCall, hxOp, px, AS.eval, AS.get, Lift.look, reduceCtorEq, Option.getD_some, AS.put, dropKey, Nat.reduceEqDiff, Nat.succ_ne_zero, pcall, ty9, plen, okLen, and_self, isNilC, pbinP, pbinI, hlt2, thenQ, isB, tmpOf, asB, Has, hasAll, and_true, true_and]
    refine SW.seq (SW.block (SW.run [] _ ?_))
    by_cases h1 : l[i].toNat < 33
    · have hn := hnam (by unfold plainB; simp [h1])
      have h1' : ((l[i].toNat : Nat) : Int) < 33 := by omega
      simp only [wpC, mayStop, stops, isFlt, Specs.has, Specs.hasO, Bool.or_false, Specs.hasH, Bool.not_false, List.any_cons, List.any_nil, Bool.false_eq_true, ↓reduceIte, wpS, wantedA, okDst, Nat.reduceLT, decide_true, step1, isOwnCall, hxOp, px, AS.eval, AS.get, Lift.look, Nat.succ_ne_zero, Option.getD_some, AS.put, dropKey, Nat.reduceEqDiff, reduceCtorEq, pindex, ty9, Int.natCast_nonneg, Int.toNat_natCast, hlt, and_self, hg, isNilC, pbinP, ofConst, ofVal, pbinI, h1', List.getElem?_toArray, List.getElem?_cons_succ, List.getElem?_cons_zero, Option.bind_some, beq_tf, Option.some.injEq, ppick_true, thenQ, isB, tmpOf, asB, inQ, RPost, sres, Tryz.results83, sresL, sres1, hn, Ret_fin, HTo_self, and_true, exists_eq_left']
    have h1' : ¬ ((l[i].toNat : Nat) : Int) < 33 := by omega
    by_cases h2 : 126 < l[i].toNat
    · have hn := hnam (by unfold plainB; simp [h2])
      have h2' : (126 : Int) < ((l[i].toNat : Nat) : Int) := by omega
      simp only [wpC, mayStop, stops, isFlt, Specs.has, Specs.hasO, Bool.or_false, Specs.hasH, Bool.not_false, List.any_cons, List.any_nil, Bool.false_eq_true, ↓reduceIte, wpS, wantedA, okDst, Nat.reduceLT, decide_true, step1, isOwnCall, hxOp, px, AS.eval, AS.get, Lift.look, Nat.succ_ne_zero, Option.getD_some, AS.put, dropKey, Nat.reduceEqDiff, reduceCtorEq, pindex, ty9, Int.natCast_nonneg, Int.toNat_natCast, hlt, and_self, hg, isNilC, pbinP, ofConst, ofVal, pbinI, h1', decide_false, List.getElem?_toArray, List.getElem?_cons_succ, List.getElem?_cons_zero, Option.bind_some, beq_self_eq_true, h2', ppick_bool, thenQ, isB, tmpOf, asB, inQ, RPost, sres, Tryz.results83, sresL, sres1, Option.some.injEq, hn, Ret_fin, HTo_self, and_true, exists_eq_left']
    have h2' : ¬ (126 : Int) < ((l[i].toNat : Nat) : Int) := by omega
    simp only [wpC, mayStop, stops, isFlt, Specs.has, Specs.hasO, Bool.or_false, Specs.hasH, Bool.not_false, List.any_cons, List.any_nil, Bool.false_eq_true, ↓reduceIte, wpS, wantedA, okDst, Nat.reduceLT, decide_true, step1, isOwnCall, hxOp, px, AS.eval, AS.get, Lift.look, Nat.succ_ne_zero, Option.getD_some, AS.put, dropKey, Nat.reduceEqDiff, reduceCtorEq, pindex, ty9, Int.natCast_nonneg, Int.toNat_natCast, hlt, and_self, hg, isNilC, pbinP, ofConst, ofVal, pbinI, h1', decide_false, List.getElem?_toArray, List.getElem?_cons_succ, List.getElem?_cons_zero, Option.bind_some, beq_self_eq_true, h2', ppick_bool, thenQ, isB, tmpOf, asB, inQ, true_and]
    refine SW.run [] _ ?_
    simp only [wpC, Bool.false_eq_true, ↓reduceIte, wpS, stops, wantedA, okDst, Nat.reduceLT, decide_true, step1, isOwnCall, hxOp, px, AS.eval, AS.get, Lift.look, Nat.reduceEqDiff, reduceCtorEq, Option.getD_some, isFlt, ty3, AS.put, dropKey, isNilC, pbinP, ofConst, ofVal, pbinI, hw, thenQ, Nat.succ_ne_zero, true_and]
    refine ⟨i + 1, ⟨by omega, ?_⟩, by omega, rfl⟩
    rw [List.take_succ_eq_append_getElem hlt, List.all_append, hno]
    simp [plainB, h1, h2]
  · have hlt2 : ¬ (i : Int) < (l.length : Int) := by omega
    rw [List.take_of_length_le (by omega)] at hno
    simp only [wpC, mayStop, stops, isFlt, Specs.has, Specs.hasO, Bool.or_false, Specs.hasH, Bool.not_false, List.any_cons, List.any_nil, Bool.false_eq_true, ↓reduceIte, wpS, wantedA, okDst, Nat.reduceLT, decide_true, step1, isOwnCall, hxOp, px, AS.eval, AS.get, Lift.look, reduceCtorEq, Option.getD_some, AS.put, dropKey, Nat.reduceEqDiff, Nat.succ_ne_zero, pcall, ty9, plen, okLen, and_self, isNilC, pbinP, pbinI, hlt2, decide_false, thenQ, isB, tmpOf, asB, inQ, true_and]
    refine SW.seq (SW.run [] _ ?_)
    by_cases h1 : l = []
    · subst h1
      simp only [wpC, Bool.false_eq_true, ↓reduceIte, wpS, stops, wantedA, okDst, Nat.reduceLT, decide_true, step1, isOwnCall, hxOp, px, AS.eval, AS.get, Lift.look, Nat.succ_ne_zero, Option.getD_some, AS.put, dropKey, Nat.reduceEqDiff, List.length_nil, Int.cast_ofNat_Int, reduceCtorEq, isNilC, pbinP, ofConst, ofVal, pbinS, beq_self_eq_true, Bool.not_true, List.getElem?_toArray, List.getElem?_cons_succ, List.getElem?_cons_zero, Option.bind_some, beq_ft, Option.some.injEq, ppick_false, thenQ, true_and]
      refine SW.run [] _ ?_
      simp only [wpC, RPost, sres, Tryz.results83, sresL, sres1, AS.get, Lift.look, ↓reduceIte, Option.getD_some, Option.some.injEq, Ret_fin, HTo_self, and_true, exists_eq_left']
      rfl
    · have h1' : (l == ([] : List UInt8)) = false := by simpa using h1
      have h1p : 0 < l.length := List.length_pos_iff.2 h1
      by_cases h2 : l.length ≤ 40
      · have h2' : (l.length : Int) ≤ 40 := by omega
        simp only [wpC, Bool.false_eq_true, ↓reduceIte, wpS, stops, wantedA, okDst, Nat.reduceLT, decide_true, step1, isOwnCall, hxOp, px, AS.eval, AS.get, Lift.look, Nat.succ_ne_zero, Option.getD_some, AS.put, dropKey, Nat.reduceEqDiff, reduceCtorEq, isNilC, pbinP, ofConst, ofVal, pbinS, h1', Bool.not_false, List.getElem?_toArray, List.getElem?_cons_succ, List.getElem?_cons_zero, Option.bind_some, beq_self_eq_true, pcall, ty9, plen, okLen, and_self, pbinI, h2', ppick_bool, thenQ, true_and]
        refine SW.run [] _ ?_
        simp only [wpC, RPost, sres, Tryz.results83, sresL, sres1, AS.get, Lift.look, ↓reduceIte, Option.getD_some, Option.some.injEq, Ret_fin, HTo_self, and_true, exists_eq_left']
        unfold namedS
        rw [hno]; simp [h2]; omega
      · have h2' : ¬ (l.length : Int) ≤ 40 := by omega
        simp only [wpC, Bool.false_eq_true, ↓reduceIte, wpS, stops, wantedA, okDst, Nat.reduceLT, decide_true, step1, isOwnCall, hxOp, px, AS.eval, AS.get, Lift.look, Nat.succ_ne_zero, Option.getD_some, AS.put, dropKey, Nat.reduceEqDiff, reduceCtorEq, isNilC, pbinP, ofConst, ofVal, pbinS, h1', Bool.not_false, List.getElem?_toArray, List.getElem?_cons_succ, List.getElem?_cons_zero, Option.bind_some, beq_self_eq_true, pcall, ty9, plen, okLen, and_self, pbinI, h2', decide_false, ppick_bool, thenQ, true_and]
        refine SW.run [] _ ?_
        simp only [wpC, RPost, sres, Tryz.results83, sresL, sres1, AS.get, Lift.look, ↓reduceIte, Option.getD_some, Option.some.injEq, Ret_fin, HTo_self, and_true, exists_eq_left']
        unfold namedS
        rw [hno]; simp [h2]
noncomputable def eRName : SpecE env := ⟨83, sLB namedS, fun args h hc => by
  unfold sLB at hc ⊢
  split at hc
  · rename_i l; exact .inl (RName_ok l h hc)
  · exact hc.elim⟩
end Go.Proofs.YtincpomenogppaaGreatDoor
