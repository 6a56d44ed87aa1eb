/- Contracts of functions that the law reaches. -/
import Derived.Test.YtincpomenogppaaGreatDoorX7
set_option linter.unusedSimpArgs false
set_option linter.unusedVariables false
namespace Go.Proofs.YtincpomenogppaaGreatDoor
open Go Go.RowKit Go.Proofs.YtincpomenogppaaGreatDoor Go.Proofs.YtincpomenogppaaGreatDoor.Lift
set_option maxRecDepth 100000

def digB (b : UInt8) : Bool := decide (48 ≤ b.toNat) && decide (b.toNat ≤ 57)
def rnumF : Nat → List UInt8 → Int × Nat
  | acc, [] => ((acc : Nat), 0)
  | acc, b :: l => if digB b = true then
      (if (9223372036854775807 - (b.toNat - 48)) / 10 < acc then (-1, 0) else ((rnumF (10 * acc + (b.toNat - 48)) l).1, (rnumF (10 * acc + (b.toNat - 48)) l).2 + 1))
    else ((acc : Nat), 0)
theorem rnumF_len : ∀ (l : List UInt8) (acc : Nat), (rnumF acc l).2 ≤ l.length
  | [], acc => Nat.le_refl _
  | b :: l, acc => by
    unfold rnumF
    split
    · split
      · exact Nat.zero_le _
      · have := rnumF_len l (10 * acc + (b.toNat - 48))
        simp; omega
    · exact Nat.zero_le _
theorem rnumF_bounds : ∀ (l : List UInt8) (acc : Nat), acc ≤ 9223372036854775807 → -1 ≤ (rnumF acc l).1 ∧ (rnumF acc l).1 ≤ 9223372036854775807
  | [], acc, h => ⟨by show (-1 : Int) ≤ (acc : Nat); omega, by show ((acc : Nat) : Int) ≤ _; omega⟩
  | b :: l, acc, h => by
    unfold rnumF
    split
    · rename_i hd
      unfold digB at hd
      rw [Bool.and_eq_true, decide_eq_true_eq, decide_eq_true_eq] at hd
      split
      · exact ⟨by decide, by decide⟩
      · exact rnumF_bounds l _ (by omega)
    · exact ⟨by show (-1 : Int) ≤ (acc : Nat); omega, by show ((acc : Nat) : Int) ≤ _; omega⟩
def rnum (c : List UInt8) : Int := if (rnumF 0 c).2 = 0 then -1 else (rnumF 0 c).1
def rnumR (s : List UInt8) (at_ : Nat) : PV := .tuple [.int .i64 (rnum (s.drop at_)), .int .i64 ((at_ + (rnumF 0 (s.drop at_)).2 : Nat) : Int)]
set_option maxHeartbeats 4000000 in
set_option maxRecDepth 100000 in
theorem RNumber_ok (s : List UInt8) (a : Nat) (hs : s.length ≤ 1000000) (ha : a ≤ s.length) (h : Heap) : SCalls env 68 [.str s, .int .i64 (a : Nat)] h (Ret (rnumR s a) h) := by
  refine SCalls.body Tryz.func68 rfl rfl (by simp [Tryz.ntmps68]) ?_
  have hlen := rnumF_len (s.drop a) 0
  rw [List.length_drop] at hlen
  have hnum := rnumF_bounds (s.drop a) 0 (by omega)
  unfold rnumR
  have hrn : rnum (s.drop a) = if (rnumF 0 (s.drop a)).2 = 0 then -1 else (rnumF 0 (s.drop a)).1 := rfl
  generalize rnum (s.drop a) = rv at *
  obtain ⟨F, hF⟩ : ∃ F, F = rnumF 0 (s.drop a) := ⟨_, rfl⟩
  rw [← hF] at hlen hnum hrn ⊢
  refine SW.seq (SW.run [] _ ?_)
  simp only [wpC, Bool.false_eq_true, ↓reduceIte, wpS, stops, wantedA, okDst, Tryz.ntmps68, Nat.reduceLT, decide_true, step1, isOwnCall, hxOp, px, AS.eval, ofConst, ofVal, AS.put, enumA, Nat.zero_add, dropKey, reduceCtorEq, Nat.reduceEqDiff, thenQ, true_and]
  refine SW.seq (SW.run [] _ ?_)
  simp only [wpC, Bool.false_eq_true, ↓reduceIte, wpS, stops, wantedA, okDst, Nat.reduceLT, decide_true, step1, isOwnCall, hxOp, px, AS.eval, AS.get, Lift.look, Nat.reduceEqDiff, reduceCtorEq, Option.getD_some, AS.put, dropKey, ofConst, ofVal, thenQ, true_and]
  refine SW.seq (SW.block ?_)
  refine SW.loopK 51 (fun x : Nat × Nat => [(0, .str s), (1, .int .i64 (x.1 : Nat)), (6, .int .i64 (x.2 : Nat)), (7, .int .i64 (a : Nat))]) (fun _ => h) (fun x => a ≤ x.1 ∧ x.1 ≤ s.length ∧ x.2 ≤ 9223372036854775807 ∧ F.1 = (rnumF x.2 (s.drop x.1)).1 ∧ F.2 = (rnumF x.2 (s.drop x.1)).2 + (x.1 - a)) (fun x => s.length - x.1) (a, 0) ⟨Nat.le_refl _, ha, by show 0 ≤ _; omega, by rw [hF], by rw [hF]; simp⟩ ?_ ?_
  · simp only [Has, hasAll, AS.get, Lift.look, Nat.succ_ne_zero, ↓reduceIte, Option.getD_some, Nat.reduceEqDiff, reduceCtorEq, Int.cast_ofNat_Int, and_self]
  rintro ⟨j, acc⟩ ⟨h1, h2, h3, h4, h5⟩
  have h1 : a ≤ j := h1
  have h2 : j ≤ s.length := h2
  have h3 : acc ≤ 9223372036854775807 := h3
  have h4 : F.1 = (rnumF acc (s.drop j)).1 := h4
  have h5 : F.2 = (rnumF acc (s.drop j)).2 + (j - a) := h5
  by_cases hgo : ∃ hj : j < s.length, digB s[j] = true
  · obtain ⟨hj, hdg⟩ := hgo
    rw [List.drop_eq_getElem_cons hj] at h4 h5
    unfold rnumF at h4 h5
    rw [if_pos hdg] at h4 h5
    have hdg2 := hdg
    unfold digB at hdg2
    rw [Bool.and_eq_true, decide_eq_true_eq, decide_eq_true_eq] at hdg2
    obtain ⟨d1, d2⟩ := hdg2
    have hgt : s.getD j 0 = s[j] := by rw [List.getD_eq_getElem?_getD, List.getElem?_eq_getElem hj]; rfl
    obtain ⟨b, hb⟩ : ∃ b, b = s[j] := ⟨_, rfl⟩
    rw [← hb] at hgt d1 d2 h4 h5
    have hj' : (j : Int) < (s.length : Int) := by omega
    have k1 : (48 : Int) ≤ ((b.toNat : Nat) : Int) := by omega
    have k2 : ((b.toNat : Nat) : Int) ≤ 57 := by omega
    have w1 : IntKind.u8.wrap (((b.toNat : Nat) : Int) - 48) = ((b.toNat - 48 : Nat) : Int) := by
      rw [IntKind.wrap_u8]; omega
    have w2 : IntKind.i64.wrap ((b.toNat - 48 : Nat) : Int) = ((b.toNat - 48 : Nat) : Int) := w64 (by omega) (by omega)
    have w3 : IntKind.i64.wrap (9223372036854775807 - ((b.toNat - 48 : Nat) : Int)) = ((9223372036854775807 - (b.toNat - 48) : Nat) : Int) := by rw [w64 (by omega) (by omega)]; omega
    have w4 : IntKind.i64.wrap (Int.tdiv ((9223372036854775807 - (b.toNat - 48) : Nat) : Int) 10) = (((9223372036854775807 - (b.toNat - 48)) / 10 : Nat) : Int) := by
      have := (Int.ofNat_tdiv (9223372036854775807 - (b.toNat - 48)) 10).symm
      rw [show Int.tdiv ((9223372036854775807 - (b.toNat - 48) : Nat) : Int) 10 = (((9223372036854775807 - (b.toNat - 48)) / 10 : Nat) : Int) from this, w64 (by omega) (by omega)]
    have wj : IntKind.i64.wrap ((j : Int) + 1) = ((j + 1 : Nat) : Int) := by rw [w64 (by omega) (by omega)]; rfl
    by_cases hov : (9223372036854775807 - (b.toNat - 48)) / 10 < acc
    · rw [if_pos hov] at h4 h5
      have k3 : (((9223372036854775807 - (b.toNat - 48)) / 10 : Nat) : Int) < ((acc : Nat) : Int) := by omega
      have hj2 : j = a + F.2 := by omega
      have hr1 : rv = -1 := by rw [hrn]; split; rfl; exact h4
      subst hr1
      refine SW.run [] _ ?_
      simp only [wpC, mayStop, stops, isFlt, Specs.has, Specs.hasO, Bool.or_false, Specs.hasH, Bool.not_false, List.any_cons, List.any_nil, Bool.false_eq_true, ↓reduceIte, wpS, wantedA, okDst, Nat.reduceLT, decide_true, step1, isOwnCall, hxOp, px, AS.eval, AS.get, Lift.look, reduceCtorEq, Option.getD_some, AS.put, dropKey, Nat.reduceEqDiff, Nat.succ_ne_zero, pcall, ty9, plen, okLen, and_self, isNilC, pbinP, pbinI, hj', List.getElem?_toArray, List.getElem?_cons_succ, List.getElem?_cons_zero, Option.bind_some, beq_self_eq_true, pindex, Int.natCast_nonneg, Int.toNat_natCast, hj, hgt, ofConst, ofVal, k1, ppick_bool, k2, thenQ, isB, tmpOf, asB, ty5, ty3, w1, pconvH, pconv, w2, w3, ne_eq, Int.reduceEq, not_false_eq_true, w4, k3, inQ, RPost, sres, Tryz.results68, sresL, sres1, Option.some.injEq, Ret_fin, HTo_self, and_true, exists_eq_left', true_and]
      rw [show a + F.2 = j from hj2.symm]
    · rw [if_neg hov] at h4 h5
      have k3 : ¬ (((9223372036854775807 - (b.toNat - 48)) / 10 : Nat) : Int) < ((acc : Nat) : Int) := by omega
      have w5 : IntKind.i64.wrap (10 * ((acc : Nat) : Int)) = 10 * ((acc : Nat) : Int) := w64 (by omega) (by omega)
      have w6 : IntKind.i64.wrap (10 * ((acc : Nat) : Int) + ((b.toNat - 48 : Nat) : Int)) = ((10 * acc + (b.toNat - 48) : Nat) : Int) := by rw [w64 (by omega) (by omega)]; omega
      refine SW.run [] _ ?_
      simp only [wpC, mayStop, stops, isFlt, Specs.has, Specs.hasO, Bool.or_false, Specs.hasH, Bool.not_false, List.any_cons, List.any_nil, Bool.false_eq_true, ↓reduceIte, wpS, wantedA, okDst, Nat.reduceLT, decide_true, step1, isOwnCall, hxOp, px, AS.eval, AS.get, Lift.look, reduceCtorEq, Option.getD_some, AS.put, dropKey, Nat.reduceEqDiff, Nat.succ_ne_zero, pcall, ty9, plen, okLen, and_self, isNilC, pbinP, pbinI, hj', List.getElem?_toArray, List.getElem?_cons_succ, List.getElem?_cons_zero, Option.bind_some, beq_self_eq_true, pindex, Int.natCast_nonneg, Int.toNat_natCast, hj, hgt, ofConst, ofVal, k1, ppick_bool, k2, thenQ, isB, tmpOf, asB, ty5, ty3, w1, pconvH, pconv, w2, w3, ne_eq, Int.reduceEq, not_false_eq_true, w4, k3, decide_false, w5, w6, wj, inQ, Has, hasAll, and_true, true_and]
      exact ⟨(j + 1, 10 * acc + (b.toNat - 48)), ⟨by show a ≤ j + 1; omega, by show j + 1 ≤ _; omega, by show 10 * acc + (b.toNat - 48) ≤ _; omega, h4, by show F.2 = (rnumF (10 * acc + (b.toNat - 48)) (s.drop (j + 1))).2 + (j + 1 - a); have h5 : F.2 = (rnumF (10 * acc + (b.toNat - 48)) (s.drop (j + 1))).2 + 1 + (j - a) := h5; omega⟩, by show s.length - (j + 1) < _; omega, rfl, rfl⟩
  · have hstop : rnumF acc (s.drop j) = (((acc : Nat) : Int), 0) := by
      by_cases hj : j < s.length
      · rw [List.drop_eq_getElem_cons hj]
        unfold rnumF
        rw [if_neg (fun k => hgo ⟨hj, k⟩)]
      · rw [List.drop_of_length_le (by omega)]; rfl
    rw [hstop] at h4 h5
    have h4 : F.1 = ((acc : Nat) : Int) := h4
    have h5 : F.2 = j - a := by rw [h5]; show 0 + _ = _; omega
    have hja : (((j : Nat) : Int) == ((a : Nat) : Int)) = decide (F.2 = 0) := by
      by_cases k : F.2 = 0
      · have : j = a := by omega
        rw [this]; simp [k]
      · have : ¬ ((j : Nat) : Int) = ((a : Nat) : Int) := by omega
        simp [k, this]
    have hj2 : a + F.2 = j := by omega
    rw [hj2]
    refine SW.seq (SW.meet1 51 [(0, .str s), (1, .int .i64 (j : Nat)), (6, .int .i64 (acc : Nat)), (7, .int .i64 (a : Nat)), (24, .bool false)] h ?_ ?_)
    · refine SW.run [] _ ?_
      by_cases hj : j < s.length
      · have hj' : (j : Int) < (s.length : Int) := by omega
        have hgt : s.getD j 0 = s[j] := by rw [List.getD_eq_getElem?_getD, List.getElem?_eq_getElem hj]; rfl
        have hdg : digB s[j] = false := by cases e : digB s[j]; rfl; exact absurd ⟨hj, e⟩ hgo
        obtain ⟨b, hb⟩ : ∃ b, b = s[j] := ⟨_, rfl⟩
        rw [← hb] at hgt hdg
        by_cases d1 : 48 ≤ b.toNat
        · have d2 : ¬ b.toNat ≤ 57 := fun k => by unfold digB at hdg; simp [d1, k] at hdg
          have k1 : (48 : Int) ≤ ((b.toNat : Nat) : Int) := by omega
          have k2 : ¬ ((b.toNat : Nat) : Int) ≤ 57 := by omega
          simp only [wpC, Bool.false_eq_true, ↓reduceIte, wpS, stops, wantedA, okDst, Nat.reduceLT, decide_true, step1, isOwnCall, hxOp, px, AS.eval, AS.get, Lift.look, reduceCtorEq, Option.getD_some, AS.put, dropKey, Nat.reduceEqDiff, Nat.succ_ne_zero, pcall, ty9, plen, okLen, and_self, isNilC, pbinP, pbinI, hj', List.getElem?_toArray, List.getElem?_cons_succ, List.getElem?_cons_zero, Option.bind_some, beq_self_eq_true, pindex, Int.natCast_nonneg, Int.toNat_natCast, hj, hgt, ofConst, ofVal, k1, ppick_bool, k2, decide_false, thenQ, Meet, HTo_self, hasAll]
        · have k1 : ¬ (48 : Int) ≤ ((b.toNat : Nat) : Int) := by omega
          simp only [wpC, Bool.false_eq_true, ↓reduceIte, wpS, stops, wantedA, okDst, Nat.reduceLT, decide_true, step1, isOwnCall, hxOp, px, AS.eval, AS.get, Lift.look, reduceCtorEq, Option.getD_some, AS.put, dropKey, Nat.reduceEqDiff, Nat.succ_ne_zero, pcall, ty9, plen, okLen, and_self, isNilC, pbinP, pbinI, hj', List.getElem?_toArray, List.getElem?_cons_succ, List.getElem?_cons_zero, Option.bind_some, beq_self_eq_true, pindex, Int.natCast_nonneg, Int.toNat_natCast, hj, hgt, ofConst, ofVal, k1, decide_false, ppick_bool, beq_ft, Option.some.injEq, ppick_false, thenQ, Meet, HTo_self, hasAll]
      · have hj' : ¬ (j : Int) < (s.length : Int) := by omega
        simp only [wpC, Bool.false_eq_true, ↓reduceIte, wpS, stops, wantedA, okDst, Nat.reduceLT, decide_true, step1, isOwnCall, hxOp, px, AS.eval, AS.get, Lift.look, reduceCtorEq, Option.getD_some, AS.put, dropKey, Nat.reduceEqDiff, Nat.succ_ne_zero, pcall, ty9, plen, okLen, and_self, isNilC, pbinP, pbinI, hj', decide_false, List.getElem?_toArray, List.getElem?_cons_succ, List.getElem?_cons_zero, Option.bind_some, beq_ft, Option.some.injEq, ofConst, ofVal, ppick_false, thenQ, Meet, HTo_self, hasAll]
    refine SW.run [] _ ?_
    simp only [wpC, isB, AS.get, Lift.look, tmpOf, reduceCtorEq, ↓reduceIte, Nat.reduceEqDiff, Option.getD_some, asB, Bool.false_eq_true, thenQ, inQ, true_and]
    refine SW.seq (SW.run [] _ ?_)
    by_cases k : F.2 = 0
    · have hr1 : rv = -1 := by rw [hrn, if_pos k]
      subst hr1
      simp only [wpC, mayStop, stops, isFlt, Specs.has, Specs.hasO, Bool.or_false, Specs.hasH, Bool.not_false, List.any_cons, List.any_nil, Bool.false_eq_true, ↓reduceIte, wpS, wantedA, okDst, Nat.reduceLT, decide_true, step1, isOwnCall, hxOp, px, AS.eval, AS.get, Lift.look, reduceCtorEq, Option.getD_some, AS.put, dropKey, Nat.reduceEqDiff, isNilC, pbinP, pbinI, hja, k, thenQ, isB, tmpOf, asB, ofConst, ofVal, RPost, sres, Tryz.results68, sresL, sres1, Option.some.injEq, Ret_fin, HTo_self, and_true, exists_eq_left', and_self]
    · have hr1 : rv = (acc : Nat) := by rw [hrn, if_neg k]; exact h4
      rw [hr1]
      simp only [wpC, mayStop, stops, isFlt, Specs.has, Specs.hasO, Bool.or_false, Specs.hasH, Bool.not_false, List.any_cons, List.any_nil, Bool.false_eq_true, ↓reduceIte, wpS, wantedA, okDst, Nat.reduceLT, decide_true, step1, isOwnCall, hxOp, px, AS.eval, AS.get, Lift.look, reduceCtorEq, Option.getD_some, AS.put, dropKey, Nat.reduceEqDiff, isNilC, pbinP, pbinI, hja, k, decide_false, thenQ, isB, tmpOf, asB, true_and]
      refine SW.run [] _ ?_
      simp only [wpC, mayStop, stops, isFlt, Specs.has, Specs.hasO, Bool.or_false, Specs.hasH, Bool.not_false, List.any_cons, List.any_nil, Bool.false_eq_true, ↓reduceIte, wpS, wantedA, okDst, Nat.reduceLT, decide_true, step1, isOwnCall, hxOp, px, AS.eval, AS.get, Lift.look, Nat.reduceEqDiff, reduceCtorEq, Option.getD_some, AS.put, dropKey, thenQ, RPost, sres, Tryz.results68, sresL, sres1, Option.some.injEq, Ret_fin, HTo_self, and_true, exists_eq_left', and_self]
end Go.Proofs.YtincpomenogppaaGreatDoor
