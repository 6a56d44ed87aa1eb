/- Contracts of functions that the law reaches. -/
import Derived.Test.YtincpomenogppaaGreatDoorY2
import Derived.Test.YtincpomenogppaaGreatDoorShelf
import Derived.Test.YtincpomenogppaaGreatDoorLiftH
import Derived.WalkKit
set_option linter.unusedSimpArgs false
set_option linter.unusedVariables false
namespace Go.Proofs.YtincpomenogppaaGreatDoor
open Go Go.RowKit Go.Proofs.YtincpomenogppaaGreatDoor Go.Proofs.YtincpomenogppaaGreatDoor.Lift
set_option maxRecDepth 100000

def isSpB (b : UInt8) : Bool := (((b.toNat : Nat) : Int) == 9) || (((b.toNat : Nat) : Int) == 10) || (((b.toNat : Nat) : Int) == 13) || (((b.toNat : Nat) : Int) == 32)
def wordsB : Bool → List UInt8 → Nat
  | _, [] => 0
  | w, b :: l => (if isSpB b = false ∧ w = false then 1 else 0) + wordsB (!isSpB b) l
theorem words_le : ∀ (l : List UInt8) (w : Bool), wordsB w l ≤ l.length
  | [], _ => Nat.le_refl _
  | b :: l, w => by
    have := words_le l (!isSpB b)
    unfold wordsB
    rw [List.length_cons]
    split <;> omega
theorem count_take {l : List UInt8} {i : Nat} (h : i < l.length) : (l.take (i + 1)).count 10 = (l.take i).count 10 + if l[i] = 10 then 1 else 0 := by
  rw [List.take_succ_eq_append_getElem h, List.count_append, List.count_singleton]
  by_cases e : l[i] = 10 <;> simp [e]
theorem ten_iff (b : UInt8) : (((b.toNat : Nat) : Int) == 10) = decide (b = 10) := by
  rw [show (10 : Int) = (((10 : UInt8).toNat : Nat) : Int) from rfl]
  exact byte_eq b 10
theorem sp_cases (b : UInt8) : ((((b.toNat : Nat) : Int) == 10) = true ∧ (((b.toNat : Nat) : Int) == 9) = false ∧ isSpB b = true ∧ b = 10) ∨ (b ≠ 10 ∧ (((b.toNat : Nat) : Int) == 10) = false ∧
    (((((b.toNat : Nat) : Int) == 9) = true ∧ isSpB b = true) ∨ ((((b.toNat : Nat) : Int) == 9) = false ∧ (((((b.toNat : Nat) : Int) == 13) = true ∧ isSpB b = true) ∨ ((((b.toNat : Nat) : Int) == 13) = false ∧ (((((b.toNat : Nat) : Int) == 32) = true ∧ isSpB b = true) ∨ ((((b.toNat : Nat) : Int) == 32) = false ∧ isSpB b = false))))))) := by
  have h10 := ten_iff b
  unfold isSpB
  by_cases hb : b = 10
  · subst hb; exact .inl ⟨rfl, rfl, rfl, rfl⟩
  · rw [decide_eq_false hb] at h10
    refine .inr ⟨hb, h10, ?_⟩
    rw [h10]
    cases (((b.toNat : Nat) : Int) == 9) <;> cases (((b.toNat : Nat) : Int) == 13) <;> cases (((b.toNat : Nat) : Int) == 32) <;> simp
theorem words_step {i : Nat} {s : List UInt8} (h : i < s.length) (w : Bool) : wordsB w (s.drop i) = (if isSpB s[i] = false ∧ w = false then 1 else 0) + wordsB (!isSpB s[i]) (s.drop (i + 1)) := by
  rw [List.drop_eq_getElem_cons h, wordsB]
def cntR (s : List UInt8) : PV := .tuple [.int .i64 (s.count 10 : Nat), .int .i64 (wordsB false s : Nat), .int .i64 (s.length : Nat)]
set_option maxHeartbeats 4000000 in
theorem RCount_ok (s : List UInt8) (hs : s.length ≤ 1000000) (h : Heap) : SCalls env 17 [.str s] h (Ret (cntR s) h) := by
  refine SCalls.body Tryz.func17 rfl rfl (by simp [Tryz.ntmps17]) ?_
  refine SW.seq (SW.run [] _ ?_)
  simp only [wpC, Bool.false_eq_true, ↓reduceIte, wpS, stops, wantedA, okDst, Tryz.ntmps17, Nat.reduceLT, decide_true, step1, isOwnCall, hxOp, px, AS.eval, ofConst, ofVal, AS.put, enumA, dropKey, reduceCtorEq, Nat.reduceEqDiff, thenQ, true_and]
  refine SW.seq (SW.run [] _ ?_)
  simp only [wpC, Bool.false_eq_true, ↓reduceIte, wpS, stops, wantedA, okDst, Nat.reduceLT, decide_true, step1, isOwnCall, hxOp, px, AS.eval, ofConst, ofVal, AS.put, dropKey, Nat.reduceEqDiff, reduceCtorEq, thenQ, true_and]
  refine SW.seq (SW.run [] _ ?_)
  simp only [wpC, Bool.false_eq_true, ↓reduceIte, wpS, stops, wantedA, okDst, Nat.reduceLT, decide_true, step1, isOwnCall, hxOp, px, AS.eval, ofConst, ofVal, thenQ, AS.put, dropKey, Nat.reduceEqDiff, reduceCtorEq, true_and]
  refine SW.seq (SW.seq (SW.run [] _ ?_))
  simp only [wpC, Bool.false_eq_true, ↓reduceIte, wpS, stops, wantedA, okDst, Nat.reduceLT, decide_true, step1, isOwnCall, hxOp, px, AS.eval, ofConst, ofVal, thenQ, AS.put, dropKey, Nat.reduceEqDiff, reduceCtorEq, true_and]
  refine SW.block (SW.loopK 58 (fun b : Nat × Nat × Bool => [(0, .str s), (5, .int .i64 ((s.take b.1).count 10 : Nat)), (6, .int .i64 (b.2.1 : Nat)), (7, .bool b.2.2), (8, .int .i64 (b.1 : Nat))]) (fun _ => h) (fun b => b.1 ≤ s.length ∧ b.2.1 + wordsB b.2.2 (s.drop b.1) = wordsB false s) (fun b => s.length - b.1) (0, 0, false) ⟨Nat.zero_le _, by rw [List.drop_zero]; exact Nat.zero_add _⟩ ?_ ?_)
  · simp only [Has, hasAll, AS.get, Lift.look, Nat.succ_ne_zero, ↓reduceIte, Option.getD_some, Nat.reduceEqDiff, List.take_zero, Int.cast_ofNat_Int, and_self, and_true, true_and]
    rfl
  rintro ⟨i, n, w⟩ ⟨h1, h2⟩
  have h1 : i ≤ s.length := h1
  have h2 : n + wordsB w (s.drop i) = wordsB false s := h2
  have hwl := words_le s false
  have hcl := List.count_le_length (a := (10 : UInt8)) (l := s.take i)
  rw [List.length_take] at hcl
  refine SW.seq (SW.run [] _ ?_)
  by_cases hlt : i < s.length
  case neg =>
    obtain rfl : i = s.length := by omega
    have h3 : n = wordsB false s := by rw [List.drop_length] at h2; exact h2
    rw [List.take_length]
    simp only [wpC, mayStop, stops, isFlt, Specs.has, Specs.hasO, Bool.or_false, Specs.hasH, Bool.not_false, List.any_cons, List.any_nil, Bool.false_eq_true, ↓reduceIte, wpS, wantedA, okDst, Nat.reduceLT, decide_true, step1, isOwnCall, hxOp, px, AS.eval, AS.get, Lift.look, reduceCtorEq, Nat.reduceEqDiff, Option.getD_some, AS.put, dropKey, Nat.succ_ne_zero, pcall, ty9, plen, okLen, and_self, isNilC, pbinP, pbinI, Int.ofNat_lt, hlt, decide_false, thenQ, isB, tmpOf, asB, inQ, true_and]
    refine SW.run [] _ ?_
    simp only [wpC, mayStop, stops, isFlt, Specs.has, Specs.hasO, Bool.or_false, Specs.hasH, Bool.not_false, List.any_cons, List.any_nil, Bool.false_eq_true, ↓reduceIte, wpS, wantedA, okDst, Nat.reduceLT, decide_true, step1, isOwnCall, hxOp, px, AS.eval, AS.get, Lift.look, Nat.reduceEqDiff, reduceCtorEq, Option.getD_some, AS.put, dropKey, h3, Nat.succ_ne_zero, pcall, ty9, plen, okLen, and_self, thenQ, RPost, sres, Tryz.results17, sresL, sres1, Option.some.injEq, cntR, Ret_fin, HTo_self, and_true, exists_eq_left']
  have hct := count_take hlt
  rw [words_step hlt] at h2
  have hg : s.getD i 0 = s[i] := by rw [List.getD_eq_getElem?_getD, List.getElem?_eq_getElem hlt]; rfl
  have hw1 : IntKind.i64.wrap ((i : Int) + 1) = ((i + 1 : Nat) : Int) := by rw [w64 (by omega) (by omega)]; rfl
  have hw2 : IntKind.i64.wrap ((((s.take i).count 10 : Nat) : Int) + 1) = (((s.take i).count 10 + 1 : Nat) : Int) := by rw [w64 (by omega) (by omega)]; rfl
  have hw3 : IntKind.i64.wrap (((n : Nat) : Int) + 1) = ((n + 1 : Nat) : Int) := by rw [w64 (by omega) (by omega)]; rfl
  have hi : (i : Int) < (s.length : Int) := by omega
  have hc := sp_cases s[i]
  obtain ⟨b, hb⟩ : ∃ b, b = s[i] := ⟨_, rfl⟩
  rw [← hb] at h2 hg hc hct
  simp only [wpC, mayStop, stops, isFlt, Specs.has, Specs.hasO, Bool.or_false, Specs.hasH, Bool.not_false, List.any_cons, List.any_nil, Bool.false_eq_true, ↓reduceIte, wpS, wantedA, okDst, Nat.reduceLT, decide_true, step1, isOwnCall, hxOp, px, AS.eval, AS.get, Lift.look, reduceCtorEq, Nat.reduceEqDiff, Option.getD_some, AS.put, dropKey, Nat.succ_ne_zero, pcall, ty9, plen, okLen, and_self, isNilC, pbinP, pbinI, Int.ofNat_lt, hlt, thenQ, isB, tmpOf, asB, Has, hasAll, and_true, true_and]
  rcases hc with ⟨e10, e9, es, hbe⟩ | ⟨hne, e10, hc⟩
  · rw [if_pos hbe] at hct
    rw [es, if_neg (by simp)] at h2
    refine SW.seq (SW.block (SW.seq (SW.seq (SW.run [] _ ?_))))
    simp only [wpC, Bool.false_eq_true, ↓reduceIte, wpS, stops, wantedA, okDst, Nat.reduceLT, decide_true, step1, isOwnCall, hxOp, px, AS.eval, AS.get, Lift.look, Nat.succ_ne_zero, Option.getD_some, AS.put, dropKey, Nat.reduceEqDiff, reduceCtorEq, pindex, ty9, Int.natCast_nonneg, Int.toNat_natCast, hlt, and_self, hg, isNilC, pbinP, ofConst, ofVal, pbinI, e10, thenQ, true_and]
    refine SW.run [] _ ?_
    simp only [wpC, isB, AS.get, Lift.look, tmpOf, ↓reduceIte, Option.getD_some, asB, Bool.false_eq_true, wpS, stops, wantedA, okDst, Nat.reduceLT, decide_true, step1, isOwnCall, hxOp, px, AS.eval, Nat.reduceEqDiff, reduceCtorEq, isFlt, ty3, AS.put, dropKey, isNilC, pbinP, ofConst, ofVal, pbinI, hw2, thenQ, true_and]
    refine SW.seq (SW.run [] _ ?_)
    simp only [wpC, Bool.false_eq_true, ↓reduceIte, wpS, stops, wantedA, okDst, Nat.reduceLT, decide_true, step1, isOwnCall, hxOp, px, AS.eval, AS.get, Lift.look, Nat.succ_ne_zero, Option.getD_some, AS.put, dropKey, Nat.reduceEqDiff, reduceCtorEq, pindex, ty9, Int.natCast_nonneg, Int.toNat_natCast, hlt, and_self, hg, isNilC, pbinP, ofConst, ofVal, pbinI, e9, List.getElem?_toArray, List.getElem?_cons_succ, List.getElem?_cons_zero, Option.bind_some, beq_self_eq_true, e10, ppick_bool, beq_tf, Option.some.injEq, ppick_true, thenQ, true_and]
    refine SW.seq (SW.seq (SW.run [] _ ?_))
    simp only [wpC, Bool.false_eq_true, ↓reduceIte, wpS, stops, wantedA, okDst, Nat.reduceLT, decide_true, step1, isOwnCall, hxOp, px, AS.eval, AS.get, Lift.look, Option.getD_some, AS.put, dropKey, Nat.reduceEqDiff, reduceCtorEq, pun, Bool.not_true, List.getElem?_toArray, List.getElem?_cons_succ, List.getElem?_cons_zero, Option.bind_some, beq_ft, Option.some.injEq, ofConst, ofVal, ppick_false, thenQ, true_and]
    refine SW.run [] _ ?_
    simp only [wpC, isB, AS.get, Lift.look, tmpOf, ↓reduceIte, Option.getD_some, asB, Bool.false_eq_true, thenQ, true_and]
    refine SW.run [] _ ?_
    simp only [wpC, Bool.false_eq_true, ↓reduceIte, wpS, stops, wantedA, okDst, Nat.reduceLT, decide_true, step1, isOwnCall, hxOp, px, AS.eval, AS.get, Lift.look, Nat.reduceEqDiff, Option.getD_some, AS.put, dropKey, reduceCtorEq, pun, Bool.not_true, inQ, thenQ, true_and]
    refine SW.run [] _ ?_
    simp only [wpC, Bool.false_eq_true, ↓reduceIte, wpS, stops, wantedA, okDst, Nat.reduceLT, decide_true, step1, isOwnCall, hxOp, px, AS.eval, AS.get, Lift.look, Nat.reduceEqDiff, reduceCtorEq, Option.getD_some, isFlt, ty3, AS.put, dropKey, isNilC, pbinP, ofConst, ofVal, pbinI, hw1, thenQ, Nat.succ_ne_zero, true_and]
    exact ⟨(i + 1, n, false), ⟨hlt, by dsimp only; rw [← h2]; simp⟩, by dsimp only; omega, by rw [hct]; exact ⟨rfl, rfl, rfl, rfl⟩⟩
  · rw [if_neg hne, Nat.add_zero] at hct
    rcases hc with ⟨e9, es⟩ | ⟨e9, ⟨e13, es⟩ | ⟨e13, ⟨e32, es⟩ | ⟨e32, es⟩⟩⟩
    · rw [es, if_neg (by simp)] at h2
      refine SW.seq (SW.block (SW.seq (SW.seq (SW.run [] _ ?_))))
      simp only [wpC, Bool.false_eq_true, ↓reduceIte, wpS, stops, wantedA, okDst, Nat.reduceLT, decide_true, step1, isOwnCall, hxOp, px, AS.eval, AS.get, Lift.look, Nat.succ_ne_zero, Option.getD_some, AS.put, dropKey, Nat.reduceEqDiff, reduceCtorEq, pindex, ty9, Int.natCast_nonneg, Int.toNat_natCast, hlt, and_self, hg, isNilC, pbinP, ofConst, ofVal, pbinI, e10, thenQ, true_and]
      refine SW.run [] _ ?_
      simp only [wpC, isB, AS.get, Lift.look, tmpOf, ↓reduceIte, Option.getD_some, asB, Bool.false_eq_true, thenQ, true_and]
      refine SW.seq (SW.run [] _ ?_)
      simp only [wpC, Bool.false_eq_true, ↓reduceIte, wpS, stops, wantedA, okDst, Nat.reduceLT, decide_true, step1, isOwnCall, hxOp, px, AS.eval, AS.get, Lift.look, Nat.succ_ne_zero, Option.getD_some, AS.put, dropKey, Nat.reduceEqDiff, reduceCtorEq, pindex, ty9, Int.natCast_nonneg, Int.toNat_natCast, hlt, and_self, hg, isNilC, pbinP, ofConst, ofVal, pbinI, e9, List.getElem?_toArray, List.getElem?_cons_succ, List.getElem?_cons_zero, Option.bind_some, beq_tf, Option.some.injEq, ppick_true, thenQ, true_and]
      refine SW.seq (SW.seq (SW.run [] _ ?_))
      simp only [wpC, Bool.false_eq_true, ↓reduceIte, wpS, stops, wantedA, okDst, Nat.reduceLT, decide_true, step1, isOwnCall, hxOp, px, AS.eval, AS.get, Lift.look, Option.getD_some, AS.put, dropKey, Nat.reduceEqDiff, reduceCtorEq, pun, Bool.not_true, List.getElem?_toArray, List.getElem?_cons_succ, List.getElem?_cons_zero, Option.bind_some, beq_ft, Option.some.injEq, ofConst, ofVal, ppick_false, thenQ, true_and]
      refine SW.run [] _ ?_
      simp only [wpC, isB, AS.get, Lift.look, tmpOf, ↓reduceIte, Option.getD_some, asB, Bool.false_eq_true, thenQ, true_and]
      refine SW.run [] _ ?_
      simp only [wpC, Bool.false_eq_true, ↓reduceIte, wpS, stops, wantedA, okDst, Nat.reduceLT, decide_true, step1, isOwnCall, hxOp, px, AS.eval, AS.get, Lift.look, Nat.reduceEqDiff, Option.getD_some, AS.put, dropKey, reduceCtorEq, pun, Bool.not_true, inQ, thenQ, true_and]
      refine SW.run [] _ ?_
      simp only [wpC, Bool.false_eq_true, ↓reduceIte, wpS, stops, wantedA, okDst, Nat.reduceLT, decide_true, step1, isOwnCall, hxOp, px, AS.eval, AS.get, Lift.look, Nat.reduceEqDiff, reduceCtorEq, Option.getD_some, isFlt, ty3, AS.put, dropKey, isNilC, pbinP, ofConst, ofVal, pbinI, hw1, thenQ, Nat.succ_ne_zero, true_and]
      exact ⟨(i + 1, n, false), ⟨hlt, by dsimp only; rw [← h2]; simp⟩, by dsimp only; omega, by rw [hct]; exact ⟨rfl, rfl, rfl, rfl⟩⟩
    · rw [es, if_neg (by simp)] at h2
      refine SW.seq (SW.block (SW.seq (SW.seq (SW.run [] _ ?_))))
      simp only [wpC, Bool.false_eq_true, ↓reduceIte, wpS, stops, wantedA, okDst, Nat.reduceLT, decide_true, step1, isOwnCall, hxOp, px, AS.eval, AS.get, Lift.look, Nat.succ_ne_zero, Option.getD_some, AS.put, dropKey, Nat.reduceEqDiff, reduceCtorEq, pindex, ty9, Int.natCast_nonneg, Int.toNat_natCast, hlt, and_self, hg, isNilC, pbinP, ofConst, ofVal, pbinI, e10, thenQ, true_and]
      refine SW.run [] _ ?_
      simp only [wpC, isB, AS.get, Lift.look, tmpOf, ↓reduceIte, Option.getD_some, asB, Bool.false_eq_true, thenQ, true_and]
      refine SW.seq (SW.run [] _ ?_)
      simp only [wpC, Bool.false_eq_true, ↓reduceIte, wpS, stops, wantedA, okDst, Nat.reduceLT, decide_true, step1, isOwnCall, hxOp, px, AS.eval, AS.get, Lift.look, Nat.succ_ne_zero, Option.getD_some, AS.put, dropKey, Nat.reduceEqDiff, reduceCtorEq, pindex, ty9, Int.natCast_nonneg, Int.toNat_natCast, hlt, and_self, hg, isNilC, pbinP, ofConst, ofVal, pbinI, e9, List.getElem?_toArray, List.getElem?_cons_succ, List.getElem?_cons_zero, Option.bind_some, beq_self_eq_true, e10, ppick_bool, e13, beq_tf, Option.some.injEq, ppick_true, thenQ, true_and]
      refine SW.seq (SW.seq (SW.run [] _ ?_))
      simp only [wpC, Bool.false_eq_true, ↓reduceIte, wpS, stops, wantedA, okDst, Nat.reduceLT, decide_true, step1, isOwnCall, hxOp, px, AS.eval, AS.get, Lift.look, Option.getD_some, AS.put, dropKey, Nat.reduceEqDiff, reduceCtorEq, pun, Bool.not_true, List.getElem?_toArray, List.getElem?_cons_succ, List.getElem?_cons_zero, Option.bind_some, beq_ft, Option.some.injEq, ofConst, ofVal, ppick_false, thenQ, true_and]
      refine SW.run [] _ ?_
      simp only [wpC, isB, AS.get, Lift.look, tmpOf, ↓reduceIte, Option.getD_some, asB, Bool.false_eq_true, thenQ, true_and]
      refine SW.run [] _ ?_
      simp only [wpC, Bool.false_eq_true, ↓reduceIte, wpS, stops, wantedA, okDst, Nat.reduceLT, decide_true, step1, isOwnCall, hxOp, px, AS.eval, AS.get, Lift.look, Nat.reduceEqDiff, Option.getD_some, AS.put, dropKey, reduceCtorEq, pun, Bool.not_true, inQ, thenQ, true_and]
      refine SW.run [] _ ?_
      simp only [wpC, Bool.false_eq_true, ↓reduceIte, wpS, stops, wantedA, okDst, Nat.reduceLT, decide_true, step1, isOwnCall, hxOp, px, AS.eval, AS.get, Lift.look, Nat.reduceEqDiff, reduceCtorEq, Option.getD_some, isFlt, ty3, AS.put, dropKey, isNilC, pbinP, ofConst, ofVal, pbinI, hw1, thenQ, Nat.succ_ne_zero, true_and]
      exact ⟨(i + 1, n, false), ⟨hlt, by dsimp only; rw [← h2]; simp⟩, by dsimp only; omega, by rw [hct]; exact ⟨rfl, rfl, rfl, rfl⟩⟩
    · rw [es, if_neg (by simp)] at h2
      refine SW.seq (SW.block (SW.seq (SW.seq (SW.run [] _ ?_))))
      simp only [wpC, Bool.false_eq_true, ↓reduceIte, wpS, stops, wantedA, okDst, Nat.reduceLT, decide_true, step1, isOwnCall, hxOp, px, AS.eval, AS.get, Lift.look, Nat.succ_ne_zero, Option.getD_some, AS.put, dropKey, Nat.reduceEqDiff, reduceCtorEq, pindex, ty9, Int.natCast_nonneg, Int.toNat_natCast, hlt, and_self, hg, isNilC, pbinP, ofConst, ofVal, pbinI, e10, thenQ, true_and]
      refine SW.run [] _ ?_
      simp only [wpC, isB, AS.get, Lift.look, tmpOf, ↓reduceIte, Option.getD_some, asB, Bool.false_eq_true, thenQ, true_and]
      refine SW.seq (SW.run [] _ ?_)
      simp only [wpC, Bool.false_eq_true, ↓reduceIte, wpS, stops, wantedA, okDst, Nat.reduceLT, decide_true, step1, isOwnCall, hxOp, px, AS.eval, AS.get, Lift.look, Nat.succ_ne_zero, Option.getD_some, AS.put, dropKey, Nat.reduceEqDiff, reduceCtorEq, pindex, ty9, Int.natCast_nonneg, Int.toNat_natCast, hlt, and_self, hg, isNilC, pbinP, ofConst, ofVal, pbinI, e9, List.getElem?_toArray, List.getElem?_cons_succ, List.getElem?_cons_zero, Option.bind_some, beq_self_eq_true, e10, ppick_bool, e13, e32, thenQ, true_and]
      refine SW.seq (SW.seq (SW.run [] _ ?_))
      simp only [wpC, Bool.false_eq_true, ↓reduceIte, wpS, stops, wantedA, okDst, Nat.reduceLT, decide_true, step1, isOwnCall, hxOp, px, AS.eval, AS.get, Lift.look, Option.getD_some, AS.put, dropKey, Nat.reduceEqDiff, reduceCtorEq, pun, Bool.not_true, List.getElem?_toArray, List.getElem?_cons_succ, List.getElem?_cons_zero, Option.bind_some, beq_ft, Option.some.injEq, ofConst, ofVal, ppick_false, thenQ, true_and]
      refine SW.run [] _ ?_
      simp only [wpC, isB, AS.get, Lift.look, tmpOf, ↓reduceIte, Option.getD_some, asB, Bool.false_eq_true, thenQ, true_and]
      refine SW.run [] _ ?_
      simp only [wpC, Bool.false_eq_true, ↓reduceIte, wpS, stops, wantedA, okDst, Nat.reduceLT, decide_true, step1, isOwnCall, hxOp, px, AS.eval, AS.get, Lift.look, Nat.reduceEqDiff, Option.getD_some, AS.put, dropKey, reduceCtorEq, pun, Bool.not_true, inQ, thenQ, true_and]
      refine SW.run [] _ ?_
      simp only [wpC, Bool.false_eq_true, ↓reduceIte, wpS, stops, wantedA, okDst, Nat.reduceLT, decide_true, step1, isOwnCall, hxOp, px, AS.eval, AS.get, Lift.look, Nat.reduceEqDiff, reduceCtorEq, Option.getD_some, isFlt, ty3, AS.put, dropKey, isNilC, pbinP, ofConst, ofVal, pbinI, hw1, thenQ, Nat.succ_ne_zero, true_and]
      exact ⟨(i + 1, n, false), ⟨hlt, by dsimp only; rw [← h2]; simp⟩, by dsimp only; omega, by rw [hct]; exact ⟨rfl, rfl, rfl, rfl⟩⟩
    · rw [es] at h2
      cases w
      · rw [if_pos ⟨rfl, rfl⟩] at h2
        refine SW.seq (SW.block (SW.seq (SW.seq (SW.run [] _ ?_))))
        simp only [wpC, Bool.false_eq_true, ↓reduceIte, wpS, stops, wantedA, okDst, Nat.reduceLT, decide_true, step1, isOwnCall, hxOp, px, AS.eval, AS.get, Lift.look, Nat.succ_ne_zero, Option.getD_some, AS.put, dropKey, Nat.reduceEqDiff, reduceCtorEq, pindex, ty9, Int.natCast_nonneg, Int.toNat_natCast, hlt, and_self, hg, isNilC, pbinP, ofConst, ofVal, pbinI, e10, thenQ, true_and]
        refine SW.run [] _ ?_
        simp only [wpC, isB, AS.get, Lift.look, tmpOf, ↓reduceIte, Option.getD_some, asB, Bool.false_eq_true, thenQ, true_and]
        refine SW.seq (SW.run [] _ ?_)
        simp only [wpC, Bool.false_eq_true, ↓reduceIte, wpS, stops, wantedA, okDst, Nat.reduceLT, decide_true, step1, isOwnCall, hxOp, px, AS.eval, AS.get, Lift.look, Nat.succ_ne_zero, Option.getD_some, AS.put, dropKey, Nat.reduceEqDiff, reduceCtorEq, pindex, ty9, Int.natCast_nonneg, Int.toNat_natCast, hlt, and_self, hg, isNilC, pbinP, ofConst, ofVal, pbinI, e9, List.getElem?_toArray, List.getElem?_cons_succ, List.getElem?_cons_zero, Option.bind_some, beq_self_eq_true, e10, ppick_bool, e13, e32, thenQ, true_and]
        refine SW.seq (SW.seq (SW.run [] _ ?_))
        simp only [wpC, Bool.false_eq_true, ↓reduceIte, wpS, stops, wantedA, okDst, Nat.reduceLT, decide_true, step1, isOwnCall, hxOp, px, AS.eval, AS.get, Lift.look, Option.getD_some, AS.put, dropKey, Nat.reduceEqDiff, reduceCtorEq, pun, Bool.not_false, List.getElem?_toArray, List.getElem?_cons_succ, List.getElem?_cons_zero, Option.bind_some, beq_self_eq_true, ofConst, ofVal, ppick_bool, thenQ, true_and]
        refine SW.run [] _ ?_
        simp only [wpC, isB, AS.get, Lift.look, tmpOf, ↓reduceIte, Option.getD_some, asB, Bool.false_eq_true, wpS, stops, wantedA, okDst, Nat.reduceLT, decide_true, step1, isOwnCall, hxOp, px, AS.eval, Nat.reduceEqDiff, reduceCtorEq, isFlt, ty3, AS.put, dropKey, isNilC, pbinP, ofConst, ofVal, pbinI, hw3, thenQ, true_and]
        refine SW.run [] _ ?_
        simp only [wpC, Bool.false_eq_true, ↓reduceIte, wpS, stops, wantedA, okDst, Nat.reduceLT, decide_true, step1, isOwnCall, hxOp, px, AS.eval, AS.get, Lift.look, Nat.reduceEqDiff, Option.getD_some, AS.put, dropKey, reduceCtorEq, pun, Bool.not_false, inQ, thenQ, true_and]
        refine SW.run [] _ ?_
        simp only [wpC, Bool.false_eq_true, ↓reduceIte, wpS, stops, wantedA, okDst, Nat.reduceLT, decide_true, step1, isOwnCall, hxOp, px, AS.eval, AS.get, Lift.look, Nat.reduceEqDiff, reduceCtorEq, Option.getD_some, isFlt, ty3, AS.put, dropKey, isNilC, pbinP, ofConst, ofVal, pbinI, hw1, thenQ, Nat.succ_ne_zero, true_and]
        exact ⟨(i + 1, n + 1, true), ⟨hlt, by dsimp only; rw [← h2, Nat.add_assoc]; rfl⟩, by dsimp only; omega, by rw [hct]; exact ⟨rfl, rfl, rfl, rfl⟩⟩
      · rw [if_neg (by simp)] at h2
        refine SW.seq (SW.block (SW.seq (SW.seq (SW.run [] _ ?_))))
        simp only [wpC, Bool.false_eq_true, ↓reduceIte, wpS, stops, wantedA, okDst, Nat.reduceLT, decide_true, step1, isOwnCall, hxOp, px, AS.eval, AS.get, Lift.look, Nat.succ_ne_zero, Option.getD_some, AS.put, dropKey, Nat.reduceEqDiff, reduceCtorEq, pindex, ty9, Int.natCast_nonneg, Int.toNat_natCast, hlt, and_self, hg, isNilC, pbinP, ofConst, ofVal, pbinI, e10, thenQ, true_and]
        refine SW.run [] _ ?_
        simp only [wpC, isB, AS.get, Lift.look, tmpOf, ↓reduceIte, Option.getD_some, asB, Bool.false_eq_true, thenQ, true_and]
        refine SW.seq (SW.run [] _ ?_)
        simp only [wpC, Bool.false_eq_true, ↓reduceIte, wpS, stops, wantedA, okDst, Nat.reduceLT, decide_true, step1, isOwnCall, hxOp, px, AS.eval, AS.get, Lift.look, Nat.succ_ne_zero, Option.getD_some, AS.put, dropKey, Nat.reduceEqDiff, reduceCtorEq, pindex, ty9, Int.natCast_nonneg, Int.toNat_natCast, hlt, and_self, hg, isNilC, pbinP, ofConst, ofVal, pbinI, e9, List.getElem?_toArray, List.getElem?_cons_succ, List.getElem?_cons_zero, Option.bind_some, beq_self_eq_true, e10, ppick_bool, e13, e32, thenQ, true_and]
        refine SW.seq (SW.seq (SW.run [] _ ?_))
        simp only [wpC, Bool.false_eq_true, ↓reduceIte, wpS, stops, wantedA, okDst, Nat.reduceLT, decide_true, step1, isOwnCall, hxOp, px, AS.eval, AS.get, Lift.look, Option.getD_some, AS.put, dropKey, Nat.reduceEqDiff, reduceCtorEq, pun, Bool.not_false, List.getElem?_toArray, List.getElem?_cons_succ, List.getElem?_cons_zero, Option.bind_some, beq_self_eq_true, Bool.not_true, ofConst, ofVal, ppick_bool, thenQ, true_and]
        refine SW.run [] _ ?_
        simp only [wpC, isB, AS.get, Lift.look, tmpOf, ↓reduceIte, Option.getD_some, asB, Bool.false_eq_true, thenQ, true_and]
        refine SW.run [] _ ?_
        simp only [wpC, Bool.false_eq_true, ↓reduceIte, wpS, stops, wantedA, okDst, Nat.reduceLT, decide_true, step1, isOwnCall, hxOp, px, AS.eval, AS.get, Lift.look, Nat.reduceEqDiff, Option.getD_some, AS.put, dropKey, reduceCtorEq, pun, Bool.not_false, inQ, thenQ, true_and]
        refine SW.run [] _ ?_
        simp only [wpC, Bool.false_eq_true, ↓reduceIte, wpS, stops, wantedA, okDst, Nat.reduceLT, decide_true, step1, isOwnCall, hxOp, px, AS.eval, AS.get, Lift.look, Nat.reduceEqDiff, reduceCtorEq, Option.getD_some, isFlt, ty3, AS.put, dropKey, isNilC, pbinP, ofConst, ofVal, pbinI, hw1, thenQ, Nat.succ_ne_zero, true_and]
        exact ⟨(i + 1, n, true), ⟨hlt, by dsimp only; rw [← h2]; simp⟩, by dsimp only; omega, by rw [hct]; exact ⟨rfl, rfl, rfl, rfl⟩⟩
def sRCount : List PV → Prop × PV
  | [.str s] => (s.length ≤ 1000000, cntR s)
  | _ => PBad
noncomputable def eRCount : SpecE env := ⟨17, sRCount, fun args h hc => by
  unfold sRCount at hc ⊢
  split at hc
  · rename_i s; exact .inl (RCount_ok s hc h)
  · exact hc.elim⟩
end Go.Proofs.YtincpomenogppaaGreatDoor
