/- Contracts of functions that the law reaches. -/
import Derived.Test.Ytekgfneapofgpaaf
import Derived.Test.YtekgfneapofgpaaLiftD
set_option linter.unusedSimpArgs false
set_option linter.unusedVariables false
namespace Go.Proofs.Ytekgfneapofgpaa
open Go Go.RowKit Go.Proofs.Ytekgfneapofgpaa Go.Proofs.Ytekgfneapofgpaa.Lift

/-! What the laws use: few, one, own -/
theorem eqk35 : eqKinds env 35 = some [.int .i64, .int .i64, .int .i64, .bool] := by kernel_rfl
theorem eqk78 : eqKinds env 78 = some [.int .i64, .int .i64, .int .i64, .bool] := by kernel_rfl
abbrev ActS := Int × Int × List (Int × Bool)
def elA (l : List ActS) : List (List PV) := l.map fun x => [.int .u8 x.1, .int .i64 x.2.1, .list 2 (elO x.2.2)]
theorem elA_len (l : List ActS) : (elA l).length = l.length := List.length_map _
theorem elA_at {l : List ActS} {j : Nat} (h : j < l.length) : (elA l).getD j [] = [.int .u8 l[j].1, .int .i64 l[j].2.1, .list 2 (elO l[j].2.2)] := by
  unfold elA
  rw [List.getD_eq_getElem?_getD, List.getElem?_map, List.getElem?_eq_getElem h]
  rfl
def fewS (l : List ActS) : Bool := decide (l.length ≤ 40) && l.all fun x => decide (x.2.2.length ≤ 8)
theorem few_take {l : List ActS} {j : Nat} (hlt : j < l.length) (h : ∀ x ∈ l.take j, x.2.2.length ≤ 8) (hj : l[j].2.2.length ≤ 8) : ∀ x ∈ l.take (j + 1), x.2.2.length ≤ 8 := by
  rw [take_snoc hlt]
  intro x hx
  rcases List.mem_append.1 hx with hx | hx
  · exact h x hx
  · rw [List.mem_singleton.1 hx]; exact hj
theorem Few_ok (l : List ActS) (h : Heap) : SCalls env 9 [.list 3 (elA l)] h (Ret (.bool (fewS l)) h) := by
  refine SCalls.body Try.func9 rfl rfl (by simp [Try.ntmps9]) ?_
  by_cases h40 : l.length ≤ 40
  case neg =>
    have hf : fewS l = false := by unfold fewS; rw [decide_eq_false h40]; rfl
    have hlI : (40 : Int) < (l.length : Int) := by omega
    refine SW.run [] _ ?_
    simp only [wpC, mayStop, stops, isFlt, Specs.has, Specs.hasO, Bool.or_false, Specs.hasH, Bool.not_false, List.any_cons, List.any_nil, Bool.false_eq_true, ↓reduceIte, wpS, wantedA, okDst, Try.ntmps9, Nat.reduceLT, decide_true, step1, isOwnCall, hxOp, px, AS.eval, ofConst, ofVal, thenQ, AS.put, enumA, dropKey, reduceCtorEq, AS.get, Lift.look, Nat.succ_ne_zero, Option.getD_some, Nat.reduceEqDiff, pcall, ty22, plen, elA_len, okLen, and_self, isNilC, pbinP, pbinI, hlI, isB, tmpOf, asB, RPost, sres, Try.results9, sresL, sres1, Option.some.injEq, hf, Ret_fin, HTo_self, and_true, exists_eq_left']
  have hlI : ¬ (40 : Int) < (l.length : Int) := by omega
  refine SW.seq (SW.run [] _ ?_)
  simp only [wpC, Bool.false_eq_true, ↓reduceIte, wpS, stops, wantedA, okDst, Try.ntmps9, Nat.reduceLT, decide_true, step1, isOwnCall, hxOp, px, AS.eval, ofConst, ofVal, thenQ, AS.put, enumA, dropKey, reduceCtorEq, true_and]
  refine SW.seq (SW.run [] _ ?_)
  simp only [wpC, mayStop, stops, isFlt, Specs.has, Specs.hasO, Bool.or_false, Specs.hasH, Bool.not_false, List.any_cons, List.any_nil, Bool.false_eq_true, ↓reduceIte, wpS, wantedA, okDst, Nat.reduceLT, decide_true, step1, isOwnCall, hxOp, px, AS.eval, AS.get, Lift.look, Nat.succ_ne_zero, Option.getD_some, AS.put, dropKey, Nat.reduceEqDiff, reduceCtorEq, pcall, ty22, plen, elA_len, okLen, and_self, isNilC, pbinP, ofConst, ofVal, pbinI, hlI, decide_false, thenQ, isB, tmpOf, asB, true_and]
  refine SW.seq (SW.seq (SW.run [] _ ?_))
  simp only [wpC, Bool.false_eq_true, ↓reduceIte, wpS, stops, wantedA, okDst, Nat.reduceLT, decide_true, step1, isOwnCall, hxOp, px, AS.eval, ofConst, ofVal, thenQ, AS.put, dropKey, Nat.reduceEqDiff, reduceCtorEq, true_and]
  refine SW.block (SW.loopH 20 (fun i : Nat => [(0, .list 3 (elA l)), (3, .int .i64 (i : Nat))]) (fun _ => h) (fun i => i ≤ l.length ∧ ∀ x ∈ l.take i, x.2.2.length ≤ 8) (fun i => l.length - i) 0 ⟨Nat.zero_le _, by simp⟩ ⟨rfl, .refl _ _, ?_⟩ ?_)
  · simp only [hasAll, AS.get, Lift.look, Nat.succ_ne_zero, ↓reduceIte, Option.getD_some, Int.cast_ofNat_Int, and_self]
  · rintro i ⟨hi, hsk⟩
    refine SW.run [] _ ?_
    by_cases hlt : i < l.length
    · have hw : IntKind.i64.wrap ((i : Int) + 1) = ((i + 1 : Nat) : Int) := by rw [w64 (by omega) (by omega)]; rfl
      have hg := elA_at hlt
      by_cases h8 : l[i].2.2.length ≤ 8
      · have h8I : ¬ (8 : Int) < (l[i].2.2.length : Int) := by omega
        simp only [wpC, mayStop, stops, isFlt, Specs.has, Specs.hasO, Bool.or_false, Specs.hasH, Bool.not_false, List.any_cons, List.any_nil, Bool.false_eq_true, ↓reduceIte, wpS, wantedA, okDst, Nat.reduceLT, decide_true, step1, isOwnCall, hxOp, px, AS.eval, AS.get, Lift.look, reduceCtorEq, Option.getD_some, AS.put, dropKey, Nat.reduceEqDiff, Nat.succ_ne_zero, pcall, ty22, plen, elA_len, okLen, and_self, isNilC, pbinP, pbinI, Int.ofNat_lt, hlt, thenQ, isB, tmpOf, asB, pindexAddr, ty30, ne_eq, not_false_eq_true, Int.natCast_nonneg, Int.toNat_natCast, hg, pfieldAddr, fieldOf, fieldIn, List.getElem?_cons_succ, List.getElem?_cons_zero, ty28, Option.map_some, List.drop_succ_cons, List.drop_zero, pload, okOne, TK.isAgg, beq_self_eq_true, Bool.or_true, List.length_cons, List.length_nil, Nat.zero_add, Nat.le_refl, Lift.valOf, List.take_succ_cons, List.take_nil, List.getD_cons_zero, elO_len, ofConst, ofVal, h8I, decide_false, inQ, ty3, hw, HTo_self, hasAll, and_true, true_and]
        exact ⟨i + 1, ⟨hlt, few_take hlt hsk h8⟩, by omega, rfl⟩
      · have h8I : (8 : Int) < (l[i].2.2.length : Int) := by omega
        have hf : fewS l = false := by
          unfold fewS
          rw [Bool.and_eq_false_iff]
          right
          rw [List.all_eq_false]
          exact ⟨l[i], List.getElem_mem hlt, by simpa using h8⟩
        simp only [wpC, mayStop, stops, isFlt, Specs.has, Specs.hasO, Bool.or_false, Specs.hasH, Bool.not_false, List.any_cons, List.any_nil, Bool.false_eq_true, ↓reduceIte, wpS, wantedA, okDst, Nat.reduceLT, decide_true, step1, isOwnCall, hxOp, px, AS.eval, AS.get, Lift.look, reduceCtorEq, Option.getD_some, AS.put, dropKey, Nat.reduceEqDiff, Nat.succ_ne_zero, pcall, ty22, plen, elA_len, okLen, and_self, isNilC, pbinP, pbinI, Int.ofNat_lt, hlt, thenQ, isB, tmpOf, asB, pindexAddr, ty30, ne_eq, not_false_eq_true, Int.natCast_nonneg, Int.toNat_natCast, hg, pfieldAddr, fieldOf, fieldIn, List.getElem?_cons_succ, List.getElem?_cons_zero, ty28, Option.map_some, List.drop_succ_cons, List.drop_zero, pload, okOne, TK.isAgg, beq_self_eq_true, Bool.or_true, List.length_cons, List.length_nil, Nat.zero_add, Nat.le_refl, Lift.valOf, List.take_succ_cons, List.take_nil, List.getD_cons_zero, elO_len, ofConst, ofVal, h8I, inQ, RPost, sres, Try.results9, sresL, sres1, Option.some.injEq, hf, Ret_fin, HTo_self, and_true, exists_eq_left']
    · obtain rfl : i = l.length := by omega
      rw [List.take_length] at hsk
      have hf : fewS l = true := by
        unfold fewS
        rw [Bool.and_eq_true]
        exact ⟨decide_eq_true h40, List.all_eq_true.2 fun x hx => decide_eq_true (hsk x hx)⟩
      simp only [wpC, mayStop, stops, isFlt, Specs.has, Specs.hasO, Bool.or_false, Specs.hasH, Bool.not_false, List.any_cons, List.any_nil, Bool.false_eq_true, ↓reduceIte, wpS, wantedA, okDst, Nat.reduceLT, decide_true, step1, isOwnCall, hxOp, px, AS.eval, AS.get, Lift.look, reduceCtorEq, Option.getD_some, AS.put, dropKey, Nat.reduceEqDiff, Nat.succ_ne_zero, pcall, ty22, plen, elA_len, okLen, and_self, isNilC, pbinP, pbinI, Int.ofNat_lt, Nat.lt_irrefl, decide_false, thenQ, isB, tmpOf, asB, inQ, true_and]
      refine SW.run [] _ ?_
      simp only [wpC, mayStop, stops, isFlt, Specs.has, Specs.hasO, Bool.or_false, Specs.hasH, Bool.not_false, List.any_cons, List.any_nil, Bool.false_eq_true, ↓reduceIte, wpS, wantedA, okDst, Nat.reduceLT, decide_true, step1, isOwnCall, hxOp, px, AS.eval, ofConst, ofVal, thenQ, RPost, sres, AS.put, dropKey, Nat.reduceEqDiff, reduceCtorEq, Try.results9, sresL, sres1, AS.get, Lift.look, Option.getD_some, Option.some.injEq, hf, Ret_fin, HTo_self, and_true, exists_eq_left', and_self]
def unO : List (List PV) → Option (List (Int × Bool))
  | [] => some []
  | [.int .i64 c, .bool s] :: l => (unO l).map fun os => (c, s) :: os
  | _ => none
theorem unO_el : ∀ os, unO (elO os) = some os
  | [] => rfl
  | o :: os => by
    show (unO (elO os)).map _ = _
    rw [unO_el os]
    rfl
theorem unO_spec : ∀ {xs : List (List PV)} {os}, unO xs = some os → xs = elO os
  | [], os, h => by cases h; rfl
  | [.int .i64 c, .bool s] :: l, os, h => by
    simp only [unO] at h
    cases h1 : unO l with
    | none => rw [h1] at h; cases h
    | some os' =>
      rw [h1] at h
      cases h
      rw [unO_spec h1]; rfl
  | [] :: _, _, h => by simp [unO] at h
theorem Own_ok (os : List (Int × Bool)) (h : Heap) (hl : os.length ≤ 1000000) : SCalls env 14 [.list 2 (elO os)] h (Ret (.list 2 (elO os)) h) := by
  refine SCalls.body Try.func14 rfl rfl (by simp [Try.ntmps14]) ?_
  refine SW.seq (SW.run [] _ ?_)
  simp only [wpC, Bool.false_eq_true, ↓reduceIte, wpS, stops, wantedA, okDst, Try.ntmps14, Nat.reduceLT, decide_true, step1, isOwnCall, hxOp, px, AS.eval, ofConst, ofVal, thenQ, AS.put, enumA, dropKey, reduceCtorEq, true_and]
  refine SW.seq (SW.run [] _ ?_)
  simp only [wpC, Bool.false_eq_true, ↓reduceIte, wpS, stops, wantedA, okDst, Nat.reduceLT, decide_true, step1, isOwnCall, hxOp, px, pbuildSlice, ty28, ty39, AS.eval, AS.get, Lift.look, ofConst, ofVal, List.map_nil, AS.put, dropKey, Nat.reduceEqDiff, reduceCtorEq, Nat.succ_ne_zero, Option.getD_some, true_and]
  refine SWO.appendC (.tmp 3) (.tmp 4) 28 28 rfl ty28 rfl ty39 (by decide) rfl ty28 rfl (h0 := h) (xs := []) (.inl ⟨rfl, rfl, rfl⟩) (ys := elO os) rfl (by rw [elO_len]; show (0 + _) * 16 ≤ _; omega) (by rw [elO_len]; simp [maxLen]; omega) rfl rfl ?_
  intro v' h' ow _ _
  have ow2 : OwnC h 39 2 (elO os) v' h' := by
    rcases ow with ow | ⟨_, h1, _, h3, h4⟩
    · exact .inr (by simpa using ow)
    · exact .inl ⟨h1, h3, h4⟩
  refine SWO.run [] 1000 ?_
  simp only [wpS, stops, Bool.false_eq_true, ↓reduceIte, wantedA, okDst, AS.put, dropKey, Nat.reduceEqDiff, reduceCtorEq, Nat.reduceLT, decide_true, step1, isOwnCall, hxOp, px, AS.eval, AS.get, Lift.look, Option.getD_some, thenQ, true_and]
  refine SW.own_letC 2 rfl ow2 ?_
  refine SW.run [] _ ?_
  simp only [wpC, RPost, sres, AS.put, dropKey, ↓reduceIte, Nat.reduceEqDiff, reduceCtorEq, Try.results14, sresL, sres1, AS.get, Lift.look, Option.getD_some, Option.some.injEq, Ret_fin, HTo_self, and_true, exists_eq_left']
def sOwn : List PV → Prop × PV
  | [.list 2 xs] => match unO xs with
    | some os => (os.length ≤ 1000000, .list 2 (elO os))
    | none => PBad
  | _ => PBad
noncomputable def eOwn : SpecE env := ⟨14, sOwn, fun args h hc => by
  unfold sOwn at hc ⊢
  split at hc
  · rename_i xs
    split at hc
    · rename_i os ho
      rw [unO_spec ho]
      exact .inl (Own_ok os h hc)
    · exact hc.elim
  · exact hc.elim⟩
def oneV : List (Int × Bool) → PV
  | [] => .agg [.int .i64 0, .bool false]
  | o :: _ => .agg [.int .i64 o.1, .bool o.2]
theorem One_ok (os : List (Int × Bool)) (h : Heap) : SCalls env 21 [.list 2 (elO os)] h (Ret (oneV os) h) := by
  refine SCalls.body Try.func21 rfl rfl (by simp [Try.ntmps21]) ?_
  cases os with
  | nil =>
    refine SW.run [] _ ?_
    simp only [wpC, mayStop, stops, isFlt, Specs.has, Specs.hasO, Bool.or_false, Specs.hasH, Bool.not_false, List.any_cons, List.any_nil, Bool.false_eq_true, ↓reduceIte, wpS, wantedA, okDst, Try.ntmps21, Nat.reduceLT, decide_true, step1, okAlloc, ty39, okZero, List.all_cons, Value.oneCell', List.all_nil, Bool.and_true, thenQ, AS.put, enumA, elO, List.map_nil, dropKey, reduceCtorEq, isOwnCall, hxOp, px, AS.eval, AS.get, Lift.look, Nat.succ_ne_zero, Option.getD_some, Nat.reduceEqDiff, zeroOf, List.map_cons, ofVal, List.length_cons, List.length_nil, Nat.zero_add, Nat.reduceAdd, pcall, ty28, plen, okLen, and_self, Int.cast_ofNat_Int, isNilC, pbinP, ofConst, pbinI, beq_self_eq_true, isB, tmpOf, asB, pbuild, pfill, ty3, Option.isSome_some, ty4, known, hx, Heap.get_put, known1, PV.cells, Nat.le_refl, splice, List.take_zero, List.nil_append, List.drop_succ_cons, List.drop_nil, List.append_nil, RPost, sres, Try.results21, sresL, sres1, okOne, TK.isAgg, Nat.reduceBEq, Lift.valOf, List.drop_zero, List.take_succ_cons, List.take_nil, Option.some.injEq, oneV, Ret_fin, exists_eq_left', true_and]
    intro r hr
    rw [Heap.put_put]
    exact Inc.to ((Inc.self h).put hr _)
  | cons o os =>
    have hne : ((((o :: os).length : Nat) : Int) == 0) = false := by
      rw [beq_eq_false_iff_ne, List.length_cons]; omega
    have hg := elO_at (os := o :: os) (j := 0) (by simp)
    refine SW.run [] _ ?_
    simp only [wpC, mayStop, stops, isFlt, Specs.has, Specs.hasO, Bool.or_false, Specs.hasH, Bool.not_false, List.any_cons, List.any_nil, Bool.false_eq_true, ↓reduceIte, wpS, wantedA, okDst, Try.ntmps21, Nat.reduceLT, decide_true, step1, okAlloc, ty39, okZero, List.all_cons, Value.oneCell', List.all_nil, Bool.and_true, thenQ, AS.put, enumA, dropKey, reduceCtorEq, isOwnCall, hxOp, px, AS.eval, AS.get, Lift.look, Nat.succ_ne_zero, Option.getD_some, Nat.reduceEqDiff, zeroOf, List.map_cons, ofVal, List.map_nil, List.length_cons, List.length_nil, Nat.zero_add, Nat.reduceAdd, pcall, ty28, plen, elO_len, okLen, and_self, isNilC, pbinP, ofConst, pbinI, isB, tmpOf, asB, pbuild, pfill, ty3, Option.isSome_some, ty4, known, hx, Heap.get_put, known1, PV.cells, Nat.le_refl, splice, List.take_zero, List.nil_append, List.drop_succ_cons, List.drop_nil, List.append_nil, RPost, sres, Try.results21, sresL, sres1, okOne, TK.isAgg, Nat.reduceBEq, Lift.valOf, List.drop_zero, List.take_succ_cons, List.take_nil, Option.some.injEq, oneV, Ret_fin, exists_eq_left', true_and, pindexAddr, ne_eq, not_false_eq_true, Int.reduceLE, Int.reduceToNat, hg, pload]
    intro r hr
    have hne2 : ¬ ((((os.length + 1 : Nat) : Int) == 0) = true) := by rw [List.length_cons] at hne; rw [hne]; decide
    rw [if_neg hne2, Heap.put_put]
    exact ⟨by omega, rfl, Inc.to ((Inc.self h).put hr _)⟩
def sOne : List PV → Prop × PV
  | [.list 2 xs] => match unO xs with
    | some os => (True, oneV os)
    | none => PBad
  | _ => PBad
noncomputable def eOne : SpecE env := ⟨21, sOne, fun args h hc => by
  unfold sOne at hc ⊢
  split at hc
  · rename_i xs
    split at hc
    · rename_i os ho
      rw [unO_spec ho]
      exact .inl (One_ok os h)
    · exact hc.elim
  · exact hc.elim⟩
end Go.Proofs.Ytekgfneapofgpaa
