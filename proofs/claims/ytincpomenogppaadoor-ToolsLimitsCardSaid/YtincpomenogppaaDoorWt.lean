/- Contracts of functions that the law reaches. -/
import Derived.Test.YtincpomenogppaaDoorWs
set_option linter.unusedSimpArgs false
set_option linter.unusedVariables false
namespace Go.Proofs.YtincpomenogppaaDoor
open Go Go.RowKit Go.Proofs.YtincpomenogppaaDoor Go.Proofs.YtincpomenogppaaDoor.Lift
set_option maxRecDepth 100000

/-! ToolsLimits -/
theorem u8_b {n : Int} (h : (Lit.int .u8 n).wf = true) : 0 ≤ n ∧ n < 256 := by
  simp [Lit.wf, IntKind.min, IntKind.max, IntKind.signed, IntKind.bits] at h
  omega
theorem Repeat_ok (s : List UInt8) (n : Nat) (h : Heap) (hn : n ≤ 1000000) (hs : s.length ≤ 1000000) : SCalls env 22 [.str s, .int .i64 (n : Nat)] h (Ret (.str (Lib.repeatL s n)) h) :=
  SCalls.ofBelow Tryd.func22 rfl rfl fun w I G vs g r => by
    obtain ⟨u, us, rfl, hu, u2, us2, rfl, hu2, h3⟩ := r
    have h3 : us2 = [] := h3
    subst h3
    obtain rfl : u = .string ⟨s.toArray⟩ := hu
    obtain rfl : u2 = .int .i64 (n : Nat) := hu2
    have hb : s.length * n ≤ 1000000 * 1000000 := Nat.mul_le_mul hs hn
    have hr := Tryd.strings_Repeat ⟨s.toArray⟩ n w (by omega) (by show s.toArray.size * n ≤ _; rw [List.size_toArray]; omega)
    have e1 : (⟨s.toArray⟩ : ByteArray).data.toList = s := by simp
    rw [e1] at hr
    exact ⟨.string ⟨(Lib.repeatL s n).toArray⟩, fun _ => rfl, hr⟩
def sRepeat : List PV → Prop × PV
  | [.str s, .int .i64 n] => (0 ≤ n ∧ n ≤ 1000000 ∧ s.length ≤ 1000000, .str (Lib.repeatL s n.toNat))
  | _ => PBad
noncomputable def eRepeat : SpecE env := ⟨22, sRepeat, fun args h hc => by
  unfold sRepeat at hc ⊢
  split at hc
  · rename_i s n
    obtain ⟨k, rfl⟩ : ∃ k : Nat, n = (k : Int) := ⟨n.toNat, by have := hc.1; omega⟩
    exact .inl (Repeat_ok s k h (by have := hc.2.1; omega) hc.2.2)
  · exact hc.elim⟩
theorem lines_many : ∀ n, (linesOf (List.replicate n 10)).length = n
  | 0 => rfl
  | n + 1 => by
    rw [List.replicate_succ, linesOf, if_pos rfl, List.length_cons, lines_many n]
theorem repeatL_one (b : UInt8) : ∀ n, Lib.repeatL [b] n = List.replicate n b
  | 0 => rfl
  | n + 1 => by
    unfold Lib.repeatL
    rw [repeatL_one b n, List.replicate_succ]
    rfl
set_option maxHeartbeats 4000000 in
theorem ToolsLimits_ok (n : Int) (s : List UInt8) (h : Heap) (h0 : 0 ≤ n) (h1 : n < 256) : SCalls env 6 [.int .u8 n, .str s] h (Ret (.bool true) h) := by
  refine SCalls.body Tryd.func6 rfl rfl (by simp [Tryd.ntmps6]) ?_
  obtain ⟨k, hk, hk3⟩ : ∃ k : Nat, n.tmod 3 = (k : Int) ∧ k < 3 := by
    have e : n.tmod 3 = n % 3 := Int.tmod_eq_emod_of_nonneg h0
    exact ⟨(n % 3).toNat, by omega, by omega⟩
  refine SW.seq (SW.run [] _ ?_)
  simp only [wpC, Bool.false_eq_true, ↓reduceIte, wpS, stops, wantedA, okDst, Tryd.ntmps6, Nat.reduceLT, decide_true, step1, isOwnCall, hxOp, px, AS.eval, ofConst, ofVal, thenQ, AS.put, enumA, Nat.zero_add, dropKey, reduceCtorEq, Nat.reduceEqDiff, true_and]
  refine SW.seq (SW.run [eAwake] _ ?_)
  simp only [wpC, mayStop, stops, isFlt, Specs.has, eAwake, Specs.hasO, Bool.or_false, Specs.hasH, List.any_cons, ↓reduceIte, Bool.not_true, List.any_nil, Bool.false_eq_true, wpS, wantedA, okDst, Nat.reduceLT, decide_true, step1, isOwnCall, hxOp, px, pcall, okArg, AS.eval, AS.get, Lift.look, ofConst, ofVal, List.all_nil, Specs.at, List.map_nil, sAwake, and_self, AS.put, dropKey, Nat.reduceEqDiff, reduceCtorEq, pun, Option.getD_some, ppick_bool, thenQ, isB, tmpOf, asB, true_and]
  refine SW.seq (SW.run [] _ ?_)
  by_cases hs : 100 < s.length
  · have hs' : (100 : Int) < ((s.length : Nat) : Int) := by omega
    simp only [wpC, mayStop, stops, isFlt, Specs.has, Specs.hasO, Bool.or_false, Specs.hasH, Bool.not_false, List.any_cons, List.any_nil, Bool.false_eq_true, ↓reduceIte, wpS, wantedA, okDst, Nat.reduceLT, decide_true, step1, isOwnCall, hxOp, px, AS.eval, AS.get, Lift.look, Nat.reduceEqDiff, reduceCtorEq, Option.getD_some, AS.put, dropKey, pcall, ty9, plen, okLen, and_self, isNilC, pbinP, ofConst, ofVal, pbinI, hs', thenQ, isB, tmpOf, asB, RPost, sres, Tryd.results6, sresL, sres1, Option.some.injEq, Ret_fin, HTo_self, and_true, exists_eq_left']
  have hs' : ¬ (100 : Int) < ((s.length : Nat) : Int) := by omega
  simp only [wpC, mayStop, stops, isFlt, Specs.has, Specs.hasO, Bool.or_false, Specs.hasH, Bool.not_false, List.any_cons, List.any_nil, Bool.false_eq_true, ↓reduceIte, wpS, wantedA, okDst, Nat.reduceLT, decide_true, step1, isOwnCall, hxOp, px, AS.eval, AS.get, Lift.look, Nat.reduceEqDiff, reduceCtorEq, Option.getD_some, AS.put, dropKey, pcall, ty9, plen, okLen, and_self, isNilC, pbinP, ofConst, ofVal, pbinI, hs', decide_false, thenQ, isB, tmpOf, asB, true_and]
  have hw1 : IntKind.i64.wrap (k : Int) = (k : Int) := w64 (by omega) (by omega)
  have hw2 : IntKind.i64.wrap (1000 + (k : Int)) = 1000 + (k : Int) := w64 (by omega) (by omega)
  have hw3 : IntKind.i64.wrap (1000 + (k : Int) - 1) = 1000 + (k : Int) - 1 := w64 (by omega) (by omega)
  refine SW.seq (SW.run [eRepeat] _ ?_)
  simp only [wpC, Bool.false_eq_true, ↓reduceIte, wpS, stops, wantedA, okDst, Nat.reduceLT, decide_true, step1, isOwnCall, hxOp, px, AS.eval, AS.get, Lift.look, Nat.succ_ne_zero, Option.getD_some, AS.put, dropKey, Nat.reduceEqDiff, reduceCtorEq, isNilC, pbinP, ofConst, ofVal, pbinI, ne_eq, Int.reduceEq, not_false_eq_true, and_self, hk, ty5, ty3, pconvH, pconv, hw1, isFlt, hw2, hw3, Specs.has, eRepeat, Specs.hasO, Bool.or_false, Specs.hasH, Bool.not_true, pcall, okArg, List.all_cons, List.all_nil, Bool.and_true, Specs.at, List.map_cons, List.map_nil, sRepeat, List.length_cons, List.length_nil, Nat.zero_add, Nat.reduceLeDiff, and_true, true_and, thenQ]
  refine ⟨⟨by omega, by omega⟩, ?_⟩
  have hrep : Lib.repeatL [10] (1000 + (k : Int) - 1).toNat = List.replicate (999 + k) 10 := by rw [repeatL_one]; congr 1; omega
  rw [hrep]
  have hml : (List.replicate (999 + k) (10 : UInt8)).length ≤ 1000000 := by rw [List.length_replicate]; omega
  have hmn : (linesOf (List.replicate (999 + k) 10)).length = 999 + k := lines_many _
  have hs6 : s.length ≤ 1000000 := by omega
  have hsl := linesOf_len s
  have hd1 : diffR (List.replicate (999 + k) 10) s = if k = 2 then .tuple [.list 4 [], .int .i64 3] else .tuple [.list 4 (edL (diffS (linesOf (List.replicate (999 + k) 10)) (linesOf s))), .int .i64 0] := by
    unfold diffR
    by_cases hk2 : k = 2
    · rw [if_pos (by omega), if_pos hk2]
    · rw [if_neg (by omega), if_neg hk2]
  have hd2 : diffR s (List.replicate (999 + k) 10) = if k = 2 then .tuple [.list 4 [], .int .i64 3] else .tuple [.list 4 (edL (diffS (linesOf s) (linesOf (List.replicate (999 + k) 10)))), .int .i64 0] := by
    unfold diffR
    by_cases hk2 : k = 2
    · rw [if_pos (by omega), if_pos hk2]
    · rw [if_neg (by omega), if_neg hk2]
  generalize List.replicate (999 + k) (10 : UInt8) = m at hd1 hd2 hml ⊢
  by_cases hk2 : k = 2
  · have hk' : ((k : Int) == 2) = true := by rw [hk2]; rfl
    rw [if_pos hk2] at hd1 hd2
    refine SW.seq (SW.run [eDiff] _ ?_)
    simp only [wpC, Bool.false_eq_true, ↓reduceIte, wpS, stops, wantedA, okDst, Nat.reduceLT, decide_true, step1, isOwnCall, hxOp, px, AS.eval, AS.get, Lift.look, Option.getD_some, AS.put, dropKey, Nat.reduceEqDiff, reduceCtorEq, Specs.has, eDiff, Specs.hasO, Bool.or_false, Specs.hasH, Bool.not_true, pcall, okArg, ofConst, ofVal, List.all_cons, List.all_nil, Bool.and_true, Specs.at, List.map_cons, List.map_nil, sDiff, hml, hs6, and_self, hd1, List.getElem?_cons_zero, List.getElem?_cons_succ, thenQ, true_and]
    refine SW.seq (SW.run [eDiff] _ ?_)
    simp only [wpC, Bool.false_eq_true, ↓reduceIte, wpS, stops, wantedA, okDst, Nat.reduceLT, decide_true, step1, isOwnCall, hxOp, px, AS.eval, AS.get, Lift.look, Nat.reduceEqDiff, reduceCtorEq, Option.getD_some, AS.put, dropKey, Specs.has, eDiff, Specs.hasO, Bool.or_false, Specs.hasH, Bool.not_true, pcall, okArg, ofConst, ofVal, List.all_cons, List.all_nil, Bool.and_true, Specs.at, List.map_cons, List.map_nil, sDiff, hs6, hml, and_self, hd2, List.getElem?_cons_zero, List.getElem?_cons_succ, thenQ, true_and]
    refine SW.seq (SW.run [] _ ?_)
    simp only [wpC, mayStop, stops, isFlt, Specs.has, Specs.hasO, Bool.or_false, Specs.hasH, Bool.not_false, List.any_cons, List.any_nil, Bool.false_eq_true, ↓reduceIte, wpS, wantedA, okDst, Nat.reduceLT, decide_true, step1, isOwnCall, hxOp, px, AS.eval, AS.get, Lift.look, Nat.succ_ne_zero, Option.getD_some, AS.put, dropKey, Nat.reduceEqDiff, reduceCtorEq, isNilC, pbinP, ofConst, ofVal, pbinI, ne_eq, Int.reduceEq, not_false_eq_true, and_self, hk, hk', thenQ, isB, tmpOf, asB, beq_self_eq_true, List.getElem?_toArray, List.getElem?_cons_succ, List.getElem?_cons_zero, Option.bind_some, ppick_bool, pcall, ty24, plen, List.length_nil, okLen, Int.cast_ofNat_Int, RPost, sres, Tryd.results6, sresL, sres1, Option.some.injEq, Ret_fin, HTo_self, and_true, exists_eq_left']
  · have hk' : ((k : Int) == 2) = false := by rw [beq_eq_false_iff_ne]; omega
    rw [if_neg hk2] at hd1 hd2
    refine SW.seq (SW.run [eDiff] _ ?_)
    simp only [wpC, Bool.false_eq_true, ↓reduceIte, wpS, stops, wantedA, okDst, Nat.reduceLT, decide_true, step1, isOwnCall, hxOp, px, AS.eval, AS.get, Lift.look, Option.getD_some, AS.put, dropKey, Nat.reduceEqDiff, reduceCtorEq, Specs.has, eDiff, Specs.hasO, Bool.or_false, Specs.hasH, Bool.not_true, pcall, okArg, ofConst, ofVal, List.all_cons, List.all_nil, Bool.and_true, Specs.at, List.map_cons, List.map_nil, sDiff, hml, hs6, and_self, hd1, List.getElem?_cons_zero, List.getElem?_cons_succ, thenQ, true_and]
    refine SW.seq (SW.run [eDiff] _ ?_)
    simp only [wpC, Bool.false_eq_true, ↓reduceIte, wpS, stops, wantedA, okDst, Nat.reduceLT, decide_true, step1, isOwnCall, hxOp, px, AS.eval, AS.get, Lift.look, Nat.reduceEqDiff, reduceCtorEq, Option.getD_some, AS.put, dropKey, Specs.has, eDiff, Specs.hasO, Bool.or_false, Specs.hasH, Bool.not_true, pcall, okArg, ofConst, ofVal, List.all_cons, List.all_nil, Bool.and_true, Specs.at, List.map_cons, List.map_nil, sDiff, hs6, hml, and_self, hd2, List.getElem?_cons_zero, List.getElem?_cons_succ, thenQ, true_and]
    refine SW.seq (SW.run [] _ ?_)
    simp only [wpC, mayStop, stops, isFlt, Specs.has, Specs.hasO, Bool.or_false, Specs.hasH, Bool.not_false, List.any_cons, List.any_nil, Bool.false_eq_true, ↓reduceIte, wpS, wantedA, okDst, Nat.reduceLT, decide_true, step1, isOwnCall, hxOp, px, AS.eval, AS.get, Lift.look, Nat.succ_ne_zero, Option.getD_some, AS.put, dropKey, Nat.reduceEqDiff, reduceCtorEq, isNilC, pbinP, ofConst, ofVal, pbinI, ne_eq, Int.reduceEq, not_false_eq_true, and_self, hk, hk', thenQ, isB, tmpOf, asB, true_and]
    refine SW.run [] _ ?_
    simp only [wpC, mayStop, stops, isFlt, Specs.has, Specs.hasO, Bool.or_false, Specs.hasH, Bool.not_false, List.any_cons, List.any_nil, Bool.false_eq_true, ↓reduceIte, wpS, wantedA, okDst, Nat.reduceLT, decide_true, step1, isOwnCall, hxOp, px, AS.eval, AS.get, Lift.look, Nat.reduceEqDiff, Option.getD_some, AS.put, dropKey, reduceCtorEq, isNilC, pbinP, ofConst, ofVal, pbinI, beq_self_eq_true, List.getElem?_toArray, List.getElem?_cons_succ, List.getElem?_cons_zero, Option.bind_some, ppick_bool, thenQ, RPost, sres, Tryd.results6, sresL, sres1, Option.some.injEq, Ret_fin, HTo_self, and_true, exists_eq_left', and_self]
end Go.Proofs.YtincpomenogppaaDoor
