/- Contracts of functions that the law reaches. -/
import Derived.Test.YthlibdhjcjangaaDoorTl
import Derived.Test.YthlibdhjcjangaaDoorLiftQ
set_option linter.unusedSimpArgs false
set_option linter.unusedVariables false
namespace Go.Proofs.YthlibdhjcjangaaDoor
open Go Go.RowKit Go.Proofs.YthlibdhjcjangaaDoor Go.Proofs.YthlibdhjcjangaaDoor.Lift
set_option maxRecDepth 100000

/-- runes, as a slice of one's own. -/
theorem Runes_own (l : List UInt8) (w : Bool) (h : Heap) (hl : l.length ≤ 1000000000) : SCalls env 33 [.agg [.str l, .bool w]] h (fun e h' => ∃ v, e = .ret v ∧ Own h 21 1 (elR (charsS l w)) v h') := by
  refine SCalls.body Tryd.func33 rfl rfl (by simp [Tryd.ntmps33]) (SW.run [eLen, eChar] _ ?_)
  simp only [wpC, mayStop, stops, isFlt, Specs.has, eLen, Specs.hasO, Bool.or_false, Specs.hasH, List.any_cons, List.any_nil, Bool.false_eq_true, ↓reduceIte, wpS, wantedA, okDst, Tryd.ntmps33, Nat.reduceLT, decide_true, step1, known1, AS.eval, AS.get, enumA, Lift.look, Option.getD_some, AS.put, dropKey, reduceCtorEq, isOwnCall, hxOp, px, ofConst, ofVal, thenQ, Bool.not_true, Bool.or_true, Nat.reduceEqDiff, PV.cells, List.length_cons, List.length_nil, Nat.zero_add, Nat.reduceAdd, pload, ty24, Heap.get_put, okOne, TK.isAgg, Nat.reduceBEq, Nat.le_refl, and_self, Lift.valOf, List.drop_zero, List.take_succ_cons, List.take_nil, pcall, okArg, List.all_cons, List.all_nil, Bool.and_true, Specs.at, List.map_cons, List.map_nil, sLen, true_and, Tryd.results33]
  intro r hr
  refine ⟨hl, ?_⟩
  have hln : lenS l w ≤ 1000000000 := by unfold lenS; split <;> omega
  refine SWO.make 56 (.tmp 6) (.tmp 6) rfl ty56 rfl ty21 rfl rfl (by decide) (n := lenS l w) rfl rfl (by simp; omega) (by omega) rfl rfl fun q hq => ?_
  have hq : q ≠ r ∧ h q = none := by simpa [Heap.put_none] using hq
  have hqr := hq.1
  have hrq := Ne.symm hq.1
  refine SWO.run [] 1000 ?_
  simp only [wpS, stops, Bool.false_eq_true, ↓reduceIte, wantedA, okDst, AS.put, dropKey, Nat.reduceEqDiff, reduceCtorEq, Nat.reduceLT, decide_true, step1, isOwnCall, hxOp, px, AS.eval, AS.get, Lift.look, Option.getD_some, thenQ, List.map_cons, ofVal, List.map_nil, true_and]
  refine SW.seq (SW.seq (SW.run [] _ ?_))
  simp only [wpC, Bool.false_eq_true, ↓reduceIte, wpS, stops, wantedA, okDst, Nat.reduceLT, decide_true, step1, isOwnCall, hxOp, px, AS.eval, AS.get, Lift.look, Option.getD_some, AS.put, dropKey, Nat.reduceEqDiff, reduceCtorEq, pcall, ty56, plen, okLen, and_self, ofConst, ofVal, thenQ, true_and]
  refine SW.block (SW.loopK 21 (fun i => [(1, .val (.pointer (some ⟨r, 0, none⟩))), (3, .val (.slice (some ⟨q, 0, none⟩) (lenS l w) (lenS l w))), (9, .int .i64 (lenS l w)), (10, .int .i64 (i : Nat))]) (fun i => (h.put r (.cells 24 2 [.str l, .bool w])).put q (.cells 21 (lenS l w) (fillRow (fun j => .int .i32 (charS l w j)) (fun _ => .int .i32 0) (lenS l w) i))) (fun i => i ≤ lenS l w) (fun i => lenS l w - i) 0 (Nat.zero_le _) ?_ ?_)
  · simp only [Has, Nat.mul_one, replicate_single, fillRow_zero, hasAll, AS.get, Lift.look, Nat.reduceEqDiff, ↓reduceIte, Option.getD_some, Int.cast_ofNat_Int, and_self]
  intro i hi
  refine SW.run [eChar] _ ?_
  by_cases hlt : i < lenS l w
  · simp only [wpC, mayStop, stops, isFlt, Specs.has, eChar, Specs.hasO, Bool.or_false, Specs.hasH, List.any_cons, List.any_nil, Bool.false_eq_true, ↓reduceIte, wpS, wantedA, okDst, Nat.reduceLT, decide_true, step1, isOwnCall, hxOp, px, isNilC, pbinP, AS.eval, AS.get, Lift.look, Nat.reduceEqDiff, Option.getD_some, pbinI, Int.ofNat_lt, hlt, thenQ, isB, AS.put, dropKey, tmpOf, asB, Bool.not_true, pload, ty24, Heap.get_put, hrq, okOne, TK.isAgg, Nat.reduceBEq, Nat.zero_add, List.length_cons, List.length_nil, Nat.reduceAdd, Nat.le_refl, and_self, Lift.valOf, List.drop_zero, List.take_succ_cons, List.take_nil, pcall, okArg, ofConst, ofVal, List.all_cons, List.all_nil, Bool.and_true, Specs.at, List.map_cons, List.map_nil, sChar, hl, Int.natCast_nonneg, Int.toNat_natCast, pindexAddr, ty56, ty21, Nat.mul_one, hx, known1, PV.cells, fillRow_len, true_and, splice, inQ, ty3, Has, hasAll, and_true]
    refine ⟨hlt, i + 1, hlt, by omega, ?_, by rw [w64 (by omega) (by omega)]; rfl⟩
    rw [Heap.put_put, fillRow_store (fun j => .int .i32 (charS l w j)) (fun _ => .int .i32 0) hlt]
  · simp only [wpC, mayStop, stops, isFlt, Specs.has, Specs.hasO, Bool.or_false, Specs.hasH, List.any_cons, List.any_nil, Bool.false_eq_true, ↓reduceIte, wpS, wantedA, okDst, Nat.reduceLT, decide_true, step1, isOwnCall, hxOp, px, isNilC, pbinP, AS.eval, AS.get, Lift.look, Nat.reduceEqDiff, Option.getD_some, pbinI, Int.ofNat_lt, hlt, decide_false, thenQ, isB, AS.put, dropKey, tmpOf, asB, inQ, true_and]
    have hi' : i = lenS l w := by omega
    subst hi'
    refine SW.run [] _ ?_
    simp only [wpC, mayStop, stops, isFlt, Specs.has, Specs.hasO, Bool.or_false, Specs.hasH, Bool.not_false, List.any_cons, List.any_nil, Bool.false_eq_true, ↓reduceIte, wpS, wantedA, okDst, Nat.reduceLT, decide_true, step1, isOwnCall, hxOp, px, AS.eval, AS.get, Lift.look, Nat.reduceEqDiff, Option.getD_some, AS.put, dropKey, thenQ, RPost, sres, sresL, sres1, Option.some.injEq, exists_eq_left', true_and]
    refine ⟨h.put q (.cells 21 (lenS l w) (fillRow (fun j => .int .i32 (charS l w j)) (fun _ => .int .i32 0) (lenS l w) (lenS l w))), HSub.to fun k => ?_, _, rfl, .inr ⟨q, lenS l w, ?_, ?_, by simp only [maxLen]; omega, hq.2, ?_, ?_⟩⟩
    · by_cases e1 : k = q
      · subst e1; right; rw [Heap.put_same, Heap.put_same]
      · rw [Heap.put_ne _ _ e1, Heap.put_ne _ _ e1]
        by_cases e2 : k = r
        · subst e2; exact .inl hr
        · right; rw [Heap.put_ne _ _ e2]
    · rw [elR_len, charsS_len]
    · rw [elR_len, charsS_len]; exact Nat.le_refl _
    · rw [Nat.mul_one, fillRow_all]
      congr 2
      unfold elR charsS
      rw [List.map_map, show ((fun n => [PV.int .i32 n]) ∘ charS l w) = ((fun x => [x]) ∘ fun j => PV.int .i32 (charS l w j)) from rfl, ← List.map_map, flatten_single]
    · intro x hx
      obtain ⟨b, _, rfl⟩ := List.mem_map.1 hx
      rfl
end Go.Proofs.YthlibdhjcjangaaDoor
