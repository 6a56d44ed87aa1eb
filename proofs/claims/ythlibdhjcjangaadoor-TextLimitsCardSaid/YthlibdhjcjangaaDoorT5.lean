/- Contracts of functions that the law reaches. -/
import Derived.Test.YthlibdhjcjangaaDoorT4
set_option linter.unusedSimpArgs false
set_option linter.unusedVariables false
namespace Go.Proofs.YthlibdhjcjangaaDoor
open Go Go.RowKit Go.Proofs.YthlibdhjcjangaaDoor Go.Proofs.YthlibdhjcjangaaDoor.Lift
set_option maxRecDepth 100000

/-- The number of characters. -/
def lenS (l : List UInt8) (w : Bool) : Nat := if w = true then l.length / 4 else l.length
def sLen : List PV → Prop × PV
  | [.agg [.str l, .bool w]] => (l.length ≤ 1000000000, .int .i64 (lenS l w))
  | _ => PBad
theorem Len_ok (l : List UInt8) (w : Bool) (h : Heap) (hl : l.length ≤ 1000000000) : SCalls env 11 [.agg [.str l, .bool w]] h (Ret (.int .i64 (lenS l w)) h) := by
  refine SCalls.body Tryd.func11 rfl rfl (by simp [Tryd.ntmps11]) (SW.run [] _ ?_)
  simp only [wpC, mayStop, stops, isFlt, Specs.has, Specs.hasO, Bool.or_false, Specs.hasH, Bool.not_false, List.any_cons, List.any_nil, Bool.false_eq_true, ↓reduceIte, wpS, wantedA, okDst, Tryd.ntmps11, Nat.reduceLT, decide_true, step1, known1, AS.eval, AS.get, enumA, Lift.look, Option.getD_some, AS.put, dropKey, reduceCtorEq, isOwnCall, hxOp, px, ofConst, ofVal, thenQ, ty3, Nat.reduceEqDiff, PV.cells, List.length_cons, List.length_nil, Nat.zero_add, Nat.reduceAdd, pfieldAddr, fieldOf, ty24, fieldIn, List.getElem?_cons_succ, List.getElem?_cons_zero, ty4, Option.map_some, ne_eq, Nat.succ_ne_zero, not_false_eq_true, pload, Heap.get_put, okOne, TK.isAgg, beq_self_eq_true, Bool.or_true, Nat.le_refl, and_self, Lift.valOf, List.drop_succ_cons, List.drop_zero, List.take_succ_cons, List.take_nil, List.getD_cons_zero, isB, tmpOf, asB, ty9, Nat.add_zero, Nat.reduceLeDiff, List.take_zero, pcall, plen, okLen, isNilC, pbinP, pbinI, Int.reduceEq, RPost, sres, Tryd.results11, sresL, sres1, Option.some.injEq, Ret_fin, exists_eq_left', true_and]
  intro r hr
  cases w with
  | true =>
    simp only [↓reduceIte, lenS]
    refine ⟨?_, HTo.put (.refl _ _) hr _⟩
    rw [show (l.length : Int).tdiv 4 = ((l.length / 4 : Nat) : Int) from tdiv_nat l.length 4, w64 (by omega) (by omega)]
  | false =>
    simp only [Bool.false_eq_true, ↓reduceIte, lenS, true_and]
    exact HTo.put (.refl _ _) hr _
noncomputable def eLen : SpecE env := ⟨11, sLen, fun args h hc => by
  unfold sLen at hc ⊢
  split at hc
  · rename_i l w; exact .inl (Len_ok l w h hc)
  · exact hc.elim⟩
/-- Four bytes as a character. -/
def be32 (a b c d : UInt8) : Int :=
  bitsOp .or .i32 (bitsOp .or .i32 (bitsOp .or .i32 (IntKind.i32.wrap (a.toNat * 2 ^ min 24 IntKind.i32.bits)) (IntKind.i32.wrap (b.toNat * 2 ^ min 16 IntKind.i32.bits))) (IntKind.i32.wrap (c.toNat * 2 ^ min 8 IntKind.i32.bits))) d.toNat
/-- A character of a string. -/
def charS (l : List UInt8) (w : Bool) (i : Nat) : Int :=
  if w = true then be32 (l.getD (4 * i) 0) (l.getD (4 * i + 1) 0) (l.getD (4 * i + 2) 0) (l.getD (4 * i + 3) 0) else (l.getD i 0).toNat
def sChar : List PV → Prop × PV
  | [.agg [.str l, .bool w], .int .i64 i] => (l.length ≤ 1000000000 ∧ 0 ≤ i ∧ i.toNat < lenS l w, .int .i32 (charS l w i.toNat))
  | _ => PBad
theorem byte_lt (b : UInt8) : ((b.toNat : Nat) : Int) < 256 := by have := b.toNat_lt; omega
theorem drop_getD (l : List UInt8) (n i : Nat) : (l.drop n).getD i 0 = l.getD (n + i) 0 := by simp [List.getD_eq_getElem?_getD]
theorem Char_ok (l : List UInt8) (w : Bool) (i : Nat) (h : Heap) (hl : l.length ≤ 1000000000) (hi : i < lenS l w) : SCalls env 39 [.agg [.str l, .bool w], .int .i64 i] h (Ret (.int .i32 (charS l w i)) h) := by
  refine SCalls.body Tryd.func39 rfl rfl (by simp [Tryd.ntmps39]) (SW.run [] _ ?_)
  simp only [wpC, mayStop, stops, isFlt, Specs.has, Specs.hasO, Bool.or_false, Specs.hasH, Bool.not_false, List.any_cons, List.any_nil, Bool.false_eq_true, ↓reduceIte, wpS, wantedA, okDst, Tryd.ntmps39, Nat.reduceLT, decide_true, step1, known1, AS.eval, AS.get, enumA, Nat.zero_add, Lift.look, Option.getD_some, AS.put, dropKey, reduceCtorEq, Nat.reduceEqDiff, isOwnCall, hxOp, px, ofConst, ofVal, thenQ, PV.cells, List.length_cons, List.length_nil, Nat.reduceAdd, pfieldAddr, fieldOf, ty24, fieldIn, List.getElem?_cons_succ, List.getElem?_cons_zero, ty4, Option.map_some, ne_eq, Nat.succ_ne_zero, not_false_eq_true, pload, Heap.get_put, okOne, TK.isAgg, beq_self_eq_true, Bool.or_true, Nat.le_refl, and_self, Lift.valOf, List.drop_succ_cons, List.drop_zero, List.take_succ_cons, List.take_nil, List.getD_cons_zero, pun, isB, tmpOf, asB, ty9, Nat.add_zero, Nat.reduceLeDiff, List.take_zero, pindex, Int.natCast_nonneg, Int.toNat_natCast, true_and, ty5, ty21, pconvH, pconv, w32_byte, RPost, sres, Tryd.results39, sresL, sres1, Option.some.injEq, Ret_fin, exists_eq_left', ty3, isNilC, pbinP, pbinI, pslice, pB]
  intro r hr
  cases w with
  | false =>
    unfold lenS at hi
    simp only [Bool.not_false, ↓reduceIte, charS, Bool.false_eq_true, true_and]
    exact ⟨by simpa using hi, HTo.put (.refl _ _) hr _⟩
  | true =>
    have hi : i < l.length / 4 := hi
    have h4 : IntKind.i64.wrap (4 * (i : Int)) = ((4 * i : Nat) : Int) := by rw [w64 (by omega) (by omega)]; omega
    have hle : 4 * i ≤ l.length := by omega
    have hn : ∀ k : Nat, k < 4 → k < l.length - 4 * i := fun k hk => by omega
    simp only [Bool.not_true, Bool.false_eq_true, ↓reduceIte, h4, Int.natCast_nonneg, true_and, Int.toNat_natCast]
    refine ⟨⟨by omega, by omega⟩, ?_⟩
    refine SW.regionAny [] [[0, 1, 2, 3, 4, 5, 6, 7, 8, 9, 10, 11, 12, 13, 14, 15, 16, 17, 18]] rfl (by rfl) (by kernel_rfl) ?_
    simp only [wpOL, wpO, LOp, List.getElem?_toArray, List.getElem?_cons_zero, okDst, Nat.reduceLT, decide_true, wantedA, ↓reduceIte, step1, isOwnCall, Bool.false_eq_true, hxOp, px, AS.eval, AS.get, Lift.look, List.take_length, Option.getD_some, List.getElem?_cons_succ, AS.put, dropKey, Nat.reduceEqDiff, reduceCtorEq, pindex, ty9, ofConst, ofVal, Int.reduceLE, Int.reduceToNat, List.length_drop, true_and, drop_getD, Nat.add_zero, ty5, ty21, pconvH, pconv, w32_byte, isNilC, pbinP, pbinI, thenQ]
    refine ⟨by omega, by omega, by omega, by omega, SW.run [] _ ?_⟩
    simp only [wpC, RPost, sres, sresL, sres1, AS.get, Lift.look, ↓reduceIte, Option.getD_some, Option.some.injEq, Ret_fin, exists_eq_left']
    exact ⟨by simp only [charS, be32, ↓reduceIte], HTo.put (.refl _ _) hr _⟩
noncomputable def eChar : SpecE env := ⟨39, sChar, fun args h hc => by
  unfold sChar at hc ⊢
  split at hc
  · rename_i l w i
    have hi : i = (i.toNat : Int) := by have := hc.2.1; omega
    rw [hi]
    exact .inl (Char_ok l w i.toNat h hc.1 hc.2.2)
  · exact hc.elim⟩
/-- The characters of a string. -/
def charsS (l : List UInt8) (w : Bool) : List Int := (List.range (lenS l w)).map (charS l w)
theorem charsS_len (l : List UInt8) (w : Bool) : (charsS l w).length = lenS l w := by simp [charsS]
def sRunes : List PV → Prop × PV
  | [.agg [.str l, .bool w]] => (l.length ≤ 1000000000, .list 1 (elR (charsS l w)))
  | _ => PBad
theorem Runes_ok (l : List UInt8) (w : Bool) (h : Heap) (hl : l.length ≤ 1000000000) : SCalls env 33 [.agg [.str l, .bool w]] h (Ret (.list 1 (elR (charsS l w))) h) := by
  refine SCalls.body Tryd.func33 rfl rfl (by simp [Tryd.ntmps33]) (SW.run [eLen, eChar] _ ?_)
  simp only [wpC, mayStop, stops, isFlt, Specs.has, eLen, Specs.hasO, Bool.or_false, Specs.hasH, List.any_cons, List.any_nil, Bool.false_eq_true, ↓reduceIte, wpS, wantedA, okDst, Tryd.ntmps33, Nat.reduceLT, decide_true, step1, known1, AS.eval, AS.get, enumA, Lift.look, Option.getD_some, AS.put, dropKey, reduceCtorEq, isOwnCall, hxOp, px, ofConst, ofVal, thenQ, Bool.not_true, Bool.or_true, Nat.reduceEqDiff, PV.cells, List.length_cons, List.length_nil, Nat.zero_add, Nat.reduceAdd, pload, ty24, Heap.get_put, okOne, TK.isAgg, Nat.reduceBEq, Nat.le_refl, and_self, Lift.valOf, List.drop_zero, List.take_succ_cons, List.take_nil, pcall, okArg, List.all_cons, List.all_nil, Bool.and_true, Specs.at, List.map_cons, List.map_nil, sLen, true_and, Tryd.results33]
  intro r hr
  refine ⟨hl, ?_⟩
  have hln : lenS l w ≤ 1000000000 := by unfold lenS; split <;> omega
  refine SWO.make 56 (.tmp 6) (.tmp 6) rfl ty56 rfl ty21 rfl rfl (by decide) (n := lenS l w) rfl rfl (by simp; omega) (by omega) rfl rfl fun q hq => ?_
  have hq : q ≠ r ∧ h q = none := by simpa [Heap.put_none] using hq
  have hqr := hq.1
  have hrq := Ne.symm hq.1
  refine SWO.run [] 1000 ?_
  simp only [wpS, stops, Bool.false_eq_true, ↓reduceIte, wantedA, okDst, AS.put, dropKey, Nat.reduceEqDiff, reduceCtorEq, Nat.reduceLT, decide_true, step1, isOwnCall, hxOp, px, AS.eval, AS.get, Lift.look, Option.getD_some, thenQ, List.map_cons, ofVal, List.map_nil, true_and]
  refine SW.seq (SW.seq (SW.run [] _ ?_))
  simp only [wpC, Bool.false_eq_true, ↓reduceIte, wpS, stops, wantedA, okDst, Nat.reduceLT, decide_true, step1, isOwnCall, hxOp, px, AS.eval, AS.get, Lift.look, Option.getD_some, AS.put, dropKey, Nat.reduceEqDiff, reduceCtorEq, pcall, ty56, plen, okLen, and_self, ofConst, ofVal, thenQ, true_and]
  refine SW.block (SW.loopK 21 (fun i => [(1, .val (.pointer (some ⟨r, 0, none⟩))), (3, .val (.slice (some ⟨q, 0, none⟩) (lenS l w) (lenS l w))), (9, .int .i64 (lenS l w)), (10, .int .i64 (i : Nat))]) (fun i => (h.put r (.cells 24 2 [.str l, .bool w])).put q (.cells 21 (lenS l w) (fillRow (fun j => .int .i32 (charS l w j)) (fun _ => .int .i32 0) (lenS l w) i))) (fun i => i ≤ lenS l w) (fun i => lenS l w - i) 0 (Nat.zero_le _) ?_ ?_)
  · simp only [Has, Nat.mul_one, replicate_single, fillRow_zero, hasAll, AS.get, Lift.look, Nat.reduceEqDiff, ↓reduceIte, Option.getD_some, Int.cast_ofNat_Int, and_self]
  intro i hi
  refine SW.run [eChar] _ ?_
  by_cases hlt : i < lenS l w
  · simp only [wpC, mayStop, stops, isFlt, Specs.has, eChar, Specs.hasO, Bool.or_false, Specs.hasH, List.any_cons, List.any_nil, Bool.false_eq_true, ↓reduceIte, wpS, wantedA, okDst, Nat.reduceLT, decide_true, step1, isOwnCall, hxOp, px, isNilC, pbinP, AS.eval, AS.get, Lift.look, Nat.reduceEqDiff, Option.getD_some, pbinI, Int.ofNat_lt, hlt, thenQ, isB, AS.put, dropKey, tmpOf, asB, Bool.not_true, pload, ty24, Heap.get_put, hrq, okOne, TK.isAgg, Nat.reduceBEq, Nat.zero_add, List.length_cons, List.length_nil, Nat.reduceAdd, Nat.le_refl, and_self, Lift.valOf, List.drop_zero, List.take_succ_cons, List.take_nil, pcall, okArg, ofConst, ofVal, List.all_cons, List.all_nil, Bool.and_true, Specs.at, List.map_cons, List.map_nil, sChar, hl, Int.natCast_nonneg, Int.toNat_natCast, pindexAddr, ty56, ty21, Nat.mul_one, hx, known1, PV.cells, fillRow_len, true_and, splice, inQ, ty3, Has, hasAll, and_true]
    refine ⟨hlt, i + 1, hlt, by omega, ?_, by rw [w64 (by omega) (by omega)]; rfl⟩
    rw [Heap.put_put, fillRow_store (fun j => .int .i32 (charS l w j)) (fun _ => .int .i32 0) hlt]
  · simp only [wpC, mayStop, stops, isFlt, Specs.has, Specs.hasO, Bool.or_false, Specs.hasH, List.any_cons, List.any_nil, Bool.false_eq_true, ↓reduceIte, wpS, wantedA, okDst, Nat.reduceLT, decide_true, step1, isOwnCall, hxOp, px, isNilC, pbinP, AS.eval, AS.get, Lift.look, Nat.reduceEqDiff, Option.getD_some, pbinI, Int.ofNat_lt, hlt, decide_false, thenQ, isB, AS.put, dropKey, tmpOf, asB, inQ, true_and]
    have hi' : i = lenS l w := by omega
    subst hi'
    refine SW.own_let 3 rfl (h0 := h.put r (.cells 24 2 [.str l, .bool w])) (e := 21) (sz := 1) (xs := elR (charsS l w)) ?_ ?_
    · refine .inr ⟨q, lenS l w, ?_, ?_, by simp only [maxLen]; omega, by rw [Heap.put_none]; exact hq, ?_, ?_⟩
      · rw [elR_len, charsS_len]; rfl
      · rw [elR_len, charsS_len]; exact Nat.le_refl _
      · rw [Nat.mul_one, fillRow_all]
        congr 2
        unfold elR charsS
        rw [List.map_map, show ((fun n => [PV.int .i32 n]) ∘ charS l w) = ((fun x => [x]) ∘ fun j => PV.int .i32 (charS l w j)) from rfl, ← List.map_map, flatten_single]
      · intro x hx
        obtain ⟨b, _, rfl⟩ := List.mem_map.1 hx
        rfl
    refine SW.run [] _ ?_
    simp only [wpC, mayStop, stops, isFlt, Specs.has, Specs.hasO, Bool.or_false, Specs.hasH, Bool.not_false, List.any_cons, List.any_nil, Bool.false_eq_true, ↓reduceIte, wpS, wantedA, okDst, AS.put, dropKey, Nat.reduceEqDiff, Nat.reduceLT, decide_true, step1, isOwnCall, hxOp, px, AS.eval, AS.get, Lift.look, Option.getD_some, thenQ, RPost, sres, sresL, sres1, Option.some.injEq, Ret_fin, exists_eq_left', true_and]
    exact HTo.put (.refl _ _) hr _
noncomputable def eRunes : SpecE env := ⟨33, sRunes, fun args h hc => by
  unfold sRunes at hc ⊢
  split at hc
  · rename_i l w; exact .inl (Runes_ok l w h hc)
  · exact hc.elim⟩
end Go.Proofs.YthlibdhjcjangaaDoor
