/- Contracts of functions that the law reaches. -/
import Derived.Test.YthlibdhjcjangaaDoorU2
set_option linter.unusedSimpArgs false
set_option linter.unusedVariables false
namespace Go.Proofs.YthlibdhjcjangaaDoor
open Go Go.RowKit Go.Proofs.YthlibdhjcjangaaDoor Go.Proofs.YthlibdhjcjangaaDoor.Lift
set_option maxRecDepth 100000

theorem elI_append (xs ys : List Int) : elI (xs ++ ys) = elI xs ++ elI ys := List.map_append ..
theorem byte_is (b c : UInt8) : ((b.toNat : Int) == (c.toNat : Int)) = decide (b = c) := by
  rw [byte_eq]
theorem byte_isnt (b c : UInt8) : ((b.toNat : Int) != (c.toNat : Int)) = decide (¬ b = c) := by
  unfold bne
  rw [byte_is]
  by_cases h : b = c <;> simp [h]
theorem escS_lt (b : UInt8) : escS b < 256 := by
  unfold escS escFrom escTo
  simp only [escAt]
  repeat' split
  all_goals decide
theorem isC_digs (s : List UInt8) (nm : Nat) (h : nm < s.length) (h1 : ¬ s.getD nm 0 = 117) (h2 : ¬ s.getD nm 0 = 85) (h3 : ¬ escS (s.getD nm 0) < 0) : uesc s nm = uhex s nm 0 (nm + 1) (escS (s.getD nm 0)) := by
  unfold uesc
  rw [if_pos h, if_neg h1, if_neg h2, if_neg h3]
  simp only [uhex, (escS_isC _).resolve_left h3, if_true]
/-! acheronref01.Unquote -/
def resQ (r : List Int × Nat × Int) (h : Heap) : SEnd → Heap → Prop := fun e h' => ∃ v, e = .ret (.tuple [v, .int .i64 r.2.1, .int .i64 r.2.2]) ∧ Own h 3 1 (elI r.1) v h'
/-- Behind a backslash the state comes to the digits. -/
def midD (s : List UInt8) (nm : Nat) (a0 : AS) (l : List (Nat × PV)) (a : AS) : Prop :=
  ∃ (k : Nat) (c : Int), k ≤ 6 ∧ 0 ≤ c ∧ c < 256 ∧ uesc s nm = uhex s nm k (nm + 1) c ∧ Has a a0.n ((8, .int .i64 c) :: (10, .int .i64 (k : Nat)) :: l) a0.h
theorem pow16 : ∀ j : Nat, j ≤ 6 → (16 : Int) ^ j ≤ 16777216 := by
  intro j hj
  have : ∀ j : Nat, j < 7 → (16 : Int) ^ j ≤ 16777216 := by decide
  exact this j (by omega)
theorem UnquoteR_ok (s : List UInt8) (h : Heap) (hs : s.length ≤ 1000000000) : SCalls env 7 [.str s] h (resQ (unquoteS s) h) := by
  have b34 : ((34 : UInt8).toNat : Int) = 34 := rfl
  have b10 : ((10 : UInt8).toNat : Int) = 10 := rfl
  have b92 : ((92 : UInt8).toNat : Int) = 92 := rfl
  have b117 : ((117 : UInt8).toNat : Int) = 117 := rfl
  have b85 : ((85 : UInt8).toNat : Int) = 85 := rfl
  refine SCalls.body Tryd.func7 rfl rfl (by simp [Tryd.ntmps7]) ?_
  refine SW.seq (SW.run [] _ ?_)
  simp only [wpC, Bool.false_eq_true, ↓reduceIte, wpS, stops, wantedA, okDst, Tryd.ntmps7, Nat.reduceLT, decide_true, step1, isOwnCall, hxOp, px, AS.eval, ofConst, ofVal, AS.put, enumA, dropKey, reduceCtorEq, Nat.reduceEqDiff, thenQ, true_and]
  have i34 := byte_isnt (s.getD 0 0) 34
  rw [b34] at i34
  have finE : ∀ (n : Nat) (e : Int) (a : AS), a.h = h → (unquoteS s) = ([], n, e) → ∃ h', HTo env a.h h' ∧ resQ (unquoteS s) h (.ret (.tuple [.val (.slice none 0 0), .int .i64 n, .int .i64 e])) h' := by
    intro n e a ha hr
    exact ⟨h, by rw [ha]; exact .refl _ _, .val (.slice none 0 0), by rw [hr], by rw [hr]; exact Own.nil _ _ _⟩
  by_cases h0 : s.length = 0
  · refine SW.run [] _ ?_
    have e0 : unquoteS s = ([], 0, 9) := by unfold unquoteS; rw [if_neg (by omega)]
    simp only [wpC, mayStop, stops, isFlt, Specs.has, Specs.hasO, Bool.or_false, Specs.hasH, Bool.not_false, List.any_cons, List.any_nil, Bool.false_eq_true, ↓reduceIte, wpS, wantedA, okDst, Nat.reduceLT, decide_true, step1, isOwnCall, hxOp, px, AS.eval, AS.get, Lift.look, Nat.succ_ne_zero, Option.getD_some, AS.put, dropKey, Nat.reduceEqDiff, reduceCtorEq, pcall, ty9, plen, h0, okLen, and_self, Int.cast_ofNat_Int, isNilC, pbinP, ofConst, ofVal, pbinI, beq_self_eq_true, List.getElem?_toArray, List.getElem?_cons_succ, List.getElem?_cons_zero, Option.bind_some, beq_tf, Option.some.injEq, ppick_true, thenQ, isB, tmpOf, asB, RPost, sres, Tryd.results7, sresL, sres1, exists_eq_left', true_and]
    exact finE 0 9 ⟨0, [], h⟩ rfl e0
  have hpos : 0 < s.length := by omega
  have h0' : ¬ (s.length : Int) = 0 := by omega
  have h0b : (((s.length : Nat) : Int) == 0) = false := by simpa using h0'
  by_cases hq : s.getD 0 0 = 34
  case neg =>
    refine SW.run [] _ ?_
    have e0 : unquoteS s = ([], 0, 9) := by unfold unquoteS; rw [if_neg (fun hh => hq hh.2)]
    rw [decide_eq_true hq] at i34
    simp only [wpC, mayStop, stops, isFlt, Specs.has, Specs.hasO, Bool.or_false, Specs.hasH, Bool.not_false, List.any_cons, List.any_nil, Bool.false_eq_true, ↓reduceIte, wpS, wantedA, okDst, Nat.reduceLT, decide_true, step1, isOwnCall, hxOp, px, AS.eval, AS.get, Lift.look, Nat.succ_ne_zero, Option.getD_some, AS.put, dropKey, Nat.reduceEqDiff, reduceCtorEq, pcall, ty9, plen, okLen, and_self, isNilC, pbinP, ofConst, ofVal, pbinI, h0b, List.getElem?_toArray, List.getElem?_cons_succ, List.getElem?_cons_zero, Option.bind_some, beq_self_eq_true, pindex, Int.reduceLE, Int.reduceToNat, hpos, i34, ppick_bool, thenQ, isB, tmpOf, asB, RPost, sres, Tryd.results7, sresL, sres1, Option.some.injEq, exists_eq_left', true_and]
    exact finE 0 9 ⟨0, [], h⟩ rfl e0
  have eq0 : unquoteS s = unqS s s.length 1 [] := by unfold unquoteS; rw [if_pos ⟨hpos, hq⟩]
  rw [decide_eq_false (fun hh => hh hq)] at i34
  refine SW.seq (SW.run [] _ ?_)
  simp only [wpC, mayStop, stops, isFlt, Specs.has, Specs.hasO, Bool.or_false, Specs.hasH, Bool.not_false, List.any_cons, List.any_nil, Bool.false_eq_true, ↓reduceIte, wpS, wantedA, okDst, Nat.reduceLT, decide_true, step1, isOwnCall, hxOp, px, AS.eval, AS.get, Lift.look, Nat.succ_ne_zero, Option.getD_some, AS.put, dropKey, Nat.reduceEqDiff, reduceCtorEq, pcall, ty9, plen, okLen, and_self, isNilC, pbinP, ofConst, ofVal, pbinI, h0b, List.getElem?_toArray, List.getElem?_cons_succ, List.getElem?_cons_zero, Option.bind_some, beq_self_eq_true, pindex, Int.reduceLE, Int.reduceToNat, hpos, i34, ppick_bool, thenQ, isB, tmpOf, asB, true_and]
  refine SW.seq (SW.run [] _ ?_)
  simp only [wpC, Bool.false_eq_true, ↓reduceIte, wpS, stops, wantedA, okDst, Nat.reduceLT, decide_true, step1, isOwnCall, hxOp, px, AS.eval, ofConst, ofVal, thenQ, AS.put, dropKey, Nat.reduceEqDiff, reduceCtorEq, true_and]
  refine SW.seq (SW.run [] _ ?_)
  simp only [wpC, Bool.false_eq_true, ↓reduceIte, wpS, stops, wantedA, okDst, Nat.reduceLT, decide_true, step1, isOwnCall, hxOp, px, AS.eval, ofConst, ofVal, thenQ, AS.put, dropKey, Nat.reduceEqDiff, reduceCtorEq, true_and]
  refine SW.block ?_
  refine SW.loop (fun m a => ∃ (i : Nat) (out : List Int) (v : PV), unqS s m i out = unquoteS s ∧ s.length < i + m ∧ i ≤ s.length ∧ out.length + m ≤ s.length ∧ Own h 3 1 (elI out) v a.h ∧ a.n = 118 ∧ hasAll a [(0, .str s), (5, v), (6, .int .i64 (i : Nat))]) s.length ⟨1, [], .val (.slice none 0 0), eq0.symm, by omega, by omega, by simp, Own.nil _ _ _, ?_⟩ ?_
  · simp only [hasAll, AS.get, Lift.look, Nat.succ_ne_zero, ↓reduceIte, Option.getD_some, Nat.reduceEqDiff, Int.cast_ofNat_Int, and_self]
  rintro m a ⟨i, out, v, hu, hm, hi, hol, hown, hn', hsl⟩
  refine SW.norm ⟨hn', rfl, hsl⟩ ?_
  obtain ⟨A, cp, rfl⟩ := hown.slice
  rw [elI_len] at hown
  have finB : ∀ (n : Nat) (e : Int), ustep s i = .bad n e → ∃ h', HTo env a.h h' ∧ resQ (unquoteS s) h (.ret (.tuple [.val (.slice none 0 0), .int .i64 n, .int .i64 e])) h' := by
    intro n e hb
    cases m with
    | zero => omega
    | succ m =>
      unfold unqS at hu
      rw [hb] at hu
      exact ⟨h, HTo.own hown, .val (.slice none 0 0), by rw [← hu], by rw [← hu]; exact Own.nil _ _ _⟩
  refine SW.block ?_
  refine SW.cutK [] 5 (fun b => i < s.length ∧ ¬ s.getD i 0 = 34 ∧ ¬ s.getD i 0 = 10 ∧ Has b 118 [(0, .str s), (5, .val (.slice A (elI out).length cp)), (6, .int .i64 i), (7, .int .i64 i), (8, .int .i64 0)] a.h) ?_ ?_
  case refine_1 =>
    by_cases hlt : i < s.length
    case neg =>
      have hb : ustep s i = .bad s.length 16 := by unfold ustep; rw [if_neg hlt]
      simp only [seqW, wpC, mayStop, stops, isFlt, Specs.has, Specs.hasO, Bool.or_false, Specs.hasH, Bool.not_false, List.any_cons, List.any_nil, Bool.false_eq_true, ↓reduceIte, wpS, wantedA, okDst, Nat.reduceLT, decide_true, step1, isOwnCall, hxOp, px, AS.eval, AS.get, Lift.look, reduceCtorEq, Nat.reduceEqDiff, Option.getD_some, AS.put, dropKey, Nat.succ_ne_zero, pcall, ty9, plen, okLen, and_self, isNilC, pbinP, pbinI, Int.ofNat_le, Nat.not_lt.1 hlt, thenQ, isB, tmpOf, asB, ofConst, ofVal, inQ, RPost, sres, Tryd.results7, sresL, sres1, Option.some.injEq, exists_eq_left', true_and]
      exact finB _ _ hb
    have hle : ¬ s.length ≤ i := by omega
    have k34 := byte_is (s.getD i 0) 34
    have k10 := byte_is (s.getD i 0) 10
    rw [b34] at k34; rw [b10] at k10
    by_cases c34 : s.getD i 0 = 34
    · have hd : ustep s i = .done (i + 1) := by unfold ustep; rw [if_pos hlt, if_pos c34]
      rw [decide_eq_true c34] at k34
      simp only [seqW, wpC, mayStop, stops, isFlt, Specs.has, Specs.hasO, Bool.or_false, Specs.hasH, Bool.not_false, List.any_cons, List.any_nil, Bool.false_eq_true, ↓reduceIte, wpS, wantedA, okDst, Nat.reduceLT, decide_true, step1, isOwnCall, hxOp, px, AS.eval, AS.get, Lift.look, reduceCtorEq, Nat.reduceEqDiff, Option.getD_some, AS.put, dropKey, Nat.succ_ne_zero, pcall, ty9, plen, okLen, and_self, isNilC, pbinP, pbinI, Int.ofNat_le, hle, decide_false, thenQ, isB, tmpOf, asB, ofConst, ofVal, pindex, Int.natCast_nonneg, Int.toNat_natCast, hlt, k34, ty3, inQ, RPost, sres, Tryd.results7, sresL, sres1, Option.some.injEq, exists_eq_left', true_and]
      obtain ⟨m, rfl⟩ : ∃ m', m = m' + 1 := ⟨m - 1, by omega⟩
      unfold unqS at hu
      rw [hd] at hu
      dsimp only at hu
      rw [w64 (by omega) (by omega)]
      exact ⟨a.h, .refl _ _, _, by rw [← hu]; rfl, by rw [← hu, elI_len]; exact hown⟩
    rw [decide_eq_false c34] at k34
    by_cases c10 : s.getD i 0 = 10
    · have hd : ustep s i = .bad i 9 := by unfold ustep; rw [if_pos hlt, if_neg c34, if_pos c10]
      rw [decide_eq_true c10] at k10
      simp only [seqW, wpC, mayStop, stops, isFlt, Specs.has, Specs.hasO, Bool.or_false, Specs.hasH, Bool.not_false, List.any_cons, List.any_nil, Bool.false_eq_true, ↓reduceIte, wpS, wantedA, okDst, Nat.reduceLT, decide_true, step1, isOwnCall, hxOp, px, AS.eval, AS.get, Lift.look, reduceCtorEq, Nat.reduceEqDiff, Option.getD_some, AS.put, dropKey, Nat.succ_ne_zero, pcall, ty9, plen, okLen, and_self, isNilC, pbinP, pbinI, Int.ofNat_le, hle, decide_false, thenQ, isB, tmpOf, asB, ofConst, ofVal, pindex, Int.natCast_nonneg, Int.toNat_natCast, hlt, k34, k10, inQ, RPost, sres, Tryd.results7, sresL, sres1, Option.some.injEq, exists_eq_left', true_and]
      exact finB _ _ hd
    rw [decide_eq_false c10] at k10
    simp only [seqW, wpC, mayStop, stops, isFlt, Specs.has, Specs.hasO, Bool.or_false, Specs.hasH, Bool.not_false, List.any_cons, List.any_nil, Bool.false_eq_true, ↓reduceIte, wpS, wantedA, okDst, Nat.reduceLT, decide_true, step1, isOwnCall, hxOp, px, AS.eval, AS.get, Lift.look, reduceCtorEq, Nat.reduceEqDiff, Option.getD_some, AS.put, dropKey, Nat.succ_ne_zero, pcall, ty9, plen, okLen, and_self, isNilC, pbinP, pbinI, Int.ofNat_le, hle, decide_false, thenQ, isB, tmpOf, asB, ofConst, ofVal, pindex, Int.natCast_nonneg, Int.toNat_natCast, hlt, k34, k10, Has, hasAll, and_true, true_and]
    exact ⟨c34, c10⟩
  rintro b ⟨hlt, c34, c10, hb⟩
  refine SW.norm hb ?_
  have hle : ¬ s.length ≤ i := by omega
  refine SW.cut (fun b => ∃ (c : Int) (n : Nat), ustep s i = .char c n ∧ Has b 118 [(0, .str s), (5, .val (.slice A (elI out).length cp)), (6, .int .i64 n), (7, .int .i64 i), (8, .int .i64 c)] a.h) ?_ ?_
  case refine_2 =>
    rintro b ⟨c, n, hc, hb⟩
    refine SW.norm hb ?_
    obtain ⟨hin, hns, hcc⟩ := ustep_le s i c n hc
    obtain ⟨m, rfl⟩ : ∃ m', m = m' + 1 := ⟨m - 1, by omega⟩
    unfold unqS at hu
    rw [hc] at hu
    dsimp only at hu
    refine SW.run [] _ ?_
    by_cases hbig : 65536 ≤ out.length
    · rw [if_pos hbig] at hu
      have hbI : (65536 : Int) ≤ out.length := by omega
      simp only [wpC, mayStop, stops, isFlt, Specs.has, Specs.hasO, Bool.or_false, Specs.hasH, Bool.not_false, List.any_cons, List.any_nil, Bool.false_eq_true, ↓reduceIte, wpS, wantedA, okDst, Nat.reduceLT, decide_true, step1, isOwnCall, hxOp, px, AS.eval, AS.get, Lift.look, reduceCtorEq, elI_len, Option.getD_some, AS.put, dropKey, Nat.reduceEqDiff, pcall, ty28, plen, okLen, and_self, isNilC, pbinP, ofConst, ofVal, pbinI, hbI, thenQ, isB, tmpOf, asB, inQ, RPost, sres, Tryd.results7, sresL, sres1, Option.some.injEq, exists_eq_left', true_and]
      exact ⟨h, HTo.own hown, .val (.slice none 0 0), by rw [← hu], by rw [← hu]; exact Own.nil _ _ _⟩
    · rw [if_neg hbig] at hu
      have hbI : ¬ (65536 : Int) ≤ out.length := by omega
      simp only [wpC, mayStop, stops, isFlt, Specs.has, Specs.hasO, Bool.or_false, Specs.hasH, Bool.not_false, List.any_cons, List.any_nil, Bool.false_eq_true, ↓reduceIte, wpS, wantedA, okDst, Nat.reduceLT, decide_true, step1, isOwnCall, hxOp, px, AS.eval, AS.get, Lift.look, reduceCtorEq, elI_len, Option.getD_some, AS.put, dropKey, Nat.reduceEqDiff, pcall, ty28, plen, okLen, and_self, isNilC, pbinP, ofConst, ofVal, pbinI, hbI, decide_false, thenQ, isB, tmpOf, asB, pbuildSlice, ty3, Nat.succ_ne_zero, List.replicate, List.map_cons, List.map_nil, List.flatten_cons, List.flatten_nil, List.append_nil, pfill, PV.cells, List.length_cons, List.length_nil, Nat.zero_add, Nat.reduceMul, Nat.le_refl, splice, List.take_zero, List.nil_append, List.drop_succ_cons, List.drop_nil, Nat.reduceLeDiff, okZero, List.all_cons, Value.oneCell', List.all_nil, Bool.and_true, known, chunk, List.take_succ_cons, List.take_nil, hasAll, and_true, true_and]
      refine SWO.append (.tmp 114) (.tmp 116) 28 28 rfl ty28 rfl ty3 (by decide) rfl ty28 rfl hown (ys := elI [c]) rfl (by rw [elI_len, elI_len]; simp; omega) (by rw [elI_len, elI_len]; simp [maxLen]; omega) rfl rfl ?_
      intro v' h' hown' _ _
      rw [← elI_append] at hown'
      refine SWO.run [] 1000 ?_
      simp only [wpS, stops, Bool.false_eq_true, ↓reduceIte, wantedA, okDst, AS.put, dropKey, Nat.reduceEqDiff, reduceCtorEq, Nat.reduceLT, decide_true, step1, isOwnCall, hxOp, px, AS.eval, AS.get, Lift.look, Option.getD_some, inQ, thenQ, Nat.succ_ne_zero, true_and]
      exact ⟨m, by omega, n, out ++ [c], v', hu, by omega, hns, (by rw [List.length_append, List.length_singleton]; omega), hown', rfl, rfl⟩
  case refine_1 =>
    have k92 := byte_isnt (s.getD i 0) 92
    rw [b92] at k92
    by_cases c92 : s.getD i 0 = 92
    case neg =>
      have hl : 0 < (s.drop i).length := by rw [List.length_drop]; omega
      have hfl := firstS_le (s.drop i) hl
      rw [List.length_drop] at hfl
      have hd : ustep s i = .char (firstS (s.drop i)).1 (i + (firstS (s.drop i)).2) := by unfold ustep; rw [if_pos hlt, if_neg c34, if_neg c10, if_neg c92]
      rw [decide_eq_true c92] at k92
      refine SW.run [eFirst] _ ?_
      simp only [wpC, mayStop, stops, isFlt, Specs.has, eFirst, Specs.hasO, Bool.or_false, Specs.hasH, List.any_cons, List.any_nil, Bool.false_eq_true, ↓reduceIte, wpS, wantedA, okDst, Nat.reduceLT, decide_true, step1, isOwnCall, hxOp, px, AS.eval, AS.get, Lift.look, Option.getD_some, AS.put, dropKey, reduceCtorEq, Nat.reduceEqDiff, pindex, ty9, Int.natCast_nonneg, Int.toNat_natCast, hlt, and_self, isNilC, pbinP, ofConst, ofVal, pbinI, k92, thenQ, isB, tmpOf, asB, Bool.not_true, Nat.succ_ne_zero, pslice, pB, Int.ofNat_le, Nat.le_refl, and_true, true_and, List.take_length, pcall, okArg, List.all_cons, List.all_nil, Bool.and_true, Specs.at, List.map_cons, List.map_nil, sFirst, List.length_drop, resF, List.getElem?_cons_zero, List.getElem?_cons_succ, ty3, Has, hasAll]
      refine ⟨by omega, by omega, _, _, hd, ?_, rfl⟩
      rw [w64 (by omega) (by omega)]
      rfl
    rw [decide_eq_false (fun hh => hh c92)] at k92
    have hd : ustep s i = uesc s (i + 1) := by unfold ustep; rw [if_pos hlt, if_neg c34, if_neg c10, if_pos c92]
    refine SW.seq (SW.run [] _ ?_)
    simp only [wpC, Bool.false_eq_true, ↓reduceIte, wpS, stops, wantedA, okDst, Nat.reduceLT, decide_true, step1, isOwnCall, hxOp, px, AS.eval, AS.get, Lift.look, Option.getD_some, AS.put, dropKey, reduceCtorEq, Nat.reduceEqDiff, pindex, ty9, Int.natCast_nonneg, Int.toNat_natCast, hlt, and_self, isNilC, pbinP, ofConst, ofVal, pbinI, k92, thenQ, Has, hasAll, and_true, true_and]
    refine SW.cond (b := false) rfl ?_
    simp only [Bool.false_eq_true, if_false]
    have hw1 : IntKind.i64.wrap ((i : Int) + 1) = ((i + 1 : Nat) : Int) := by rw [w64 (by omega) (by omega)]; rfl
    refine SW.cutK [eEsc] 4 (fun b => ∃ (k : Nat) (c : Int), k ≤ 6 ∧ 0 ≤ c ∧ c < 256 ∧ (0 < k → c = 0) ∧ i + 1 < s.length ∧ uesc s (i + 1) = uhex s (i + 1) k (i + 2) c ∧ Has b 118 [(0, .str s), (5, .val (.slice A (elI out).length cp)), (6, .int .i64 ((i + 1 : Nat) : Int)), (7, .int .i64 i), (8, .int .i64 c), (10, .int .i64 (k : Nat))] a.h) ?_ ?_
    case refine_1 =>
      by_cases hlt1 : i + 1 < s.length
      case neg =>
        have hle1 : s.length ≤ i + 1 := by omega
        have hb : ustep s i = .bad s.length 16 := by rw [hd]; unfold uesc; rw [if_neg hlt1]
        simp only [seqW, wpC, Bool.false_eq_true, ↓reduceIte, wpS, stops, wantedA, okDst, Nat.reduceLT, decide_true, step1, isOwnCall, hxOp, px, AS.eval, AS.get, Lift.look, Nat.reduceEqDiff, reduceCtorEq, Option.getD_some, isFlt, ty3, AS.put, dropKey, isNilC, pbinP, ofConst, ofVal, pbinI, hw1, thenQ, mayStop, Specs.has, Specs.hasO, Bool.or_false, Specs.hasH, List.any_cons, List.any_nil, Nat.succ_ne_zero, pcall, ty9, plen, okLen, and_self, Int.ofNat_le, hle1, isB, tmpOf, asB, inQ, RPost, sres, Tryd.results7, sresL, sres1, Option.some.injEq, exists_eq_left', true_and]
        exact finB _ _ hb
      have hle1 : ¬ s.length ≤ i + 1 := by omega
      have k117 := byte_is (s.getD (i + 1) 0) 117
      have k85 := byte_is (s.getD (i + 1) 0) 85
      rw [b117] at k117; rw [b85] at k85
      by_cases c117 : s.getD (i + 1) 0 = 117
      · rw [decide_eq_true c117] at k117
        simp only [seqW, wpC, Bool.false_eq_true, ↓reduceIte, wpS, stops, wantedA, okDst, Nat.reduceLT, decide_true, step1, isOwnCall, hxOp, px, AS.eval, AS.get, Lift.look, Nat.reduceEqDiff, reduceCtorEq, Option.getD_some, isFlt, ty3, AS.put, dropKey, isNilC, pbinP, ofConst, ofVal, pbinI, hw1, thenQ, mayStop, Specs.has, Specs.hasO, Bool.or_false, Specs.hasH, List.any_cons, List.any_nil, Nat.succ_ne_zero, pcall, ty9, plen, okLen, and_self, Int.ofNat_le, hle1, decide_false, isB, tmpOf, asB, pindex, Int.natCast_nonneg, Int.toNat_natCast, hlt1, k117, Has, hasAll, and_true, true_and]
        exact ⟨4, 0, by omega, by omega, by omega, by omega, by unfold uesc; rw [if_pos hlt1, if_pos c117], rfl, rfl⟩
      rw [decide_eq_false c117] at k117
      by_cases c85 : s.getD (i + 1) 0 = 85
      · rw [decide_eq_true c85] at k85
        simp only [seqW, wpC, Bool.false_eq_true, ↓reduceIte, wpS, stops, wantedA, okDst, Nat.reduceLT, decide_true, step1, isOwnCall, hxOp, px, AS.eval, AS.get, Lift.look, Nat.reduceEqDiff, reduceCtorEq, Option.getD_some, isFlt, ty3, AS.put, dropKey, isNilC, pbinP, ofConst, ofVal, pbinI, hw1, thenQ, mayStop, Specs.has, Specs.hasO, Bool.or_false, Specs.hasH, List.any_cons, List.any_nil, Nat.succ_ne_zero, pcall, ty9, plen, okLen, and_self, Int.ofNat_le, hle1, decide_false, isB, tmpOf, asB, pindex, Int.natCast_nonneg, Int.toNat_natCast, hlt1, k117, k85, Has, hasAll, and_true, true_and]
        exact ⟨6, 0, by omega, by omega, by omega, by omega, by unfold uesc; rw [if_pos hlt1, if_neg c117, if_pos c85], rfl, rfl⟩
      rw [decide_eq_false c85] at k85
      have hbt := (s.getD (i + 1) 0).toNat_lt
      by_cases hes : escS (s.getD (i + 1) 0) < 0
      · have hb : ustep s i = .bad (i + 1) 8 := by rw [hd]; unfold uesc; rw [if_pos hlt1, if_neg c117, if_neg c85, if_pos hes]
        simp only [seqW, wpC, Bool.false_eq_true, ↓reduceIte, wpS, stops, wantedA, okDst, Nat.reduceLT, decide_true, step1, isOwnCall, hxOp, px, AS.eval, AS.get, Lift.look, Nat.reduceEqDiff, reduceCtorEq, Option.getD_some, isFlt, ty3, AS.put, dropKey, isNilC, pbinP, ofConst, ofVal, pbinI, hw1, thenQ, mayStop, Specs.has, eEsc, Specs.hasO, Bool.or_false, Specs.hasH, List.any_cons, List.any_nil, Nat.succ_ne_zero, pcall, ty9, plen, okLen, and_self, Int.ofNat_le, hle1, decide_false, isB, tmpOf, asB, pindex, Int.natCast_nonneg, Int.toNat_natCast, hlt1, k117, k85, Bool.not_true, okArg, List.all_cons, List.all_nil, Bool.and_true, Specs.at, List.map_cons, List.map_nil, sEsc, byte_lt_T, UInt8.ofNat_toNat, hes, inQ, RPost, sres, Tryd.results7, sresL, sres1, Option.some.injEq, exists_eq_left', true_and]
        exact finB _ _ hb
      · have hc := isC_iff.1 ((escS_isC (s.getD (i + 1) 0)).resolve_left hes)
        have hc2 : escS (s.getD (i + 1) 0) < 256 := escS_lt _
        simp only [seqW, wpC, Bool.false_eq_true, ↓reduceIte, wpS, stops, wantedA, okDst, Nat.reduceLT, decide_true, step1, isOwnCall, hxOp, px, AS.eval, AS.get, Lift.look, Nat.reduceEqDiff, reduceCtorEq, Option.getD_some, isFlt, ty3, AS.put, dropKey, isNilC, pbinP, ofConst, ofVal, pbinI, hw1, thenQ, mayStop, Specs.has, eEsc, Specs.hasO, Bool.or_false, Specs.hasH, List.any_cons, List.any_nil, Nat.succ_ne_zero, pcall, ty9, plen, okLen, and_self, Int.ofNat_le, hle1, decide_false, isB, tmpOf, asB, pindex, Int.natCast_nonneg, Int.toNat_natCast, hlt1, k117, k85, Bool.not_true, okArg, List.all_cons, List.all_nil, Bool.and_true, Specs.at, List.map_cons, List.map_nil, sEsc, byte_lt_T, UInt8.ofNat_toNat, hes, Has, hasAll, and_true, true_and]
        exact ⟨0, _, by omega, hc.1, hc2, by omega, isC_digs s (i + 1) hlt1 c117 c85 hes, rfl, rfl⟩
    rintro b ⟨k, c0, hk, hc0, hc1, hck, hlt1, hue, hb⟩
    refine SW.norm hb ?_
    have hw2 : IntKind.i64.wrap (((i + 1 : Nat) : Int) + 1) = ((i + 2 : Nat) : Int) := by rw [w64 (by omega) (by omega)]; omega
    refine SW.seq (SW.run [] _ ?_)
    simp only [wpC, Bool.false_eq_true, ↓reduceIte, wpS, stops, wantedA, okDst, Nat.reduceLT, decide_true, step1, isOwnCall, hxOp, px, AS.eval, AS.get, Lift.look, reduceCtorEq, Nat.reduceEqDiff, Option.getD_some, AS.put, dropKey, thenQ, true_and]
    refine SW.seq (SW.run [] _ ?_)
    simp only [wpC, Bool.false_eq_true, ↓reduceIte, wpS, stops, wantedA, okDst, Nat.reduceLT, decide_true, step1, isOwnCall, hxOp, px, AS.eval, AS.get, Lift.look, Nat.reduceEqDiff, reduceCtorEq, Option.getD_some, isFlt, ty3, AS.put, dropKey, isNilC, pbinP, ofConst, ofVal, pbinI, hw2, thenQ, true_and]
    refine SW.seq (SW.run [] _ ?_)
    simp only [wpC, mayStop, stops, isFlt, Specs.has, Specs.hasO, Bool.or_false, Specs.hasH, Bool.not_false, List.any_cons, List.any_nil, Bool.false_eq_true, ↓reduceIte, wpS, wantedA, okDst, Nat.reduceLT, decide_true, step1, isOwnCall, hxOp, px, AS.eval, ofConst, ofVal, thenQ, AS.put, dropKey, Nat.reduceEqDiff, reduceCtorEq, true_and]
    refine SW.loopK 118 (fun b : Nat × Int => [(0, .str s), (5, .val (.slice A (elI out).length cp)), (6, .int .i64 ((i + 2 + b.1 : Nat) : Int)), (7, .int .i64 i), (8, .int .i64 b.2), (10, .int .i64 (k : Nat)), (11, .int .i64 ((i + 1 : Nat) : Int)), (12, .int .i64 (b.1 : Nat))]) (fun _ => a.h) (fun b => b.1 ≤ k ∧ 0 ≤ b.2 ∧ (0 < k → b.2 < 16 ^ b.1) ∧ i + 2 + b.1 ≤ s.length ∧ b.2 ≤ 268435456 ∧ uesc s (i + 1) = uhex s (i + 1) (k - b.1) (i + 2 + b.1) b.2) (fun b => k - b.1) (0, c0) ⟨by omega, hc0, by intro hk0; rw [hck hk0]; decide, by omega, by omega, hue⟩ ?_ ?_
    · simp only [Has, hasAll, AS.get, Lift.look, Nat.succ_ne_zero, ↓reduceIte, Option.getD_some, Nat.reduceEqDiff, reduceCtorEq, Nat.add_zero, Int.cast_ofNat_Int, and_self]
    rintro ⟨j, c⟩ ⟨hj, hcj, hcp, hjl, hcb, huj⟩
    dsimp only at hj hcj hcp hjl hcb huj ⊢
    by_cases hjk : j < k
    case neg =>
      obtain rfl : j = k := by omega
      refine SW.run [] _ ?_
      simp only [wpC, mayStop, stops, isFlt, Specs.has, Specs.hasO, Bool.or_false, Specs.hasH, Bool.not_false, List.any_cons, List.any_nil, Bool.false_eq_true, ↓reduceIte, wpS, wantedA, okDst, Nat.reduceLT, decide_true, step1, isOwnCall, hxOp, px, AS.eval, AS.get, Lift.look, reduceCtorEq, Nat.reduceEqDiff, Option.getD_some, AS.put, dropKey, isNilC, pbinP, pbinI, Int.ofNat_lt, hjk, decide_false, thenQ, isB, tmpOf, asB, inQ, true_and]
      rw [Nat.sub_self] at huj
      simp only [uhex] at huj
      refine SW.run [eIs] _ ?_
      cases hic : isC c with
      | true =>
        rw [hic] at huj
        simp only [wpC, mayStop, stops, isFlt, Specs.has, eIs, Specs.hasO, Bool.or_false, Specs.hasH, List.any_cons, ↓reduceIte, Bool.not_true, List.any_nil, Bool.false_eq_true, wpS, wantedA, okDst, Nat.reduceLT, decide_true, step1, isOwnCall, hxOp, px, AS.eval, AS.get, Lift.look, Nat.reduceEqDiff, reduceCtorEq, Option.getD_some, AS.put, dropKey, pcall, okArg, ofConst, ofVal, List.all_cons, List.all_nil, Bool.and_true, Specs.at, List.map_cons, List.map_nil, sIs, hic, and_self, pun, thenQ, isB, tmpOf, asB, Nat.succ_ne_zero, true_and]
        exact ⟨c, i + 2 + j, by rw [hd, huj]; rfl, rfl, rfl⟩
      | false =>
        rw [hic] at huj
        have hb : ustep s i = .bad (i + 1) 11 := by rw [hd, huj]; rfl
        simp only [wpC, mayStop, stops, isFlt, Specs.has, eIs, Specs.hasO, Bool.or_false, Specs.hasH, List.any_cons, ↓reduceIte, Bool.not_true, List.any_nil, Bool.false_eq_true, wpS, wantedA, okDst, Nat.reduceLT, decide_true, step1, isOwnCall, hxOp, px, AS.eval, AS.get, Lift.look, Nat.reduceEqDiff, reduceCtorEq, Option.getD_some, AS.put, dropKey, pcall, okArg, ofConst, ofVal, List.all_cons, List.all_nil, Bool.and_true, Specs.at, List.map_cons, List.map_nil, sIs, hic, and_self, pun, Bool.not_false, thenQ, isB, tmpOf, asB, inQ, RPost, sres, Tryd.results7, sresL, sres1, Option.some.injEq, exists_eq_left', true_and]
        exact finB _ _ hb
    have hpw := pow16 j (by omega)
    have hcp := hcp (by omega)
    obtain ⟨q, hq2⟩ : ∃ q, k - j = q + 1 := ⟨k - j - 1, by omega⟩
    rw [hq2] at huj
    by_cases hjs : i + 2 + j < s.length
    case neg =>
      have hle2 : s.length ≤ i + 2 + j := by omega
      have hb : ustep s i = .bad s.length 16 := by rw [hd, huj]; simp only [uhex]; rw [if_neg hjs]
      refine SW.run [] _ ?_
      simp only [wpC, mayStop, stops, isFlt, Specs.has, Specs.hasO, Bool.or_false, Specs.hasH, Bool.not_false, List.any_cons, List.any_nil, Bool.false_eq_true, ↓reduceIte, wpS, wantedA, okDst, Nat.reduceLT, decide_true, step1, isOwnCall, hxOp, px, AS.eval, AS.get, Lift.look, reduceCtorEq, Nat.reduceEqDiff, Option.getD_some, AS.put, dropKey, isNilC, pbinP, pbinI, Int.ofNat_lt, hjk, thenQ, isB, tmpOf, asB, Bool.or_true, ty3, Nat.succ_ne_zero, pcall, ty9, plen, okLen, and_self, Int.ofNat_le, hle2, ofConst, ofVal, inQ, RPost, sres, Tryd.results7, sresL, sres1, Option.some.injEq, exists_eq_left', true_and]
      exact finB _ _ hb
    have hle2 : ¬ s.length ≤ i + 2 + j := by omega
    have hbt := (s.getD (i + 2 + j) 0).toNat_lt
    by_cases hdg : digS (s.getD (i + 2 + j) 0) < 0
    · have hb : ustep s i = .bad (i + 2 + j) 9 := by rw [hd, huj]; simp only [uhex]; rw [if_pos hjs, if_pos hdg]
      refine SW.run [eDigit] _ ?_
      simp only [wpC, mayStop, stops, isFlt, Specs.has, eDigit, Specs.hasO, Bool.or_false, Specs.hasH, List.any_cons, List.any_nil, Bool.false_eq_true, ↓reduceIte, wpS, wantedA, okDst, Nat.reduceLT, decide_true, step1, isOwnCall, hxOp, px, AS.eval, AS.get, Lift.look, reduceCtorEq, Nat.reduceEqDiff, Option.getD_some, AS.put, dropKey, isNilC, pbinP, pbinI, Int.ofNat_lt, hjk, thenQ, isB, tmpOf, asB, Bool.not_true, ty3, Nat.succ_ne_zero, pcall, ty9, plen, okLen, and_self, Int.ofNat_le, hle2, decide_false, pindex, Int.natCast_nonneg, Int.toNat_natCast, hjs, okArg, ofConst, ofVal, List.all_cons, List.all_nil, Bool.and_true, Specs.at, List.map_cons, List.map_nil, sDigit, byte_lt_T, UInt8.ofNat_toNat, hdg, inQ, RPost, sres, Tryd.results7, sresL, sres1, Option.some.injEq, exists_eq_left', true_and]
      exact finB _ _ hb
    · have hdl := digS_le (s.getD (i + 2 + j) 0)
      refine SW.run [eDigit] _ ?_
      simp only [wpC, mayStop, stops, isFlt, Specs.has, eDigit, Specs.hasO, Bool.or_false, Specs.hasH, List.any_cons, List.any_nil, Bool.false_eq_true, ↓reduceIte, wpS, wantedA, okDst, Nat.reduceLT, decide_true, step1, isOwnCall, hxOp, px, AS.eval, AS.get, Lift.look, reduceCtorEq, Nat.reduceEqDiff, Option.getD_some, AS.put, dropKey, isNilC, pbinP, pbinI, Int.ofNat_lt, hjk, thenQ, isB, tmpOf, asB, Bool.not_true, ty3, Nat.succ_ne_zero, pcall, ty9, plen, okLen, and_self, Int.ofNat_le, hle2, decide_false, pindex, Int.natCast_nonneg, Int.toNat_natCast, hjs, okArg, ofConst, ofVal, List.all_cons, List.all_nil, Bool.and_true, Specs.at, List.map_cons, List.map_nil, sDigit, byte_lt_T, UInt8.ofNat_toNat, hdg, inQ, Has, hasAll, and_true, true_and]
      have e16 : (16 : Int) ^ (j + 1) = 16 ^ j * 16 := by rw [Int.pow_succ]
      refine ⟨(j + 1, 16 * c + digS (s.getD (i + 2 + j) 0)), ⟨by omega, by omega, fun _ => ?_, by omega, by omega, ?_⟩, by omega, ?_, ?_, ?_⟩
      · show 16 * c + _ < 16 ^ (j + 1)
        rw [e16]; omega
      · rw [huj]
        simp only [uhex]
        rw [if_pos hjs, if_neg hdg, show k - (j + 1) = q by omega]
        rfl
      · rw [w64 (by omega) (by omega)]; rfl
      · rw [w64 (n := 16 * c) (by omega) (by omega), w64 (by omega) (by omega)]
      · rw [w64 (by omega) (by omega)]; rfl
def sUnquoteR : List PV → Prop × PV
  | [.str s] => (s.length ≤ 1000000000, .tuple [.list 1 (elI (unquoteS s).1), .int .i64 ((unquoteS s).2.1 : Nat), .int .i64 (unquoteS s).2.2])
  | _ => PBad
noncomputable def eUnquoteR : SpecE env := ⟨7, sUnquoteR, fun args h hc => by
  unfold sUnquoteR at hc ⊢
  split at hc
  · rename_i s
    exact .inl ((UnquoteR_ok s h hc).letGo fun e h' ⟨v, e1, own⟩ => ⟨_, _, _, e1, own.letGoT _, rfl, rfl⟩)
  · exact hc.elim⟩
end Go.Proofs.YthlibdhjcjangaaDoor
