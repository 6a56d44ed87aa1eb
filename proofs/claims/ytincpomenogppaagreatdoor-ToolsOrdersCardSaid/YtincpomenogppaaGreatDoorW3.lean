/- Contracts of functions that the law reaches. -/
import Derived.Test.YtincpomenogppaaGreatDoorW2
set_option linter.unusedSimpArgs false
set_option linter.unusedVariables false
namespace Go.Proofs.YtincpomenogppaaGreatDoor
open Go Go.RowKit Go.Proofs.YtincpomenogppaaGreatDoor Go.Proofs.YtincpomenogppaaGreatDoor.Lift
set_option maxRecDepth 100000

theorem Clone_ok (l : List (List UInt8)) (h : Heap) (hx : l.length ≤ 1000000000) : SCalls env 39 [.list 1 (strL l)] h (fun e h' => ∃ u, e = .ret u ∧ Own h 9 1 (strL l) u h') := by
  refine SCalls.body Tryz.func39 rfl rfl (by simp [Tryz.ntmps39]) ?_
  refine SW.seq (SW.run [] _ ?_)
  simp only [wpC, Bool.false_eq_true, ↓reduceIte, wpS, stops, wantedA, okDst, Tryz.ntmps39, Nat.reduceLT, decide_true, step1, isOwnCall, hxOp, px, AS.eval, ofConst, ofVal, thenQ, AS.put, enumA, dropKey, reduceCtorEq, true_and]
  refine SW.seq (SW.seq (SW.region ?_))
  refine SWO.run [] 1 ?_
  simp only [wpS, stops, Bool.false_eq_true, ↓reduceIte, wantedA, okDst, Nat.reduceLT, decide_true, step1, isOwnCall, hxOp, px, AS.eval, AS.get, Lift.look, Nat.succ_ne_zero, Option.getD_some, AS.put, dropKey, Nat.reduceEqDiff, reduceCtorEq, true_and]
  refine SWO.nilSplit 3 rfl (by decide) (fun hn c => ?_) (fun ad c => ?_)
  · refine SWO.run [] 1000 ?_
    simp only [wpS, stops, Bool.false_eq_true, ↓reduceIte, wantedA, okDst, AS.put, dropKey, Nat.reduceEqDiff, reduceCtorEq, Nat.reduceLT, decide_true, step1, isOwnCall, hxOp, px, isNilC, pbinP, AS.eval, AS.get, Lift.look, Option.getD_some, pflt, peq, ty43, peqK, ofConst, ofVal, Option.isNone_none, thenQ, true_and]
    refine SW.run [] _ ?_
    simp only [wpC, isB, AS.get, Lift.look, tmpOf, ↓reduceIte, Option.getD_some, asB, mayStop, stops, isFlt, Specs.has, Specs.hasO, Bool.or_false, Specs.hasH, Bool.not_false, List.any_cons, List.any_nil, Bool.false_eq_true, wpS, wantedA, okDst, Nat.reduceLT, decide_true, step1, isOwnCall, hxOp, px, AS.eval, ofConst, ofVal, thenQ, RPost, sres, AS.put, dropKey, Nat.reduceEqDiff, reduceCtorEq, Tryz.results39, sresL, sres1, Option.some.injEq, exists_eq_left', true_and]
    exact ⟨h, .refl _ _, _, rfl, .inl ⟨rfl, hn, rfl⟩⟩
  · refine SWO.run [] 1000 ?_
    simp only [wpS, stops, Bool.false_eq_true, ↓reduceIte, wantedA, okDst, AS.put, dropKey, Nat.reduceEqDiff, reduceCtorEq, Nat.reduceLT, decide_true, step1, isOwnCall, hxOp, px, isNilC, pbinP, AS.eval, AS.get, Lift.look, Option.getD_some, pflt, peq, ty43, peqK, ofConst, ofVal, thenQ, true_and]
    refine SW.run [] _ ?_
    simp only [wpC, isB, AS.get, Lift.look, tmpOf, ↓reduceIte, Option.getD_some, asB, Bool.false_eq_true, thenQ, true_and]
    refine SW.seq (SW.region ?_)
    refine SWO.buildOwn 43 0 #[] rfl (xs := strL []) ty43 rfl ty9 (by decide) (by decide) rfl rfl rfl rfl (by simp [strL]) rfl rfl rfl ?_
    intro v0 H0 own0
    have own0 : Own h 9 1 (strL []) v0 H0 := own0
    refine SWO.run [] 1000 ?_
    simp only [wpS, stops, Bool.false_eq_true, ↓reduceIte, wantedA, okDst, AS.put, dropKey, Nat.reduceEqDiff, reduceCtorEq, Nat.reduceLT, decide_true, step1, isOwnCall, hxOp, px, AS.eval, AS.get, Lift.look, Nat.succ_ne_zero, Option.getD_some, true_and]
    refine SWO.append (.tmp 5) (.tmp 6) 43 43 rfl ty43 rfl ty9 (by decide) rfl ty43 rfl (h0 := h) (xs := strL []) own0 (ys := strL l) rfl (by rw [strL_len, strL_len]; show (0 + _) * 16 ≤ _; omega) (by rw [strL_len, strL_len]; show 0 + _ ≤ _; unfold maxLen; omega) rfl rfl ?_
    intro v1 H1 own1 _ _
    have own1 : Own h 9 1 (strL l) v1 H1 := own1
    refine SWO.run [] 1000 ?_
    simp only [wpS, stops, Bool.false_eq_true, ↓reduceIte, wantedA, okDst, AS.put, dropKey, Nat.reduceEqDiff, reduceCtorEq, Nat.reduceLT, decide_true, step1, isOwnCall, hxOp, px, AS.eval, AS.get, Lift.look, Option.getD_some, thenQ, true_and]
    refine SW.run [] _ ?_
    simp only [wpC, RPost, sres, Tryz.results39, sresL, sres1, AS.get, Lift.look, ↓reduceIte, Option.getD_some]
    obtain ⟨A, cap, rfl⟩ := own1.slice
    exact ⟨_, rfl, H1, .refl _ _, _, rfl, own1⟩
theorem CloneL_ok (l : List (List UInt8)) (h : Heap) (hx : l.length ≤ 1000000000) : SCalls env 39 [.list 1 (strL l)] h (Ret (.list 1 (strL l)) h) :=
  (Clone_ok l h hx).letGo fun e h' ⟨u, e1, ow⟩ => ⟨u, _, h, e1, ow.letGoV, rfl, rfl⟩
def sClone : List PV → Prop × PV
  | [.list 1 xs] => match unS xs with
    | some l => (l.length ≤ 1000000000, .list 1 (strL l))
    | none => PBad
  | _ => PBad
noncomputable def eClone : SpecE env := ⟨39, sClone, fun args h hc => by
  unfold sClone at hc ⊢
  split at hc
  · split at hc
    · rename_i l hl; rw [unS_spec hl]; exact .inl (CloneL_ok l h hc)
    · exact hc.elim
  · exact hc.elim⟩
def idxL (l : List (List UInt8)) (x : List UInt8) : Int := match l.findIdx? (fun y => x == y) with | some k => (k : Int) | none => -1
theorem idxL_take {l : List (List UInt8)} {i : Nat} (hi : i < l.length) {x : List UInt8} (h : ∀ j, (hj : j < i) → (x == l[j]) = false) (he : (x == l[i]) = true) : idxL l x = (i : Nat) := by
  unfold idxL
  have : l.findIdx? (fun y => x == y) = some i := by
    rw [List.findIdx?_eq_some_iff_getElem]
    exact ⟨hi, he, fun j hj => by rw [h j hj]; simp⟩
  rw [this]
theorem idxL_none {l : List (List UInt8)} {x : List UInt8} (h : ∀ j, (hj : j < l.length) → (x == l[j]) = false) : idxL l x = -1 := by
  unfold idxL
  have : l.findIdx? (fun y => x == y) = none := by
    rw [List.findIdx?_eq_none_iff]
    intro y hy
    obtain ⟨j, hj, rfl⟩ := List.getElem_of_mem hy
    exact h j hj
  rw [this]
set_option maxHeartbeats 1000000 in
theorem IndexL_ok (l : List (List UInt8)) (x : List UInt8) (h : Heap) (hl : l.length ≤ 1000000000) : SCalls env 102 [.list 1 (strL l), .str x] h (Ret (.int .i64 (idxL l x)) h) := by
  refine SCalls.body Tryz.func102 rfl rfl (by simp [Tryz.ntmps102]) ?_
  refine SW.seq (SW.run [] _ ?_)
  simp only [wpC, Bool.false_eq_true, ↓reduceIte, wpS, stops, wantedA, okDst, Tryz.ntmps102, Nat.reduceLT, decide_true, step1, isOwnCall, hxOp, px, AS.eval, ofConst, ofVal, thenQ, AS.put, enumA, Nat.zero_add, dropKey, reduceCtorEq, Nat.reduceEqDiff, true_and]
  refine SW.seq (SW.seq (SW.run [] _ ?_))
  simp only [wpC, Bool.false_eq_true, ↓reduceIte, wpS, stops, wantedA, okDst, Nat.reduceLT, decide_true, step1, isOwnCall, hxOp, px, AS.eval, AS.get, Lift.look, Nat.succ_ne_zero, Option.getD_some, AS.put, dropKey, Nat.reduceEqDiff, reduceCtorEq, pcall, ty43, plen, strL_len, okLen, and_self, ofConst, ofVal, thenQ, true_and]
  refine SW.block (SW.loopK 19 (fun i : Nat => [(0, .list 1 (strL l)), (1, .str x), (7, .int .i64 (l.length : Nat)), (8, .int .i64 (i : Nat))]) (fun _ => h) (fun i => i ≤ l.length ∧ ∀ j, (hj : j < i) → (hl : j < l.length) → (x == l[j]) = false) (fun i => l.length - i) 0 ⟨Nat.zero_le _, fun j hj => absurd hj (Nat.not_lt_zero _)⟩ ?_ ?_)
  · simp only [Has, hasAll, AS.get, Lift.look, Nat.succ_ne_zero, ↓reduceIte, Option.getD_some, Nat.reduceEqDiff, reduceCtorEq, Int.cast_ofNat_Int, and_self]
  rintro i ⟨hi, hno⟩
  refine SW.seq (SW.run [] _ ?_)
  by_cases hlt : i < l.length
  · have hw : IntKind.i64.wrap ((i : Int) + 1) = ((i + 1 : Nat) : Int) := by rw [w64 (by omega) (by omega)]; rfl
    have hg := strL_at hlt
    simp only [wpC, Bool.false_eq_true, ↓reduceIte, wpS, stops, wantedA, okDst, Nat.reduceLT, decide_true, step1, isOwnCall, hxOp, px, isNilC, pbinP, AS.eval, AS.get, Lift.look, reduceCtorEq, Nat.reduceEqDiff, Option.getD_some, pbinI, Int.ofNat_lt, hlt, thenQ, Has, hasAll, and_true, AS.put, dropKey, true_and]
    refine SW.seq (SW.run [] _ ?_)
    simp only [wpC, isB, AS.get, Lift.look, tmpOf, ↓reduceIte, Option.getD_some, asB, thenQ, true_and]
    refine SW.seq (SW.block (SW.seq (SW.run [] _ ?_)))
    simp only [wpC, Bool.false_eq_true, ↓reduceIte, wpS, stops, wantedA, okDst, Nat.reduceLT, decide_true, step1, isOwnCall, hxOp, px, AS.eval, AS.get, Lift.look, Nat.reduceEqDiff, reduceCtorEq, Option.getD_some, AS.put, dropKey, thenQ, true_and]
    cases e : (x == l[i])
    · refine SW.run [] _ ?_
      simp only [wpC, mayStop, stops, isFlt, Specs.has, Specs.hasO, Bool.or_false, Specs.hasH, Bool.not_false, List.any_cons, List.any_nil, Bool.false_eq_true, ↓reduceIte, wpS, wantedA, okDst, Nat.reduceLT, decide_true, step1, isOwnCall, hxOp, px, AS.eval, AS.get, Lift.look, Nat.reduceEqDiff, reduceCtorEq, Option.getD_some, AS.put, dropKey, Nat.succ_ne_zero, pindexAddr, ty43, ty9, ne_eq, not_false_eq_true, Int.natCast_nonneg, Int.toNat_natCast, strL_len, hlt, and_self, hg, pload, okOne, TK.isAgg, beq_self_eq_true, Bool.or_true, List.length_cons, List.length_nil, Nat.zero_add, Nat.le_refl, Lift.valOf, List.take_succ_cons, List.take_nil, List.getD_cons_zero, isNilC, pbinP, pbinS, e, thenQ, isB, tmpOf, asB, inQ, true_and]
      refine SW.run [] _ ?_
      simp only [wpC, Bool.false_eq_true, ↓reduceIte, wpS, stops, isFlt, ty3, wantedA, okDst, Nat.reduceLT, decide_true, step1, isOwnCall, hxOp, px, isNilC, pbinP, AS.eval, AS.get, Lift.look, Nat.reduceEqDiff, reduceCtorEq, Option.getD_some, ofConst, ofVal, pbinI, hw, AS.put, dropKey, thenQ, Nat.succ_ne_zero, true_and]
      exact ⟨i + 1, ⟨hlt, fun j hj hl2 => by
        rcases Nat.lt_or_ge j i with h1 | h1
        · exact hno j h1 hl2
        · obtain rfl : j = i := by omega
          exact e⟩, by omega, rfl⟩
    · refine SW.run [] _ ?_
      simp only [wpC, mayStop, stops, isFlt, Specs.has, Specs.hasO, Bool.or_false, Specs.hasH, Bool.not_false, List.any_cons, List.any_nil, Bool.false_eq_true, ↓reduceIte, wpS, wantedA, okDst, Nat.reduceLT, decide_true, step1, isOwnCall, hxOp, px, AS.eval, AS.get, Lift.look, Nat.reduceEqDiff, reduceCtorEq, Option.getD_some, AS.put, dropKey, Nat.succ_ne_zero, pindexAddr, ty43, ty9, ne_eq, not_false_eq_true, Int.natCast_nonneg, Int.toNat_natCast, strL_len, hlt, and_self, hg, pload, okOne, TK.isAgg, beq_self_eq_true, Bool.or_true, List.length_cons, List.length_nil, Nat.zero_add, Nat.le_refl, Lift.valOf, List.take_succ_cons, List.take_nil, List.getD_cons_zero, isNilC, pbinP, pbinS, e, thenQ, isB, tmpOf, asB, inQ, RPost, sres, Tryz.results102, sresL, sres1, Option.some.injEq, Ret_fin, HTo_self, and_true, exists_eq_left', true_and]
      rw [idxL_take hlt (fun j hj => hno j hj (by omega)) e]
  · simp only [wpC, Bool.false_eq_true, ↓reduceIte, wpS, stops, wantedA, okDst, Nat.reduceLT, decide_true, step1, isOwnCall, hxOp, px, isNilC, pbinP, AS.eval, AS.get, Lift.look, reduceCtorEq, Nat.reduceEqDiff, Option.getD_some, pbinI, Int.ofNat_lt, hlt, decide_false, thenQ, Has, hasAll, and_true, AS.put, dropKey, true_and]
    refine SW.seq (SW.run [] _ ?_)
    simp only [wpC, isB, AS.get, Lift.look, tmpOf, ↓reduceIte, Option.getD_some, asB, Bool.false_eq_true, thenQ, inQ, true_and]
    refine SW.run [] _ ?_
    simp only [wpC, mayStop, stops, isFlt, Specs.has, Specs.hasO, Bool.or_false, Specs.hasH, Bool.not_false, List.any_cons, List.any_nil, Bool.false_eq_true, ↓reduceIte, wpS, wantedA, okDst, Nat.reduceLT, decide_true, step1, isOwnCall, hxOp, px, AS.eval, ofConst, ofVal, thenQ, RPost, sres, AS.put, dropKey, Nat.reduceEqDiff, reduceCtorEq, Tryz.results102, sresL, sres1, AS.get, Lift.look, Option.getD_some, Option.some.injEq, Ret_fin, HTo_self, and_true, exists_eq_left', true_and]
    rw [idxL_none fun j hj => hno j (by omega) hj]
def sIndexL : List PV → Prop × PV
  | [.list 1 xs, .str x] => match unS xs with
    | some l => (l.length ≤ 1000000000, .int .i64 (idxL l x))
    | none => PBad
  | _ => PBad
noncomputable def eIndexL : SpecE env := ⟨102, sIndexL, fun args h hc => by
  unfold sIndexL at hc ⊢
  split at hc
  · split at hc
    · rename_i l hl; rw [unS_spec hl]; exact .inl (IndexL_ok l _ h hc)
    · exact hc.elim
  · exact hc.elim⟩
set_option maxHeartbeats 1000000 in
theorem EqualL_ok (a b : List (List UInt8)) (h : Heap) (hl : a.length ≤ 1000000000) : SCalls env 48 [.list 1 (strL a), .list 1 (strL b)] h (Ret (.bool (a == b)) h) := by
  refine SCalls.body Tryz.func48 rfl rfl (by simp [Tryz.ntmps48]) ?_
  refine SW.seq (SW.run [] _ ?_)
  simp only [wpC, Bool.false_eq_true, ↓reduceIte, wpS, stops, wantedA, okDst, Tryz.ntmps48, Nat.reduceLT, decide_true, step1, isOwnCall, hxOp, px, AS.eval, ofConst, ofVal, thenQ, AS.put, enumA, Nat.zero_add, dropKey, reduceCtorEq, Nat.reduceEqDiff, true_and]
  refine SW.seq (SW.run [] _ ?_)
  cases el : (((a.length : Nat) : Int) != ((b.length : Nat) : Int))
  case true =>
    have hne : (a == b) = false := by
      rw [beq_eq_false_iff_ne]
      rintro rfl
      simp at el
    simp only [wpC, mayStop, stops, isFlt, Specs.has, Specs.hasO, Bool.or_false, Specs.hasH, Bool.not_false, List.any_cons, List.any_nil, Bool.false_eq_true, ↓reduceIte, wpS, wantedA, okDst, Nat.reduceLT, decide_true, step1, isOwnCall, hxOp, px, AS.eval, AS.get, Lift.look, Nat.succ_ne_zero, Option.getD_some, AS.put, dropKey, Nat.reduceEqDiff, reduceCtorEq, pcall, ty43, plen, strL_len, okLen, and_self, isNilC, pbinP, pbinI, el, thenQ, isB, tmpOf, asB, ofConst, ofVal, RPost, sres, Tryz.results48, sresL, sres1, Option.some.injEq, hne, Ret_fin, HTo_self, and_true, exists_eq_left']
  have hlen : a.length = b.length := by simp at el; omega
  simp only [wpC, mayStop, stops, isFlt, Specs.has, Specs.hasO, Bool.or_false, Specs.hasH, Bool.not_false, List.any_cons, List.any_nil, Bool.false_eq_true, ↓reduceIte, wpS, wantedA, okDst, Nat.reduceLT, decide_true, step1, isOwnCall, hxOp, px, AS.eval, AS.get, Lift.look, Nat.succ_ne_zero, Option.getD_some, AS.put, dropKey, Nat.reduceEqDiff, reduceCtorEq, pcall, ty43, plen, strL_len, okLen, and_self, isNilC, pbinP, pbinI, el, thenQ, isB, tmpOf, asB, true_and]
  refine SW.seq (SW.seq (SW.run [] _ ?_))
  simp only [wpC, Bool.false_eq_true, ↓reduceIte, wpS, stops, wantedA, okDst, Nat.reduceLT, decide_true, step1, isOwnCall, hxOp, px, AS.eval, AS.get, Lift.look, Nat.succ_ne_zero, Option.getD_some, AS.put, dropKey, Nat.reduceEqDiff, reduceCtorEq, pcall, ty43, plen, strL_len, okLen, and_self, ofConst, ofVal, thenQ, true_and]
  refine SW.block (SW.loopK 26 (fun i : Nat => [(0, .list 1 (strL a)), (1, .list 1 (strL b)), (12, .int .i64 (a.length : Nat)), (13, .int .i64 (i : Nat))]) (fun _ => h) (fun i => i ≤ a.length ∧ a.take i = b.take i) (fun i => a.length - i) 0 ⟨Nat.zero_le _, rfl⟩ ?_ ?_)
  · simp only [Has, hasAll, AS.get, Lift.look, Nat.succ_ne_zero, ↓reduceIte, Option.getD_some, Nat.reduceEqDiff, reduceCtorEq, Int.cast_ofNat_Int, and_self]
  rintro i ⟨hi, hno⟩
  refine SW.seq (SW.run [] _ ?_)
  by_cases hlt : i < a.length
  · have hw : IntKind.i64.wrap ((i : Int) + 1) = ((i + 1 : Nat) : Int) := by rw [w64 (by omega) (by omega)]; rfl
    have hlb : i < b.length := by omega
    have hg := strL_at hlt
    have hgb := strL_at hlb
    simp only [wpC, Bool.false_eq_true, ↓reduceIte, wpS, stops, wantedA, okDst, Nat.reduceLT, decide_true, step1, isOwnCall, hxOp, px, isNilC, pbinP, AS.eval, AS.get, Lift.look, reduceCtorEq, Nat.reduceEqDiff, Option.getD_some, pbinI, Int.ofNat_lt, hlt, thenQ, Has, hasAll, and_true, AS.put, dropKey, true_and]
    refine SW.seq (SW.run [] _ ?_)
    simp only [wpC, isB, AS.get, Lift.look, tmpOf, ↓reduceIte, Option.getD_some, asB, thenQ, true_and]
    refine SW.seq (SW.block (SW.seq (SW.run [] _ ?_)))
    simp only [wpC, Bool.false_eq_true, ↓reduceIte, wpS, stops, wantedA, okDst, Nat.reduceLT, decide_true, step1, isOwnCall, hxOp, px, AS.eval, AS.get, Lift.look, Nat.reduceEqDiff, reduceCtorEq, Option.getD_some, AS.put, dropKey, thenQ, true_and]
    refine SW.seq (SW.regionAny [] [[0, 1, 2, 3, 4, 5, 6, 7, 8]] rfl (by rfl) (by kernel_rfl) ?_)
    simp only [wpOL, wpO, LOp, List.getElem?_toArray, List.getElem?_cons_zero, okDst, Nat.reduceLT, decide_true, wantedA, ↓reduceIte, step1, isOwnCall, Bool.false_eq_true, hxOp, px, AS.eval, AS.get, Lift.look, Nat.succ_ne_zero, Option.getD_some, List.getElem?_cons_succ, AS.put, dropKey, Nat.reduceEqDiff, reduceCtorEq, pindexAddr, ty43, ty9, ne_eq, not_false_eq_true, Int.natCast_nonneg, Int.toNat_natCast, strL_len, hlt, and_self, hg, pload, okOne, TK.isAgg, beq_self_eq_true, Bool.or_true, List.length_cons, List.length_nil, Nat.zero_add, Nat.le_refl, Lift.valOf, List.take_succ_cons, List.take_nil, List.getD_cons_zero, hlb, hgb, isNilC, pbinP, pbinS, thenQ, true_and]
    cases e : (a[i] == b[i])
    · refine SW.run [] _ ?_
      have hne : (a == b) = false := by
        rw [beq_eq_false_iff_ne]
        rintro rfl
        simp at e
      simp only [wpC, isB, AS.get, Lift.look, tmpOf, ↓reduceIte, Bool.not_false, Option.getD_some, asB, mayStop, stops, isFlt, Specs.has, Specs.hasO, Bool.or_false, Specs.hasH, List.any_cons, List.any_nil, Bool.false_eq_true, wpS, wantedA, okDst, Nat.reduceLT, decide_true, step1, isOwnCall, hxOp, px, AS.eval, ofConst, ofVal, thenQ, inQ, RPost, sres, AS.put, dropKey, Nat.reduceEqDiff, reduceCtorEq, Tryz.results48, sresL, sres1, Option.some.injEq, hne, Ret_fin, HTo_self, and_true, exists_eq_left', and_self]
    · refine SW.run [] _ ?_
      simp only [wpC, isB, AS.get, Lift.look, tmpOf, ↓reduceIte, Bool.not_true, Option.getD_some, asB, Bool.false_eq_true, inQ, thenQ, true_and]
      refine SW.run [] _ ?_
      simp only [wpC, Bool.false_eq_true, ↓reduceIte, wpS, stops, isFlt, ty3, wantedA, okDst, Nat.reduceLT, decide_true, step1, isOwnCall, hxOp, px, isNilC, pbinP, AS.eval, AS.get, Lift.look, Nat.reduceEqDiff, reduceCtorEq, Option.getD_some, ofConst, ofVal, pbinI, hw, AS.put, dropKey, thenQ, Nat.succ_ne_zero, true_and]
      refine ⟨i + 1, ⟨hlt, ?_⟩, by omega, rfl⟩
      have e : a[i] = b[i] := by simpa using e
      rw [List.take_succ_eq_append_getElem hlt, List.take_succ_eq_append_getElem hlb, hno, e]
  · have he : a = b := by
      rw [List.take_of_length_le (by omega), List.take_of_length_le (by omega)] at hno
      exact hno
    simp only [wpC, Bool.false_eq_true, ↓reduceIte, wpS, stops, wantedA, okDst, Nat.reduceLT, decide_true, step1, isOwnCall, hxOp, px, isNilC, pbinP, AS.eval, AS.get, Lift.look, reduceCtorEq, Nat.reduceEqDiff, Option.getD_some, pbinI, Int.ofNat_lt, hlt, decide_false, thenQ, Has, hasAll, and_true, AS.put, dropKey, true_and]
    refine SW.seq (SW.run [] _ ?_)
    simp only [wpC, isB, AS.get, Lift.look, tmpOf, ↓reduceIte, Option.getD_some, asB, Bool.false_eq_true, thenQ, inQ, true_and]
    refine SW.run [] _ ?_
    simp only [wpC, mayStop, stops, isFlt, Specs.has, Specs.hasO, Bool.or_false, Specs.hasH, Bool.not_false, List.any_cons, List.any_nil, Bool.false_eq_true, ↓reduceIte, wpS, wantedA, okDst, Nat.reduceLT, decide_true, step1, isOwnCall, hxOp, px, AS.eval, ofConst, ofVal, thenQ, RPost, sres, AS.put, dropKey, Nat.reduceEqDiff, reduceCtorEq, Tryz.results48, sresL, sres1, AS.get, Lift.look, Option.getD_some, Option.some.injEq, Ret_fin, HTo_self, and_true, exists_eq_left', true_and]
    rw [he]
    simp
def smallS (l : List (List UInt8)) : Bool := l.all fun s => decide (s.length ≤ 300)
set_option maxHeartbeats 1000000 in
theorem Small_ok (l : List (List UInt8)) (h : Heap) (hl : l.length ≤ 1000000000) : SCalls env 15 [.list 1 (strL l)] h (Ret (.bool (smallS l)) h) := by
  refine SCalls.body Tryz.func15 rfl rfl (by simp [Tryz.ntmps15]) ?_
  refine SW.seq (SW.run [] _ ?_)
  simp only [wpC, Bool.false_eq_true, ↓reduceIte, wpS, stops, wantedA, okDst, Tryz.ntmps15, Nat.reduceLT, decide_true, step1, isOwnCall, hxOp, px, AS.eval, ofConst, ofVal, thenQ, AS.put, enumA, dropKey, reduceCtorEq, true_and]
  refine SW.seq (SW.seq (SW.run [] _ ?_))
  simp only [wpC, Bool.false_eq_true, ↓reduceIte, wpS, stops, wantedA, okDst, Nat.reduceLT, decide_true, step1, isOwnCall, hxOp, px, AS.eval, AS.get, Lift.look, Nat.succ_ne_zero, Option.getD_some, AS.put, dropKey, Nat.reduceEqDiff, reduceCtorEq, pcall, ty43, plen, strL_len, okLen, and_self, ofConst, ofVal, thenQ, true_and]
  refine SW.block (SW.loopK 15 (fun i : Nat => [(5, .list 1 (strL l)), (6, .int .i64 (l.length : Nat)), (7, .int .i64 (i : Nat))]) (fun _ => h) (fun i => i ≤ l.length ∧ smallS (l.take i) = true) (fun i => l.length - i) 0 ⟨Nat.zero_le _, rfl⟩ ?_ ?_)
  · simp only [Has, hasAll, AS.get, Lift.look, Nat.reduceEqDiff, ↓reduceIte, Option.getD_some, Int.cast_ofNat_Int, and_self]
  rintro i ⟨hi, hno⟩
  refine SW.seq (SW.run [] _ ?_)
  by_cases hlt : i < l.length
  · have hw : IntKind.i64.wrap ((i : Int) + 1) = ((i + 1 : Nat) : Int) := by rw [w64 (by omega) (by omega)]; rfl
    have hg := strL_at hlt
    simp only [wpC, Bool.false_eq_true, ↓reduceIte, wpS, stops, wantedA, okDst, Nat.reduceLT, decide_true, step1, isOwnCall, hxOp, px, isNilC, pbinP, AS.eval, AS.get, Lift.look, Nat.reduceEqDiff, Option.getD_some, pbinI, Int.ofNat_lt, hlt, thenQ, Has, hasAll, and_true, AS.put, dropKey, true_and]
    refine SW.seq (SW.run [] _ ?_)
    simp only [wpC, isB, AS.get, Lift.look, tmpOf, ↓reduceIte, Option.getD_some, asB, thenQ, true_and]
    refine SW.seq (SW.block (SW.seq (SW.run [] _ ?_)))
    simp only [wpC, Bool.false_eq_true, ↓reduceIte, wpS, stops, wantedA, okDst, Nat.reduceLT, decide_true, step1, isOwnCall, hxOp, px, pindexAddr, ty43, ty9, AS.eval, AS.get, Lift.look, Nat.reduceEqDiff, Option.getD_some, ne_eq, Nat.succ_ne_zero, not_false_eq_true, Int.natCast_nonneg, Int.toNat_natCast, strL_len, hlt, and_self, hg, AS.put, dropKey, pload, okOne, TK.isAgg, beq_self_eq_true, Bool.or_true, List.length_cons, List.length_nil, Nat.zero_add, Nat.le_refl, Lift.valOf, List.take_succ_cons, List.take_nil, List.getD_cons_zero, thenQ, true_and]
    by_cases e : 300 < l[i].length
    · have e2 : (300 : Int) < (l[i].length : Int) := by omega
      have hs : smallS l = false := by
        unfold smallS
        rw [List.all_eq_false]
        exact ⟨l[i], List.getElem_mem hlt, by simp; omega⟩
      refine SW.run [] _ ?_
      simp only [wpC, mayStop, stops, isFlt, Specs.has, Specs.hasO, Bool.or_false, Specs.hasH, Bool.not_false, List.any_cons, List.any_nil, Bool.false_eq_true, ↓reduceIte, wpS, wantedA, okDst, Nat.reduceLT, decide_true, step1, isOwnCall, hxOp, px, AS.eval, AS.get, Lift.look, Option.getD_some, AS.put, dropKey, Nat.reduceEqDiff, pcall, ty9, plen, okLen, and_self, isNilC, pbinP, ofConst, ofVal, pbinI, e2, thenQ, isB, tmpOf, asB, inQ, RPost, sres, Tryz.results15, sresL, sres1, Option.some.injEq, hs, Ret_fin, HTo_self, and_true, exists_eq_left']
    · have e2 : ¬ (300 : Int) < (l[i].length : Int) := by omega
      refine SW.run [] _ ?_
      simp only [wpC, mayStop, stops, isFlt, Specs.has, Specs.hasO, Bool.or_false, Specs.hasH, Bool.not_false, List.any_cons, List.any_nil, Bool.false_eq_true, ↓reduceIte, wpS, wantedA, okDst, Nat.reduceLT, decide_true, step1, isOwnCall, hxOp, px, AS.eval, AS.get, Lift.look, Option.getD_some, AS.put, dropKey, Nat.reduceEqDiff, pcall, ty9, plen, okLen, and_self, isNilC, pbinP, ofConst, ofVal, pbinI, e2, decide_false, thenQ, isB, tmpOf, asB, inQ, true_and]
      refine SW.run [] _ ?_
      simp only [wpC, Bool.false_eq_true, ↓reduceIte, wpS, stops, isFlt, ty3, wantedA, okDst, Nat.reduceLT, decide_true, step1, isOwnCall, hxOp, px, isNilC, pbinP, AS.eval, AS.get, Lift.look, Nat.reduceEqDiff, Option.getD_some, ofConst, ofVal, pbinI, hw, AS.put, dropKey, thenQ, true_and]
      refine ⟨i + 1, ⟨hlt, ?_⟩, by omega, rfl⟩
      unfold smallS at hno ⊢
      rw [List.take_succ_eq_append_getElem hlt, List.all_append, hno]
      simp; omega
  · have he : smallS l = true := by
      rw [List.take_of_length_le (by omega)] at hno
      exact hno
    simp only [wpC, Bool.false_eq_true, ↓reduceIte, wpS, stops, wantedA, okDst, Nat.reduceLT, decide_true, step1, isOwnCall, hxOp, px, isNilC, pbinP, AS.eval, AS.get, Lift.look, Nat.reduceEqDiff, Option.getD_some, pbinI, Int.ofNat_lt, hlt, decide_false, thenQ, Has, hasAll, and_true, AS.put, dropKey, true_and]
    refine SW.seq (SW.run [] _ ?_)
    simp only [wpC, isB, AS.get, Lift.look, tmpOf, ↓reduceIte, Option.getD_some, asB, Bool.false_eq_true, thenQ, inQ, true_and]
    refine SW.run [] _ ?_
    simp only [wpC, mayStop, stops, isFlt, Specs.has, Specs.hasO, Bool.or_false, Specs.hasH, Bool.not_false, List.any_cons, List.any_nil, Bool.false_eq_true, ↓reduceIte, wpS, wantedA, okDst, Nat.reduceLT, decide_true, step1, isOwnCall, hxOp, px, AS.eval, ofConst, ofVal, thenQ, RPost, sres, AS.put, dropKey, Nat.reduceEqDiff, Tryz.results15, sresL, sres1, AS.get, Lift.look, Option.getD_some, Option.some.injEq, he, Ret_fin, HTo_self, and_true, exists_eq_left', and_self]
def sSmall : List PV → Prop × PV
  | [.list 1 xs] => match unS xs with
    | some l => (l.length ≤ 1000000000, .bool (smallS l))
    | none => PBad
  | _ => PBad
noncomputable def eSmall : SpecE env := ⟨15, sSmall, fun args h hc => by
  unfold sSmall at hc ⊢
  split at hc
  · split at hc
    · rename_i l hl; rw [unS_spec hl]; exact .inl (Small_ok l h hc)
    · exact hc.elim
  · exact hc.elim⟩
end Go.Proofs.YtincpomenogppaaGreatDoor
