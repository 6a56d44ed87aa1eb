/- Contracts of functions that the law reaches. -/
import Derived.Test.YtincpomenogppaaDoorW9
import Derived.Test.YtincpomenogppaaDoorLiftH
set_option linter.unusedSimpArgs false
set_option linter.unusedVariables false
namespace Go.Proofs.YtincpomenogppaaDoor
open Go Go.RowKit Go.Proofs.YtincpomenogppaaDoor Go.Proofs.YtincpomenogppaaDoor.Lift
set_option maxRecDepth 100000

/-! acheronref38.Diff -/
theorem OwnC.form {h0 H : Heap} {e : TypeId} {sz : Nat} {xs : List (List PV)} {v : PV} (o : OwnC h0 e sz xs v H) : v = .cap0 ∨ ∃ A n c, v = .val (.slice A n c) := by
  rcases o with ⟨rfl, _⟩ | ⟨rfl, _⟩ | ⟨r, cap, rfl, _⟩
  · exact .inl rfl
  · exact .inr ⟨_, _, _, rfl⟩
  · exact .inr ⟨_, _, _, rfl⟩
theorem least {P : Nat → Prop} : ∀ n, P n → ∃ m, m ≤ n ∧ P m ∧ ∀ k, k < m → ¬ P k := by
  intro n
  induction n using Nat.strongRecOn with
  | ind n ih =>
    intro h
    by_cases e : ∃ k, k < n ∧ P k
    · obtain ⟨k, hk, pk⟩ := e
      obtain ⟨m, h1, h2, h3⟩ := ih k hk pk
      exact ⟨m, by omega, h2, h3⟩
    · exact ⟨n, Nat.le_refl _, h, fun k hk pk => e ⟨k, hk, pk⟩⟩
/-- The next kept lines, and what that means for the changes. -/
theorem diffP_next {x y : List (List UInt8)} {i j : Nat} (h : tabT x y i j ≠ 0) : ∃ p q, i ≤ p ∧ p < x.length ∧ j ≤ q ∧ q < y.length ∧ keepB x y i j p q = true ∧ (∀ p', i ≤ p' → p' < p → ∀ q', j ≤ q' → q' < y.length → keepB x y i j p' q' = false) ∧ (∀ q', j ≤ q' → q' < q → keepB x y i j p q' = false) ∧ diffP x y i i j = untilE x y i j p q ++ diffP x y (p + 1) (p + 1) (q + 1) := by
  obtain ⟨p0, q0, a1, a2, a3, a4, a5⟩ := keep_ex2 h
  obtain ⟨p, hpm, ⟨b1, b2, q1, b3, b4, b5⟩, hmin⟩ := least (P := fun p => i ≤ p ∧ p < x.length ∧ ∃ q, j ≤ q ∧ q < y.length ∧ keepB x y i j p q = true) p0 ⟨a1, a2, q0, a3, a4, a5⟩
  have hno : ∀ p', i ≤ p' → p' < p → ∀ q', j ≤ q' → q' < y.length → keepB x y i j p' q' = false := fun p' h1 h2 q' h3 h4 => by
    cases e : keepB x y i j p' q'
    · rfl
    · exact absurd ⟨h1, by omega, q', h3, h4, e⟩ (hmin p' h2)
  have hk := (keep_first b2 b1).1 ⟨q1, b3, b4, b5⟩
  rcases idxL_spec (y.drop j) x[p] with ⟨e, _⟩ | ⟨k, hkl, hke, hkx, hkf⟩
  · exact absurd (.inl (by rw [e]; decide)) hk
  · rw [List.length_drop] at hkl
    rw [hke, Int.toNat_natCast] at hk
    rw [List.getElem_drop] at hkx
    have hT : tabT x y (p + 1) (j + k + 1) + 1 = tabT x y i j := by omega
    have hxp : x.getD p [] = x[p] := by rw [List.getD_eq_getElem?_getD, List.getElem?_eq_getElem b2]; rfl
    refine ⟨p, j + k, b1, b2, by omega, by omega, ?_, hno, fun q' h1 h2 => ?_, ?_⟩
    · unfold keepB
      rw [hxp, List.getD_eq_getElem?_getD, List.getElem?_eq_getElem (by omega)]
      simp only [Option.getD_some, Bool.and_eq_true, decide_eq_true_eq]
      exact ⟨hkx.symm, hT⟩
    · have := hkf (q' - j) (by omega)
      rw [List.getElem_drop] at this
      unfold keepB
      rw [hxp, List.getD_eq_getElem?_getD, List.getElem?_eq_getElem (show q' < y.length by omega)]
      simp only [Option.getD_some, Bool.and_eq_false_iff, decide_eq_false_iff_not]
      left
      intro e
      exact this (by rw [e]; simp [show j + (q' - j) = q' by omega])
    · have hskip : ∀ d, i + d ≤ p → diffP x y i i j = diffP x y (i + d) i j := by
        intro d
        induction d with
        | zero => intro _; rfl
        | succ d ih =>
          intro hd
          rw [ih (by omega), diffP_skip (show i + d < x.length by omega) h]
          · rfl
          · have hlx : i + d < x.length := by omega
            refine Classical.byContradiction fun hh => ?_
            obtain ⟨q', c1, c2, c3⟩ := (keep_first (x := x) (y := y) (i := i) (j := j) hlx (by omega)).2 hh
            have := hno (i + d) (by omega) (by omega) q' c1 c2
            rw [this] at c3; cases c3
      rw [hskip (p - i) (by omega), show i + (p - i) = p by omega, diffP_take b2 h hke hT]
set_option maxHeartbeats 4000000 in
set_option maxRecDepth 100000 in
theorem RDiffO_ok (s u : List UInt8) (hs : s.length ≤ 1000000) (hu : u.length ≤ 1000000) (hx : (linesOf s).length ≤ 1000) (hy : (linesOf u).length ≤ 1000) (h : Heap) :
    SCalls env 10 [.str s, .str u] h (fun en h' => ∃ v, en = .ret (.tuple [v, .int .i64 0]) ∧ Own h 67 4 (edL (diffS (linesOf s) (linesOf u))) v h') := by
  refine SCalls.body Tryd.func10 rfl rfl (by simp [Tryd.ntmps10]) ?_
  refine SW.seq (SW.run [] _ ?_)
  simp only [wpC, Bool.false_eq_true, ↓reduceIte, wpS, stops, wantedA, okDst, Tryd.ntmps10, Nat.reduceLT, decide_true, step1, isOwnCall, hxOp, px, AS.eval, ofConst, ofVal, AS.put, enumA, Nat.zero_add, dropKey, reduceCtorEq, Nat.reduceEqDiff, thenQ, true_and]
  refine SW.seq (SW.run [eRLines] _ ?_)
  simp only [wpC, Bool.false_eq_true, ↓reduceIte, wpS, stops, wantedA, okDst, Nat.reduceLT, decide_true, step1, isOwnCall, hxOp, px, AS.eval, AS.get, Lift.look, Nat.succ_ne_zero, Option.getD_some, Specs.has, eRLines, Specs.hasO, Bool.or_false, Specs.hasH, Bool.not_true, AS.put, dropKey, Nat.reduceEqDiff, reduceCtorEq, pcall, okArg, ofConst, ofVal, List.all_cons, List.all_nil, Bool.and_true, Specs.at, List.map_cons, List.map_nil, sLines, true_and, thenQ]
  refine ⟨hs, hu, ?_⟩
  generalize linesOf s = x at *
  generalize linesOf u = y at *
  have hx' : ¬ (1000 : Int) < (x.length : Int) := by omega
  have hy' : ¬ (1000 : Int) < (y.length : Int) := by omega
  refine SW.seq (SW.run [] _ ?_)
  simp only [wpC, mayStop, stops, isFlt, Specs.has, Specs.hasO, Bool.or_false, Specs.hasH, Bool.not_false, List.any_cons, List.any_nil, Bool.false_eq_true, ↓reduceIte, wpS, wantedA, okDst, Nat.reduceLT, decide_true, step1, isOwnCall, hxOp, px, AS.eval, AS.get, Lift.look, Nat.reduceEqDiff, Option.getD_some, AS.put, dropKey, reduceCtorEq, pcall, ty34, plen, strL_len, okLen, and_self, isNilC, pbinP, ofConst, ofVal, pbinI, hx', decide_false, List.getElem?_toArray, List.getElem?_cons_succ, List.getElem?_cons_zero, Option.bind_some, beq_self_eq_true, hy', ppick_bool, thenQ, isB, tmpOf, asB, true_and]
  refine SW.seq (SW.run [eTable] _ ?_)
  simp only [wpC, Bool.false_eq_true, ↓reduceIte, wpS, stops, wantedA, okDst, Nat.reduceLT, decide_true, step1, isOwnCall, hxOp, px, AS.eval, AS.get, Lift.look, Nat.reduceEqDiff, Option.getD_some, AS.put, dropKey, reduceCtorEq, Specs.has, eTable, Specs.hasO, Bool.or_false, Specs.hasH, Bool.not_true, pcall, okArg, ofConst, ofVal, List.all_cons, List.all_nil, Bool.and_true, Specs.at, List.map_cons, List.map_nil, sTable, unS_el, true_and, thenQ]
  refine ⟨⟨hx, hy⟩, ?_⟩
  refine SW.seq (SW.run [] _ ?_)
  simp only [wpC, Bool.false_eq_true, ↓reduceIte, wpS, stops, wantedA, okDst, Nat.reduceLT, decide_true, step1, isOwnCall, hxOp, px, AS.eval, ofConst, ofVal, thenQ, AS.put, dropKey, Nat.reduceEqDiff, reduceCtorEq, true_and]
  refine SW.enter (n := 132) (l := [(6, .list 1 (strL x)), (7, .list 1 (strL y)), (8, .list 1 (tabV .i64 x y)), (9, .val (.slice none 0 0))]) (H := h) rfl (.refl _ _) (by simp only [hasAll, AS.get, Lift.look, Nat.reduceEqDiff, ↓reduceIte, Option.getD_some, and_self]) ?_
  refine SW.seq (SW.run [] _ ?_)
  simp only [wpC, Bool.false_eq_true, ↓reduceIte, wpS, stops, wantedA, okDst, Nat.reduceLT, decide_true, step1, isOwnCall, hxOp, px, AS.eval, ofConst, ofVal, AS.put, dropKey, Nat.reduceEqDiff, thenQ, true_and]
  refine SW.block (SW.loop (fun bb st => ∃ (i j : Nat) (v : PV) (out : List Ed), i ≤ x.length ∧ j ≤ y.length ∧ x.length - i = bb ∧ Own h 67 4 (edL out) v st.h ∧ out ++ diffP x y i i j = diffS x y ∧ out.length ≤ i ∧ st.n = 132 ∧ hasAll st [(6, .list 1 (strL x)), (7, .list 1 (strL y)), (8, .list 1 (tabV .i64 x y)), (9, v), (10, .int .i64 (i : Nat)), (11, .int .i64 (j : Nat))]) x.length ⟨0, 0, _, [], Nat.zero_le _, Nat.zero_le _, rfl, Own.nil _ _ _, rfl, Nat.le_refl _, rfl, ?_⟩ ?_)
  · simp only [hasAll, AS.get, Lift.look, Nat.reduceEqDiff, ↓reduceIte, Option.getD_some, Int.cast_ofNat_Int, and_self]
  rintro bb st ⟨i, j, v, out, hi, hj, hbb, ow, hout, hol, hn, hs'⟩
  refine SW.norm ⟨hn, rfl, hs'⟩ ?_
  generalize st.h = H at ow
  clear hn hs'
  have hgi := tabV_at .i64 (x := x) (y := y) (i := i) (by omega)
  have hgj := rowV_at .i64 (x := x) (y := y) i (j := j) (by omega)
  have bi : ((i : Nat) : Int) < ((x.length + 1 : Nat) : Int) := by omega
  have bj : ((j : Nat) : Int) < ((y.length + 1 : Nat) : Int) := by omega
  have hTl := tabT_le x y i j
  obtain ⟨A, cap, ev⟩ := ow.slice
  obtain ⟨N, eN⟩ : ∃ N, N = (edL out).length := ⟨_, rfl⟩
  rw [← eN] at ev
  subst ev
  refine SW.block (SW.seq (SW.run [] _ ?_))
  simp only [wpC, Bool.false_eq_true, ↓reduceIte, wpS, stops, wantedA, okDst, Nat.reduceLT, decide_true, step1, isOwnCall, hxOp, px, AS.eval, AS.get, Lift.look, Option.getD_some, AS.put, dropKey, Nat.reduceEqDiff, pcall, ty34, plen, strL_len, okLen, and_self, thenQ, hasAll, and_true, true_and]
  refine SW.cut (fun st => ∃ p q : Nat, i ≤ p ∧ p ≤ x.length ∧ j ≤ q ∧ q ≤ y.length ∧ ((p = x.length ∧ q = y.length ∧ diffP x y i i j = untilE x y i j p q) ∨ (p < x.length ∧ q < y.length ∧ diffP x y i i j = untilE x y i j p q ++ diffP x y (p + 1) (p + 1) (q + 1))) ∧ st.h = H ∧ st.n = 132 ∧ hasAll st [(6, .list 1 (strL x)), (7, .list 1 (strL y)), (8, .list 1 (tabV .i64 x y)), (9, .val (.slice A N cap)), (10, .int .i64 (i : Nat)), (11, .int .i64 (j : Nat)), (12, .int .i64 (p : Nat)), (13, .int .i64 (q : Nat))]) ?_ ?_
  · refine SW.seq (SW.run [] _ ?_)
    simp only [wpC, Bool.false_eq_true, ↓reduceIte, wpS, stops, wantedA, okDst, Nat.reduceLT, decide_true, step1, isOwnCall, hxOp, px, AS.eval, AS.get, Lift.look, Nat.reduceEqDiff, Option.getD_some, AS.put, dropKey, pindexAddr, ty64, ty66, ne_eq, Nat.succ_ne_zero, not_false_eq_true, Int.natCast_nonneg, Int.toNat_natCast, tabV_len, true_and, hgi, pload, okOne, TK.isAgg, beq_self_eq_true, Bool.or_true, List.length_cons, List.length_nil, Nat.zero_add, Nat.le_refl, and_self, Lift.valOf, List.take_succ_cons, List.take_nil, List.getD_cons_zero, ty3, rowV_len, hgj, isNilC, pbinP, ofConst, ofVal, pbinI, thenQ, hasAll, and_true]
    refine ⟨by omega, by omega, ?_⟩
    by_cases hT : tabT x y i j = 0
    · refine SW.run [] _ ?_
      rw [hT]
      simp only [wpC, isB, AS.get, Lift.look, tmpOf, ↓reduceIte, Int.cast_ofNat_Int, Int.reduceLT, decide_false, Option.getD_some, asB, Bool.false_eq_true, thenQ, Nat.reduceEqDiff, true_and]
      exact ⟨x.length, y.length, hi, Nat.le_refl _, hj, Nat.le_refl _, .inl ⟨rfl, rfl, diffP_end (.inr hT)⟩, rfl, rfl⟩
    · have hT' : (0 : Int) < ((tabT x y i j : Nat) : Int) := by omega
      refine SW.run [] _ ?_
      simp only [wpC, isB, AS.get, Lift.look, tmpOf, ↓reduceIte, hT', decide_true, Option.getD_some, asB, mayStop, stops, isFlt, Specs.has, Specs.hasO, Bool.or_false, Specs.hasH, Bool.not_false, List.any_cons, List.any_nil, Bool.false_eq_true, wpS, wantedA, okDst, Nat.reduceLT, step1, isOwnCall, hxOp, px, AS.eval, ofConst, ofVal, thenQ, Bool.or_true, AS.put, dropKey, Nat.reduceEqDiff, true_and]
      obtain ⟨p, q, hip, hp, hjq, hq, hk, hno, hnq, hd⟩ := diffP_next hT
      refine SW.enter (n := 132) (l := [(6, .list 1 (strL x)), (7, .list 1 (strL y)), (8, .list 1 (tabV .i64 x y)), (9, .val (.slice A N cap)), (10, .int .i64 (i : Nat)), (11, .int .i64 (j : Nat)), (12, .int .i64 (i : Nat)), (13, .int .i64 (y.length : Nat)), (14, .bool false)]) (H := H) rfl (.refl _ _) (by simp only [hasAll, AS.get, Lift.look, Nat.reduceEqDiff, ↓reduceIte, Option.getD_some, and_self]) ?_
      refine SW.loop (fun b2 st => ∃ (p2 : Nat) (f : Bool) (w : PV), i ≤ p2 ∧ p2 ≤ p + 1 ∧ p + 1 - p2 = b2 ∧ (f = false → p2 ≤ p) ∧ (f = true → p2 = p + 1 ∧ w = .int .i64 (q : Nat)) ∧ st.h = H ∧ st.n = 132 ∧ hasAll st [(6, .list 1 (strL x)), (7, .list 1 (strL y)), (8, .list 1 (tabV .i64 x y)), (9, .val (.slice A N cap)), (10, .int .i64 (i : Nat)), (11, .int .i64 (j : Nat)), (12, .int .i64 (p2 : Nat)), (13, w), (14, .bool f)]) (p + 1 - i) ⟨i, false, .int .i64 (y.length : Nat), Nat.le_refl _, by omega, rfl, fun _ => hip, fun k => (by cases k), rfl, rfl, ?_⟩ ?_
      · simp only [hasAll, AS.get, Lift.look, ↓reduceIte, Option.getD_some, Nat.reduceEqDiff, and_self]
      rintro b2 st ⟨p2, f, w, h1, h2, hb2, h3, h4, hh, hn, hs'⟩
      refine SW.norm ⟨hn, hh, hs'⟩ ?_
      clear hn hs' hh
      refine SW.seq (SW.run [] _ ?_)
      cases f with
      | true =>
        obtain ⟨rfl, rfl⟩ := h4 rfl
        have hwp : IntKind.i64.wrap (((p + 1 : Nat) : Int) - 1) = ((p : Nat) : Int) := by rw [w64 (by omega) (by omega)]; omega
        by_cases hlt : p + 1 < x.length
        · have hlt' : ((p + 1 : Nat) : Int) < ((x.length : Nat) : Int) := by omega
          simp only [wpC, mayStop, stops, isFlt, Specs.has, Specs.hasO, Bool.or_false, Specs.hasH, Bool.not_false, List.any_cons, List.any_nil, Bool.false_eq_true, ↓reduceIte, wpS, wantedA, okDst, Nat.reduceLT, decide_true, step1, isOwnCall, hxOp, px, AS.eval, AS.get, Lift.look, Nat.reduceEqDiff, Option.getD_some, AS.put, dropKey, pcall, ty34, plen, strL_len, okLen, and_self, isNilC, pbinP, pbinI, hlt', List.getElem?_toArray, List.getElem?_cons_succ, List.getElem?_cons_zero, Option.bind_some, beq_self_eq_true, pun, Bool.not_true, ofConst, ofVal, ppick_bool, thenQ, isB, tmpOf, asB, inQ, true_and]
          refine SW.run [] _ ?_
          simp only [wpC, Bool.false_eq_true, ↓reduceIte, wpS, stops, wantedA, okDst, Nat.reduceLT, decide_true, step1, isOwnCall, hxOp, px, AS.eval, AS.get, Lift.look, Nat.reduceEqDiff, Option.getD_some, isFlt, ty3, AS.put, dropKey, isNilC, pbinP, ofConst, ofVal, pbinI, hwp, thenQ, true_and]
          exact ⟨p, q, hip, by omega, hjq, by omega, .inr ⟨hp, hq, hd⟩, rfl, rfl⟩
        · have hlt' : ¬ ((p + 1 : Nat) : Int) < ((x.length : Nat) : Int) := by omega
          simp only [wpC, mayStop, stops, isFlt, Specs.has, Specs.hasO, Bool.or_false, Specs.hasH, Bool.not_false, List.any_cons, List.any_nil, Bool.false_eq_true, ↓reduceIte, wpS, wantedA, okDst, Nat.reduceLT, decide_true, step1, isOwnCall, hxOp, px, AS.eval, AS.get, Lift.look, Nat.reduceEqDiff, Option.getD_some, AS.put, dropKey, pcall, ty34, plen, strL_len, okLen, and_self, isNilC, pbinP, pbinI, hlt', decide_false, List.getElem?_toArray, List.getElem?_cons_succ, List.getElem?_cons_zero, Option.bind_some, beq_ft, Option.some.injEq, ofConst, ofVal, ppick_false, thenQ, isB, tmpOf, asB, inQ, true_and]
          refine SW.run [] _ ?_
          simp only [wpC, Bool.false_eq_true, ↓reduceIte, wpS, stops, wantedA, okDst, Nat.reduceLT, decide_true, step1, isOwnCall, hxOp, px, AS.eval, AS.get, Lift.look, Nat.reduceEqDiff, Option.getD_some, isFlt, ty3, AS.put, dropKey, isNilC, pbinP, ofConst, ofVal, pbinI, hwp, thenQ, true_and]
          exact ⟨p, q, hip, by omega, hjq, by omega, .inr ⟨hp, hq, hd⟩, rfl, rfl⟩
      | false =>
        have hp2 := h3 rfl
        have hlt : ((p2 : Nat) : Int) < ((x.length : Nat) : Int) := by omega
        have hlt2 : p2 < x.length := by omega
        have hwp : IntKind.i64.wrap (((p2 : Nat) : Int) + 1) = ((p2 + 1 : Nat) : Int) := by rw [w64 (by omega) (by omega)]; rfl
        have hgx := strL_at hlt2
        simp only [wpC, mayStop, stops, isFlt, Specs.has, Specs.hasO, Bool.or_false, Specs.hasH, Bool.not_false, List.any_cons, List.any_nil, Bool.false_eq_true, ↓reduceIte, wpS, wantedA, okDst, Nat.reduceLT, decide_true, step1, isOwnCall, hxOp, px, AS.eval, AS.get, Lift.look, Nat.reduceEqDiff, Option.getD_some, AS.put, dropKey, pcall, ty34, plen, strL_len, okLen, and_self, isNilC, pbinP, pbinI, hlt, List.getElem?_toArray, List.getElem?_cons_succ, List.getElem?_cons_zero, Option.bind_some, beq_self_eq_true, pun, ofConst, ofVal, ppick_bool, thenQ, isB, tmpOf, asB, hasAll, and_true, true_and]
        refine SW.seq (SW.block (SW.seq (SW.run [] _ ?_)))
        simp only [wpC, Bool.false_eq_true, ↓reduceIte, wpS, stops, wantedA, okDst, Nat.reduceLT, decide_true, step1, isOwnCall, hxOp, px, AS.eval, AS.get, Lift.look, Nat.reduceEqDiff, Option.getD_some, AS.put, dropKey, thenQ, true_and]
        refine SW.block (SW.loop (fun b3 st => ∃ q2 : Nat, j ≤ q2 ∧ q2 ≤ y.length ∧ y.length - q2 = b3 ∧ (p2 = p → q2 ≤ q) ∧ st.h = H ∧ st.n = 132 ∧ hasAll st [(6, .list 1 (strL x)), (7, .list 1 (strL y)), (8, .list 1 (tabV .i64 x y)), (9, .val (.slice A N cap)), (10, .int .i64 (i : Nat)), (11, .int .i64 (j : Nat)), (12, .int .i64 (p2 : Nat)), (13, .int .i64 (q2 : Nat)), (14, .bool false)]) (y.length - j) ⟨j, Nat.le_refl _, hj, rfl, fun _ => hjq, rfl, rfl, ?_⟩ ?_)
        · simp only [hasAll, AS.get, Lift.look, Nat.reduceEqDiff, ↓reduceIte, Option.getD_some, and_self]
        rintro b3 st ⟨q2, k1, k2, hb3, k3, hh, hn, hs'⟩
        refine SW.norm ⟨hn, hh, hs'⟩ ?_
        clear hn hs' hh
        refine SW.seq (SW.run [] _ ?_)
        by_cases hlq : q2 < y.length
        · have hwq : IntKind.i64.wrap (((q2 : Nat) : Int) + 1) = ((q2 + 1 : Nat) : Int) := by rw [w64 (by omega) (by omega)]; rfl
          have hgy := strL_at hlq
          have hgp := tabV_at .i64 (x := x) (y := y) (i := p2 + 1) (by omega)
          have hgq := rowV_at .i64 (x := x) (y := y) (p2 + 1) (j := q2 + 1) (by omega)
          have bp : ((p2 + 1 : Nat) : Int) < ((x.length + 1 : Nat) : Int) := by omega
          have bq : ((q2 + 1 : Nat) : Int) < ((y.length + 1 : Nat) : Int) := by omega
          have bp2 : p2 + 1 < x.length + 1 := by omega
          have bq2 : q2 + 1 < y.length + 1 := by omega
          have bi2 : i < x.length + 1 := by omega
          have bj2 : j < y.length + 1 := by omega
          have hT2 := tabT_le x y (p2 + 1) (q2 + 1)
          have hwt : IntKind.i64.wrap ((tabT x y (p2 + 1) (q2 + 1) : Nat) + 1) = ((tabT x y (p2 + 1) (q2 + 1) + 1 : Nat) : Int) := by rw [w64 (by omega) (by omega)]; rfl
          have hkb : keepB x y i j p2 q2 = (decide (x[p2] = y[q2]) && decide (tabT x y (p2 + 1) (q2 + 1) + 1 = tabT x y i j)) := by
            unfold keepB
            rw [List.getD_eq_getElem?_getD, List.getElem?_eq_getElem hlt2, List.getD_eq_getElem?_getD, List.getElem?_eq_getElem hlq]
            rfl
          simp only [wpC, mayStop, stops, isFlt, Specs.has, Specs.hasO, Bool.or_false, Specs.hasH, Bool.not_false, List.any_cons, List.any_nil, Bool.false_eq_true, ↓reduceIte, wpS, wantedA, okDst, Nat.reduceLT, decide_true, step1, isOwnCall, hxOp, px, AS.eval, AS.get, Lift.look, Nat.reduceEqDiff, Option.getD_some, AS.put, dropKey, pcall, ty34, plen, strL_len, okLen, and_self, isNilC, pbinP, pbinI, Int.ofNat_lt, hlq, thenQ, isB, tmpOf, asB, hasAll, and_true, true_and]
          refine SW.seq (SW.block (SW.seq (SW.regionAny [] [[0, 1, 2, 3, 4, 5, 6, 7, 8, 9, 10, 11, 12, 13, 14, 15, 16, 17, 18, 19, 20, 21, 22, 23, 24, 25, 26, 27, 28]] rfl (by rfl) (by kernel_rfl) ?_)))
          cases hkk : keepB x y i j p2 q2
          · have hcond : ((x[p2] == y[q2]) = false) ∨ ((x[p2] == y[q2]) = true ∧ (((tabT x y (p2 + 1) (q2 + 1) + 1 : Nat) : Int) == ((tabT x y i j : Nat) : Int)) = false) := by
              rw [hkk] at hkb
              by_cases e : x[p2] = y[q2]
              · right
                refine ⟨by rw [e]; simp, ?_⟩
                rw [beq_eq_false_iff_ne]
                intro e2
                have e2 : tabT x y (p2 + 1) (q2 + 1) + 1 = tabT x y i j := by omega
                simp [e, e2] at hkb
              · exact .inl (by rw [beq_eq_false_iff_ne]; exact e)
            have hstep : p2 = p → q2 + 1 ≤ q := fun e => by
              rcases Nat.lt_or_ge q2 q with h | h
              · exact h
              · have : q2 = q := by have := k3 e; omega
                subst e this
                rw [hk] at hkk; cases hkk
            rcases hcond with e | ⟨e, e2⟩
            · simp only [wpOL, wpO, LOp, List.getElem?_toArray, List.getElem?_cons_zero, okDst, Nat.reduceLT, decide_true, wantedA, ↓reduceIte, step1, isOwnCall, Bool.false_eq_true, hxOp, px, AS.eval, AS.get, Lift.look, Nat.reduceEqDiff, Option.getD_some, List.getElem?_cons_succ, AS.put, dropKey, pindexAddr, ty34, ty9, ne_eq, Nat.succ_ne_zero, not_false_eq_true, Int.natCast_nonneg, Int.toNat_natCast, strL_len, hlt2, and_self, hgx, pload, okOne, TK.isAgg, beq_self_eq_true, Bool.or_true, List.length_cons, List.length_nil, Nat.zero_add, Nat.le_refl, Lift.valOf, List.take_succ_cons, List.take_nil, List.getD_cons_zero, hlq, hgy, isNilC, pbinP, pbinS, e, Option.bind_some, beq_ft, Option.some.injEq, ofConst, ofVal, ppick_false, thenQ, true_and]
              refine SW.run [] _ ?_
              simp only [wpC, isB, AS.get, Lift.look, tmpOf, ↓reduceIte, Option.getD_some, asB, Bool.false_eq_true, inQ, thenQ, true_and]
              refine SW.run [] _ ?_
              simp only [wpC, Bool.false_eq_true, ↓reduceIte, wpS, stops, wantedA, okDst, Nat.reduceLT, decide_true, step1, isOwnCall, hxOp, px, AS.eval, AS.get, Lift.look, Nat.reduceEqDiff, Option.getD_some, isFlt, ty3, AS.put, dropKey, isNilC, pbinP, ofConst, ofVal, pbinI, hwq, thenQ, and_true, true_and]
              exact ⟨y.length - (q2 + 1), by omega, q2 + 1, by omega, by omega, rfl, hstep, rfl⟩
            · simp only [wpOL, wpO, LOp, List.getElem?_toArray, List.getElem?_cons_zero, okDst, Nat.reduceLT, decide_true, wantedA, ↓reduceIte, step1, isOwnCall, Bool.false_eq_true, hxOp, px, AS.eval, AS.get, Lift.look, Nat.reduceEqDiff, Option.getD_some, List.getElem?_cons_succ, AS.put, dropKey, pindexAddr, ty34, ty9, ne_eq, Nat.succ_ne_zero, not_false_eq_true, Int.natCast_nonneg, Int.toNat_natCast, strL_len, hlt2, and_self, hgx, pload, okOne, TK.isAgg, beq_self_eq_true, Bool.or_true, List.length_cons, List.length_nil, Nat.zero_add, Nat.le_refl, Lift.valOf, List.take_succ_cons, List.take_nil, List.getD_cons_zero, hlq, hgy, isNilC, pbinP, pbinS, e, Option.bind_some, ofConst, ofVal, pbinI, hwp, ty64, ty66, tabV_len, bp2, hgp, hwq, ty3, rowV_len, bq2, hgq, hwt, bi2, hgi, bj2, hgj, e2, ppick_bool, thenQ, true_and]
              refine SW.run [] _ ?_
              simp only [wpC, isB, AS.get, Lift.look, tmpOf, ↓reduceIte, Option.getD_some, asB, Bool.false_eq_true, inQ, thenQ, true_and]
              refine SW.run [] _ ?_
              simp only [wpC, Bool.false_eq_true, ↓reduceIte, wpS, stops, wantedA, okDst, Nat.reduceLT, decide_true, step1, isOwnCall, hxOp, px, AS.eval, AS.get, Lift.look, Nat.reduceEqDiff, Option.getD_some, isFlt, ty3, AS.put, dropKey, isNilC, pbinP, ofConst, ofVal, pbinI, hwq, thenQ, and_true, true_and]
              exact ⟨y.length - (q2 + 1), by omega, q2 + 1, by omega, by omega, rfl, hstep, rfl⟩
          · have hpp : p2 = p := by
              rcases Nat.lt_or_ge p2 p with hh | hh
              · rw [hno p2 h1 hh q2 k1 hlq] at hkk; cases hkk
              · omega
            have hqq : q2 = q := by
              have := k3 hpp
              rcases Nat.lt_or_ge q2 q with hh | hh
              · subst hpp; rw [hnq q2 k1 hh] at hkk; cases hkk
              · omega
            rw [hkk] at hkb
            have hkb := hkb.symm
            rw [Bool.and_eq_true, decide_eq_true_eq, decide_eq_true_eq] at hkb
            have e : (x[p2] == y[q2]) = true := by rw [hkb.1]; simp
            have e2 : (((tabT x y (p2 + 1) (q2 + 1) + 1 : Nat) : Int) == ((tabT x y i j : Nat) : Int)) = true := by rw [beq_iff_eq]; omega
            simp only [wpOL, wpO, LOp, List.getElem?_toArray, List.getElem?_cons_zero, okDst, Nat.reduceLT, decide_true, wantedA, ↓reduceIte, step1, isOwnCall, Bool.false_eq_true, hxOp, px, AS.eval, AS.get, Lift.look, Nat.reduceEqDiff, Option.getD_some, List.getElem?_cons_succ, AS.put, dropKey, pindexAddr, ty34, ty9, ne_eq, Nat.succ_ne_zero, not_false_eq_true, Int.natCast_nonneg, Int.toNat_natCast, strL_len, hlt2, and_self, hgx, pload, okOne, TK.isAgg, beq_self_eq_true, Bool.or_true, List.length_cons, List.length_nil, Nat.zero_add, Nat.le_refl, Lift.valOf, List.take_succ_cons, List.take_nil, List.getD_cons_zero, hlq, hgy, isNilC, pbinP, pbinS, e, Option.bind_some, ofConst, ofVal, pbinI, hwp, ty64, ty66, tabV_len, bp2, hgp, hwq, ty3, rowV_len, bq2, hgq, hwt, bi2, hgi, bj2, hgj, e2, ppick_bool, thenQ, true_and]
            refine SW.run [] _ ?_
            simp only [wpC, isB, AS.get, Lift.look, tmpOf, ↓reduceIte, Option.getD_some, asB, mayStop, stops, isFlt, Specs.has, Specs.hasO, Bool.or_false, Specs.hasH, Bool.not_false, List.any_cons, List.any_nil, Bool.false_eq_true, wpS, wantedA, okDst, Nat.reduceLT, decide_true, step1, isOwnCall, hxOp, px, AS.eval, ofConst, ofVal, thenQ, inQ, Nat.reduceEqDiff, AS.put, dropKey, true_and]
            refine SW.run [] _ ?_
            simp only [wpC, Bool.false_eq_true, ↓reduceIte, wpS, stops, wantedA, okDst, Nat.reduceLT, decide_true, step1, isOwnCall, hxOp, px, AS.eval, AS.get, Lift.look, Nat.reduceEqDiff, Option.getD_some, isFlt, ty3, AS.put, dropKey, isNilC, pbinP, ofConst, ofVal, pbinI, hwp, thenQ, true_and]
            exact ⟨p + 1 - (p2 + 1), by omega, p2 + 1, true, .int .i64 (q2 : Nat), by omega, by omega, rfl, fun k => (by cases k), fun _ => ⟨by omega, by rw [hqq]⟩, rfl, rfl, rfl⟩
        · have hq3 : q2 = y.length := by omega
          have hpp : p2 ≠ p := fun e => by have := k3 e; omega
          simp only [wpC, mayStop, stops, isFlt, Specs.has, Specs.hasO, Bool.or_false, Specs.hasH, Bool.not_false, List.any_cons, List.any_nil, Bool.false_eq_true, ↓reduceIte, wpS, wantedA, okDst, Nat.reduceLT, decide_true, step1, isOwnCall, hxOp, px, AS.eval, AS.get, Lift.look, Nat.reduceEqDiff, Option.getD_some, AS.put, dropKey, pcall, ty34, plen, strL_len, okLen, and_self, isNilC, pbinP, pbinI, Int.ofNat_lt, hlq, decide_false, thenQ, isB, tmpOf, asB, inQ, true_and]
          refine SW.run [] _ ?_
          simp only [wpC, Bool.false_eq_true, ↓reduceIte, wpS, stops, wantedA, okDst, Nat.reduceLT, decide_true, step1, isOwnCall, hxOp, px, AS.eval, AS.get, Lift.look, Nat.reduceEqDiff, Option.getD_some, isFlt, ty3, AS.put, dropKey, isNilC, pbinP, ofConst, ofVal, pbinI, hwp, thenQ, true_and]
          exact ⟨p + 1 - (p2 + 1), by omega, p2 + 1, false, .int .i64 (q2 : Nat), by omega, by omega, rfl, fun _ => by omega, fun k => (by cases k), rfl, rfl, rfl⟩
  · rintro st ⟨p, q, hip, hp, hjq, hq, hpq, hh, hn, hs'⟩
    refine SW.norm ⟨hn, hh, hs'⟩ ?_
    clear hn hs' hh
    refine SW.cut (fun st => ∃ v' : PV, Own h 67 4 (edL (out ++ untilE x y i j p q)) v' st.h ∧ st.n = 132 ∧ hasAll st [(6, .list 1 (strL x)), (7, .list 1 (strL y)), (8, .list 1 (tabV .i64 x y)), (9, v'), (12, .int .i64 (p : Nat)), (13, .int .i64 (q : Nat))]) ?_ ?_
    · refine SW.meet1 132 [(6, .list 1 (strL x)), (7, .list 1 (strL y)), (8, .list 1 (tabV .i64 x y)), (9, .val (.slice A N cap)), (10, .int .i64 (i : Nat)), (11, .int .i64 (j : Nat)), (12, .int .i64 (p : Nat)), (13, .int .i64 (q : Nat)), (98, .bool (decide (i < p ∨ j < q)))] H ?_ ?_
      · refine SW.run [] _ ?_
        by_cases k1 : i < p
        · have k1' : ((i : Nat) : Int) < ((p : Nat) : Int) := by omega
          simp only [wpC, Bool.false_eq_true, ↓reduceIte, wpS, stops, wantedA, okDst, Nat.reduceLT, decide_true, step1, isOwnCall, hxOp, px, AS.eval, AS.get, Lift.look, Nat.reduceEqDiff, Option.getD_some, AS.put, dropKey, isNilC, pbinP, pbinI, k1', List.getElem?_toArray, List.getElem?_cons_succ, List.getElem?_cons_zero, Option.bind_some, beq_tf, Option.some.injEq, ofConst, ofVal, ppick_true, thenQ, Meet, HTo_self, hasAll, k1, true_or, and_self]
        · have k1' : ¬ ((i : Nat) : Int) < ((p : Nat) : Int) := by omega
          simp only [wpC, Bool.false_eq_true, ↓reduceIte, wpS, stops, wantedA, okDst, Nat.reduceLT, decide_true, step1, isOwnCall, hxOp, px, AS.eval, AS.get, Lift.look, Nat.reduceEqDiff, Option.getD_some, AS.put, dropKey, isNilC, pbinP, pbinI, k1', decide_false, List.getElem?_toArray, List.getElem?_cons_succ, List.getElem?_cons_zero, Option.bind_some, beq_self_eq_true, Int.ofNat_lt, ofConst, ofVal, ppick_bool, thenQ, Meet, HTo_self, hasAll, k1, false_or, and_self]
      refine SW.run [] _ ?_
      by_cases hne : i < p ∨ j < q
      · have hun : untilE x y i j p q = [⟨i, j, (x.take p).drop i, (y.take q).drop j⟩] := if_pos hne
        have h1i : ((i : Nat) : Int) ≤ ((p : Nat) : Int) := by omega
        have h1j : ((j : Nat) : Int) ≤ ((q : Nat) : Int) := by omega
        have h2i : ((p : Nat) : Int) ≤ ((x.length : Nat) : Int) := by omega
        have h2j : ((q : Nat) : Int) ≤ ((y.length : Nat) : Int) := by omega
        have hdx : List.drop i (List.take p (strL x)) = strL ((x.take p).drop i) := by rw [strL_take, strL_drop]
        have hdy : List.drop j (List.take q (strL y)) = strL ((y.take q).drop j) := by rw [strL_take, strL_drop]
        have hl1 : (strL ((x.take p).drop i)).length ≤ 1000 := by rw [strL_len]; simp; omega
        have hl2 : (strL ((y.take q).drop j)).length ≤ 1000 := by rw [strL_len]; simp; omega
        simp only [wpC, isB, AS.get, Lift.look, tmpOf, Nat.reduceEqDiff, ↓reduceIte, hne, decide_true, Option.getD_some, asB, hasAll, and_true, true_and]
        refine SW.regionCut [] rfl (RestC.cut [] [0, 1, 2, 3, 4, 5, 6, 7, 9, 10, 11, 12, 13, 8, 14, 15, 16] 17 (k := 1) rfl (by kernel_rfl) ?_)
        simp only [wpO, LOp, List.getElem?_toArray, List.getElem?_cons_zero, okDst, Nat.reduceLT, decide_true, wantedA, ↓reduceIte, step1, isOwnCall, Bool.false_eq_true, hxOp, px, AS.eval, AS.get, Lift.look, Nat.reduceEqDiff, Option.getD_some, List.getElem?_cons_succ, AS.put, dropKey, pbuildSlice, ty34, ty9, ofConst, ofVal, List.map_nil, pslice, pB, Int.natCast_nonneg, h1i, strL_len, h2i, and_self, Int.toNat_natCast, hdx, h1j, h2j, hdy, ownSpec, appSpec, srcOf, isCap0, List.length_cons, List.length_nil, Nat.zero_add, srcTy, List.length_drop, List.length_take, true_and, Int.cast_ofNat_Int, OwnR, isApp, pbuild, ty67, List.map_cons, pfill, placeOf, ty3, Option.map_some, PV.cells, Nat.reduceAdd, Nat.reduceLeDiff, splice, List.take_zero, List.nil_append, List.drop_succ_cons, List.drop_zero, List.cons_append, List.take_succ_cons, and_true, List.all_cons, Option.isSome_some, List.all_nil, Bool.and_true, okZero, Value.oneCell', known, Bool.true_and, PBad, ty28, Nat.succ_ne_zero, List.replicate, List.flatten_cons, List.flatten_nil, List.append_nil, Nat.reduceMul, Nat.le_refl, chunk, Option.toList_some]
        refine ⟨by simp [maxLen]; omega, ?_⟩
        intro u1 g1 o1
        refine ⟨by simp [maxLen]; omega, ?_⟩
        intro u2 g2 o2
        have o1 : OwnC H 9 1 (strL ((x.take p).drop i)) u1 g1 := o1
        have o2 : OwnC g1 9 1 (strL ((y.take q).drop j)) u2 g2 := o2
        rcases OwnC.form o1 with rfl | ⟨A1, n1, c1, rfl⟩ <;> rcases OwnC.form o2 with rfl | ⟨A2, n2, c2, rfl⟩
        all_goals
          simp only [List.length_cons, List.length_nil, Nat.zero_add, ↓reduceIte, Nat.reduceAdd, List.drop_succ_cons, List.drop_zero, List.cons_append, List.nil_append, Nat.le_refl, and_self, List.take_succ_cons, List.take_zero, List.drop_nil, List.append_nil, Bool.and_true, List.take_nil, true_and]
          refine SWO.own_letF 115 (fun v => .list 4 [[.int .i64 i, .int .i64 j, _] ++ v :: []]) (SwapOK.list 4 _ _ _) rfl o2 ?_
          refine SWO.own_letF 115 (fun v => .list 4 [[.int .i64 i, .int .i64 j] ++ v :: [.list 1 (strL ((y.take q).drop j))]]) (SwapOK.list 4 _ _ _) rfl o1 ?_
          refine SWO.append (.tmp 99) (.tmp 115) 28 28 rfl ty28 rfl ty67 (by decide) rfl ty28 rfl ow (ys := [edV ⟨i, j, (x.take p).drop i, (y.take q).drop j⟩]) rfl (by rw [edL_len]; show (_ + 1) * 64 ≤ _; omega) (by rw [edL_len]; simp [maxLen]; omega) rfl rfl ?_
          intro v' h2 ow' _ _
          refine SWO.run [] 1000 ?_
          simp only [wpS, thenQ, AS.put, List.cons_append, List.nil_append, dropKey, ↓reduceIte, Nat.reduceEqDiff]
          refine RestC.last [] [18] rfl (by kernel_rfl) ?_
          simp only [wpO, LOp, List.getElem?_toArray, List.getElem?_cons_succ, List.getElem?_cons_zero, okDst, Nat.reduceLT, decide_true, wantedA, ↓reduceIte, step1, isOwnCall, Bool.false_eq_true, hxOp, px, AS.eval, AS.get, Lift.look, Option.getD_some, thenQ, AS.put, dropKey, Nat.reduceEqDiff, and_self, and_true, true_and]
          exact ⟨_, by rw [hun, edL_append]; exact ow', rfl⟩
      · have hun : untilE x y i j p q = [] := if_neg hne
        simp only [wpC, isB, AS.get, Lift.look, tmpOf, Nat.reduceEqDiff, ↓reduceIte, hne, decide_false, Option.getD_some, asB, Bool.false_eq_true, thenQ, hasAll, and_self, and_true, true_and]
        rw [hun, List.append_nil]
        exact ⟨_, ow, rfl⟩
    · rintro st ⟨v', ow', hn, hs'⟩
      refine SW.norm ⟨hn, rfl, hs'⟩ ?_
      generalize st.h = H' at ow'
      clear hn hs'
      obtain ⟨A', c', ev'⟩ := ow'.slice
      obtain ⟨N', eN'⟩ : ∃ N', N' = (edL (out ++ untilE x y i j p q)).length := ⟨_, rfl⟩
      rw [← eN'] at ev'
      subst ev'
      have hul := untilE_len x y i j p q
      rcases hpq with ⟨rfl, rfl, hd⟩ | ⟨hpl, hql, hd⟩
      · rw [← hd, hout] at ow'
        refine SW.seq (SW.run [] _ ?_)
        simp only [wpC, mayStop, stops, isFlt, Specs.has, Specs.hasO, Bool.or_false, Specs.hasH, Bool.not_false, List.any_cons, List.any_nil, Bool.false_eq_true, ↓reduceIte, wpS, wantedA, okDst, Nat.reduceLT, decide_true, step1, isOwnCall, hxOp, px, AS.eval, AS.get, Lift.look, Nat.reduceEqDiff, Option.getD_some, AS.put, dropKey, pcall, ty34, plen, strL_len, okLen, and_self, isNilC, pbinP, pbinI, Int.le_refl, List.getElem?_toArray, List.getElem?_cons_succ, List.getElem?_cons_zero, Option.bind_some, beq_tf, Option.some.injEq, ofConst, ofVal, ppick_true, thenQ, isB, tmpOf, asB, inQ, RPost, sres, Tryd.results10, sresL, sres1, exists_eq_left', true_and]
        exact ⟨_, .refl _ _, _, rfl, ow'⟩
      · have k1 : ¬ ((x.length : Nat) : Int) ≤ ((p : Nat) : Int) := by omega
        have k2 : ¬ ((y.length : Nat) : Int) ≤ ((q : Nat) : Int) := by omega
        have hwp : IntKind.i64.wrap (((p : Nat) : Int) + 1) = ((p + 1 : Nat) : Int) := by rw [w64 (by omega) (by omega)]; rfl
        have hwq : IntKind.i64.wrap (((q : Nat) : Int) + 1) = ((q + 1 : Nat) : Int) := by rw [w64 (by omega) (by omega)]; rfl
        refine SW.seq (SW.run [] _ ?_)
        simp only [wpC, mayStop, stops, isFlt, Specs.has, Specs.hasO, Bool.or_false, Specs.hasH, Bool.not_false, List.any_cons, List.any_nil, Bool.false_eq_true, ↓reduceIte, wpS, wantedA, okDst, Nat.reduceLT, decide_true, step1, isOwnCall, hxOp, px, AS.eval, AS.get, Lift.look, Nat.reduceEqDiff, Option.getD_some, AS.put, dropKey, pcall, ty34, plen, strL_len, okLen, and_self, isNilC, pbinP, pbinI, k1, decide_false, List.getElem?_toArray, List.getElem?_cons_succ, List.getElem?_cons_zero, Option.bind_some, beq_self_eq_true, k2, ofConst, ofVal, ppick_bool, thenQ, isB, tmpOf, asB, true_and]
        refine SW.run [] _ ?_
        simp only [wpC, Bool.false_eq_true, ↓reduceIte, wpS, stops, wantedA, okDst, Nat.reduceLT, decide_true, step1, isOwnCall, hxOp, px, AS.eval, AS.get, Lift.look, Nat.reduceEqDiff, Option.getD_some, isFlt, ty3, AS.put, dropKey, isNilC, pbinP, ofConst, ofVal, pbinI, hwp, hwq, inQ, thenQ, true_and]
        exact ⟨x.length - (p + 1), by omega, p + 1, q + 1, _, out ++ untilE x y i j p q, by omega, by omega, rfl, ow', by rw [List.append_assoc, ← hd]; exact hout, by rw [List.length_append]; omega, rfl, rfl, rfl⟩
theorem RDiffN_ok (s u : List UInt8) (hs : s.length ≤ 1000000) (hu : u.length ≤ 1000000) (hx : 1000 < (linesOf s).length ∨ 1000 < (linesOf u).length) (h : Heap) :
    SCalls env 10 [.str s, .str u] h (Ret (.tuple [.val (.slice none 0 0), .int .i64 3]) h) := by
  refine SCalls.body Tryd.func10 rfl rfl (by simp [Tryd.ntmps10]) ?_
  refine SW.seq (SW.run [] _ ?_)
  simp only [wpC, Bool.false_eq_true, ↓reduceIte, wpS, stops, wantedA, okDst, Tryd.ntmps10, Nat.reduceLT, decide_true, step1, isOwnCall, hxOp, px, AS.eval, ofConst, ofVal, AS.put, enumA, Nat.zero_add, dropKey, reduceCtorEq, Nat.reduceEqDiff, thenQ, true_and]
  refine SW.seq (SW.run [eRLines] _ ?_)
  simp only [wpC, Bool.false_eq_true, ↓reduceIte, wpS, stops, wantedA, okDst, Nat.reduceLT, decide_true, step1, isOwnCall, hxOp, px, AS.eval, AS.get, Lift.look, Nat.succ_ne_zero, Option.getD_some, Specs.has, eRLines, Specs.hasO, Bool.or_false, Specs.hasH, Bool.not_true, AS.put, dropKey, Nat.reduceEqDiff, reduceCtorEq, pcall, okArg, ofConst, ofVal, List.all_cons, List.all_nil, Bool.and_true, Specs.at, List.map_cons, List.map_nil, sLines, true_and, thenQ]
  refine ⟨hs, hu, ?_⟩
  generalize linesOf s = x at *
  generalize linesOf u = y at *
  refine SW.seq (SW.run [] _ ?_)
  by_cases k : 1000 < x.length
  · have k' : (1000 : Int) < (x.length : Int) := by omega
    simp only [wpC, mayStop, stops, isFlt, Specs.has, Specs.hasO, Bool.or_false, Specs.hasH, Bool.not_false, List.any_cons, List.any_nil, Bool.false_eq_true, ↓reduceIte, wpS, wantedA, okDst, Nat.reduceLT, decide_true, step1, isOwnCall, hxOp, px, AS.eval, AS.get, Lift.look, Nat.reduceEqDiff, Option.getD_some, AS.put, dropKey, reduceCtorEq, pcall, ty34, plen, strL_len, okLen, and_self, isNilC, pbinP, ofConst, ofVal, pbinI, k', List.getElem?_toArray, List.getElem?_cons_succ, List.getElem?_cons_zero, Option.bind_some, beq_tf, Option.some.injEq, ppick_true, thenQ, isB, tmpOf, asB, RPost, sres, Tryd.results10, sresL, sres1, Ret_fin, HTo_self, and_true, exists_eq_left']
  · have k' : ¬ (1000 : Int) < (x.length : Int) := by omega
    have k2 : (1000 : Int) < (y.length : Int) := by omega
    simp only [wpC, mayStop, stops, isFlt, Specs.has, Specs.hasO, Bool.or_false, Specs.hasH, Bool.not_false, List.any_cons, List.any_nil, Bool.false_eq_true, ↓reduceIte, wpS, wantedA, okDst, Nat.reduceLT, decide_true, step1, isOwnCall, hxOp, px, AS.eval, AS.get, Lift.look, Nat.reduceEqDiff, Option.getD_some, AS.put, dropKey, reduceCtorEq, pcall, ty34, plen, strL_len, okLen, and_self, isNilC, pbinP, ofConst, ofVal, pbinI, k', decide_false, List.getElem?_toArray, List.getElem?_cons_succ, List.getElem?_cons_zero, Option.bind_some, beq_self_eq_true, k2, ppick_bool, thenQ, isB, tmpOf, asB, RPost, sres, Tryd.results10, sresL, sres1, Option.some.injEq, Ret_fin, HTo_self, and_true, exists_eq_left']
theorem RDiff_ok (s u : List UInt8) (hs : s.length ≤ 1000000) (hu : u.length ≤ 1000000) (h : Heap) : SCalls env 10 [.str s, .str u] h (Ret (diffR s u) h) := by
  unfold diffR
  split
  · rename_i k
    exact (RDiffN_ok s u hs hu k h).letGo fun e h' ⟨e1, e2⟩ => ⟨_, _, h, e1, by rw [e2]; exact (Own.nil h 67 4).letGoT _, rfl, rfl⟩
  · rename_i k
    exact (RDiffO_ok s u hs hu (by omega) (by omega) h).letGo fun e h' ⟨v, e1, ow⟩ => ⟨_, _, h, e1, ow.letGoT _, rfl, rfl⟩
noncomputable def eRDiff : SpecE env := ⟨10, sDiff, fun args h hc => by
  unfold sDiff at hc ⊢
  split at hc
  · exact .inl (RDiff_ok _ _ hc.1 hc.2 h)
  · exact hc.elim⟩
end Go.Proofs.YtincpomenogppaaDoor
