/- Contracts of functions that the law reaches. -/
import Derived.Test.YtincpomenogppaaGreatDoorW7
import Derived.Test.YtincpomenogppaaGreatDoorLiftH
set_option linter.unusedSimpArgs false
set_option linter.unusedVariables false
namespace Go.Proofs.YtincpomenogppaaGreatDoor
open Go Go.RowKit Go.Proofs.YtincpomenogppaaGreatDoor Go.Proofs.YtincpomenogppaaGreatDoor.Lift
set_option maxRecDepth 100000

theorem Own.over {h0 H : Heap} {e : TypeId} {sz : Nat} {xs : List (List PV)} {v : PV} (o : Own h0 e sz xs v H) {q : Nat} (hq : h0 q ≠ none) (Y : AObj) : Own (h0.put q Y) e sz xs v (H.put q Y) := by
  rcases o with ⟨e1, e2, rfl⟩ | ⟨r, cap, e1, h2, h3, h4, rfl, h6⟩
  · exact .inl ⟨e1, e2, rfl⟩
  · have hne : r ≠ q := by rintro rfl; exact hq h4
    exact .inr ⟨r, cap, e1, h2, h3, by rw [Heap.put_ne _ _ hne]; exact h4, Heap.put_comm _ _ _ hne, h6⟩
theorem Own.fall {h h2 H : Heap} {e : TypeId} {sz : Nat} {xs : List (List PV)} {v : PV} (o : Own h2 e sz xs v H) (i : Lift.Inc h h2) : ∃ H', HTo env H H' ∧ Own h e sz xs v H' := by
  rcases o with ⟨e1, e2, rfl⟩ | ⟨r, cap, e1, h2', h3, h4, rfl, h6⟩
  · exact ⟨h, HTo.of fun k X e => i _ _ e, .inl ⟨e1, e2, rfl⟩⟩
  · refine ⟨h.put r _, HTo.of fun k X e => ?_, .inr ⟨r, cap, e1, h2', h3, incFresh i h4, rfl, h6⟩⟩
    by_cases k2 : k = r
    · subst k2; rw [Heap.put_same] at e ⊢; exact e
    · rw [Heap.put_ne _ _ k2] at e ⊢; exact i _ _ e
abbrev ptr (a : Nat) : PV := .val (.pointer (some ⟨a, 0, none⟩))
structure DB (h0 : Heap) (a b c d e : Nat) (x y : List (List UInt8)) (i j : Nat) (v : PV) (h1 : Heap) : Prop where
  ha : h1 a = some (.cells 43 1 [.list 1 (strL x)])
  hb : h1 b = some (.cells 43 1 [.list 1 (strL y)])
  hc : h1 c = some (.cells 3 1 [.int .i64 (i : Nat)])
  hd : h1 d = some (.cells 3 1 [.int .i64 (j : Nat)])
  he : h1 e = some (.cells 28 1 [v])
  ne : a ≠ c ∧ a ≠ d ∧ a ≠ e ∧ b ≠ c ∧ b ≠ d ∧ b ≠ e ∧ c ≠ d ∧ c ≠ e ∧ d ≠ e
  fc : h0 c = none
  fd : h0 d = none
  fe : h0 e = none
  inc : Lift.Inc h0 h1
theorem Inc.over {h0 h1 : Heap} (i : Lift.Inc h0 h1) {q : Nat} (hq : h0 q = none) (Y : AObj) : Lift.Inc h0 (h1.put q Y) := fun k X e => by
  have : k ≠ q := by rintro rfl; rw [hq] at e; cases e
  rw [Heap.put_ne _ _ this]; exact i _ _ e
theorem DB.setV {h0 h1 : Heap} {a b c d e : Nat} {x y : List (List UInt8)} {i j : Nat} {v : PV} (D : DB h0 a b c d e x y i j v h1) (v' : PV) : DB h0 a b c d e x y i j v' (h1.put e (.cells 28 1 [v'])) := by
  obtain ⟨n1, n2, n3, n4, n5, n6, n7, n8, n9⟩ := D.ne
  exact ⟨by rw [Heap.put_ne _ _ n3]; exact D.ha, by rw [Heap.put_ne _ _ n6]; exact D.hb, by rw [Heap.put_ne _ _ n8]; exact D.hc, by rw [Heap.put_ne _ _ n9]; exact D.hd, Heap.put_same _ _ _, D.ne, D.fc, D.fd, D.fe, Inc.over D.inc D.fe _⟩
theorem DB.setC {h0 h1 : Heap} {a b c d e : Nat} {x y : List (List UInt8)} {i j : Nat} {v : PV} (D : DB h0 a b c d e x y i j v h1) (i' : Nat) : DB h0 a b c d e x y i' j v (h1.put c (.cells 3 1 [.int .i64 (i' : Nat)])) := by
  obtain ⟨n1, n2, n3, n4, n5, n6, n7, n8, n9⟩ := D.ne
  exact ⟨by rw [Heap.put_ne _ _ n1]; exact D.ha, by rw [Heap.put_ne _ _ n4]; exact D.hb, Heap.put_same _ _ _, by rw [Heap.put_ne _ _ n7.symm]; exact D.hd, by rw [Heap.put_ne _ _ n8.symm]; exact D.he, D.ne, D.fc, D.fd, D.fe, Inc.over D.inc D.fc _⟩
theorem DB.setD {h0 h1 : Heap} {a b c d e : Nat} {x y : List (List UInt8)} {i j : Nat} {v : PV} (D : DB h0 a b c d e x y i j v h1) (j' : Nat) : DB h0 a b c d e x y i j' v (h1.put d (.cells 3 1 [.int .i64 (j' : Nat)])) := by
  obtain ⟨n1, n2, n3, n4, n5, n6, n7, n8, n9⟩ := D.ne
  exact ⟨by rw [Heap.put_ne _ _ n2]; exact D.ha, by rw [Heap.put_ne _ _ n5]; exact D.hb, by rw [Heap.put_ne _ _ n7]; exact D.hc, Heap.put_same _ _ _, by rw [Heap.put_ne _ _ n9.symm]; exact D.he, D.ne, D.fc, D.fd, D.fe, Inc.over D.inc D.fd _⟩
set_option maxHeartbeats 2000000 in
theorem Until_ok {h0 h1 h : Heap} {a b c d e : Nat} {x y : List (List UInt8)} {i j : Nat} {v : PV} (D : DB h0 a b c d e x y i j v h1) {out : List Ed} (ow : Own h1 79 4 (edL out) v h) (p q : Nat) (hip : i ≤ p) (hpx : p ≤ x.length) (hjq : j ≤ q) (hqy : q ≤ y.length) (hx : x.length ≤ 1000) (hy : y.length ≤ 1000) (ho : out.length ≤ 1000000) :
    SCalls env 101 [.int .i64 (p : Nat), .int .i64 (q : Nat), ptr c, ptr d, ptr e, ptr a, ptr b] h (fun en h' => en = .ret (.tuple []) ∧ ∃ v' h2, DB h0 a b c d e x y i j v' h2 ∧ Own h2 79 4 (edL (out ++ untilE x y i j p q)) v' h') := by
  obtain ⟨Q, hQ⟩ : ∃ Q : SEnd → Heap → Prop, Q = (fun en h' => en = .ret (.tuple []) ∧ ∃ v' h2, DB h0 a b c d e x y i j v' h2 ∧ Own h2 79 4 (edL (out ++ untilE x y i j p q)) v' h') := ⟨_, rfl⟩
  rw [← hQ]
  have ga := ow.base D.ha
  have gb := ow.base D.hb
  have gc := ow.base D.hc
  have gd := ow.base D.hd
  have ge := ow.base D.he
  obtain ⟨A, n, ev⟩ := ow.slice
  refine SCalls.body Tryz.func101 rfl rfl (by simp [Tryz.ntmps101]) ?_
  refine SW.meet1 33 [(0, .int .i64 (p : Nat)), (1, .int .i64 (q : Nat)), (2, ptr c), (3, ptr d), (4, ptr e), (5, ptr a), (6, ptr b), (16, .bool (decide (i < p ∨ j < q)))] h ?_ ?_
  · refine SW.run [] _ ?_
    by_cases k1 : i < p
    · have k1' : ((i : Nat) : Int) < ((p : Nat) : Int) := by omega
      simp only [wpC, Bool.false_eq_true, ↓reduceIte, wpS, stops, wantedA, okDst, Tryz.ntmps101, Nat.reduceLT, decide_true, step1, isOwnCall, hxOp, px, AS.eval, AS.get, enumA, Nat.zero_add, Nat.reduceAdd, ptr, Lift.look, Option.getD_some, AS.put, dropKey, reduceCtorEq, Nat.reduceEqDiff, pload, ty3, gc, okOne, TK.isAgg, beq_self_eq_true, Bool.or_true, List.length_cons, List.length_nil, Nat.le_refl, and_self, Lift.valOf, List.drop_zero, List.take_succ_cons, List.take_nil, List.getD_cons_zero, isNilC, pbinP, pbinI, k1', List.getElem?_toArray, List.getElem?_cons_succ, List.getElem?_cons_zero, Option.bind_some, beq_tf, Option.some.injEq, ofConst, ofVal, ppick_true, thenQ, Meet, HTo_self, hasAll, Nat.succ_ne_zero, k1, true_or]
    · have k1' : ¬ ((i : Nat) : Int) < ((p : Nat) : Int) := by omega
      simp only [wpC, Bool.false_eq_true, ↓reduceIte, wpS, stops, wantedA, okDst, Tryz.ntmps101, Nat.reduceLT, decide_true, step1, isOwnCall, hxOp, px, AS.eval, AS.get, enumA, Nat.zero_add, Nat.reduceAdd, ptr, Lift.look, Option.getD_some, AS.put, dropKey, reduceCtorEq, Nat.reduceEqDiff, pload, ty3, gc, okOne, TK.isAgg, beq_self_eq_true, Bool.or_true, List.length_cons, List.length_nil, Nat.le_refl, and_self, Lift.valOf, List.drop_zero, List.take_succ_cons, List.take_nil, List.getD_cons_zero, isNilC, pbinP, pbinI, k1', decide_false, List.getElem?_toArray, List.getElem?_cons_succ, List.getElem?_cons_zero, Option.bind_some, gd, Int.ofNat_lt, ofConst, ofVal, ppick_bool, thenQ, Meet, HTo_self, hasAll, Nat.succ_ne_zero, k1, false_or]
  refine SW.run [] _ ?_
  by_cases hne : i < p ∨ j < q
  · have hun : untilE x y i j p q = [⟨i, j, (x.take p).drop i, (y.take q).drop j⟩] := if_pos hne
    have h1i : ((i : Nat) : Int) ≤ ((p : Nat) : Int) := by omega
    have h1j : ((j : Nat) : Int) ≤ ((q : Nat) : Int) := by omega
    have h2i : ((p : Nat) : Int) ≤ ((x.length : Nat) : Int) := by omega
    have h2j : ((q : Nat) : Int) ≤ ((y.length : Nat) : Int) := by omega
    have hdx : List.drop i (List.take p (strL x)) = strL ((x.take p).drop i) := by rw [strL_take, strL_drop]
    have hdy : List.drop j (List.take q (strL y)) = strL ((y.take q).drop j) := by rw [strL_take, strL_drop]
    have hl1 : ((x.take p).drop i).length ≤ 1000000000 := by simp; omega
    have hl2 : ((y.take q).drop j).length ≤ 1000000000 := by simp; omega
    simp only [wpC, isB, AS.get, Lift.look, tmpOf, reduceCtorEq, ↓reduceIte, Nat.reduceEqDiff, hne, decide_true, Option.getD_some, asB, true_and]
    refine SW.regionChain [eClone] [([0, 1, 2, 3, 4, 5, 6, 7, 8, 9, 10, 11, 12, 13, 14], 15)] [16] rfl (by rfl) (by kernel_rfl) ?_
    subst ev
    simp only [wpChain, wpO, LOp, List.getElem?_toArray, List.getElem?_cons_zero, okDst, Nat.reduceLT, decide_true, wantedA, ↓reduceIte, step1, isOwnCall, Bool.false_eq_true, hxOp, px, pload, ty28, AS.eval, AS.get, Lift.look, reduceCtorEq, Nat.reduceEqDiff, ptr, Option.getD_some, ge, okOne, TK.isAgg, beq_self_eq_true, Bool.or_true, Nat.zero_add, List.length_cons, List.length_nil, Nat.le_refl, and_self, Lift.valOf, List.drop_zero, List.take_succ_cons, List.take_nil, List.getD_cons_zero, List.getElem?_cons_succ, AS.put, dropKey, ty3, gc, gd, ty43, ga, Nat.succ_ne_zero, pslice, ty9, pB, Int.natCast_nonneg, h1i, strL_len, h2i, Int.toNat_natCast, hdx, Specs.hasO, Specs.hasH, pcall, okArg, ofConst, ofVal, List.all_cons, List.all_nil, Bool.and_true, Specs.at, eClone, List.map_cons, List.map_nil, sClone, unS_el, List.length_drop, List.length_take, true_and, gb, h1j, h2j, hdy, pbuild, ty79, pfill, placeOf, Option.map_some, PV.cells, Nat.reduceAdd, Nat.reduceLeDiff, splice, List.take_zero, List.nil_append, List.drop_succ_cons, List.cons_append, List.drop_nil, List.append_nil, Option.isSome_some, okZero, Value.oneCell', known, pbuildSlice, List.replicate, List.flatten_cons, List.flatten_nil, Nat.reduceMul, chunk, Option.toList_some, Lift.hx, known1, HBad, RPost, sres]
    refine ⟨by omega, by omega, ?_⟩
    refine SWO.append (.tmp 17) (.tmp 31) 28 28 rfl ty28 rfl ty79 (by decide) rfl ty28 rfl ow (ys := [edV ⟨i, j, (x.take p).drop i, (y.take q).drop j⟩]) rfl (by rw [edL_len]; show (_ + 1) * 64 ≤ _; omega) (by rw [edL_len]; simp [maxLen]; omega) rfl rfl ?_
    intro v' h' ow' _ _
    have ge' := ow'.base D.he
    obtain ⟨A', n', ev'⟩ := ow'.slice
    obtain ⟨N', eN'⟩ : ∃ N', N' = (edL out ++ [edV ⟨i, j, (x.take p).drop i, (y.take q).drop j⟩]).length := ⟨_, rfl⟩
    rw [← eN'] at ev'
    subst ev'
    refine SWO.run [] 1000 ?_
    simp only [wpS, thenQ, AS.put, dropKey, Nat.reduceEqDiff, ↓reduceIte, reduceCtorEq, Lift.look, Option.getD_some, ge', List.length_cons, List.length_nil, Nat.zero_add, Nat.le_refl, and_self, List.take_zero, List.nil_append, List.drop_succ_cons, List.drop_nil, List.append_nil, Tryz.results101, sresL, Option.some.injEq, exists_eq_left', true_and]
    have owf : Own (h1.put e (.cells 28 1 [.val (.slice A' N' n')])) 79 4 (edL (out ++ untilE x y i j p q)) (.val (.slice A' N' n')) (h'.put e (.cells 28 1 [.val (.slice A' N' n')])) := by
      rw [hun, edL_append]
      exact Own.over ow' (by rw [D.he]; simp) _
    exact ⟨_, .refl _ _, by rw [hQ]; exact ⟨rfl, _, _, D.setV _, owf⟩⟩
  · have hun : untilE x y i j p q = [] := if_neg hne
    simp only [wpC, isB, AS.get, Lift.look, tmpOf, reduceCtorEq, ↓reduceIte, Nat.reduceEqDiff, hne, decide_false, Option.getD_some, asB, Bool.false_eq_true, RPost, sres, Tryz.results101, sresL, Option.some.injEq, exists_eq_left', true_and]
    rw [hun, List.append_nil] at hQ
    rw [hQ]
    exact ⟨_, .refl _ _, rfl, _, _, D, ow⟩
theorem untilE_len (x y : List (List UInt8)) (i j p q : Nat) : (untilE x y i j p q).length ≤ 1 := by unfold untilE; split <;> simp
set_option maxHeartbeats 4000000 in
set_option maxRecDepth 100000 in
theorem DiffO_ok (s u : List UInt8) (hs : s.length ≤ 1000000) (hu : u.length ≤ 1000000) (hx : (linesOf s).length ≤ 1000) (hy : (linesOf u).length ≤ 1000) (h : Heap) :
    SCalls env 50 [.str s, .str u] h (fun en h' => ∃ v, en = .ret (.tuple [v, .int .i64 0]) ∧ Own h 79 4 (edL (diffS (linesOf s) (linesOf u))) v h') := by
  refine SCalls.body Tryz.func50 rfl rfl (by simp [Tryz.ntmps50]) ?_
  refine SW.seq (SW.run [] _ ?_)
  simp only [wpC, Bool.false_eq_true, ↓reduceIte, wpS, stops, wantedA, okDst, Tryz.ntmps50, Nat.reduceLT, decide_true, step1, isOwnCall, hxOp, px, AS.eval, ofConst, ofVal, AS.put, enumA, Nat.zero_add, dropKey, reduceCtorEq, Nat.reduceEqDiff, thenQ, true_and]
  refine SW.seq (SW.run [eLines] _ ?_)
  simp only [wpC, Bool.false_eq_true, ↓reduceIte, wpS, stops, wantedA, okDst, Nat.reduceLT, decide_true, step1, isOwnCall, hxOp, px, AS.eval, AS.get, Lift.look, Nat.succ_ne_zero, Option.getD_some, Specs.has, eLines, Specs.hasO, Bool.or_false, Specs.hasH, Bool.not_true, AS.put, dropKey, Nat.reduceEqDiff, reduceCtorEq, pcall, okArg, ofConst, ofVal, List.all_cons, List.all_nil, Bool.and_true, Specs.at, List.map_cons, List.map_nil, sLines, true_and, okAlloc, ty43, okZero, Value.oneCell', zeroOf, List.length_cons, List.length_nil, Nat.zero_add, Heap.get_put, some_none, Lift.hx, known1, PV.cells, splice, List.take_zero, List.nil_append, List.cons_append, HBad, thenQ]
  refine ⟨hs, hu, ?_⟩
  generalize linesOf s = x at *
  generalize linesOf u = y at *
  intro a hna b hnb
  have n1 : ¬ a = b := fun e => hnb.1 e.symm
  have n2 := hnb.1
  simp only [n1, ↓reduceIte, List.length_cons, List.length_nil, Nat.zero_add, Nat.le_refl, List.drop_succ_cons, List.drop_nil, Heap.get_put, n2, true_and]
  have ga : ((((h.put a (.cells 43 1 [.val (.slice none 0 0)])).put b (.cells 43 1 [.val (.slice none 0 0)])).put a (.cells 43 1 [.list 1 (strL x)])).put b (.cells 43 1 [.list 1 (strL y)])) a = some (.cells 43 1 [.list 1 (strL x)]) := by rw [Heap.put_ne _ _ n1, Heap.put_same]
  have gb : ((((h.put a (.cells 43 1 [.val (.slice none 0 0)])).put b (.cells 43 1 [.val (.slice none 0 0)])).put a (.cells 43 1 [.list 1 (strL x)])).put b (.cells 43 1 [.list 1 (strL y)])) b = some (.cells 43 1 [.list 1 (strL y)]) := Heap.put_same _ _ _
  have i1 : Lift.Inc h ((((h.put a (.cells 43 1 [.val (.slice none 0 0)])).put b (.cells 43 1 [.val (.slice none 0 0)])).put a (.cells 43 1 [.list 1 (strL x)])).put b (.cells 43 1 [.list 1 (strL y)])) := Inc.over (Inc.over (Inc.over (Inc.over (incSelf h) hna _) hnb.2 _) hna _) hnb.2 _
  generalize ((((h.put a (.cells 43 1 [.val (.slice none 0 0)])).put b (.cells 43 1 [.val (.slice none 0 0)])).put a (.cells 43 1 [.list 1 (strL x)])).put b (.cells 43 1 [.list 1 (strL y)])) = H1 at ga gb i1 ⊢
  have hx' : ¬ (1000 : Int) < (x.length : Int) := by omega
  have hy' : ¬ (1000 : Int) < (y.length : Int) := by omega
  refine SW.enter (n := 92) (l := [(6, ptr a), (7, ptr b)]) (H := H1) rfl (.refl _ _) (by simp only [hasAll, AS.get, Lift.look, Nat.reduceEqDiff, ↓reduceIte, Option.getD_some, ptr, and_self]) ?_
  refine SW.seq (SW.run [] _ ?_)
  simp only [wpC, mayStop, stops, isFlt, Specs.has, Specs.hasO, Bool.or_false, Specs.hasH, Bool.not_false, List.any_cons, List.any_nil, Bool.false_eq_true, ↓reduceIte, wpS, wantedA, okDst, Nat.reduceLT, decide_true, step1, isOwnCall, hxOp, px, pload, ty43, AS.eval, AS.get, Lift.look, ptr, Option.getD_some, ga, okOne, TK.isAgg, beq_self_eq_true, Bool.or_true, Nat.zero_add, List.length_cons, List.length_nil, Nat.le_refl, and_self, Lift.valOf, List.drop_zero, List.take_succ_cons, List.take_nil, List.getD_cons_zero, AS.put, dropKey, Nat.reduceEqDiff, pcall, plen, strL_len, okLen, isNilC, pbinP, ofConst, ofVal, pbinI, hx', decide_false, List.getElem?_toArray, List.getElem?_cons_succ, List.getElem?_cons_zero, Option.bind_some, gb, hy', ppick_bool, thenQ, isB, tmpOf, asB, true_and]
  refine SW.seq (SW.run [eLengths] _ ?_)
  simp only [wpC, Bool.false_eq_true, ↓reduceIte, wpS, stops, wantedA, okDst, Nat.reduceLT, decide_true, step1, isOwnCall, hxOp, px, pload, ty43, AS.eval, AS.get, Lift.look, Nat.reduceEqDiff, Option.getD_some, ga, okOne, TK.isAgg, beq_self_eq_true, Bool.or_true, Nat.zero_add, List.length_cons, List.length_nil, Nat.le_refl, and_self, Lift.valOf, List.drop_zero, List.take_succ_cons, List.take_nil, List.getD_cons_zero, AS.put, dropKey, gb, Specs.has, eLengths, Specs.hasO, Bool.or_false, Specs.hasH, Bool.not_true, pcall, okArg, ofConst, ofVal, List.all_cons, List.all_nil, Bool.and_true, Specs.at, List.map_cons, List.map_nil, sLengths, unS_el, true_and, thenQ]
  refine ⟨⟨hx, hy⟩, ?_⟩
  refine SW.seq (SW.run [] _ ?_)
  simp only [wpC, Bool.false_eq_true, ↓reduceIte, wpS, stops, wantedA, okDst, Nat.reduceLT, decide_true, step1, okAlloc, ty28, okZero, List.all_cons, Value.oneCell', List.all_nil, Bool.and_true, thenQ, AS.put, dropKey, Nat.reduceEqDiff, zeroOf, List.map_cons, ofVal, List.map_nil, List.length_cons, List.length_nil, Nat.zero_add, true_and]
  intro e hne
  have ga2 : (H1.put e (.cells 28 1 [.val (.slice none 0 0)])) a = some (.cells 43 1 [.list 1 (strL x)]) := by rw [Heap.put_ne _ _ (by rintro rfl; rw [hne] at ga; cases ga)]; exact ga
  have gb2 : (H1.put e (.cells 28 1 [.val (.slice none 0 0)])) b = some (.cells 43 1 [.list 1 (strL y)]) := by rw [Heap.put_ne _ _ (by rintro rfl; rw [hne] at gb; cases gb)]; exact gb
  have ge2 : (H1.put e (.cells 28 1 [.val (.slice none 0 0)])) e = some (.cells 28 1 [.val (.slice none 0 0)]) := Heap.put_same _ _ _
  have fe : h e = none := incFresh i1 hne
  have i2 : Lift.Inc h (H1.put e (.cells 28 1 [.val (.slice none 0 0)])) := Inc.over i1 fe _
  have nea : a ≠ e := by rintro rfl; rw [hne] at ga; cases ga
  have neb : b ≠ e := by rintro rfl; rw [hne] at gb; cases gb
  generalize H1.put e (.cells 28 1 [.val (.slice none 0 0)]) = H2 at ga2 gb2 ge2 i2 ⊢
  refine SW.seq (SW.run [] _ ?_)
  simp only [wpC, Bool.false_eq_true, ↓reduceIte, wpS, stops, wantedA, okDst, Nat.reduceLT, decide_true, step1, okAlloc, ty3, okZero, List.all_cons, Value.oneCell', List.all_nil, Bool.and_true, AS.put, dropKey, Nat.reduceEqDiff, zeroOf, List.map_cons, ofVal, List.map_nil, List.length_cons, List.length_nil, Nat.zero_add, Heap.get_put, some_none, isOwnCall, hxOp, Lift.hx, AS.eval, AS.get, Lift.look, Option.getD_some, known1, ofConst, PV.cells, true_and, splice, List.take_zero, List.nil_append, List.cons_append, HBad, thenQ]
  intro c hnc d hnd
  have n3 : ¬ c = d := fun k => hnd.1 k.symm
  have n4 := hnd.1
  simp only [n3, ↓reduceIte, List.length_cons, List.length_nil, Nat.zero_add, Nat.le_refl, List.drop_succ_cons, List.drop_nil, Heap.get_put, n4, true_and]
  have fc : h c = none := incFresh i2 hnc
  have fd : h d = none := incFresh i2 hnd.2
  have nca : a ≠ c := by rintro rfl; rw [hnc] at ga2; cases ga2
  have ncb : b ≠ c := by rintro rfl; rw [hnc] at gb2; cases gb2
  have nce : c ≠ e := by rintro rfl; rw [hnc] at ge2; cases ge2
  have nda : a ≠ d := by rintro rfl; rw [hnd.2] at ga2; cases ga2
  have ndb : b ≠ d := by rintro rfl; rw [hnd.2] at gb2; cases gb2
  have nde : d ≠ e := by rintro rfl; rw [hnd.2] at ge2; cases ge2
  have D0 : DB h a b c d e x y 0 0 (.val (.slice none 0 0)) ((((H2.put c (.cells 3 1 [.int .i64 0])).put d (.cells 3 1 [.int .i64 0])).put c (.cells 3 1 [.int .i64 0])).put d (.cells 3 1 [.int .i64 0])) := by
    refine ⟨?_, ?_, ?_, Heap.put_same _ _ _, ?_, ⟨nca, nda, nea, ncb, ndb, neb, n3, nce, nde⟩, fc, fd, fe, Inc.over (Inc.over (Inc.over (Inc.over i2 fc _) fd _) fc _) fd _⟩
    · rw [Heap.put_ne _ _ nda, Heap.put_ne _ _ nca, Heap.put_ne _ _ nda, Heap.put_ne _ _ nca]; exact ga2
    · rw [Heap.put_ne _ _ ndb, Heap.put_ne _ _ ncb, Heap.put_ne _ _ ndb, Heap.put_ne _ _ ncb]; exact gb2
    · rw [Heap.put_ne _ _ n3, Heap.put_same]; rfl
    · rw [Heap.put_ne _ _ nde.symm, Heap.put_ne _ _ nce.symm, Heap.put_ne _ _ nde.symm, Heap.put_ne _ _ nce.symm]; exact ge2
  generalize (((H2.put c (.cells 3 1 [.int .i64 0])).put d (.cells 3 1 [.int .i64 0])).put c (.cells 3 1 [.int .i64 0])).put d (.cells 3 1 [.int .i64 0]) = H3 at D0 ⊢
  clear ga2 gb2 ge2 ga gb i1 i2 hnc hnd hne
  refine SW.enter (n := 92) (l := [(6, ptr a), (7, ptr b), (8, .list 1 (tabV .i16 x y)), (9, ptr e), (10, ptr c), (11, ptr d)]) (H := H3) rfl (.refl _ _) (by simp only [hasAll, AS.get, Lift.look, Nat.reduceEqDiff, ↓reduceIte, Option.getD_some, ptr, and_self]) ?_
  refine SW.seq (SW.run [] _ ?_)
  simp only [wpC, Bool.false_eq_true, ↓reduceIte, wpS, stops, wantedA, okDst, Nat.reduceLT, decide_true, step1, isOwnCall, hxOp, px, ptr, List.map_cons, AS.eval, AS.get, Lift.look, Nat.reduceEqDiff, Option.getD_some, List.map_nil, unVs, unV, AS.put, dropKey, thenQ, true_and]
  obtain ⟨F, hF⟩ : ∃ F, F = Value.func (.func 101) #[] #[.pointer (some ⟨c, 0, none⟩), .pointer (some ⟨d, 0, none⟩), .pointer (some ⟨e, 0, none⟩), .pointer (some ⟨a, 0, none⟩), .pointer (some ⟨b, 0, none⟩)] := ⟨_, rfl⟩
  refine SW.enter (n := 92) (l := [(6, ptr a), (7, ptr b), (8, .list 1 (tabV .i16 x y)), (9, ptr e), (10, ptr c), (11, ptr d), (12, .val F)]) (H := H3) rfl (.refl _ _) (by simp only [hasAll, AS.get, Lift.look, Nat.reduceEqDiff, ↓reduceIte, Option.getD_some, ptr, hF, and_self]) ?_
  refine SW.cut (fun st => ∃ (i j : Nat) (v : PV) (h1 : Heap) (out : List Ed), i ≤ x.length ∧ j ≤ y.length ∧ DB h a b c d e x y i j v h1 ∧ Own h1 79 4 (edL out) v st.h ∧ out ++ untilE x y i j x.length y.length = diffS x y ∧ out.length ≤ 1000 ∧ st.n = 92 ∧ hasAll st [(6, ptr a), (7, ptr b), (9, ptr e), (12, .val F)]) ?_ ?_
  · refine SW.seq (SW.run [] _ ?_)
    simp only [wpC, Bool.false_eq_true, ↓reduceIte, wpS, stops, wantedA, okDst, Nat.reduceLT, decide_true, step1, isOwnCall, hxOp, px, AS.eval, ofConst, ofVal, thenQ, hasAll, AS.get, ptr, and_true, AS.put, dropKey, Nat.reduceEqDiff, true_and]
    refine SW.block (SW.loop (fun bb st => ∃ (p i j : Nat) (v : PV) (h1 : Heap) (out : List Ed), p ≤ x.length ∧ x.length - p = bb ∧ i ≤ p ∧ j ≤ y.length ∧ DB h a b c d e x y i j v h1 ∧ Own h1 79 4 (edL out) v st.h ∧ out ++ diffP x y p i j = diffS x y ∧ out.length ≤ p ∧ st.n = 92 ∧ hasAll st [(6, ptr a), (7, ptr b), (8, .list 1 (tabV .i16 x y)), (9, ptr e), (10, ptr c), (11, ptr d), (12, .val F), (13, .int .i64 (p : Nat))]) x.length ⟨0, 0, 0, _, H3, [], Nat.zero_le _, rfl, Nat.le_refl _, Nat.zero_le _, D0, Own.nil _ _ _, rfl, Nat.le_refl _, rfl, ?_⟩ ?_)
    · simp only [hasAll, AS.get, Lift.look, Nat.reduceEqDiff, ↓reduceIte, Option.getD_some, ptr, Int.cast_ofNat_Int, and_self]
    clear D0
    rintro bb st ⟨p, i, j, v, h1, out, hp, hbb, hip, hjy, D, ow, hout, hol, hn, hs⟩
    refine SW.norm ⟨hn, rfl, hs⟩ ?_
    generalize st.h = H at ow
    clear hn hs
    have ga := ow.base D.ha
    have gb := ow.base D.hb
    have gc := ow.base D.hc
    have gd := ow.base D.hd
    refine SW.seq (SW.run [] _ ?_)
    by_cases hlt : p < x.length
    · have hwp : IntKind.i64.wrap (((p : Nat) : Int) + 1) = ((p + 1 : Nat) : Int) := by rw [w64 (by omega) (by omega)]; rfl
      have hgi := tabV_at .i16 (x := x) (y := y) (i := i) (by omega)
      have hgj := rowV_at .i16 (x := x) (y := y) i (j := j) (by omega)
      have bi : ((i : Nat) : Int) < ((x.length + 1 : Nat) : Int) := by omega
      have bj : ((j : Nat) : Int) < ((y.length + 1 : Nat) : Int) := by omega
      have hTl := tabT_le x y i j
      have hgx := strL_at hlt
      simp only [wpC, mayStop, stops, isFlt, Specs.has, Specs.hasO, Bool.or_false, Specs.hasH, Bool.not_false, List.any_cons, List.any_nil, Bool.false_eq_true, ↓reduceIte, wpS, wantedA, okDst, Nat.reduceLT, decide_true, step1, isOwnCall, hxOp, px, AS.eval, AS.get, Lift.look, Nat.reduceEqDiff, Option.getD_some, AS.put, dropKey, ptr, pload, ty43, ga, okOne, TK.isAgg, beq_self_eq_true, Bool.or_true, Nat.zero_add, List.length_cons, List.length_nil, Nat.le_refl, and_self, Lift.valOf, List.drop_zero, List.take_succ_cons, List.take_nil, List.getD_cons_zero, pcall, plen, strL_len, okLen, isNilC, pbinP, pbinI, Int.ofNat_lt, hlt, thenQ, isB, tmpOf, asB, hasAll, and_true, true_and]
      refine SW.seq (SW.block (SW.seq (SW.regionAny [] [[0, 1, 2, 3, 4, 5, 6, 7]] rfl (by rfl) (by kernel_rfl) ?_)))
      simp only [wpOL, wpO, LOp, List.getElem?_toArray, List.getElem?_cons_zero, okDst, Nat.reduceLT, decide_true, wantedA, ↓reduceIte, step1, isOwnCall, Bool.false_eq_true, hxOp, px, AS.eval, AS.get, Lift.look, Nat.reduceEqDiff, Option.getD_some, List.getElem?_cons_succ, AS.put, dropKey, pload, ty3, gc, okOne, TK.isAgg, beq_self_eq_true, Bool.or_true, Nat.zero_add, List.length_cons, List.length_nil, Nat.le_refl, and_self, Lift.valOf, List.drop_zero, List.take_succ_cons, List.take_nil, List.getD_cons_zero, pindexAddr, ty132, ty136, ne_eq, Nat.succ_ne_zero, not_false_eq_true, Int.natCast_nonneg, Int.toNat_natCast, tabV_len, true_and, hgi, gd, ty135, rowV_len, hgj, thenQ]
      refine ⟨by omega, by omega, ?_⟩
      refine SW.seq (SW.run [] _ ?_)
      by_cases hT0 : tabT x y i j = 0
      · rw [diffP_end (.inr hT0)] at hout
        rw [hT0]
        simp only [wpC, mayStop, stops, isFlt, Specs.has, Specs.hasO, Bool.or_false, Specs.hasH, Bool.not_false, List.any_cons, List.any_nil, Bool.false_eq_true, ↓reduceIte, wpS, wantedA, okDst, Nat.reduceLT, decide_true, step1, isOwnCall, hxOp, px, AS.eval, AS.get, Lift.look, Int.cast_ofNat_Int, Option.getD_some, AS.put, dropKey, Nat.reduceEqDiff, isNilC, pbinP, ofConst, ofVal, pbinI, beq_self_eq_true, thenQ, isB, tmpOf, asB, inQ, reduceCtorEq, and_self, and_true, true_and]
        exact ⟨i, j, v, h1, out, by omega, hjy, D, ow, hout, by omega⟩
      have hT0' : ((((tabT x y i j : Nat) : Int)) == 0) = false := by rw [beq_eq_false_iff_ne]; omega
      simp only [wpC, mayStop, stops, isFlt, Specs.has, Specs.hasO, Bool.or_false, Specs.hasH, Bool.not_false, List.any_cons, List.any_nil, Bool.false_eq_true, ↓reduceIte, wpS, wantedA, okDst, Nat.reduceLT, decide_true, step1, isOwnCall, hxOp, px, AS.eval, AS.get, Lift.look, Option.getD_some, AS.put, dropKey, Nat.reduceEqDiff, isNilC, pbinP, ofConst, ofVal, pbinI, hT0', thenQ, isB, tmpOf, asB, true_and]
      have hdj : List.drop j (List.take (strL y).length (strL y)) = strL (y.drop j) := by rw [List.take_length, strL_drop]
      have hdj2 : List.drop j (List.take y.length (strL y)) = strL (y.drop j) := by rw [← strL_len y]; exact hdj
      have hjy' : ((j : Nat) : Int) ≤ (y.length : Int) := by omega
      have hyl : (y.drop j).length ≤ 1000000000 := by rw [List.length_drop]; omega
      refine SW.seq (SW.regionAny [eIndexL] [[0, 1, 2, 3, 4, 5, 6, 7, 8]] rfl (by rfl) (by kernel_rfl) ?_)
      simp only [wpOL, wpO, LOp, List.getElem?_toArray, List.getElem?_cons_zero, okDst, Nat.reduceLT, decide_true, wantedA, ↓reduceIte, step1, isOwnCall, Bool.false_eq_true, hxOp, px, pload, ty43, AS.eval, AS.get, Lift.look, Nat.reduceEqDiff, Option.getD_some, gb, okOne, TK.isAgg, beq_self_eq_true, Bool.or_true, Nat.zero_add, List.length_cons, List.length_nil, Nat.le_refl, and_self, Lift.valOf, List.drop_zero, List.take_succ_cons, List.take_nil, List.getD_cons_zero, List.getElem?_cons_succ, AS.put, dropKey, ty3, gd, pslice, ty9, pB, strL_len, Int.natCast_nonneg, hjy', true_and, Int.toNat_natCast, hdj2, ga, pindexAddr, ne_eq, Nat.succ_ne_zero, not_false_eq_true, hlt, hgx, Specs.hasO, Specs.hasH, pcall, okArg, ofConst, ofVal, List.all_cons, List.all_nil, Bool.and_true, Specs.at, eIndexL, List.map_cons, List.map_nil, sIndexL, unS_el, List.length_drop, thenQ]
      refine ⟨Int.le_refl _, by omega, ?_⟩
      refine SW.enter (n := 92) (l := [(6, ptr a), (7, ptr b), (8, .list 1 (tabV .i16 x y)), (9, ptr e), (10, ptr c), (11, ptr d), (12, .val F), (13, .int .i64 (p : Nat)), (14, .int .i16 (tabT x y i j : Nat)), (15, .int .i64 (idxL (y.drop j) x[p]))]) (H := H) rfl (.refl _ _) (by simp only [hasAll, AS.get, Lift.look, Nat.reduceEqDiff, ↓reduceIte, Option.getD_some, ptr, and_self]) ?_
      refine SW.seq (SW.seq (SW.regionAny [] [[0, 1, 2, 3, 4, 5, 6, 7, 8, 9, 10, 11, 12, 13, 14, 15, 16, 17]] rfl (by rfl) (by kernel_rfl) ?_))
      rcases idxL_spec (y.drop j) x[p] with ⟨hneg, _⟩ | ⟨k, hk, hke, hkx, _⟩
      · rw [diffP_skip hlt hT0 (.inl (by rw [hneg]; decide))] at hout
        rw [hneg]
        simp only [wpOL, wpO, LOp, List.getElem?_toArray, List.getElem?_cons_zero, okDst, Nat.reduceLT, decide_true, wantedA, ↓reduceIte, step1, isOwnCall, Bool.false_eq_true, hxOp, px, AS.eval, AS.get, Lift.look, Nat.reduceEqDiff, Option.getD_some, List.getElem?_cons_succ, AS.put, dropKey, ptr, isNilC, pbinP, ofConst, ofVal, pbinI, Int.reduceLT, Option.bind_some, beq_tf, Option.some.injEq, ppick_true, thenQ, true_and]
        refine SW.run [] _ ?_
        simp only [wpC, isB, AS.get, Lift.look, tmpOf, ↓reduceIte, Option.getD_some, asB, thenQ, inQ, true_and]
        refine SW.run [] _ ?_
        simp only [wpC, Bool.false_eq_true, ↓reduceIte, wpS, stops, wantedA, okDst, Nat.reduceLT, decide_true, step1, isOwnCall, hxOp, px, AS.eval, AS.get, Lift.look, Nat.reduceEqDiff, Option.getD_some, isFlt, ty3, AS.put, dropKey, isNilC, pbinP, ofConst, ofVal, pbinI, hwp, thenQ, true_and]
        exact ⟨x.length - (p + 1), by omega, p + 1, i, j, v, h1, out, by omega, rfl, by omega, hjy, D, ow, hout, by omega, rfl⟩
      · rw [List.length_drop] at hk
        rw [hke]
        have hk0 : ¬ ((k : Nat) : Int) < 0 := by omega
        have hwjk : IntKind.i64.wrap (((j : Nat) : Int) + ((k : Nat) : Int)) = ((j + k : Nat) : Int) := by rw [w64 (by omega) (by omega)]; rfl
        have hwjk1 : IntKind.i64.wrap (((j + k : Nat) : Int) + 1) = ((j + k + 1 : Nat) : Int) := by rw [w64 (by omega) (by omega)]; rfl
        have hgp := tabV_at .i16 (x := x) (y := y) (i := p + 1) (by omega)
        have hgq := rowV_at .i16 (x := x) (y := y) (p + 1) (j := j + k + 1) (by omega)
        have bp : ((p + 1 : Nat) : Int) < ((x.length + 1 : Nat) : Int) := by omega
        have bq : ((j + k + 1 : Nat) : Int) < ((y.length + 1 : Nat) : Int) := by omega
        have bp2 : p + 1 < x.length + 1 := by omega
        have bq2 : j + k + 1 < y.length + 1 := by omega
        have hw16 : IntKind.i16.wrap ((tabT x y i j : Nat) - 1) = ((tabT x y i j - 1 : Nat) : Int) := by rw [wi16 (by omega) (by omega)]; omega
        by_cases hB : tabT x y (p + 1) (j + k + 1) + 1 = tabT x y i j
        · rw [diffP_take hlt hT0 hke hB, ← List.append_assoc] at hout
          have hB2 : ((((tabT x y (p + 1) (j + k + 1) : Nat) : Int)) == ((tabT x y i j - 1 : Nat) : Int)) = true := by rw [beq_iff_eq]; omega
          simp only [wpOL, wpO, LOp, List.getElem?_toArray, List.getElem?_cons_zero, okDst, Nat.reduceLT, decide_true, wantedA, ↓reduceIte, step1, isOwnCall, Bool.false_eq_true, hxOp, px, AS.eval, AS.get, Lift.look, Nat.reduceEqDiff, Option.getD_some, List.getElem?_cons_succ, AS.put, dropKey, ptr, isNilC, pbinP, ofConst, ofVal, pbinI, hk0, decide_false, Option.bind_some, beq_self_eq_true, hwp, pindexAddr, ty132, ty136, ne_eq, Nat.succ_ne_zero, not_false_eq_true, Int.natCast_nonneg, Int.toNat_natCast, tabV_len, bp2, and_self, hgp, pload, okOne, TK.isAgg, Bool.or_true, List.length_cons, List.length_nil, Nat.zero_add, Nat.le_refl, Lift.valOf, List.take_succ_cons, List.take_nil, List.getD_cons_zero, ty3, gd, List.drop_zero, hwjk, hwjk1, ty135, rowV_len, bq2, hgq, hw16, bne, hB2, Bool.not_true, ppick_bool, thenQ, true_and]
          refine SW.run [] _ ?_
          simp only [wpC, isB, AS.get, Lift.look, tmpOf, ↓reduceIte, Option.getD_some, asB, Bool.false_eq_true, thenQ, true_and]
          refine SW.enter (n := 92) (l := [(6, ptr a), (7, ptr b), (8, .list 1 (tabV .i16 x y)), (9, ptr e), (10, ptr c), (11, ptr d), (12, .val F), (13, .int .i64 (p : Nat)), (15, .int .i64 (k : Nat))]) (H := H) rfl (.refl _ _) (by simp only [hasAll, AS.get, Lift.look, Nat.reduceEqDiff, ↓reduceIte, Option.getD_some, ptr, and_self]) ?_
          refine SW.seq (SW.run [] _ ?_)
          simp only [wpC, Bool.false_eq_true, ↓reduceIte, wpS, stops, wantedA, okDst, Nat.reduceLT, decide_true, step1, isOwnCall, hxOp, px, AS.eval, AS.get, Lift.look, Nat.reduceEqDiff, Option.getD_some, AS.put, dropKey, ptr, pload, ty3, gd, okOne, TK.isAgg, beq_self_eq_true, Bool.or_true, Nat.zero_add, List.length_cons, List.length_nil, Nat.le_refl, and_self, Lift.valOf, List.drop_zero, List.take_succ_cons, List.take_nil, List.getD_cons_zero, isFlt, isNilC, pbinP, pbinI, hwjk, true_and]
          refine SWO.call (.tmp 73) #[.tmp 74, .tmp 77] _ 101 #[] #[.pointer (some ⟨c, 0, none⟩), .pointer (some ⟨d, 0, none⟩), .pointer (some ⟨e, 0, none⟩), .pointer (some ⟨a, 0, none⟩), .pointer (some ⟨b, 0, none⟩)] rfl (by rw [hF]; rfl) rfl rfl rfl rfl (Until_ok D ow p (j + k) hip (by omega) (by omega) (by omega) hx hy (by omega)) rfl rfl ?_ (fun c h' hc => by cases hc.1)
          rintro p' h' ⟨hp', v', h2, D2, ow2⟩
          injection hp' with hp'
          subst hp'
          have gc2 := ow2.base D2.hc
          have gd2 := ow2.base D2.hd
          have hul := untilE_len x y i j p (j + k)
          refine SWO.run [] 1000 ?_
          simp only [wpS, thenQ, AS.put, dropKey, Nat.reduceEqDiff, ↓reduceIte]
          refine SW.regionAny2 [] [(0, []), (1, []), (2, [6]), (3, []), (4, []), (5, []), (6, []), (7, [])] rfl (by rfl) (by kernel_rfl) ?_
          simp only [wpO2, dynOK, LOp, List.getElem?_toArray, List.getElem?_cons_zero, okDst, Nat.reduceLT, decide_true, wantedA, ↓reduceIte, step1, isOwnCall, Bool.false_eq_true, hxOp, px, AS.eval, AS.get, Lift.look, Nat.reduceEqDiff, Option.getD_some, List.getElem?_cons_succ, AS.put, dropKey, isNilC, pbinP, ofConst, ofVal, pbinI, hwp, disj, ptrAt, ptrT, n4, not_false_eq_true, and_self, pload, ty3, gd2, okOne, TK.isAgg, beq_self_eq_true, Bool.or_true, Nat.zero_add, List.length_cons, List.length_nil, Nat.le_refl, Lift.valOf, List.drop_zero, List.take_succ_cons, List.take_nil, List.getD_cons_zero, hwjk, hwjk1, Lift.hx, gc2, known1, PV.cells, splice, List.take_zero, List.nil_append, List.drop_succ_cons, List.drop_nil, List.append_nil, Heap.get_put, inQ, thenQ, true_and]
          have ow3 := Own.over ow2 (q := c) (by rw [D2.hc]; simp) (.cells 3 1 [.int .i64 ((p + 1 : Nat) : Int)])
          have ow4 := Own.over ow3 (q := d) (by rw [(D2.setC (p + 1)).hd]; simp) (.cells 3 1 [.int .i64 ((j + k + 1 : Nat) : Int)])
          refine SW.run [] _ ?_
          simp only [wpC, Bool.false_eq_true, ↓reduceIte, wpS, stops, wantedA, okDst, Nat.reduceLT, decide_true, step1, isOwnCall, hxOp, px, AS.eval, AS.get, Lift.look, Nat.reduceEqDiff, Option.getD_some, isFlt, ty3, AS.put, dropKey, isNilC, pbinP, ofConst, ofVal, pbinI, hwp, thenQ, true_and]
          exact ⟨x.length - (p + 1), by omega, p + 1, p + 1, j + k + 1, v', _, out ++ untilE x y i j p (j + k), by omega, rfl, Nat.le_refl _, by omega, (D2.setC (p + 1)).setD (j + k + 1), ow4, hout, by rw [List.length_append]; omega, rfl⟩
        · rw [diffP_skip hlt hT0 (.inr (by rw [hke, Int.toNat_natCast]; exact hB))] at hout
          have hB2 : ((((tabT x y (p + 1) (j + k + 1) : Nat) : Int)) == ((tabT x y i j - 1 : Nat) : Int)) = false := by rw [beq_eq_false_iff_ne]; omega
          simp only [wpOL, wpO, LOp, List.getElem?_toArray, List.getElem?_cons_zero, okDst, Nat.reduceLT, decide_true, wantedA, ↓reduceIte, step1, isOwnCall, Bool.false_eq_true, hxOp, px, AS.eval, AS.get, Lift.look, Nat.reduceEqDiff, Option.getD_some, List.getElem?_cons_succ, AS.put, dropKey, ptr, isNilC, pbinP, ofConst, ofVal, pbinI, hk0, decide_false, Option.bind_some, beq_self_eq_true, hwp, pindexAddr, ty132, ty136, ne_eq, Nat.succ_ne_zero, not_false_eq_true, Int.natCast_nonneg, Int.toNat_natCast, tabV_len, bp2, and_self, hgp, pload, okOne, TK.isAgg, Bool.or_true, List.length_cons, List.length_nil, Nat.zero_add, Nat.le_refl, Lift.valOf, List.take_succ_cons, List.take_nil, List.getD_cons_zero, ty3, gd, List.drop_zero, hwjk, hwjk1, ty135, rowV_len, bq2, hgq, hw16, bne, hB2, Bool.not_false, ppick_bool, thenQ, true_and]
          refine SW.run [] _ ?_
          simp only [wpC, isB, AS.get, Lift.look, tmpOf, ↓reduceIte, Option.getD_some, asB, thenQ, inQ, true_and]
          refine SW.run [] _ ?_
          simp only [wpC, Bool.false_eq_true, ↓reduceIte, wpS, stops, wantedA, okDst, Nat.reduceLT, decide_true, step1, isOwnCall, hxOp, px, AS.eval, AS.get, Lift.look, Nat.reduceEqDiff, Option.getD_some, isFlt, ty3, AS.put, dropKey, isNilC, pbinP, ofConst, ofVal, pbinI, hwp, thenQ, true_and]
          exact ⟨x.length - (p + 1), by omega, p + 1, i, j, v, h1, out, by omega, rfl, by omega, hjy, D, ow, hout, by omega, rfl⟩
    · obtain rfl : p = x.length := by omega
      rw [diffP_end (.inl hlt)] at hout
      simp only [wpC, mayStop, stops, isFlt, Specs.has, Specs.hasO, Bool.or_false, Specs.hasH, Bool.not_false, List.any_cons, List.any_nil, Bool.false_eq_true, ↓reduceIte, wpS, wantedA, okDst, Nat.reduceLT, decide_true, step1, isOwnCall, hxOp, px, AS.eval, AS.get, Lift.look, Nat.reduceEqDiff, Option.getD_some, AS.put, dropKey, ptr, pload, ty43, ga, okOne, TK.isAgg, beq_self_eq_true, Bool.or_true, Nat.zero_add, List.length_cons, List.length_nil, Nat.le_refl, and_self, Lift.valOf, List.drop_zero, List.take_succ_cons, List.take_nil, List.getD_cons_zero, pcall, plen, strL_len, okLen, isNilC, pbinP, pbinI, Int.ofNat_lt, Nat.lt_irrefl, decide_false, thenQ, isB, tmpOf, asB, inQ, and_true, true_and]
      exact ⟨i, j, v, h1, out, hip, hjy, D, ow, hout, by omega⟩
  · rintro st ⟨i, j, v, h1, out, hi, hj, D, ow, hout, hol, hn, hs⟩
    refine SW.norm ⟨hn, rfl, hs⟩ ?_
    generalize st.h = H at ow
    clear hn hs
    have ga := ow.base D.ha
    have gb := ow.base D.hb
    refine SW.seq (SW.run [] _ ?_)
    simp only [wpC, Bool.false_eq_true, ↓reduceIte, wpS, stops, wantedA, okDst, Nat.reduceLT, decide_true, step1, isOwnCall, hxOp, px, AS.eval, AS.get, Lift.look, Nat.reduceEqDiff, Option.getD_some, AS.put, dropKey, ptr, pload, ty43, ga, okOne, TK.isAgg, beq_self_eq_true, Bool.or_true, Nat.zero_add, List.length_cons, List.length_nil, Nat.le_refl, and_self, Lift.valOf, List.drop_zero, List.take_succ_cons, List.take_nil, List.getD_cons_zero, pcall, plen, strL_len, okLen, gb, true_and]
    refine SWO.call (.tmp 85) #[.tmp 87, .tmp 89] _ 101 #[] #[.pointer (some ⟨c, 0, none⟩), .pointer (some ⟨d, 0, none⟩), .pointer (some ⟨e, 0, none⟩), .pointer (some ⟨a, 0, none⟩), .pointer (some ⟨b, 0, none⟩)] rfl (by rw [hF]; rfl) rfl rfl rfl rfl (Until_ok D ow x.length y.length hi (Nat.le_refl _) hj (Nat.le_refl _) hx hy (by omega)) rfl rfl ?_ (fun c h' hc => by cases hc.1)
    rintro p' h' ⟨hp', v', h2, D2, ow2⟩
    injection hp' with hp'
    subst hp'
    rw [hout] at ow2
    have ge := ow2.base D2.he
    obtain ⟨A', n', ev'⟩ := ow2.slice
    obtain ⟨N', eN'⟩ : ∃ N', N' = (edL (diffS x y)).length := ⟨_, rfl⟩
    rw [← eN'] at ev'
    subst ev'
    refine SWO.run [] 1000 ?_
    simp only [wpS, thenQ, AS.put, dropKey, Nat.reduceEqDiff, ↓reduceIte]
    refine SW.run [] _ ?_
    simp only [wpC, mayStop, stops, isFlt, Specs.has, Specs.hasO, Bool.or_false, Specs.hasH, Bool.not_false, List.any_cons, List.any_nil, Bool.false_eq_true, ↓reduceIte, wpS, wantedA, okDst, Nat.reduceLT, decide_true, step1, isOwnCall, hxOp, px, pload, ty28, AS.eval, AS.get, Lift.look, Nat.reduceEqDiff, Option.getD_some, ge, okOne, TK.isAgg, beq_self_eq_true, Bool.or_true, Nat.zero_add, List.length_cons, List.length_nil, Nat.le_refl, and_self, Lift.valOf, List.drop_zero, List.take_succ_cons, List.take_nil, List.getD_cons_zero, AS.put, dropKey, ofConst, ofVal, thenQ, RPost, sres, Tryz.results50, sresL, sres1, Option.some.injEq, exists_eq_left', true_and]
    obtain ⟨H', k1, k2⟩ := Own.fall ow2 D2.inc
    exact ⟨H', k1, _, rfl, k2⟩
def diffR (s u : List UInt8) : PV := if 1000 < (linesOf s).length ∨ 1000 < (linesOf u).length then .tuple [.list 4 [], .int .i64 3] else .tuple [.list 4 (edL (diffS (linesOf s) (linesOf u))), .int .i64 0]
set_option maxHeartbeats 1000000 in
theorem DiffN_ok (s u : List UInt8) (hs : s.length ≤ 1000000) (hu : u.length ≤ 1000000) (hx : 1000 < (linesOf s).length ∨ 1000 < (linesOf u).length) (h : Heap) :
    SCalls env 50 [.str s, .str u] h (Ret (.tuple [.val (.slice none 0 0), .int .i64 3]) h) := by
  refine SCalls.body Tryz.func50 rfl rfl (by simp [Tryz.ntmps50]) ?_
  refine SW.seq (SW.run [] _ ?_)
  simp only [wpC, Bool.false_eq_true, ↓reduceIte, wpS, stops, wantedA, okDst, Tryz.ntmps50, Nat.reduceLT, decide_true, step1, isOwnCall, hxOp, px, AS.eval, ofConst, ofVal, AS.put, enumA, Nat.zero_add, dropKey, reduceCtorEq, Nat.reduceEqDiff, thenQ, true_and]
  refine SW.seq (SW.run [eLines] _ ?_)
  simp only [wpC, Bool.false_eq_true, ↓reduceIte, wpS, stops, wantedA, okDst, Nat.reduceLT, decide_true, step1, isOwnCall, hxOp, px, AS.eval, AS.get, Lift.look, Nat.succ_ne_zero, Option.getD_some, Specs.has, eLines, Specs.hasO, Bool.or_false, Specs.hasH, Bool.not_true, AS.put, dropKey, Nat.reduceEqDiff, reduceCtorEq, pcall, okArg, ofConst, ofVal, List.all_cons, List.all_nil, Bool.and_true, Specs.at, List.map_cons, List.map_nil, sLines, true_and, okAlloc, ty43, okZero, Value.oneCell', zeroOf, List.length_cons, List.length_nil, Nat.zero_add, Heap.get_put, some_none, Lift.hx, known1, PV.cells, splice, List.take_zero, List.nil_append, List.cons_append, HBad, thenQ]
  refine ⟨hs, hu, ?_⟩
  generalize linesOf s = x at *
  generalize linesOf u = y at *
  intro a hna b hnb
  have n1 : ¬ a = b := fun e => hnb.1 e.symm
  have n2 := hnb.1
  simp only [n1, ↓reduceIte, List.length_cons, List.length_nil, Nat.zero_add, Nat.le_refl, List.drop_succ_cons, List.drop_nil, Heap.get_put, n2, true_and]
  have ga : ((((h.put a (.cells 43 1 [.val (.slice none 0 0)])).put b (.cells 43 1 [.val (.slice none 0 0)])).put a (.cells 43 1 [.list 1 (strL x)])).put b (.cells 43 1 [.list 1 (strL y)])) a = some (.cells 43 1 [.list 1 (strL x)]) := by rw [Heap.put_ne _ _ n1, Heap.put_same]
  have gb : ((((h.put a (.cells 43 1 [.val (.slice none 0 0)])).put b (.cells 43 1 [.val (.slice none 0 0)])).put a (.cells 43 1 [.list 1 (strL x)])).put b (.cells 43 1 [.list 1 (strL y)])) b = some (.cells 43 1 [.list 1 (strL y)]) := Heap.put_same _ _ _
  have i1 : Lift.Inc h ((((h.put a (.cells 43 1 [.val (.slice none 0 0)])).put b (.cells 43 1 [.val (.slice none 0 0)])).put a (.cells 43 1 [.list 1 (strL x)])).put b (.cells 43 1 [.list 1 (strL y)])) := Inc.over (Inc.over (Inc.over (Inc.over (incSelf h) hna _) hnb.2 _) hna _) hnb.2 _
  generalize ((((h.put a (.cells 43 1 [.val (.slice none 0 0)])).put b (.cells 43 1 [.val (.slice none 0 0)])).put a (.cells 43 1 [.list 1 (strL x)])).put b (.cells 43 1 [.list 1 (strL y)])) = H1 at ga gb i1 ⊢
  refine SW.enter (n := 92) (l := [(6, ptr a), (7, ptr b)]) (H := H1) rfl (.refl _ _) (by simp only [hasAll, AS.get, Lift.look, Nat.reduceEqDiff, ↓reduceIte, Option.getD_some, ptr, and_self]) ?_
  refine SW.seq (SW.run [] _ ?_)
  by_cases k : 1000 < x.length
  · have k' : (1000 : Int) < (x.length : Int) := by omega
    simp only [wpC, mayStop, stops, isFlt, Specs.has, Specs.hasO, Bool.or_false, Specs.hasH, Bool.not_false, List.any_cons, List.any_nil, Bool.false_eq_true, ↓reduceIte, wpS, wantedA, okDst, Nat.reduceLT, decide_true, step1, isOwnCall, hxOp, px, pload, ty43, AS.eval, AS.get, Lift.look, ptr, Option.getD_some, ga, okOne, TK.isAgg, beq_self_eq_true, Bool.or_true, Nat.zero_add, List.length_cons, List.length_nil, Nat.le_refl, and_self, Lift.valOf, List.drop_zero, List.take_succ_cons, List.take_nil, List.getD_cons_zero, AS.put, dropKey, Nat.reduceEqDiff, pcall, plen, strL_len, okLen, isNilC, pbinP, ofConst, ofVal, pbinI, k', List.getElem?_toArray, List.getElem?_cons_succ, List.getElem?_cons_zero, Option.bind_some, beq_tf, Option.some.injEq, ppick_true, thenQ, isB, tmpOf, asB, RPost, sres, Tryz.results50, sresL, sres1, Ret_fin, exists_eq_left', true_and]
    exact Inc.to i1
  · have k' : ¬ (1000 : Int) < (x.length : Int) := by omega
    have k2 : (1000 : Int) < (y.length : Int) := by omega
    simp only [wpC, mayStop, stops, isFlt, Specs.has, Specs.hasO, Bool.or_false, Specs.hasH, Bool.not_false, List.any_cons, List.any_nil, Bool.false_eq_true, ↓reduceIte, wpS, wantedA, okDst, Nat.reduceLT, decide_true, step1, isOwnCall, hxOp, px, pload, ty43, AS.eval, AS.get, Lift.look, ptr, Option.getD_some, ga, okOne, TK.isAgg, beq_self_eq_true, Bool.or_true, Nat.zero_add, List.length_cons, List.length_nil, Nat.le_refl, and_self, Lift.valOf, List.drop_zero, List.take_succ_cons, List.take_nil, List.getD_cons_zero, AS.put, dropKey, Nat.reduceEqDiff, pcall, plen, strL_len, okLen, isNilC, pbinP, ofConst, ofVal, pbinI, k', decide_false, List.getElem?_toArray, List.getElem?_cons_succ, List.getElem?_cons_zero, Option.bind_some, gb, k2, ppick_bool, thenQ, isB, tmpOf, asB, RPost, sres, Tryz.results50, sresL, sres1, Option.some.injEq, Ret_fin, exists_eq_left', true_and]
    exact Inc.to i1
theorem Diff_ok (s u : List UInt8) (hs : s.length ≤ 1000000) (hu : u.length ≤ 1000000) (h : Heap) : SCalls env 50 [.str s, .str u] h (Ret (diffR s u) h) := by
  unfold diffR
  split
  · rename_i k
    exact (DiffN_ok s u hs hu k h).letGo fun e h' ⟨e1, e2⟩ => ⟨_, _, h, e1, by rw [e2]; exact (Own.nil h 79 4).letGoT _, rfl, rfl⟩
  · rename_i k
    exact (DiffO_ok s u hs hu (by omega) (by omega) h).letGo fun e h' ⟨v, e1, ow⟩ => ⟨_, _, h, e1, ow.letGoT _, rfl, rfl⟩
def sDiff : List PV → Prop × PV
  | [.str s, .str u] => (s.length ≤ 1000000 ∧ u.length ≤ 1000000, diffR s u)
  | _ => PBad
noncomputable def eDiff : SpecE env := ⟨50, sDiff, fun args h hc => by
  unfold sDiff at hc ⊢
  split at hc
  · exact .inl (Diff_ok _ _ hc.1 hc.2 h)
  · exact hc.elim⟩
end Go.Proofs.YtincpomenogppaaGreatDoor

namespace Go.Proofs.YtincpomenogppaaGreatDoor
open Go Go.RowKit Go.Proofs.YtincpomenogppaaGreatDoor Go.Proofs.YtincpomenogppaaGreatDoor.Lift
set_option maxRecDepth 100000

end Go.Proofs.YtincpomenogppaaGreatDoor
