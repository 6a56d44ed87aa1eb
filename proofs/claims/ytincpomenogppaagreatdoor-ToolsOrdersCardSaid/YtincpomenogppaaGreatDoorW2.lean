/- Contracts of functions that the law reaches. -/
import Derived.Test.YtincpomenogppaaGreatDoorW0
set_option linter.unusedSimpArgs false
set_option linter.unusedVariables false
namespace Go.Proofs.YtincpomenogppaaGreatDoor
open Go Go.RowKit Go.Proofs.YtincpomenogppaaGreatDoor Go.Proofs.YtincpomenogppaaGreatDoor.Lift
set_option maxRecDepth 100000

theorem set_rep {n : Nat} (d : List PV) (m : Nat) (z x : PV) (hn : d.length = n) (hm : 0 < m) : List.take (n * 1) (d ++ List.replicate m z) ++ [x] ++ List.drop (n * 1 + 1) (d ++ List.replicate m z) = (d ++ [x]) ++ List.replicate (m - 1) z := by
  subst hn
  obtain ⟨m, rfl⟩ : ∃ k, m = k + 1 := ⟨m - 1, by omega⟩
  rw [Nat.mul_one, List.take_left, List.drop_append, List.drop_eq_nil_of_le (by omega), show d.length + 1 - d.length = 1 by omega, List.replicate_succ]
  simp
theorem take_ck {p r : List UInt8} {c : UInt8} {k : Nat} (hk : k ≤ 1) : (p ++ c :: r).take (p.length + k) = p ++ [c].take k := by
  rw [List.take_length_add_append]
  rcases Nat.lt_or_ge 0 k with h | h
  · obtain rfl : k = 1 := by omega
    simp
  · obtain rfl : k = 0 := by omega
    simp
theorem rep_flat {α : Type} (z : α) : ∀ n, (List.replicate n [z]).flatten = List.replicate n z
  | 0 => rfl
  | n + 1 => by rw [List.replicate_succ, List.flatten_cons, rep_flat z n]; rfl
set_option maxHeartbeats 1000000 in
theorem GenSplit_ok (s : List UInt8) (c : UInt8) (k : Nat) (hk : k ≤ 1) (hs : s.length ≤ 1000000) (h : Heap) : SCalls env 111 [.str s, .str [c], .int .i64 (k : Nat), .int .i64 (-1)] h (fun e h' => ∃ u, e = .ret u ∧ Own h 9 1 (strL (splitG c k s)) u h') := by
  refine SCalls.body Tryz.func111 rfl rfl (by simp [Tryz.ntmps111]) ?_
  have hcl : s.count c ≤ s.length := List.count_le_length
  have e1 : ([c] == ([] : List UInt8)) = false := rfl
  have hw1 : IntKind.i64.wrap (((s.count c : Nat) : Int) + 1) = ((s.count c + 1 : Nat) : Int) := by rw [w64 (by omega) (by omega)]; rfl
  have hw2 : IntKind.i64.wrap (((s.length : Nat) : Int) + 1) = ((s.length + 1 : Nat) : Int) := by rw [w64 (by omega) (by omega)]; rfl
  have hw3 : IntKind.i64.wrap (((s.count c + 1 : Nat) : Int) - 1) = ((s.count c : Nat) : Int) := by rw [w64 (by omega) (by omega)]; omega
  have hmin : ¬ ((s.length + 1 : Nat) : Int) < ((s.count c + 1 : Nat) : Int) := by omega
  refine SW.seq (SW.run [] _ ?_)
  simp only [wpC, Bool.false_eq_true, ↓reduceIte, wpS, stops, wantedA, okDst, Tryz.ntmps111, Nat.reduceLT, decide_true, step1, isOwnCall, hxOp, px, AS.eval, ofConst, ofVal, thenQ, AS.put, enumA, Nat.zero_add, Nat.reduceAdd, dropKey, reduceCtorEq, Nat.reduceEqDiff, true_and]
  refine SW.seq (SW.run [] _ ?_)
  simp only [wpC, mayStop, stops, isFlt, Specs.has, Specs.hasO, Bool.or_false, Specs.hasH, Bool.not_false, List.any_cons, List.any_nil, Bool.false_eq_true, ↓reduceIte, wpS, wantedA, okDst, Nat.reduceLT, decide_true, step1, isOwnCall, hxOp, px, AS.eval, AS.get, Lift.look, Nat.reduceEqDiff, reduceCtorEq, Option.getD_some, AS.put, dropKey, isNilC, pbinP, ofConst, ofVal, pbinI, Int.reduceBEq, thenQ, isB, tmpOf, asB, true_and]
  refine SW.seq (SW.run [] _ ?_)
  simp only [wpC, mayStop, stops, isFlt, Specs.has, Specs.hasO, Bool.or_false, Specs.hasH, Bool.not_false, List.any_cons, List.any_nil, Bool.false_eq_true, ↓reduceIte, wpS, wantedA, okDst, Nat.reduceLT, decide_true, step1, isOwnCall, hxOp, px, AS.eval, AS.get, Lift.look, Nat.reduceEqDiff, reduceCtorEq, Option.getD_some, AS.put, dropKey, isNilC, pbinP, ofConst, ofVal, pbinS, e1, thenQ, isB, tmpOf, asB, true_and]
  refine SW.seq (SW.run [eCount] _ ?_)
  simp only [wpC, mayStop, stops, isFlt, Specs.has, eCount, Specs.hasO, Bool.or_false, Specs.hasH, List.any_cons, List.any_nil, Bool.false_eq_true, ↓reduceIte, wpS, wantedA, okDst, Nat.reduceLT, decide_true, step1, isOwnCall, hxOp, px, AS.eval, AS.get, Lift.look, Nat.reduceEqDiff, reduceCtorEq, Option.getD_some, AS.put, dropKey, isNilC, pbinP, ofConst, ofVal, pbinI, Int.reduceLT, thenQ, isB, tmpOf, asB, Nat.succ_ne_zero, Bool.not_true, pcall, okArg, List.all_cons, List.all_nil, Bool.and_true, Specs.at, List.map_cons, List.map_nil, sCount, and_self, ty3, hw1, true_and]
  refine SW.seq (SW.run [] _ ?_)
  simp only [wpC, Bool.false_eq_true, ↓reduceIte, wpS, stops, wantedA, okDst, Nat.reduceLT, decide_true, step1, isOwnCall, hxOp, px, AS.eval, AS.get, Lift.look, Option.getD_some, AS.put, dropKey, Nat.reduceEqDiff, reduceCtorEq, Nat.succ_ne_zero, pcall, ty9, plen, okLen, and_self, isFlt, ty3, isNilC, pbinP, ofConst, ofVal, pbinI, hw2, hmin, thenQ, true_and]
  refine SW.seq (SW.run [] _ ?_)
  simp only [wpC, Bool.false_eq_true, ↓reduceIte, wpS, stops, wantedA, okDst, Nat.reduceLT, decide_true, step1, isOwnCall, hxOp, px, AS.eval, AS.get, Lift.look, Option.getD_some, AS.put, dropKey, Nat.reduceEqDiff, reduceCtorEq, true_and]
  refine SWO.make 43 (.tmp 30) (.tmp 30) rfl ty43 rfl ty9 rfl rfl (by decide) (n := s.count c + 1) rfl rfl (by simp; omega) (by omega) rfl rfl fun q hq => ?_
  refine SWO.run [] 1000 ?_
  simp only [wpS, stops, Bool.false_eq_true, ↓reduceIte, wantedA, okDst, AS.put, dropKey, Nat.reduceEqDiff, reduceCtorEq, Nat.reduceLT, decide_true, step1, isOwnCall, hxOp, px, AS.eval, AS.get, Lift.look, Option.getD_some, thenQ, List.replicate, List.map_cons, ofVal, List.map_nil, List.flatten_cons, List.cons_append, List.nil_append, true_and]
  have hq : h q = none := hq
  rw [rep_flat, ← List.replicate_succ]
  generalize hN : s.count c = N at hcl hw1 hw2 hw3 hmin ⊢
  refine SW.enter (n := 66) (l := [(0, .str s), (1, .str [c]), (2, .int .i64 (k : Nat)), (3, .int .i64 ((N + 1 : Nat) : Int)), (9, .val (.slice (some ⟨q, 0, none⟩) (N + 1) (N + 1)))]) (H := h.put q (.cells 9 ((N + 1) * 1) (List.replicate (N + 1) (.str [])))) rfl (.refl _ _) (by simp only [hasAll, AS.get, Lift.look, Nat.succ_ne_zero, ↓reduceIte, Option.getD_some, Nat.reduceEqDiff, reduceCtorEq, and_self]) ?_
  refine SW.seq (SW.run [] _ ?_)
  simp only [wpC, Bool.false_eq_true, ↓reduceIte, wpS, stops, wantedA, okDst, Nat.reduceLT, decide_true, step1, isOwnCall, hxOp, px, AS.eval, AS.get, Lift.look, reduceCtorEq, Nat.reduceEqDiff, Option.getD_some, isFlt, ty3, AS.put, dropKey, List.replicate, isNilC, pbinP, ofConst, ofVal, pbinI, hw3, thenQ, true_and]
  refine SW.seq (SW.run [] _ ?_)
  simp only [wpC, Bool.false_eq_true, ↓reduceIte, wpS, stops, wantedA, okDst, Nat.reduceLT, decide_true, step1, isOwnCall, hxOp, px, AS.eval, ofConst, ofVal, thenQ, AS.put, dropKey, Nat.reduceEqDiff, reduceCtorEq, true_and]
  refine SW.seq (SW.block (SW.loopK 66 (fun b : List (List UInt8) × List UInt8 => [(0, .str b.2), (1, .str [c]), (2, .int .i64 (k : Nat)), (3, .int .i64 (N : Nat)), (9, .val (.slice (some ⟨q, 0, none⟩) (N + 1) (N + 1))), (10, .int .i64 (b.1.length : Nat))])
    (fun b => h.put q (.cells 9 ((N + 1) * 1) (b.1.map PV.str ++ List.replicate (N + 1 - b.1.length) (.str [])))) (fun b => b.1 ++ splitG c k b.2 = splitG c k s ∧ b.1.length + b.2.count c = N ∧ b.2.length ≤ s.length) (fun b => N - b.1.length) ([], s) ⟨rfl, by simpa using hN, Nat.le_refl _⟩ ?_ ?_))
  · simp only [Has, List.map_nil, List.length_nil, List.nil_append, hasAll, AS.get, Lift.look, Nat.succ_ne_zero, ↓reduceIte, Option.getD_some, Nat.reduceEqDiff, reduceCtorEq, Int.cast_ofNat_Int, and_self, and_true, true_and]
    rfl
  rintro ⟨done, rest⟩ ⟨i1, i2, i3⟩
  have i1 : done ++ splitG c k rest = splitG c k s := i1
  have i2 : done.length + rest.count c = N := i2
  have i3 : rest.length ≤ s.length := i3
  refine SW.seq (SW.run [] _ ?_)
  by_cases hlt : done.length < N
  · have hmem : c ∈ rest := by
      rw [← List.count_pos_iff]; omega
    obtain ⟨p, r, rfl, hp⟩ := first_of hmem
    have hix := idx_at (r := r) hp
    have hge : ¬ ((p.length : Nat) : Int) < 0 := by omega
    have hcp : p.count c = 0 := List.count_eq_zero.2 hp
    have hl2 : (p ++ c :: r).length = p.length + (r.length + 1) := by rw [List.length_append, List.length_cons]
    have hwk : IntKind.i64.wrap (((p.length : Nat) : Int) + ((k : Nat) : Int)) = ((p.length + k : Nat) : Int) := by rw [w64 (by omega) (by omega)]; rfl
    have hwp : IntKind.i64.wrap (((p.length : Nat) : Int) + 1) = ((p.length + 1 : Nat) : Int) := by rw [w64 (by omega) (by omega)]; rfl
    have hwi : IntKind.i64.wrap (((done.length : Nat) : Int) + 1) = ((done.length + 1 : Nat) : Int) := by rw [w64 (by omega) (by omega)]; rfl
    have hlen : (done.map PV.str ++ List.replicate (N + 1 - done.length) (PV.str [])).length = N + 1 := by simp; omega
    simp only [wpC, mayStop, stops, isFlt, Specs.has, Specs.hasO, Bool.or_false, Specs.hasH, Bool.not_false, List.any_cons, List.any_nil, Bool.false_eq_true, ↓reduceIte, wpS, wantedA, okDst, Nat.reduceLT, decide_true, step1, isOwnCall, hxOp, px, AS.eval, AS.get, Lift.look, reduceCtorEq, Nat.reduceEqDiff, Option.getD_some, AS.put, dropKey, isNilC, pbinP, pbinI, Int.ofNat_lt, hlt, thenQ, isB, tmpOf, asB, Has, hasAll, and_true, true_and]
    refine SW.block (SW.seq (SW.run [eIndex1] _ ?_))
    simp only [wpC, Bool.false_eq_true, ↓reduceIte, wpS, stops, wantedA, okDst, Nat.reduceLT, decide_true, step1, isOwnCall, hxOp, px, AS.eval, AS.get, Lift.look, Nat.succ_ne_zero, Option.getD_some, AS.put, dropKey, Nat.reduceEqDiff, reduceCtorEq, Specs.has, eIndex1, Specs.hasO, Bool.or_false, Specs.hasH, Bool.not_true, pcall, okArg, ofConst, ofVal, List.all_cons, List.all_nil, Bool.and_true, Specs.at, List.map_cons, List.map_nil, sIndex1, hix, and_self, thenQ, true_and]
    refine SW.seq (SW.run [] _ ?_)
    simp only [wpC, mayStop, stops, isFlt, Specs.has, Specs.hasO, Bool.or_false, Specs.hasH, Bool.not_false, List.any_cons, List.any_nil, Bool.false_eq_true, ↓reduceIte, wpS, wantedA, okDst, Nat.reduceLT, decide_true, step1, isOwnCall, hxOp, px, AS.eval, AS.get, Lift.look, Option.getD_some, AS.put, dropKey, Nat.reduceEqDiff, reduceCtorEq, isNilC, pbinP, ofConst, ofVal, pbinI, hge, decide_false, thenQ, isB, tmpOf, asB, true_and]
    refine SW.seq (SW.run [] _ ?_)
    simp only [wpC, Bool.false_eq_true, ↓reduceIte, wpS, stops, wantedA, okDst, Nat.reduceLT, decide_true, step1, isOwnCall, hxOp, px, AS.eval, AS.get, Lift.look, Nat.reduceEqDiff, reduceCtorEq, Option.getD_some, AS.put, dropKey, Nat.succ_ne_zero, isFlt, ty3, isNilC, pbinP, pbinI, hwk, pslice, ty9, pB, Int.cast_ofNat_Int, Int.reduceLE, Int.natCast_nonneg, true_and, Int.reduceToNat, Int.toNat_natCast, List.drop_zero, pindexAddr, ty43, Nat.zero_add, hx, Heap.get_put, known1, PV.cells, List.length_cons, List.length_nil, splice, thenQ]
    rw [Heap.put_put, set_rep _ _ _ _ (List.length_map _) (by omega), take_ck hk, hlen]
    refine ⟨by omega, by omega, by omega, ?_⟩
    refine SW.seq (SW.run [] _ ?_)
    simp only [wpC, Bool.false_eq_true, ↓reduceIte, wpS, stops, wantedA, okDst, Nat.reduceLT, decide_true, step1, isOwnCall, hxOp, px, AS.eval, AS.get, Lift.look, Nat.succ_ne_zero, Option.getD_some, AS.put, dropKey, Nat.reduceEqDiff, reduceCtorEq, pcall, ty9, plen, List.length_cons, List.length_nil, Nat.zero_add, okLen, and_self, Int.cast_ofNat_Int, isFlt, ty3, isNilC, pbinP, pbinI, hwp, pslice, pB, Int.natCast_nonneg, true_and, Int.toNat_natCast, thenQ]
    refine ⟨by omega, ?_⟩
    have hdr : ((p ++ c :: r).take (p ++ c :: r).length).drop (p.length + 1) = r := by rw [List.take_length, List.drop_length_add_append]; rfl
    rw [hdr]
    refine SW.run [] _ ?_
    simp only [wpC, Bool.false_eq_true, ↓reduceIte, wpS, stops, wantedA, okDst, Nat.reduceLT, decide_true, step1, isOwnCall, hxOp, px, AS.eval, AS.get, Lift.look, reduceCtorEq, Nat.reduceEqDiff, Option.getD_some, isFlt, ty3, AS.put, dropKey, isNilC, pbinP, ofConst, ofVal, pbinI, hwi, inQ, thenQ, Nat.succ_ne_zero, true_and]
    rw [splitG_line k hp] at i1
    rw [List.count_append, hcp, List.count_cons_self] at i2
    refine ⟨(done ++ [p ++ [c].take k], r), ⟨by rw [← i1]; simp, by simp; omega, by show r.length ≤ _; omega⟩, by simp; omega, ?_, rfl, by simp⟩
    show h.put q _ = h.put q _
    rw [List.map_append, List.length_append, List.length_singleton, Nat.sub_sub]
    rfl
  · have hnm : c ∉ rest := by
      rw [← List.count_eq_zero]; omega
    have hdn : done.length = N := by omega
    have hlen : (done.map PV.str ++ List.replicate (N + 1 - done.length) (PV.str [])).length = N + 1 := by simp; omega
    have hwi : IntKind.i64.wrap (((done.length : Nat) : Int) + 1) = ((done.length + 1 : Nat) : Int) := by rw [w64 (by omega) (by omega)]; rfl
    simp only [wpC, mayStop, stops, isFlt, Specs.has, Specs.hasO, Bool.or_false, Specs.hasH, Bool.not_false, List.any_cons, List.any_nil, Bool.false_eq_true, ↓reduceIte, wpS, wantedA, okDst, Nat.reduceLT, decide_true, step1, isOwnCall, hxOp, px, AS.eval, AS.get, Lift.look, reduceCtorEq, Nat.reduceEqDiff, Option.getD_some, AS.put, dropKey, isNilC, pbinP, pbinI, Int.ofNat_lt, hlt, decide_false, thenQ, isB, tmpOf, asB, inQ, true_and]
    refine SW.seq (SW.run [] _ ?_)
    simp only [wpC, Bool.false_eq_true, ↓reduceIte, wpS, stops, wantedA, okDst, Nat.reduceLT, decide_true, step1, isOwnCall, hxOp, px, AS.eval, AS.get, Lift.look, Nat.reduceEqDiff, reduceCtorEq, Option.getD_some, AS.put, dropKey, Nat.succ_ne_zero, pindexAddr, ty43, ty9, Int.natCast_nonneg, true_and, Int.toNat_natCast, Nat.zero_add, hx, Heap.get_put, known1, PV.cells, List.length_cons, List.length_nil, splice, thenQ]
    rw [Heap.put_put, set_rep _ _ _ _ (List.length_map _) (by omega), hlen]
    refine ⟨by omega, by omega, ?_⟩
    refine SW.run [] _ ?_
    simp only [wpC, mayStop, stops, isFlt, Specs.has, Specs.hasO, Bool.or_false, Specs.hasH, Bool.not_false, List.any_cons, ty3, List.any_nil, Bool.false_eq_true, ↓reduceIte, wpS, wantedA, okDst, Nat.reduceLT, decide_true, step1, isOwnCall, hxOp, px, AS.eval, AS.get, Lift.look, Nat.reduceEqDiff, reduceCtorEq, Option.getD_some, AS.put, dropKey, isNilC, pbinP, ofConst, ofVal, pbinI, hwi, pslice, ty43, ty9, pB, Int.cast_ofNat_Int, Int.reduceLE, Int.natCast_nonneg, true_and, Int.reduceToNat, Nat.succ_ne_zero, Nat.reduceMul, Nat.add_zero, Int.toNat_natCast, thenQ, RPost, sres, Tryz.results111, sresL, sres1, Option.some.injEq, exists_eq_left']
    rw [splitG_end k hnm] at i1
    refine ⟨by omega, _, .refl _ _, _, rfl, ?_⟩
    rw [← i1, hdn]
    refine .inr ⟨q, N + 1, ?_, ?_, ?_, hq, ?_, strL_wide _⟩
    · rw [strL_len, List.length_append, hdn]; rfl
    · rw [strL_len, List.length_append, hdn]; exact Nat.le_refl _
    · simp [maxLen]; omega
    · rw [strL_flat, show N + 1 - N - 1 = 0 by omega, List.replicate_zero, List.append_nil, List.map_append]; rfl
theorem SplitAfter_ok (s : List UInt8) (hs : s.length ≤ 1000000) (h : Heap) : SCalls env 93 [.str s, .str [10]] h (fun e h' => ∃ u, e = .ret u ∧ Own h 9 1 (strL (splitG 10 1 s)) u h') := by
  refine SCalls.body Tryz.func93 rfl rfl (by simp [Tryz.ntmps93]) ?_
  refine SW.run [] _ ?_
  simp only [wpC, mayStop, stops, isFlt, Specs.has, Specs.hasO, Bool.or_false, Specs.hasH, Bool.not_false, List.any_cons, List.any_nil, Bool.false_eq_true, ↓reduceIte, wpS, wantedA, okDst, Tryz.ntmps93, Nat.reduceLT, decide_true, step1, isOwnCall, hxOp, px, AS.eval, ofConst, ofVal, thenQ, Bool.or_true, AS.put, enumA, Nat.zero_add, dropKey, reduceCtorEq, Nat.reduceEqDiff, AS.get, Lift.look, Nat.succ_ne_zero, Option.getD_some, pcall, ty9, plen, List.length_cons, List.length_nil, okLen, and_self, Int.cast_ofNat_Int, true_and]
  refine SWO.call (.func 111) #[.tmp 5, .tmp 6, .tmp 8, .const (.int .i64 (-1))] _ 111 #[] #[] rfl rfl rfl rfl rfl rfl (GenSplit_ok s 10 1 (Nat.le_refl _) hs h) rfl rfl ?_ (fun c h' hc => by obtain ⟨_, hc, _⟩ := hc; cases hc)
  rintro p' h' ⟨u, hp', ow⟩
  injection hp' with hp'
  subst hp'
  obtain ⟨A, n, rfl⟩ := ow.slice
  refine SWO.run [] 1000 ?_
  simp only [wpS, stops, Bool.false_eq_true, ↓reduceIte, wantedA, okDst, AS.put, dropKey, Nat.reduceEqDiff, reduceCtorEq, Nat.reduceLT, decide_true, step1, isOwnCall, hxOp, px, AS.eval, AS.get, Lift.look, Option.getD_some, thenQ, Tryz.results93, true_and]
  refine SW.run [] _ ?_
  simp only [wpC, RPost, sres, sresL, sres1, AS.get, Lift.look, ↓reduceIte, Option.getD_some, Option.some.injEq, exists_eq_left']
  exact ⟨_, .refl _ _, _, rfl, ow⟩
def endsN (l : List (List UInt8)) : Nat := if l.getLast? = some [] then 1 else 0
theorem Own.cut {h0 H : Heap} {e : TypeId} {xs ys : List (List PV)} {A : Option Addr} {n c : Nat} (o : Own h0 e 1 (xs ++ ys) (.val (.slice A n c)) H) (hx : xs ++ ys ≠ []) : ∃ H', HTo env H H' ∧ Own h0 e 1 xs (.val (.slice A xs.length c)) H' := by
  rcases o with ⟨e1, e2, _⟩ | ⟨r, cap, e1, h2, h3, h4, rfl, h6⟩
  · exact absurd e2 hx
  · injection e1 with e1
    injection e1 with e1 e2 e3
    subst e1 e3
    refine ⟨_, HTo.less (cs := xs.flatten) (ds := ys.flatten) (by rw [Heap.put_same, List.flatten_append]), .inr ⟨r, c, rfl, ?_, h3, h4, Heap.put_put _ _ _ _, fun x hx => h6 x (List.mem_append_left _ hx)⟩⟩
    rw [List.length_append] at h2; omega
theorem EndsV_ok (l : List (List UInt8)) (hl : l ≠ []) (hm : l.length ≤ 2000000) {h h0 : Heap} {A : Option Addr} {c : Nat} (ow : Own h0 9 1 (strL l) (.val (.slice A l.length c)) h) : SCalls env 94 [.val (.slice A l.length c)] h (Ret (.int .i64 (endsN l : Nat)) h) := by
  refine SCalls.body Tryz.func94 rfl rfl (by simp [Tryz.ntmps94]) ?_
  have hpos : 0 < l.length := by rcases l with _ | ⟨x, l⟩; exact absurd rfl hl; simp
  have hw : IntKind.i64.wrap (((l.length : Nat) : Int) - 1) = ((l.length - 1 : Nat) : Int) := by rw [w64 (by omega) (by omega)]; omega
  rcases ow with ⟨e1, e2, _⟩ | ⟨r, cap, e1, h2, h3, h4, rfl, h6⟩
  · exact absurd (by simpa [strL] using e2) hl
  · injection e1 with e1
    injection e1 with e1 e2 e3
    subst e1 e3
    have hlt : l.length - 1 < l.length := by omega
    have hfl : ((strL l).flatten.drop ((l.length - 1) * 1)).take 1 = [.str l[l.length - 1]] := by
      rw [strL_flat, Nat.mul_one, List.drop_eq_getElem_cons (by rw [List.length_map]; exact hlt)]
      simp
    have hle : (l.length - 1) * 1 + 1 ≤ (strL l).flatten.length := by rw [strL_flat, List.length_map]; omega
    have hg : l.getLast? = some l[l.length - 1] := by rw [List.getLast?_eq_getElem?, List.getElem?_eq_getElem hlt]
    refine SW.seq (SW.run [] _ ?_)
    simp only [wpC, Bool.false_eq_true, ↓reduceIte, wpS, stops, wantedA, okDst, Tryz.ntmps94, Nat.reduceLT, decide_true, step1, isOwnCall, hxOp, px, AS.eval, ofConst, ofVal, thenQ, AS.put, enumA, dropKey, reduceCtorEq, true_and]
    cases e : (l[l.length - 1] == [])
    · have hen : endsN l = 0 := by
        unfold endsN
        rw [if_neg]
        rw [hg]
        intro k
        have := Option.some.inj k
        rw [beq_eq_false_iff_ne] at e
        exact e this
      refine SW.run [] _ ?_
      simp only [wpC, mayStop, stops, isFlt, Specs.has, Specs.hasO, Bool.or_false, Specs.hasH, Bool.not_false, List.any_cons, ty3, List.any_nil, Bool.false_eq_true, ↓reduceIte, wpS, wantedA, okDst, Nat.reduceLT, decide_true, step1, isOwnCall, hxOp, px, AS.eval, AS.get, Lift.look, Nat.succ_ne_zero, Option.getD_some, AS.put, dropKey, Nat.reduceEqDiff, reduceCtorEq, pcall, ty43, plen, okLen, and_self, isNilC, pbinP, ofConst, ofVal, pbinI, hw, pindexAddr, ty9, Int.natCast_nonneg, true_and, Int.toNat_natCast, Nat.zero_add, pload, Heap.get_put, okOne, TK.isAgg, beq_self_eq_true, Bool.or_true, Lift.valOf, hfl, List.getD_cons_zero, pbinS, e, thenQ, isB, tmpOf, asB, RPost, sres, Tryz.results94, sresL, sres1, Option.some.injEq, hen, Int.cast_ofNat_Int, Ret_fin, HTo_self, and_true, exists_eq_left']
      exact ⟨by omega, hle⟩
    · have hen : endsN l = 1 := by
        unfold endsN
        rw [if_pos]
        rw [hg]
        rw [beq_iff_eq] at e
        rw [e]
      refine SW.run [] _ ?_
      simp only [wpC, mayStop, stops, isFlt, Specs.has, Specs.hasO, Bool.or_false, Specs.hasH, Bool.not_false, List.any_cons, ty3, List.any_nil, Bool.false_eq_true, ↓reduceIte, wpS, wantedA, okDst, Nat.reduceLT, decide_true, step1, isOwnCall, hxOp, px, AS.eval, AS.get, Lift.look, Nat.succ_ne_zero, Option.getD_some, AS.put, dropKey, Nat.reduceEqDiff, reduceCtorEq, pcall, ty43, plen, okLen, and_self, isNilC, pbinP, ofConst, ofVal, pbinI, hw, pindexAddr, ty9, Int.natCast_nonneg, true_and, Int.toNat_natCast, Nat.zero_add, pload, Heap.get_put, okOne, TK.isAgg, beq_self_eq_true, Bool.or_true, Lift.valOf, hfl, List.getD_cons_zero, pbinS, e, thenQ, isB, tmpOf, asB, RPost, sres, Tryz.results94, sresL, sres1, Option.some.injEq, hen, Int.cast_ofNat_Int, Ret_fin, HTo_self, and_true, exists_eq_left']
      exact ⟨by omega, hle⟩
theorem LinesO_ok (s : List UInt8) (hs : s.length ≤ 1000000) (h : Heap) : SCalls env 41 [.str s] h (fun e h' => ∃ u, e = .ret u ∧ Own h 9 1 (strL (linesOf s)) u h') := by
  refine SCalls.body Tryz.func41 rfl rfl (by simp [Tryz.ntmps41]) ?_
  have hlen := splitG_len 10 1 s
  have hcl : s.count 10 ≤ s.length := List.count_le_length
  refine SW.seq (SW.run [] _ ?_)
  simp only [wpC, Bool.false_eq_true, ↓reduceIte, wpS, stops, wantedA, okDst, Tryz.ntmps41, Nat.reduceLT, decide_true, step1, isOwnCall, hxOp, px, AS.eval, ofConst, ofVal, thenQ, AS.put, enumA, dropKey, reduceCtorEq, true_and]
  refine SW.seq (SW.run [] _ ?_)
  simp only [wpC, Bool.false_eq_true, ↓reduceIte, wpS, stops, wantedA, okDst, Nat.reduceLT, decide_true, step1, isOwnCall, hxOp, px, AS.eval, AS.get, Lift.look, Nat.succ_ne_zero, Option.getD_some, Specs.has, Specs.hasO, Bool.or_false, Specs.hasH, Bool.not_false, AS.put, dropKey, Nat.reduceEqDiff, reduceCtorEq, true_and]
  refine SWO.call (.func 93) #[.tmp 4, .const (.string ⟨#[10]⟩)] _ 93 #[] #[] rfl rfl rfl rfl rfl rfl (SplitAfter_ok s hs h) rfl rfl ?_ (fun c h' hc => by obtain ⟨_, hc, _⟩ := hc; cases hc)
  rintro p' h' ⟨u, hp', ow⟩
  injection hp' with hp'
  subst hp'
  have hlp : (splitG 10 1 s).length ≤ 1000000 + 1 := by omega
  have hnil : splitG 10 1 s ≠ [] := splitG_ne _ _ _
  rcases split_lines s with ⟨he, hl⟩ | he
  · have hen : endsN (splitG 10 1 s) = 0 := if_neg hl
    generalize splitG 10 1 s = l at *
    subst he
    obtain ⟨A, n, rfl⟩ := ow.slice
    rw [strL_len] at ow ⊢
    refine SWO.run [] 1000 ?_
    simp only [wpS, stops, Bool.false_eq_true, ↓reduceIte, wantedA, okDst, AS.put, dropKey, Nat.reduceEqDiff, reduceCtorEq, Nat.reduceLT, decide_true, step1, isOwnCall, hxOp, px, AS.eval, AS.get, Lift.look, Option.getD_some, thenQ, true_and]
    refine SW.seq (SW.run [] _ ?_)
    simp only [wpC, Bool.false_eq_true, ↓reduceIte, wpS, stops, wantedA, okDst, Nat.reduceLT, decide_true, step1, isOwnCall, hxOp, px, AS.eval, AS.get, Lift.look, Option.getD_some, AS.put, dropKey, Nat.reduceEqDiff, reduceCtorEq, pcall, ty43, plen, okLen, and_self, Specs.has, Specs.hasO, Bool.or_false, Specs.hasH, Bool.not_false, true_and]
    refine SWO.call (.func 94) #[.tmp 9] _ 94 #[] #[] rfl rfl rfl rfl rfl rfl (EndsV_ok _ hnil (by omega) ow) rfl rfl ?_ (fun c h' hc => by cases hc.1)
    rintro p' h'' ⟨hp', rfl⟩
    injection hp' with hp'
    subst hp'
    rw [hen]
    rcases id ow with ⟨e1, e2, _⟩ | ⟨r, cap, e1, h2, h3, h4, e5, h6⟩
    · exact absurd (List.map_eq_nil_iff.1 e2) hnil
    · injection e1 with e1
      injection e1 with e1 e2 e3
      subst e1 e3
      have hw : IntKind.i64.wrap (((linesOf s).length : Nat) : Int) = (((linesOf s).length : Nat) : Int) := by rw [w64 (by omega) (by omega)]
      refine SWO.run [] 1000 ?_
      simp only [wpS, stops, isFlt, ty3, Bool.false_eq_true, ↓reduceIte, wantedA, okDst, AS.put, Int.cast_ofNat_Int, dropKey, Nat.reduceEqDiff, reduceCtorEq, Nat.reduceLT, decide_true, step1, isOwnCall, hxOp, px, isNilC, pbinP, AS.eval, AS.get, Lift.look, Option.getD_some, pbinI, Int.sub_zero, hw, pslice, ty43, ty9, pB, Int.reduceLE, Int.natCast_nonneg, true_and, Int.reduceToNat, Nat.reduceMul, Nat.zero_add, Int.toNat_natCast, thenQ]
      rw [strL_len] at h2
      simp only [ite_self, Nat.sub_zero]
      refine ⟨by omega, ?_⟩
      refine SW.run [] _ ?_
      simp only [wpC, RPost, sres, Tryz.results41, sresL, sres1, AS.get, Lift.look, ↓reduceIte, Option.getD_some, Option.some.injEq, exists_eq_left']
      exact ⟨_, .refl _ _, _, rfl, ow⟩
  · have hen : endsN (splitG 10 1 s) = 1 := if_pos (by rw [he]; simp)
    generalize splitG 10 1 s = l at *
    subst he
    obtain ⟨A, n, rfl⟩ := ow.slice
    rw [strL_len] at ow ⊢
    refine SWO.run [] 1000 ?_
    simp only [wpS, stops, Bool.false_eq_true, ↓reduceIte, wantedA, okDst, AS.put, dropKey, Nat.reduceEqDiff, reduceCtorEq, Nat.reduceLT, decide_true, step1, isOwnCall, hxOp, px, AS.eval, AS.get, Lift.look, Option.getD_some, thenQ, true_and]
    refine SW.seq (SW.run [] _ ?_)
    simp only [wpC, Bool.false_eq_true, ↓reduceIte, wpS, stops, wantedA, okDst, Nat.reduceLT, decide_true, step1, isOwnCall, hxOp, px, AS.eval, AS.get, Lift.look, Option.getD_some, AS.put, dropKey, Nat.reduceEqDiff, reduceCtorEq, pcall, ty43, plen, okLen, and_self, Specs.has, Specs.hasO, Bool.or_false, Specs.hasH, Bool.not_false, true_and]
    refine SWO.call (.func 94) #[.tmp 9] _ 94 #[] #[] rfl rfl rfl rfl rfl rfl (EndsV_ok _ hnil (by omega) ow) rfl rfl ?_ (fun c h' hc => by cases hc.1)
    rintro p' h'' ⟨hp', rfl⟩
    injection hp' with hp'
    subst hp'
    rw [hen]
    have hl1 : (linesOf s ++ [[]]).length = (linesOf s).length + 1 := by simp
    rcases id ow with ⟨e1, e2, _⟩ | ⟨r, cap, e1, h2, h3, h4, e5, h6⟩
    · exact absurd (List.map_eq_nil_iff.1 e2) hnil
    · injection e1 with e1
      injection e1 with e1 e2 e3
      subst e1 e3
      have hw : IntKind.i64.wrap ((((linesOf s ++ [[]]).length : Nat) : Int) - 1) = (((linesOf s).length : Nat) : Int) := by rw [w64 (by omega) (by omega)]; omega
      refine SWO.run [] 1000 ?_
      simp only [wpS, stops, isFlt, ty3, Bool.false_eq_true, ↓reduceIte, wantedA, okDst, AS.put, Int.cast_ofNat_Int, dropKey, Nat.reduceEqDiff, reduceCtorEq, Nat.reduceLT, decide_true, step1, isOwnCall, hxOp, px, isNilC, pbinP, AS.eval, AS.get, Lift.look, Option.getD_some, pbinI, hw, pslice, ty43, ty9, pB, Int.reduceLE, Int.natCast_nonneg, true_and, Int.reduceToNat, Nat.reduceMul, Nat.zero_add, Int.toNat_natCast, thenQ]
      rw [strL_len] at h2
      simp only [ite_self, Nat.sub_zero]
      refine ⟨by omega, ?_⟩
      refine SW.run [] _ ?_
      simp only [wpC, RPost, sres, Tryz.results41, sresL, sres1, AS.get, Lift.look, ↓reduceIte, Option.getD_some, Option.some.injEq, exists_eq_left']
      rw [← strL_len (linesOf s ++ [[]]), strL_append] at ow
      obtain ⟨H', k1, k2⟩ := Own.cut ow (by simp [strL])
      rw [strL_len] at k2
      exact ⟨_, k1, _, rfl, k2⟩
theorem Lines_ok (s : List UInt8) (hs : s.length ≤ 1000000) (h : Heap) : SCalls env 41 [.str s] h (Ret (.list 1 (strL (linesOf s))) h) :=
  (LinesO_ok s hs h).letGo fun e h' ⟨u, e1, ow⟩ => ⟨u, _, h, e1, ow.letGoV, rfl, rfl⟩
def sLines : List PV → Prop × PV
  | [.str s] => (s.length ≤ 1000000, .list 1 (strL (linesOf s)))
  | _ => PBad
noncomputable def eLines : SpecE env := ⟨41, sLines, fun args h hc => by
  unfold sLines at hc ⊢
  split at hc
  · rename_i s; exact .inl (Lines_ok s hc h)
  · exact hc.elim⟩
theorem linesOf_len : ∀ s, (linesOf s).length ≤ s.length
  | [] => Nat.le_refl _
  | b :: l => by
    have ih := linesOf_len l
    unfold linesOf
    split
    · simp; omega
    · split
      · simp
      · rename_i h; rw [h] at ih; simp at ih ⊢; omega
end Go.Proofs.YtincpomenogppaaGreatDoor
