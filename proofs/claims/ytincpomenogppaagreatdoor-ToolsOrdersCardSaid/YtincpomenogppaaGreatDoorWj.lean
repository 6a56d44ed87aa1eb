/- Contracts of functions that the law reaches. -/
import Derived.Test.YtincpomenogppaaGreatDoorWi
import Derived.Test.YtincpomenogppaaGreatDoorLiftH
set_option linter.unusedSimpArgs false
set_option linter.unusedVariables false
namespace Go.Proofs.YtincpomenogppaaGreatDoor
open Go Go.RowKit Go.Proofs.YtincpomenogppaaGreatDoor Go.Proofs.YtincpomenogppaaGreatDoor.Lift
set_option maxRecDepth 100000

def revH (xs : List Int) (i : Nat) : List Int := (List.range xs.length).map fun k => if k < i ∨ xs.length - i ≤ k then xs.getD (xs.length - 1 - k) 0 else xs.getD k 0
theorem revH_len (xs : List Int) (i : Nat) : (revH xs i).length = xs.length := by unfold revH; rw [List.length_map, List.length_range]
theorem revH_at {xs : List Int} {i k : Nat} (h : k < (revH xs i).length) : (revH xs i)[k] = if k < i ∨ xs.length - i ≤ k then xs.getD (xs.length - 1 - k) 0 else xs.getD k 0 := by
  simp only [revH, List.getElem_map, List.getElem_range]
theorem revH_zero (xs : List Int) : revH xs 0 = xs := by
  apply List.ext_getElem (revH_len _ _)
  intro k h1 h2
  rw [revH_at, if_neg (by omega), List.getD_eq_getElem?_getD, List.getElem?_eq_getElem h2]
  rfl
theorem revH_end {xs : List Int} {i : Nat} (h : xs.length ≤ 2 * i + 1) : revH xs i = xs.reverse := by
  apply List.ext_getElem (by rw [revH_len, List.length_reverse])
  intro k h1 h2
  rw [revH_len] at h1
  rw [revH_at, List.getElem_reverse]
  split
  · rw [List.getD_eq_getElem?_getD, List.getElem?_eq_getElem (by omega)]
    rfl
  · rw [List.getD_eq_getElem?_getD, List.getElem?_eq_getElem (by omega)]
    have : xs.length - 1 - k = k := by omega
    simp only [this]
    rfl
theorem revH_step {xs : List Int} {i : Nat} (h : 2 * i + 1 < xs.length) : ((revH xs i).set i (xs.getD (xs.length - 1 - i) 0)).set (xs.length - 1 - i) (xs.getD i 0) = revH xs (i + 1) := by
  apply List.ext_getElem (by rw [List.length_set, List.length_set, revH_len, revH_len])
  intro k h1 h2
  rw [revH_len] at h2
  rw [revH_at, List.getElem_set]
  split
  · rename_i e
    rw [if_pos (by omega), ← e, show xs.length - 1 - (xs.length - 1 - i) = i by omega]
  · rw [List.getElem_set]
    split
    · rename_i e
      subst e
      rw [if_pos (by omega)]
    · rw [revH_at]
      by_cases h3 : k < i ∨ xs.length - i ≤ k
      · rw [if_pos h3, if_pos (by omega)]
      · rw [if_neg h3, if_neg (by omega)]
def i32L (xs : List Int) : List (List PV) := xs.map fun n => [PV.int .i32 n]
theorem i32_get {xs : List Int} {k : Nat} (h : k < xs.length) : ((xs.map (PV.int .i32)).drop (k * 1)).take 1 = [.int .i32 xs[k]] := by
  have h2 : k < (xs.map (PV.int .i32)).length := by rw [List.length_map]; exact h
  rw [Nat.mul_one, List.drop_eq_getElem_cons h2, List.take_succ_cons, List.take_zero, List.getElem_map]
theorem i32_put {xs : List Int} {k : Nat} {z : Int} (h : k < xs.length) : List.take (k * 1) (xs.map (PV.int .i32)) ++ [.int .i32 z] ++ List.drop (k * 1 + 1) (xs.map (PV.int .i32)) = (xs.set k z).map (PV.int .i32) := by
  have h2 : k < (xs.map (PV.int .i32)).length := by rw [List.length_map]; exact h
  rw [Nat.mul_one, List.map_set, List.set_eq_take_append_cons_drop, if_pos h2, List.append_assoc]
  rfl
set_option maxHeartbeats 4000000 in
theorem RevRunes_ok (xs : List Int) {h0 h : Heap} {v : PV} (ow : Own h0 21 1 (i32L xs) v h) (hl : xs.length ≤ 1000000000) : SCalls env 73 [v] h (fun e h' => e = .ret (.tuple []) ∧ Own h0 21 1 (i32L xs.reverse) v h') := by
  rcases ow with ⟨rfl, e2, rfl⟩ | ⟨r, cap, rfl, h2, h3, h4, rfl, h6⟩
  · have hx : xs = [] := List.map_eq_nil_iff.1 e2
    subst hx
    refine SCalls.body Tryz.func73 rfl rfl (by simp [Tryz.ntmps73]) ?_
    refine SW.seq (SW.run [] _ ?_)
    simp only [wpC, Bool.false_eq_true, ↓reduceIte, wpS, stops, wantedA, okDst, Tryz.ntmps73, Nat.reduceLT, decide_true, step1, isOwnCall, hxOp, px, AS.eval, AS.get, enumA, Lift.look, Option.getD_some, AS.put, dropKey, reduceCtorEq, pcall, ty112, plen, okLen, and_self, Int.cast_ofNat_Int, isFlt, ty3, Nat.reduceEqDiff, isNilC, pbinP, ofConst, ofVal, pbinI, Int.reduceSub, show IntKind.i64.wrap (-1) = -1 from rfl, thenQ, true_and]
    refine SW.block (SW.loopK 28 (fun _ : Nat => [(0, .val (.slice none 0 0)), (2, .int .i64 0), (3, .int .i64 (-1))]) (fun _ => h) (fun i => True) (fun i => i) 0 trivial ?_ ?_)
    · simp only [Has, hasAll, AS.get, Lift.look, Nat.succ_ne_zero, ↓reduceIte, Option.getD_some, Nat.reduceEqDiff, and_self]
    intro i _
    refine SW.seq (SW.run [] _ ?_)
    simp only [wpC, mayStop, stops, isFlt, Specs.has, Specs.hasO, Bool.or_false, Specs.hasH, Bool.not_false, List.any_cons, List.any_nil, Bool.false_eq_true, ↓reduceIte, wpS, wantedA, okDst, Nat.reduceLT, decide_true, step1, isOwnCall, hxOp, px, AS.eval, AS.get, Lift.look, reduceCtorEq, Option.getD_some, AS.put, dropKey, Nat.reduceEqDiff, isNilC, pbinP, pbinI, Int.reduceLT, decide_false, thenQ, isB, tmpOf, asB, inQ, RPost, sres, Tryz.results73, sresL, Option.some.injEq, exists_eq_left', true_and]
    exact ⟨_, .refl _ _, Own.nil _ _ _⟩
  · rw [show (i32L xs).length = xs.length from List.length_map _] at h2 ⊢
    rw [show (i32L xs).flatten = xs.map (PV.int .i32) from one_flat _ _]
    refine SCalls.body Tryz.func73 rfl rfl (by simp [Tryz.ntmps73]) ?_
    have hw1 : IntKind.i64.wrap ((xs.length : Int) - 1) = (xs.length : Int) - 1 := w64 (by omega) (by omega)
    refine SW.seq (SW.run [] _ ?_)
    simp only [wpC, Bool.false_eq_true, ↓reduceIte, wpS, stops, wantedA, okDst, Tryz.ntmps73, Nat.reduceLT, decide_true, step1, isOwnCall, hxOp, px, AS.eval, AS.get, enumA, Lift.look, Option.getD_some, AS.put, dropKey, reduceCtorEq, pcall, ty112, plen, okLen, and_self, isFlt, ty3, Nat.reduceEqDiff, isNilC, pbinP, ofConst, ofVal, pbinI, hw1, thenQ, true_and]
    refine SW.block (SW.loopK 28 (fun i : Nat => [(0, .val (.slice (some ⟨r, 0, none⟩) xs.length cap)), (2, .int .i64 (i : Nat)), (3, .int .i64 ((xs.length : Int) - 1 - (i : Nat)))]) (fun i => h0.put r (.cells 21 (cap * 1) ((revH xs i).map (PV.int .i32)))) (fun i => i ≤ xs.length) (fun i => xs.length - i) 0 (Nat.zero_le _) ?_ ?_)
    · simp only [Has, hasAll, AS.get, Lift.look, Nat.succ_ne_zero, ↓reduceIte, Option.getD_some, Nat.reduceEqDiff, Int.cast_ofNat_Int, and_true, true_and]
      rw [revH_zero]
      exact ⟨rfl, by rw [Int.sub_zero]⟩
    intro i hi
    refine SW.seq (SW.run [] _ ?_)
    by_cases hlt : 2 * i + 1 < xs.length
    · have hlt' : (i : Int) < (xs.length : Int) - 1 - (i : Nat) := by omega
      obtain ⟨j, hj⟩ : ∃ j, j = xs.length - 1 - i := ⟨_, rfl⟩
      have hji : (xs.length : Int) - 1 - (i : Nat) = (j : Nat) := by omega
      rw [hji] at hlt' ⊢
      have hjl : j < xs.length := by omega
      have hil : i < xs.length := by omega
      have hjl' : (j : Int) < (xs.length : Int) := by omega
      have hil' : (i : Int) < (xs.length : Int) := by omega
      have hwi : IntKind.i64.wrap ((i : Int) + 1) = ((i + 1 : Nat) : Int) := by rw [w64 (by omega) (by omega)]; rfl
      have hwj : IntKind.i64.wrap ((j : Int) - 1) = (j : Int) - 1 := w64 (by omega) (by omega)
      have hL := revH_len xs i
      have vi : (revH xs i)[i]'(by rw [hL]; exact hil) = xs.getD i 0 := by rw [revH_at, if_neg (by omega)]
      have vj : (revH xs i)[j]'(by rw [hL]; exact hjl) = xs.getD j 0 := by rw [revH_at, if_neg (by omega)]
      have gi := i32_get (xs := revH xs i) (k := i) (by rw [hL]; exact hil)
      have gj := i32_get (xs := revH xs i) (k := j) (by rw [hL]; exact hjl)
      rw [vi] at gi
      rw [vj] at gj
      have p1 := i32_put (xs := revH xs i) (k := i) (z := xs.getD j 0) (by rw [hL]; exact hil)
      have p2 := i32_put (xs := (revH xs i).set i (xs.getD j 0)) (k := j) (z := xs.getD i 0) (by rw [List.length_set, hL]; exact hjl)
      have hst := revH_step hlt
      rw [← hj] at hst
      rw [hst] at p2
      have hML : ((revH xs i).map (PV.int .i32)).length = xs.length := by rw [List.length_map, hL]
      have hML2 : (((revH xs i).set i (xs.getD j 0)).map (PV.int .i32)).length = xs.length := by rw [List.length_map, List.length_set, hL]
      have b1 : i * 1 + 1 ≤ xs.length := by omega
      have b2 : j * 1 + 1 ≤ xs.length := by omega
      simp only [wpC, mayStop, stops, isFlt, Specs.has, Specs.hasO, Bool.or_false, Specs.hasH, Bool.not_false, List.any_cons, List.any_nil, Bool.false_eq_true, ↓reduceIte, wpS, wantedA, okDst, Nat.reduceLT, decide_true, step1, isOwnCall, hxOp, px, AS.eval, AS.get, Lift.look, reduceCtorEq, Option.getD_some, AS.put, dropKey, Nat.reduceEqDiff, isNilC, pbinP, pbinI, hlt', thenQ, isB, tmpOf, asB, Has, hasAll, and_true, true_and]
      generalize revH xs i = X at gi gj p1 p2 hML hML2 ⊢
      generalize X.set i (xs.getD j 0) = Y at p1 p2 hML2 ⊢
      generalize xs.getD j 0 = zj at gj p1 ⊢
      generalize xs.getD i 0 = zi at gi p2 ⊢
      refine SW.seq (SW.block (SW.regionAny [] [[0, 1, 2, 3, 4, 5, 6, 7, 8, 9, 10, 11, 12, 13, 14, 15]] rfl (by rfl) (by kernel_rfl) ?_))
      simp only [wpOL, wpO, LOp, List.getElem?_toArray, List.getElem?_cons_zero, okDst, Nat.reduceLT, decide_true, wantedA, ↓reduceIte, step1, isOwnCall, Bool.false_eq_true, hxOp, px, AS.eval, AS.get, Lift.look, Nat.succ_ne_zero, Option.getD_some, List.getElem?_cons_succ, AS.put, dropKey, Nat.reduceEqDiff, reduceCtorEq, pindexAddr, ty112, ty21, Int.natCast_nonneg, hjl', and_self, Int.toNat_natCast, Nat.zero_add, pload, Heap.get_put, okOne, TK.isAgg, beq_self_eq_true, Bool.or_true, hML, b2, Lift.valOf, gj, List.getD_cons_zero, hil', b1, gi, hx, known1, PV.cells, List.length_cons, List.length_nil, splice, p1, hML2, p2, inQ, thenQ, true_and]
      rw [Heap.put_put, Heap.put_put]
      refine SW.run [] _ ?_
      simp only [wpC, Bool.false_eq_true, ↓reduceIte, wpS, stops, wantedA, okDst, Nat.reduceLT, decide_true, step1, isOwnCall, hxOp, px, AS.eval, AS.get, Lift.look, Nat.reduceEqDiff, reduceCtorEq, Option.getD_some, isFlt, ty3, AS.put, dropKey, isNilC, pbinP, ofConst, ofVal, pbinI, hwi, hwj, thenQ, Nat.succ_ne_zero, true_and]
      refine ⟨i + 1, by omega, by omega, rfl, rfl, ?_⟩
      rw [← hji]
      congr 1
      omega
    · have hlt' : ¬ (i : Int) < (xs.length : Int) - 1 - (i : Nat) := by omega
      simp only [wpC, mayStop, stops, isFlt, Specs.has, Specs.hasO, Bool.or_false, Specs.hasH, Bool.not_false, List.any_cons, List.any_nil, Bool.false_eq_true, ↓reduceIte, wpS, wantedA, okDst, Nat.reduceLT, decide_true, step1, isOwnCall, hxOp, px, AS.eval, AS.get, Lift.look, reduceCtorEq, Option.getD_some, AS.put, dropKey, Nat.reduceEqDiff, isNilC, pbinP, pbinI, hlt', decide_false, thenQ, isB, tmpOf, asB, inQ, RPost, sres, Tryz.results73, sresL, Option.some.injEq, exists_eq_left', true_and]
      refine ⟨_, .refl _ _, .inr ⟨r, cap, by unfold i32L; rw [List.length_map, List.length_reverse], by unfold i32L; rw [List.length_map, List.length_reverse]; exact h2, h3, h4, ?_, fun x hx => by obtain ⟨n, _, rfl⟩ := List.mem_map.1 hx; rfl⟩⟩
      rw [revH_end (by omega), show (i32L xs.reverse).flatten = xs.reverse.map (PV.int .i32) from one_flat _ _]
def mirrorL (l : List UInt8) : List UInt8 := (runesOf (cutS l [10])).reverse.flatMap encL ++ (if suffixS l [10] = true then [10] else [])
def mirrorS (s : List UInt8) : List UInt8 := ((linesOf s).map mirrorL).flatten
theorem mirror_next {ls : List (List UInt8)} {i : Nat} (h : i < ls.length) : ((ls.take (i + 1)).map mirrorL).flatten = ((ls.take i).map mirrorL).flatten ++ mirrorL ls[i] := by
  rw [List.take_succ_eq_append_getElem h, List.map_append, List.flatten_append]
  simp
theorem mirror_pre (ls : List (List UInt8)) (i : Nat) : ((ls.take i).map mirrorL).flatten.length ≤ (ls.map mirrorL).flatten.length := by
  have : (ls.map mirrorL).flatten = ((ls.take i).map mirrorL).flatten ++ ((ls.drop i).map mirrorL).flatten := by
    rw [← List.flatten_append, ← List.map_append, List.take_append_drop]
  rw [this, List.length_append]; omega
set_option maxHeartbeats 4000000 in
theorem Mirror_ok (s : List UInt8) (hs : s.length ≤ 1000000) (hb : (mirrorS s).length ≤ 100000000000000) (h : Heap) : SCalls env 18 [.str s] h (Ret (.str (mirrorS s)) h) := by
  refine SCalls.body Tryz.func18 rfl rfl (by simp [Tryz.ntmps18]) ?_
  have hll := linesOf_len s
  have hsh : ∀ l ∈ linesOf s, l.length ≤ 1000000 := fun l hl => by have := linesOf_short hl; omega
  unfold mirrorS at hb ⊢
  refine SW.seq (SW.run [] _ ?_)
  simp only [wpC, Bool.false_eq_true, ↓reduceIte, wpS, stops, wantedA, okDst, Tryz.ntmps18, Nat.reduceLT, decide_true, step1, isOwnCall, hxOp, px, AS.eval, ofConst, ofVal, thenQ, AS.put, enumA, dropKey, reduceCtorEq, true_and]
  refine SW.seq (SW.run [] _ ?_)
  simp only [wpC, Bool.false_eq_true, ↓reduceIte, wpS, stops, wantedA, okDst, Nat.reduceLT, decide_true, step1, okAlloc, ty83, okZero, List.all_cons, Value.oneCell', List.all_nil, Bool.and_true, thenQ, AS.put, dropKey, Nat.reduceEqDiff, reduceCtorEq, zeroOf, List.map_cons, ofVal, List.map_nil, List.length_cons, List.length_nil, Nat.zero_add, Nat.reduceAdd, true_and]
  intro rb hrb
  refine SW.fold_nil (r := rb) (T := 83) (e := 5) (p := none) (.inl rfl) (Heap.put_same _ _ _) ?_
  simp only [Heap.put_put]
  refine SW.seq (SW.seq (SW.run [eLines] _ ?_))
  simp only [wpC, Bool.false_eq_true, ↓reduceIte, wpS, stops, wantedA, okDst, Nat.reduceLT, decide_true, step1, isOwnCall, hxOp, px, AS.eval, AS.get, Lift.look, Nat.succ_ne_zero, Option.getD_some, Specs.has, eLines, Specs.hasO, Bool.or_false, Specs.hasH, Bool.not_true, AS.put, dropKey, Nat.reduceEqDiff, reduceCtorEq, pcall, okArg, ofConst, ofVal, List.all_cons, List.all_nil, Bool.and_true, Specs.at, List.map_cons, List.map_nil, sLines, hs, and_self, ty43, plen, okLen, thenQ, true_and]
  generalize linesOf s = ls at hll hsh hb ⊢
  refine SW.block (SW.loop (fun bb st => ∃ i : Nat, i ≤ ls.length ∧ ls.length - i = bb ∧ st.h rb = some (.bld 83 5 ((ls.take i).map mirrorL).flatten) ∧ Lift.Inc h st.h ∧ st.n = 32 ∧ hasAll st [(3, .val (.pointer (some ⟨rb, 0, none⟩))), (10, .list 1 (strL ls)), (11, .int .i64 (ls.length : Nat)), (12, .int .i64 (i : Nat))]) ls.length ⟨0, Nat.zero_le _, rfl, Heap.put_same _ _ _, Inc.over (incSelf h) hrb _, rfl, ?_⟩ ?_)
  · simp only [hasAll, AS.get, Lift.look, Nat.reduceEqDiff, ↓reduceIte, Option.getD_some, strL_len, Int.cast_ofNat_Int, and_self]
  rintro bb st ⟨i, hi, hbb, hbl, inc, hn, hs'⟩
  refine SW.norm ⟨hn, rfl, hs'⟩ ?_
  generalize st.h = H at inc hbl
  clear hn hs'
  refine SW.seq (SW.run [] _ ?_)
  by_cases hlt : i < ls.length
  · have hw : IntKind.i64.wrap ((i : Int) + 1) = ((i + 1 : Nat) : Int) := by rw [w64 (by omega) (by omega)]; rfl
    have hg := strL_at hlt
    have hl6 := hsh _ (List.getElem_mem hlt)
    have hl9 : ls[i].length ≤ 9000000000000000000 := by omega
    have hcl : (cutS ls[i] [10]).length ≤ ls[i].length := by unfold cutS; split <;> simp
    have hrl : (runesOf (cutS ls[i] [10])).length ≤ (cutS ls[i] [10]).length := runesAt_len _ _ _
    have hnx := mirror_next hlt
    have hpre := mirror_pre ls (i + 1)
    rw [hnx, List.length_append] at hpre
    simp only [wpC, Bool.false_eq_true, ↓reduceIte, wpS, stops, wantedA, okDst, Nat.reduceLT, decide_true, step1, isOwnCall, hxOp, px, isNilC, pbinP, AS.eval, AS.get, Lift.look, Nat.reduceEqDiff, Option.getD_some, pbinI, Int.ofNat_lt, hlt, thenQ, hasAll, and_true, AS.put, dropKey, true_and]
    refine SW.seq (SW.run [] _ ?_)
    simp only [wpC, isB, AS.get, Lift.look, tmpOf, ↓reduceIte, Option.getD_some, asB, thenQ, true_and]
    refine SW.seq (SW.block (SW.seq (SW.run [] _ ?_)))
    simp only [wpC, Bool.false_eq_true, ↓reduceIte, wpS, stops, wantedA, okDst, Nat.reduceLT, decide_true, step1, isOwnCall, hxOp, px, pindexAddr, ty43, ty9, AS.eval, AS.get, Lift.look, Nat.reduceEqDiff, Option.getD_some, ne_eq, Nat.succ_ne_zero, not_false_eq_true, Int.natCast_nonneg, Int.toNat_natCast, strL_len, hlt, and_self, hg, AS.put, dropKey, pload, okOne, TK.isAgg, beq_self_eq_true, Bool.or_true, List.length_cons, List.length_nil, Nat.zero_add, Nat.le_refl, Lift.valOf, List.take_succ_cons, List.take_nil, List.getD_cons_zero, thenQ, true_and]
    refine SW.seq (SW.run [eCutSuffix] _ ?_)
    simp only [wpC, Bool.false_eq_true, ↓reduceIte, wpS, stops, wantedA, okDst, Nat.reduceLT, decide_true, step1, isOwnCall, hxOp, px, AS.eval, AS.get, Lift.look, Option.getD_some, Specs.has, eCutSuffix, Specs.hasO, Bool.or_false, Specs.hasH, Bool.not_true, AS.put, dropKey, Nat.reduceEqDiff, pcall, okArg, ofConst, ofVal, List.all_cons, List.all_nil, Bool.and_true, Specs.at, List.map_cons, List.map_nil, sCutSuffix, hl9, and_self, List.getElem?_cons_zero, List.getElem?_cons_succ, thenQ, true_and]
    refine SW.seq (SW.region (SWO.run [] 1 ?_))
    simp only [wpS, stops, Bool.false_eq_true, ↓reduceIte, wantedA, okDst, Nat.reduceLT, decide_true, step1, isOwnCall, hxOp, px, AS.eval, AS.get, Lift.look, Nat.reduceEqDiff, Option.getD_some, AS.put, dropKey, true_and]
    refine SWO.runesO 9 112 (.tmp 21) rfl ty9 rfl ty112 rfl ty21 rfl rfl (by omega) rfl rfl ?_
    intro v h1 (ow : Own H 21 1 _ v h1)
    have how := RevRunes_ok _ ow (by omega)
    obtain ⟨A, N, rfl⟩ := ow.slice
    refine SWO.run [] 1000 ?_
    simp only [wpS, stops, Bool.false_eq_true, ↓reduceIte, wantedA, okDst, AS.put, dropKey, Nat.reduceEqDiff, Nat.reduceLT, decide_true, step1, isOwnCall, hxOp, px, AS.eval, AS.get, Lift.look, Option.getD_some, thenQ, true_and]
    refine SW.seq (SW.run [] _ ?_)
    simp only [wpC, Bool.false_eq_true, ↓reduceIte, wpS, stops, wantedA, okDst, Nat.reduceLT, decide_true, step1, isOwnCall, hxOp, px, AS.eval, AS.get, Lift.look, Option.getD_some, Specs.has, Specs.hasO, Bool.or_false, Specs.hasH, Bool.not_false, AS.put, dropKey, Nat.reduceEqDiff, true_and]
    refine SWO.call (.func 73) #[.tmp 23] _ 73 #[] #[] rfl rfl rfl rfl rfl rfl how rfl rfl ?_ (fun c h' hc => by cases hc.1)
    rintro p' h2 ⟨hp', ow2⟩
    injection hp' with hp'
    subst hp'
    refine SWO.run [] 1000 ?_
    simp only [wpS, thenQ, AS.put, dropKey, Nat.reduceEqDiff, ↓reduceIte]
    refine SW.own_let 8 rfl ow2 ?_
    refine SW.norm (n := 32) (l := [(3, .val (.pointer (some ⟨rb, 0, none⟩))), (7, .bool (suffixS ls[i] [10])), (8, .list 1 (i32L (runesOf (cutS ls[i] [10])).reverse)), (10, .list 1 (strL ls)), (11, .int .i64 (ls.length : Nat)), (12, .int .i64 (i : Nat))]) (h := H) ⟨rfl, rfl, by simp only [hasAll, AS.get, AS.put, dropKey, Nat.reduceEqDiff, ↓reduceIte, Lift.look, Option.getD_some, and_self]⟩ ?_
    have hur : unR (i32L (runesOf (cutS ls[i] [10])).reverse) = some (runesOf (cutS ls[i] [10])).reverse := unR_map _
    obtain ⟨M, hM⟩ : ∃ M, (runesOf (cutS ls[i] [10])).reverse.flatMap encL = M := ⟨_, rfl⟩
    have hml : mirrorL ls[i] = M ++ (if suffixS ls[i] [10] = true then [10] else []) := by unfold mirrorL; rw [hM]
    refine SW.seq (SW.run [eWS] _ ?_)
    simp only [wpC, Bool.false_eq_true, ↓reduceIte, wpS, stops, wantedA, okDst, Nat.reduceLT, decide_true, step1, isOwnCall, hxOp, px, AS.eval, AS.get, Lift.look, Nat.reduceEqDiff, Option.getD_some, AS.put, dropKey, ty112, ty9, pconvH, pconv, ty21, hur, hM, Specs.has, Specs.hasO, Bool.or_false, Specs.hasH, eWS, Bool.or_true, Bool.not_true, hx, okArg, ofConst, ofVal, List.all_cons, List.all_nil, Bool.and_true, Specs.atH, List.map_cons, List.map_nil, sWS, hbl, true_and, thenQ]
    have hle : (mirrorL ls[i]).length = M.length + (if suffixS ls[i] [10] = true then ([10] : List UInt8) else []).length := by rw [hml, List.length_append]
    refine ⟨by omega, ?_⟩
    refine SW.seq (SW.run [eWB] _ ?_)
    cases hsf : suffixS ls[i] [10]
    · simp only [wpC, Bool.false_eq_true, ↓reduceIte, wpS, stops, wantedA, okDst, Nat.reduceLT, decide_true, step1, isOwnCall, hxOp, px, AS.eval, AS.get, Lift.look, Nat.reduceEqDiff, Option.getD_some, thenQ, AS.put, dropKey, true_and]
      refine SW.run [] _ ?_
      simp only [wpC, isB, AS.get, Lift.look, tmpOf, ↓reduceIte, Option.getD_some, asB, Bool.false_eq_true, inQ, thenQ, true_and]
      refine SW.run [] _ ?_
      simp only [wpC, Bool.false_eq_true, ↓reduceIte, wpS, stops, isFlt, ty3, wantedA, okDst, Nat.reduceLT, decide_true, step1, isOwnCall, hxOp, px, isNilC, pbinP, AS.eval, AS.get, Lift.look, Nat.reduceEqDiff, Option.getD_some, ofConst, ofVal, pbinI, hw, AS.put, dropKey, thenQ, Heap.get_put, Option.some.injEq, true_and]
      refine ⟨ls.length - (i + 1), by omega, i + 1, by omega, rfl, ?_, Inc.over inc hrb _, rfl⟩
      rw [hnx, hml, hsf]
      show AObj.bld _ _ _ = AObj.bld _ _ (_ ++ (M ++ []))
      rw [List.append_nil]
    · rw [hsf] at hle
      have hle : (mirrorL ls[i]).length = M.length + 1 := hle
      have hlw : ((ls.take i).map mirrorL).flatten.length + M.length + 1 ≤ 140737488355328 := by omega
      simp only [wpC, Bool.false_eq_true, ↓reduceIte, wpS, stops, wantedA, okDst, Nat.reduceLT, decide_true, step1, isOwnCall, hxOp, px, AS.eval, AS.get, Lift.look, Nat.reduceEqDiff, Option.getD_some, thenQ, AS.put, dropKey, true_and]
      refine SW.run [eWB] _ ?_
      simp only [wpC, isB, AS.get, Lift.look, tmpOf, ↓reduceIte, Option.getD_some, asB, Bool.false_eq_true, wpS, stops, Specs.has, Specs.hasO, Bool.or_false, Specs.hasH, eWB, Bool.or_true, Bool.not_true, wantedA, okDst, Nat.reduceLT, decide_true, step1, isOwnCall, hxOp, hx, okArg, AS.eval, ofConst, ofVal, List.all_cons, Nat.reduceEqDiff, List.all_nil, Bool.and_true, Specs.atH, List.map_cons, List.map_nil, sWB, Heap.get_put, List.length_append, hlw, Int.reduceToNat, true_and, inQ, thenQ, AS.put, dropKey]
      refine ⟨rfl, ?_⟩
      rw [Heap.put_put]
      refine SW.run [] _ ?_
      simp only [wpC, Bool.false_eq_true, ↓reduceIte, wpS, stops, isFlt, ty3, wantedA, okDst, Nat.reduceLT, decide_true, step1, isOwnCall, hxOp, px, isNilC, pbinP, AS.eval, AS.get, Lift.look, Nat.reduceEqDiff, Option.getD_some, ofConst, ofVal, pbinI, hw, AS.put, dropKey, thenQ, Heap.get_put, Option.some.injEq, true_and]
      refine ⟨ls.length - (i + 1), by omega, i + 1, by omega, rfl, ?_, Inc.over inc hrb _, rfl⟩
      rw [hnx, hml, hsf, List.append_assoc]
      rfl
  · simp only [wpC, Bool.false_eq_true, ↓reduceIte, wpS, stops, wantedA, okDst, Nat.reduceLT, decide_true, step1, isOwnCall, hxOp, px, isNilC, pbinP, AS.eval, AS.get, Lift.look, Nat.reduceEqDiff, Option.getD_some, pbinI, Int.ofNat_lt, hlt, decide_false, thenQ, hasAll, and_true, AS.put, dropKey, true_and]
    refine SW.seq (SW.run [] _ ?_)
    simp only [wpC, isB, AS.get, Lift.look, tmpOf, ↓reduceIte, Option.getD_some, asB, Bool.false_eq_true, thenQ, inQ, true_and]
    have hei : i = ls.length := by omega
    subst hei
    rw [List.take_length] at hbl
    have hbl2 : (ls.map mirrorL).flatten.length ≤ 140737488355328 := by omega
    refine SW.run [eBS] _ ?_
    simp only [wpC, mayStop, stops, isFlt, Specs.has, Specs.hasO, Bool.or_false, Specs.hasH, eBS, Bool.false_or, List.any_cons, ↓reduceIte, Bool.not_true, List.any_nil, Bool.false_eq_true, wpS, Bool.or_true, wantedA, okDst, Nat.reduceLT, decide_true, step1, isOwnCall, hxOp, hx, okArg, AS.eval, AS.get, Lift.look, ofConst, ofVal, List.all_cons, Nat.reduceEqDiff, Option.getD_some, List.all_nil, Bool.and_true, Specs.atH, List.map_cons, List.map_nil, sBS, hbl, hbl2, and_self, AS.put, dropKey, px, thenQ, RPost, sres, Tryz.results18, sresL, sres1, Option.some.injEq, Ret_fin, exists_eq_left', true_and]
    exact Inc.to (Inc.gone inc hrb)
def sMirrorT : List PV → Prop × PV
  | [.str s] => (s.length ≤ 1000000 ∧ (mirrorS s).length ≤ 100000000000000, .str (mirrorS s))
  | _ => PBad
noncomputable def eMirrorT : SpecE env := ⟨18, sMirrorT, fun args h hc => by
  unfold sMirrorT at hc ⊢
  split at hc
  · exact .inl (Mirror_ok _ hc.1 hc.2 h)
  · exact hc.elim⟩
end Go.Proofs.YtincpomenogppaaGreatDoor

namespace Go.Proofs.YtincpomenogppaaGreatDoor
open Go Go.RowKit Go.Proofs.YtincpomenogppaaGreatDoor Go.Proofs.YtincpomenogppaaGreatDoor.Lift
set_option maxRecDepth 100000

theorem aw_lines1 : linesOf [97, 10, 98, 10, 99, 10] = [[97, 10], [98, 10], [99, 10]] := by kernel_rfl
theorem aw_lines2 : linesOf [97, 10, 99, 10, 100, 10] = [[97, 10], [99, 10], [100, 10]] := by kernel_rfl
theorem aw_diff : diffS [[97, 10], [98, 10], [99, 10]] [[97, 10], [99, 10], [100, 10]] = [⟨1, 1, [[98, 10]], []⟩, ⟨3, 2, [], [[100, 10]]⟩] := by
  have i0 : idxL [[97, 10], [99, 10], [100, 10]] [97, 10] = 0 := by kernel_rfl
  have i1 : idxL [[99, 10], [100, 10]] [98, 10] = -1 := by kernel_rfl
  have i2 : idxL [[99, 10], [100, 10]] [99, 10] = 0 := by kernel_rfl
  simp [diffS, diffP, tabT, lcs, i0, i1, i2, untilE]
theorem aw_show : showS [⟨1, 1, [[98, 10]], []⟩, ⟨3, 2, [], [[100, 10]]⟩] = ([64, 49, 32, 49, 32, 49, 32, 48, 10, 45, 98, 10, 64, 51, 32, 48, 32, 50, 32, 49, 10, 43, 100, 10], 0) := by kernel_rfl
theorem aw_pack : packS [⟨[102], 420, 7, [104, 105]⟩] = ([33, 97, 99, 104, 101, 114, 111, 110, 10, 102, 32, 52, 50, 48, 32, 55, 32, 50, 10, 104, 105, 10], 0) := by kernel_rfl
theorem aw_uniq : uniqS [97, 10, 97, 10, 98] true = [50, 32, 97, 10, 49, 32, 98, 10] := by kernel_rfl
theorem aw_mirror : mirrorS [97, 98, 195, 169, 10] = [195, 169, 98, 97, 10] := by kernel_rfl
set_option maxHeartbeats 4000000 in
theorem Awake_ok (h : Heap) : SCalls env 7 [] h (Ret (.bool true) h) := by
  refine SCalls.body Tryz.func7 rfl rfl (by simp [Tryz.ntmps7]) ?_
  have hd : diffR [97, 10, 98, 10, 99, 10] [97, 10, 99, 10, 100, 10] = .tuple [.list 4 (edL [⟨1, 1, [[98, 10]], []⟩, ⟨3, 2, [], [[100, 10]]⟩]), .int .i64 0] := by
    unfold diffR
    rw [aw_lines1, aw_lines2, aw_diff]
    rfl
  obtain ⟨D, hD⟩ : ∃ D, D = ([⟨1, 1, [[98, 10]], []⟩, ⟨3, 2, [], [[100, 10]]⟩] : List Ed) := ⟨_, rfl⟩
  rw [← hD] at hd
  have hDl : D.length = 2 := by rw [hD]; rfl
  refine SW.seq (SW.run [] _ ?_)
  simp only [wpC, Bool.false_eq_true, ↓reduceIte, wpS, stops, wantedA, okDst, Tryz.ntmps7, Nat.reduceLT, decide_true, step1, isOwnCall, hxOp, px, AS.eval, ofConst, ofVal, thenQ, AS.put, enumA, dropKey, true_and]
  refine SW.seq (SW.run [eDiff] _ ?_)
  simp only [wpC, Bool.false_eq_true, ↓reduceIte, wpS, stops, Specs.has, eDiff, Specs.hasO, Bool.or_false, Specs.hasH, Bool.not_true, wantedA, okDst, Nat.reduceLT, decide_true, step1, isOwnCall, hxOp, px, pcall, okArg, AS.eval, AS.get, Lift.look, ofConst, ofVal, List.all_cons, List.all_nil, Bool.and_true, Specs.at, List.map_cons, List.map_nil, sDiff, List.length_cons, List.length_nil, Nat.zero_add, Nat.reduceAdd, Nat.reduceLeDiff, and_self, hd, AS.put, dropKey, reduceCtorEq, Option.getD_some, Nat.reduceEqDiff, List.getElem?_cons_zero, List.getElem?_cons_succ, thenQ, true_and]
  have hsf : ∀ e ∈ D, e.fit := by
    rw [hD]
    intro e he
    rcases List.mem_cons.1 he with rfl | he
    · refine ⟨by decide, by decide, by decide, ?_⟩
      intro l hl
      rw [List.mem_singleton.1 hl]
      decide
    · rw [List.mem_singleton.1 he]
      refine ⟨by decide, by decide, by decide, ?_⟩
      intro l hl
      rw [List.mem_singleton.1 hl]
      decide
  have hs6 : D.length ≤ 1000000 := by omega
  have hneg : negS D = false := by rw [hD]; kernel_rfl
  have hsr : showR D = .tuple [.str [64, 49, 32, 49, 32, 49, 32, 48, 10, 45, 98, 10, 64, 51, 32, 48, 32, 50, 32, 49, 10, 43, 100, 10], .int .i64 0] := by
    unfold showR; rw [hD, aw_show]
  have hsb : (showB D).length ≤ 100000000000000 := by
    have : (showB D).length = 24 := by rw [hD]; kernel_rfl
    omega
  obtain ⟨M, hM⟩ : ∃ M, M = ([⟨[102], 420, 7, [104, 105]⟩] : List Mb) := ⟨_, rfl⟩
  have hum : unM [[.str [102], .int .i64 420, .int .i64 7, .str [104, 105]]] = some M := by rw [hM]; rfl
  have hml : M.length ≤ 1000000 := by rw [hM]; decide
  have hmf : ∀ e ∈ M, e.fit := by
    rw [hM]
    intro e he
    rw [List.mem_singleton.1 he]
    exact ⟨by decide, by decide, by decide, by decide⟩
  have hmb : (packB M).length ≤ 100000000000000 := by
    have : (packB M).length = 22 := by rw [hM]; kernel_rfl
    omega
  have hmr : packR M = .tuple [.str [33, 97, 99, 104, 101, 114, 111, 110, 10, 102, 32, 52, 50, 48, 32, 55, 32, 50, 10, 104, 105, 10], .int .i64 0] := by
    unfold packR; rw [hM, aw_pack]
  have hub : (uniqS [97, 10, 97, 10, 98] true).length ≤ 100000000000000 := by rw [aw_uniq]; decide
  have hib : (mirrorS [97, 98, 195, 169, 10]).length ≤ 100000000000000 := by rw [aw_mirror]; decide
  have hu := aw_uniq
  have hi := aw_mirror
  refine SW.seq (SW.run [] _ ?_)
  simp only [wpC, mayStop, stops, isFlt, Specs.has, Specs.hasO, Bool.or_false, Specs.hasH, Bool.not_false, List.any_cons, List.any_nil, Bool.false_eq_true, ↓reduceIte, wpS, wantedA, okDst, Nat.reduceLT, decide_true, step1, isOwnCall, hxOp, px, AS.eval, AS.get, Lift.look, Option.getD_some, AS.put, dropKey, Nat.reduceEqDiff, reduceCtorEq, isNilC, pbinP, ofConst, ofVal, pbinI, Int.reduceBNe, List.getElem?_toArray, List.getElem?_cons_succ, List.getElem?_cons_zero, Option.bind_some, beq_self_eq_true, pcall, ty28, plen, edL_len, hDl, okLen, and_self, Int.cast_ofNat_Int, ppick_bool, thenQ, isB, tmpOf, asB, true_and]
  refine SW.seq (SW.run [eShow] _ ?_)
  simp only [wpC, Bool.false_eq_true, ↓reduceIte, wpS, stops, wantedA, okDst, Nat.reduceLT, decide_true, step1, isOwnCall, hxOp, px, AS.eval, AS.get, Lift.look, Nat.reduceEqDiff, Option.getD_some, Specs.has, eShow, Specs.hasO, Bool.or_false, Specs.hasH, Bool.not_true, AS.put, dropKey, reduceCtorEq, pcall, okArg, ofConst, ofVal, List.all_cons, List.all_nil, Bool.and_true, Specs.at, List.map_cons, List.map_nil, sShow, unE_el, hs6, hsb, and_self, and_true, hsr, true_and, List.getElem?_cons_zero, List.getElem?_cons_succ, thenQ]
  refine ⟨hsf, ?_⟩
  refine SW.seq (SW.run [ePackM] _ ?_)
  simp only [wpC, Bool.false_eq_true, ↓reduceIte, wpS, stops, wantedA, okDst, Nat.reduceLT, decide_true, step1, isOwnCall, hxOp, px, pbuild, ty58, List.map_cons, ofVal, List.map_nil, AS.eval, AS.get, Lift.look, ofConst, pfill, placeOf, List.getElem?_cons_zero, ty9, Option.map_some, PV.cells, List.length_cons, List.length_nil, Nat.zero_add, Nat.reduceAdd, Nat.reduceLeDiff, and_self, List.getElem?_cons_succ, ty3, splice, List.take_zero, List.nil_append, List.drop_succ_cons, List.drop_zero, List.cons_append, List.take_succ_cons, Nat.le_refl, List.drop_nil, List.append_nil, List.all_cons, Option.isSome_some, List.all_nil, Bool.and_true, okZero, Value.oneCell', known, AS.put, dropKey, Nat.reduceEqDiff, reduceCtorEq, pbuildSlice, ty52, Nat.succ_ne_zero, List.replicate, List.flatten_cons, List.flatten_nil, Option.getD_some, Nat.reduceMul, chunk, List.take_nil, Specs.has, ePackM, Specs.hasO, Bool.or_false, Specs.hasH, Bool.not_true, pcall, okArg, Specs.at, sPackM, hum, hml, hmb, and_true, hmr, true_and, thenQ]
  refine ⟨hmf, ?_⟩
  refine SW.run [eUnique, eMirrorT] _ ?_
  simp only [wpC, mayStop, stops, isFlt, Specs.has, eUnique, eMirrorT, Specs.hasO, Bool.or_false, Specs.hasH, List.any_cons, ↓reduceIte, Bool.not_true, Nat.reduceEqDiff, List.any_nil, Bool.false_eq_true, wpS, wantedA, okDst, Nat.reduceLT, decide_true, step1, isOwnCall, hxOp, px, AS.eval, AS.get, Lift.look, Option.getD_some, AS.put, dropKey, reduceCtorEq, isNilC, pbinP, ofConst, ofVal, pbinI, beq_self_eq_true, List.getElem?_toArray, List.getElem?_cons_succ, List.getElem?_cons_zero, Option.bind_some, pbinS, ppick_bool, pcall, okArg, List.all_cons, List.all_nil, Bool.and_true, Specs.at, List.map_cons, List.map_nil, sUnique, List.length_cons, List.length_nil, Nat.zero_add, Nat.reduceAdd, Nat.reduceLeDiff, hu, and_self, sMirrorT, hi, thenQ, RPost, sres, Nat.succ_ne_zero, Tryz.results7, sresL, sres1, Option.some.injEq, Ret_fin, HTo_self, and_true, exists_eq_left']
end Go.Proofs.YtincpomenogppaaGreatDoor
