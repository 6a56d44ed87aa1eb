/- Contracts of functions that the law reaches. -/
import Derived.Test.YtincpomenogppaaGreatDoorW4
import Derived.Test.YtincpomenogppaaGreatDoorLiftH
set_option linter.unusedSimpArgs false
set_option linter.unusedVariables false
namespace Go.Proofs.YtincpomenogppaaGreatDoor
open Go Go.RowKit Go.Proofs.YtincpomenogppaaGreatDoor Go.Proofs.YtincpomenogppaaGreatDoor.Lift
set_option maxRecDepth 100000

def partV (z : PV) (f : Nat → PV) (N k : Nat) : List PV := List.replicate k z ++ ((List.range N).drop k).map f
theorem partV_len (z : PV) (f : Nat → PV) {N k : Nat} (h : k ≤ N) : (partV z f N k).length = N := by unfold partV; simp; omega
theorem range_at {N k : Nat} (h : k < N) : (List.range N).drop k = k :: (List.range N).drop (k + 1) := by
  rw [List.drop_eq_getElem_cons (by simpa using h)]
  simp
theorem partV_get (z : PV) (f : Nat → PV) {N k j : Nat} (h : k ≤ j) (hj : j < N) : ((partV z f N k).drop (j * 1)).take 1 = [f j] := by
  unfold partV
  rw [Nat.mul_one, List.drop_append, List.drop_eq_nil_of_le (by simpa using h), List.nil_append, List.length_replicate, ← List.map_drop, List.drop_drop, show k + (j - k) = j by omega, range_at hj]
  simp
theorem partV_set (z : PV) (f : Nat → PV) {N k : Nat} (h : k < N) (v : PV) : List.take (k * 1) (partV z f N (k + 1)) ++ [v] ++ List.drop (k * 1 + 1) (partV z f N (k + 1)) = List.replicate k z ++ v :: ((List.range N).drop (k + 1)).map f := by
  unfold partV
  rw [Nat.mul_one, List.take_append_of_le_length (by simp), List.take_replicate, Nat.min_eq_left (by omega), List.drop_append, List.drop_eq_nil_of_le (by simp)]
  simp
theorem partV_cons (z : PV) (f : Nat → PV) {N k : Nat} (h : k < N) : List.replicate k z ++ f k :: ((List.range N).drop (k + 1)).map f = partV z f N k := by
  unfold partV
  rw [range_at h]
  simp
theorem partV_zero (z : PV) (f : Nat → PV) (N : Nat) : partV z f N 0 = (List.range N).map f := by unfold partV; simp
theorem mid_at {z v : PV} {l : List PV} (k : Nat) : ((List.replicate k z ++ v :: l).drop (k * 1)).take 1 = [v] := by
  rw [Nat.mul_one, List.drop_append, List.drop_eq_nil_of_le (by simp)]
  simp
theorem mid_next {z v : PV} {f : Nat → PV} {N k : Nat} (h : k + 1 < N) : ((List.replicate k z ++ v :: ((List.range N).drop (k + 1)).map f).drop ((k + 1) * 1)).take 1 = [f (k + 1)] := by
  rw [Nat.mul_one, List.drop_append, List.drop_eq_nil_of_le (by simp), List.length_replicate, show k + 1 - k = 1 by omega, range_at h]
  simp
theorem mid_len {z v : PV} {f : Nat → PV} {N k : Nat} (h : k < N) : (List.replicate k z ++ v :: ((List.range N).drop (k + 1)).map f).length = N := by simp; omega
theorem partV_full (z : PV) (f : Nat → PV) (N : Nat) : List.replicate N z = partV z f N N := by unfold partV; simp
def rowV (q : IntKind) (x y : List (List UInt8)) (i : Nat) : List (List PV) := (List.range (y.length + 1)).map fun j => [.int q (tabT x y i j : Nat)]
def tabV (q : IntKind) (x y : List (List UInt8)) : List (List PV) := (List.range (x.length + 1)).map fun i => [.list 1 (rowV q x y i)]
theorem rowV_len (q : IntKind) (x y : List (List UInt8)) (i : Nat) : (rowV q x y i).length = y.length + 1 := by unfold rowV; simp
theorem rowV_at (q : IntKind) {x y : List (List UInt8)} (i : Nat) {j : Nat} (h : j < y.length + 1) : (rowV q x y i).getD j [] = [.int q (tabT x y i j : Nat)] := by
  unfold rowV
  rw [List.getD_eq_getElem?_getD, List.getElem?_eq_getElem (by simpa using h)]
  simp
theorem tabV_len (q : IntKind) (x y : List (List UInt8)) : (tabV q x y).length = x.length + 1 := by unfold tabV; simp
theorem tabV_at (q : IntKind) {x y : List (List UInt8)} {i : Nat} (h : i < x.length + 1) : (tabV q x y).getD i [] = [.list 1 (rowV q x y i)] := by
  unfold tabV
  rw [List.getD_eq_getElem?_getD, List.getElem?_eq_getElem (by simpa using h)]
  simp
theorem map1_flat {α : Type} (f : α → PV) : ∀ l : List α, (l.map fun a => [f a]).flatten = l.map f
  | [] => rfl
  | a :: l => by rw [List.map_cons, List.flatten_cons, map1_flat f l]; rfl
theorem map1_wide {α : Type} (f : α → PV) (l : List α) : ∀ x ∈ l.map (fun a => [f a]), x.length = 1 := fun x hx => by
  obtain ⟨a, _, rfl⟩ := List.mem_map.1 hx
  rfl
theorem own_row {h0 : Heap} {e : TypeId} {q N : Nat} {xs : List (List PV)} {cs : List PV} (hq : h0 q = none) (hl : xs.length = N) (hw : ∀ x ∈ xs, x.length = 1) (hf : xs.flatten = cs) (hm : N ≤ maxLen) : Own h0 e 1 xs (.val (.slice (some ⟨q, 0, none⟩) N N)) (h0.put q (.cells e (N * 1) cs)) := by
  subst hl hf
  exact .inr ⟨q, _, rfl, Nat.le_refl _, hm, hq, rfl, hw⟩
theorem wi16 {n : Int} (h1 : -32768 ≤ n) (h2 : n < 32768) : IntKind.i16.wrap n = n := by simp [IntKind.wrap, IntKind.bits, IntKind.signed]; omega
theorem max_int (a b : Nat) : (if ((a : Nat) : Int) < ((b : Nat) : Int) then ((b : Nat) : Int) else ((a : Nat) : Int)) = ((max a b : Nat) : Int) := by split <;> omega
set_option maxHeartbeats 4000000 in
set_option maxRecDepth 100000 in
theorem Lengths_ok (x y : List (List UInt8)) (hx : x.length ≤ 1000) (hy : y.length ≤ 1000) (h : Heap) : SCalls env 100 [.list 1 (strL x), .list 1 (strL y)] h (Ret (.list 1 (tabV .i16 x y)) h) := by
  refine SCalls.body Tryz.func100 rfl rfl (by simp [Tryz.ntmps100]) ?_
  obtain ⟨n, hn⟩ : ∃ n, n = x.length := ⟨_, rfl⟩
  obtain ⟨m, hm⟩ : ∃ m, m = y.length := ⟨_, rfl⟩
  have hwn : IntKind.i64.wrap (((n : Nat) : Int) + 1) = ((n + 1 : Nat) : Int) := by rw [w64 (by omega) (by omega)]; rfl
  have hwm : IntKind.i64.wrap (((m : Nat) : Int) + 1) = ((m + 1 : Nat) : Int) := by rw [w64 (by omega) (by omega)]; rfl
  have hwn1 : IntKind.i64.wrap (((n : Nat) : Int) - 1) = ((n : Nat) : Int) - 1 := by rw [w64 (by omega) (by omega)]
  have hwm1 : IntKind.i64.wrap (((m : Nat) : Int) - 1) = ((m : Nat) : Int) - 1 := by rw [w64 (by omega) (by omega)]
  obtain ⟨f, hf⟩ : ∃ f : Nat → PV, f = fun i => .list 1 (rowV .i16 x y i) := ⟨_, rfl⟩
  refine SW.seq (SW.run [] _ ?_)
  simp only [wpC, Bool.false_eq_true, ↓reduceIte, wpS, stops, wantedA, okDst, Tryz.ntmps100, Nat.reduceLT, decide_true, step1, isOwnCall, hxOp, px, AS.eval, ofConst, ofVal, thenQ, AS.put, enumA, Nat.zero_add, dropKey, reduceCtorEq, Nat.reduceEqDiff, true_and]
  refine SW.seq (SW.run [] _ ?_)
  simp only [wpC, Bool.false_eq_true, ↓reduceIte, wpS, stops, wantedA, okDst, Nat.reduceLT, decide_true, step1, isOwnCall, hxOp, px, AS.eval, AS.get, Lift.look, Nat.succ_ne_zero, Option.getD_some, AS.put, dropKey, Nat.reduceEqDiff, reduceCtorEq, pcall, ty43, plen, strL_len, ← hn, okLen, and_self, isFlt, ty3, isNilC, pbinP, ofConst, ofVal, pbinI, hwn, true_and]
  refine SWO.make 132 (.tmp 10) (.tmp 10) rfl ty132 rfl ty136 rfl rfl (by decide) (n := n + 1) rfl rfl (by simp; omega) (by omega) rfl rfl fun q hq => ?_
  have hq : h q = none := hq
  refine SWO.run [] 1000 ?_
  simp only [wpS, stops, Bool.false_eq_true, ↓reduceIte, wantedA, okDst, AS.put, dropKey, Nat.reduceEqDiff, reduceCtorEq, Nat.reduceLT, decide_true, step1, isOwnCall, hxOp, px, AS.eval, AS.get, Lift.look, Option.getD_some, thenQ, List.replicate, List.map_cons, ofVal, List.map_nil, List.flatten_cons, List.cons_append, List.nil_append, true_and]
  rw [rep_flat, ← List.replicate_succ, partV_full _ f]
  refine SW.enter (n := 90) (l := [(0, .list 1 (strL x)), (1, .list 1 (strL y)), (5, .val (.slice (some ⟨q, 0, none⟩) (n + 1) (n + 1)))]) (H := h.put q (.cells 136 ((n + 1) * 1) (partV (.val (.slice none 0 0)) f (n + 1) (n + 1)))) rfl (.refl _ _) (by simp only [hasAll, AS.get, Lift.look, Nat.succ_ne_zero, ↓reduceIte, Option.getD_some, Nat.reduceEqDiff, reduceCtorEq, and_self]) ?_
  refine SW.seq (SW.run [] _ ?_)
  simp only [wpC, Bool.false_eq_true, ↓reduceIte, wpS, stops, wantedA, okDst, Nat.reduceLT, decide_true, step1, isOwnCall, hxOp, px, AS.eval, AS.get, Lift.look, reduceCtorEq, Nat.reduceEqDiff, Option.getD_some, AS.put, dropKey, Nat.succ_ne_zero, pcall, ty43, plen, strL_len, ← hn, okLen, and_self, ← hm, isFlt, ty3, isNilC, pbinP, ofConst, ofVal, pbinI, hwm, true_and]
  refine SWO.make 136 (.tmp 17) (.tmp 17) rfl ty136 rfl ty135 rfl rfl (by decide) (n := m + 1) rfl rfl (by simp; omega) (by omega) rfl rfl fun r hr => ?_
  have hr : h.put q _ r = none := hr
  have hrq : ¬ r = q := ((Heap.put_none _ _ _ _).1 hr).1
  have hqr : ¬ q = r := fun e => hrq e.symm
  have hr0 : h r = none := ((Heap.put_none _ _ _ _).1 hr).2
  have hpl := partV_len (.val (.slice none 0 0)) f (Nat.le_refl (n + 1))
  refine SWO.run [] 1000 ?_
  simp only [wpS, stops, Bool.false_eq_true, ↓reduceIte, wantedA, okDst, AS.put, dropKey, Nat.reduceEqDiff, reduceCtorEq, Nat.reduceLT, decide_true, step1, isOwnCall, hxOp, px, pindexAddr, ty132, ty136, AS.eval, AS.get, Lift.look, Option.getD_some, Int.natCast_nonneg, true_and, Int.toNat_natCast, Nat.zero_add, Lift.hx, List.replicate, List.map_cons, ofVal, List.map_nil, List.flatten_cons, List.cons_append, List.nil_append, Heap.get_put, hqr, known1, PV.cells, List.length_cons, List.length_nil, hpl, Nat.reduceLeDiff, splice, thenQ]
  refine ⟨by omega, by omega, ?_⟩
  rw [rep_flat, ← List.replicate_succ, partV_set _ _ (by omega), Heap.put_comm _ _ _ hqr, Heap.put_put, Heap.put_comm _ _ _ hrq]
  have ow : Own (h.put q (.cells 136 ((n + 1) * 1) (List.replicate n (.val (.slice none 0 0)) ++ .val (.slice (some ⟨r, 0, none⟩) (m + 1) (m + 1)) :: ((List.range (n + 1)).drop (n + 1)).map f))) 135 1 (rowV .i16 x y n) (.val (.slice (some ⟨r, 0, none⟩) (m + 1) (m + 1))) ((h.put q (.cells 136 ((n + 1) * 1) (List.replicate n (.val (.slice none 0 0)) ++ .val (.slice (some ⟨r, 0, none⟩) (m + 1) (m + 1)) :: ((List.range (n + 1)).drop (n + 1)).map f))).put r (.cells 135 ((m + 1) * 1) (List.replicate (m + 1) (.int .i16 0)))) := by
    refine own_row ((Heap.put_none _ _ _ _).2 ⟨hrq, hr0⟩) (by rw [rowV_len, hm]) (map1_wide _ _) ?_ (by simp [maxLen]; omega)
    unfold rowV
    rw [map1_flat, ← hm]
    apply List.ext_getElem
    · simp
    · intro j h1 h2
      simp [tabT_end x y (.inl (Nat.le_of_eq hn.symm))]
  refine SW.ownAt q ow (Heap.put_same _ _ _) ?_
  rw [Heap.put_put, show PV.list 1 (rowV .i16 x y n) = f n by rw [hf], partV_cons _ _ (by omega)]
  clear ow hr hrq hqr hr0 hpl
  refine SW.enter (n := 90) (l := [(0, .list 1 (strL x)), (1, .list 1 (strL y)), (5, .val (.slice (some ⟨q, 0, none⟩) (n + 1) (n + 1)))]) (H := h.put q (.cells 136 ((n + 1) * 1) (partV (.val (.slice none 0 0)) f (n + 1) n))) rfl (.refl _ _) (by simp only [hasAll, AS.get, Lift.look, Nat.succ_ne_zero, ↓reduceIte, Option.getD_some, Nat.reduceEqDiff, reduceCtorEq, and_self]) ?_
  refine SW.seq (SW.run [] _ ?_)
  simp only [wpC, mayStop, stops, isFlt, Specs.has, Specs.hasO, Bool.or_false, Specs.hasH, Bool.not_false, List.any_cons, ty3, List.any_nil, Bool.false_eq_true, ↓reduceIte, wpS, wantedA, okDst, Nat.reduceLT, decide_true, step1, isOwnCall, hxOp, px, AS.eval, AS.get, Lift.look, Option.getD_some, AS.put, dropKey, reduceCtorEq, Nat.reduceEqDiff, pcall, ty43, plen, strL_len, ← hn, okLen, and_self, isNilC, pbinP, ofConst, ofVal, pbinI, hwn1, thenQ, true_and]
  refine SW.loopK 90 (fun b : Nat => [(0, .list 1 (strL x)), (1, .list 1 (strL y)), (5, .val (.slice (some ⟨q, 0, none⟩) (n + 1) (n + 1))), (6, .int .i64 ((b : Nat) - 1))]) (fun b => h.put q (.cells 136 ((n + 1) * 1) (partV (.val (.slice none 0 0)) f (n + 1) b))) (fun b => b ≤ n) (fun b => b) n (Nat.le_refl _) ?_ ?_
  · simp only [Has, hasAll, AS.get, Lift.look, Nat.succ_ne_zero, ↓reduceIte, Option.getD_some, Nat.reduceEqDiff, reduceCtorEq, and_self]
  intro b hb
  refine SW.seq (SW.run [] _ ?_)
  cases b with
  | zero =>
    simp only [wpC, mayStop, stops, isFlt, Specs.has, Specs.hasO, Bool.or_false, Specs.hasH, Bool.not_false, List.any_cons, List.any_nil, Bool.false_eq_true, ↓reduceIte, wpS, wantedA, okDst, Nat.reduceLT, decide_true, step1, isOwnCall, hxOp, px, AS.eval, AS.get, Lift.look, reduceCtorEq, Nat.reduceEqDiff, Int.cast_ofNat_Int, Int.reduceSub, Option.getD_some, AS.put, dropKey, isNilC, pbinP, ofConst, ofVal, pbinI, Int.reduceLE, decide_false, thenQ, isB, tmpOf, asB, inQ, true_and]
    have ow : Own h 136 1 (tabV .i16 x y) (.val (.slice (some ⟨q, 0, none⟩) (n + 1) (n + 1))) (h.put q (.cells 136 ((n + 1) * 1) (partV (.val (.slice none 0 0)) f (n + 1) 0))) := by
      refine own_row hq (by rw [tabV_len, hn]) (map1_wide _ _) ?_ (by simp [maxLen]; omega)
      unfold tabV
      rw [map1_flat, partV_zero, ← hn, hf]
    refine SW.own_let 5 rfl ow ?_
    refine SW.run [] _ ?_
    simp only [wpC, mayStop, stops, isFlt, Specs.has, Specs.hasO, Bool.or_false, Specs.hasH, Bool.not_false, List.any_cons, List.any_nil, Bool.false_eq_true, ↓reduceIte, wpS, wantedA, okDst, AS.put, dropKey, Nat.reduceEqDiff, reduceCtorEq, Nat.reduceLT, decide_true, step1, isOwnCall, hxOp, px, AS.eval, AS.get, Lift.look, Option.getD_some, thenQ, RPost, sres, Tryz.results100, sresL, sres1, Option.some.injEq, Ret_fin, HTo_self, and_true, exists_eq_left', and_self]
  | succ i =>
    have ei : (((i + 1 : Nat) : Int) - 1) = ((i : Nat) : Int) := by omega
    have hge : (0 : Int) ≤ ((i : Nat) : Int) := by omega
    rw [ei]
    simp only [wpC, mayStop, stops, isFlt, Specs.has, Specs.hasO, Bool.or_false, Specs.hasH, Bool.not_false, List.any_cons, List.any_nil, Bool.false_eq_true, ↓reduceIte, wpS, wantedA, okDst, Nat.reduceLT, decide_true, step1, isOwnCall, hxOp, px, AS.eval, AS.get, Lift.look, reduceCtorEq, Nat.reduceEqDiff, Option.getD_some, AS.put, dropKey, isNilC, pbinP, ofConst, ofVal, pbinI, hge, thenQ, isB, tmpOf, asB, Has, hasAll, and_true, true_and]
    refine SW.seq (SW.block (SW.seq (SW.run [] _ ?_)))
    simp only [wpC, Bool.false_eq_true, ↓reduceIte, wpS, stops, wantedA, okDst, Nat.reduceLT, decide_true, step1, isOwnCall, hxOp, px, AS.eval, AS.get, Lift.look, Nat.reduceEqDiff, reduceCtorEq, Option.getD_some, AS.put, dropKey, pcall, ty43, plen, strL_len, ← hm, okLen, and_self, isFlt, ty3, isNilC, pbinP, ofConst, ofVal, pbinI, hwm, true_and]
    refine SWO.make 136 (.tmp 31) (.tmp 31) rfl ty136 rfl ty135 rfl rfl (by decide) (n := m + 1) rfl rfl (by simp; omega) (by omega) rfl rfl fun r hr => ?_
    have hr : h.put q _ r = none := hr
    have hrq : ¬ r = q := ((Heap.put_none _ _ _ _).1 hr).1
    have hqr : ¬ q = r := fun e => hrq e.symm
    have hr0 : h r = none := ((Heap.put_none _ _ _ _).1 hr).2
    have hpl := partV_len (.val (.slice none 0 0)) f (k := i + 1) (N := n + 1) (by omega)
    refine SWO.run [] 1000 ?_
    simp only [wpS, stops, Bool.false_eq_true, ↓reduceIte, wantedA, okDst, AS.put, dropKey, Nat.reduceEqDiff, reduceCtorEq, Nat.reduceLT, decide_true, step1, isOwnCall, hxOp, px, pindexAddr, ty132, ty136, AS.eval, AS.get, Lift.look, Option.getD_some, Int.natCast_nonneg, true_and, Int.toNat_natCast, Nat.zero_add, Lift.hx, List.replicate, List.map_cons, ofVal, List.map_nil, List.flatten_cons, List.cons_append, List.nil_append, Heap.get_put, hqr, known1, PV.cells, List.length_cons, List.length_nil, hpl, Nat.reduceLeDiff, splice, thenQ]
    refine ⟨by omega, by omega, ?_⟩
    rw [rep_flat, ← List.replicate_succ, partV_set _ _ (by omega), Heap.put_comm _ _ _ hqr, Heap.put_put, Heap.put_comm _ _ _ hrq]
    obtain ⟨C, hC⟩ : ∃ C, C = List.replicate i (PV.val (.slice none 0 0)) ++ .val (.slice (some ⟨r, 0, none⟩) (m + 1) (m + 1)) :: ((List.range (n + 1)).drop (i + 1)).map f := ⟨_, rfl⟩
    obtain ⟨g, hg⟩ : ∃ g : Nat → PV, g = fun j => .int .i16 (tabT x y i j : Nat) := ⟨_, rfl⟩
    have hC1 : (C.drop (i * 1)).take 1 = [.val (.slice (some ⟨r, 0, none⟩) (m + 1) (m + 1))] := by rw [hC]; exact mid_at i
    have hC2 : (C.drop ((i + 1) * 1)).take 1 = [.list 1 (rowV .i16 x y (i + 1))] := by rw [hC, mid_next (by omega), hf]
    have hCl : C.length = n + 1 := by rw [hC]; exact mid_len (by omega)
    have hrow0 : List.replicate (m + 1) (PV.int .i16 0) = partV (.int .i16 0) g (m + 1) m := by
      rw [← partV_cons _ _ (by omega), hg]
      simp only [tabT_end x y (i := i) (k := m) (.inr (Nat.le_of_eq hm.symm))]
      rw [List.drop_eq_nil_of_le (by simp), List.map_nil, List.replicate_succ']
      rfl
    rw [← hC, hrow0]
    refine SW.seq (SW.run [] _ ?_)
    simp only [wpC, Bool.false_eq_true, ↓reduceIte, wpS, stops, wantedA, okDst, Nat.reduceLT, decide_true, step1, isOwnCall, hxOp, px, AS.eval, AS.get, Lift.look, Nat.reduceEqDiff, reduceCtorEq, Option.getD_some, AS.put, dropKey, pcall, ty43, plen, strL_len, ← hm, okLen, and_self, isFlt, ty3, isNilC, pbinP, ofConst, ofVal, pbinI, hwm1, thenQ, true_and]
    have hwi : IntKind.i64.wrap (((i : Nat) : Int) + 1) = ((i + 1 : Nat) : Int) := by rw [w64 (by omega) (by omega)]; rfl
    have hix : i < x.length := by omega
    have hgx := strL_at hix
    refine SW.block (SW.loopK 90 (fun b : Nat => [(0, .list 1 (strL x)), (1, .list 1 (strL y)), (5, .val (.slice (some ⟨q, 0, none⟩) (n + 1) (n + 1))), (6, .int .i64 (i : Nat)), (7, .int .i64 ((b : Nat) - 1))]) (fun b => (h.put q (.cells 136 ((n + 1) * 1) C)).put r (.cells 135 ((m + 1) * 1) (partV (.int .i16 0) g (m + 1) b))) (fun b => b ≤ m) (fun b => b) m (Nat.le_refl _) ?_ ?_)
    · simp only [Has, hasAll, AS.get, Lift.look, Nat.succ_ne_zero, ↓reduceIte, Option.getD_some, Nat.reduceEqDiff, reduceCtorEq, and_self]
    intro b hb
    refine SW.seq (SW.run [] _ ?_)
    cases b with
    | zero =>
      simp only [wpC, mayStop, stops, isFlt, Specs.has, Specs.hasO, Bool.or_false, Specs.hasH, Bool.not_false, List.any_cons, List.any_nil, Bool.false_eq_true, ↓reduceIte, wpS, wantedA, okDst, Nat.reduceLT, decide_true, step1, isOwnCall, hxOp, px, AS.eval, AS.get, Lift.look, reduceCtorEq, Nat.reduceEqDiff, Int.cast_ofNat_Int, Int.reduceSub, Option.getD_some, AS.put, dropKey, isNilC, pbinP, ofConst, ofVal, pbinI, Int.reduceLE, decide_false, thenQ, isB, tmpOf, asB, inQ, true_and]
      have ow : Own (h.put q (.cells 136 ((n + 1) * 1) (List.replicate i (.val (.slice none 0 0)) ++ .val (.slice (some ⟨r, 0, none⟩) (m + 1) (m + 1)) :: ((List.range (n + 1)).drop (i + 1)).map f))) 135 1 (rowV .i16 x y i) (.val (.slice (some ⟨r, 0, none⟩) (m + 1) (m + 1))) ((h.put q (.cells 136 ((n + 1) * 1) (List.replicate i (.val (.slice none 0 0)) ++ .val (.slice (some ⟨r, 0, none⟩) (m + 1) (m + 1)) :: ((List.range (n + 1)).drop (i + 1)).map f))).put r (.cells 135 ((m + 1) * 1) (partV (.int .i16 0) g (m + 1) 0))) := by
        refine own_row ((Heap.put_none _ _ _ _).2 ⟨hrq, hr0⟩) (by rw [rowV_len, hm]) (map1_wide _ _) ?_ (by simp [maxLen]; omega)
        unfold rowV
        rw [map1_flat, partV_zero, ← hm, hg]
      rw [hC]
      refine SW.ownAt q ow (Heap.put_same _ _ _) ?_
      rw [Heap.put_put, show PV.list 1 (rowV .i16 x y i) = f i by rw [hf], partV_cons _ _ (by omega)]
      have hwd : IntKind.i64.wrap (((i : Nat) : Int) - 1) = ((i : Nat) : Int) - 1 := by rw [w64 (by omega) (by omega)]
      refine SW.run [] _ ?_
      simp only [wpC, Bool.false_eq_true, ↓reduceIte, wpS, stops, wantedA, okDst, Nat.reduceLT, decide_true, step1, isOwnCall, hxOp, px, AS.eval, AS.get, Lift.look, Nat.reduceEqDiff, reduceCtorEq, Option.getD_some, isFlt, ty3, AS.put, dropKey, isNilC, pbinP, ofConst, ofVal, pbinI, hwd, thenQ, Nat.succ_ne_zero, true_and]
      exact ⟨i, by omega, by omega, rfl, rfl⟩
    | succ c =>
      have ec : (((c + 1 : Nat) : Int) - 1) = ((c : Nat) : Int) := by omega
      have hge2 : (0 : Int) ≤ ((c : Nat) : Int) := by omega
      have hcy : c < y.length := by omega
      have hgy := strL_at hcy
      have hwc : IntKind.i64.wrap (((c : Nat) : Int) + 1) = ((c + 1 : Nat) : Int) := by rw [w64 (by omega) (by omega)]; rfl
      have hwd : IntKind.i64.wrap (((c : Nat) : Int) - 1) = ((c : Nat) : Int) - 1 := by rw [w64 (by omega) (by omega)]
      have hst := tabT_step hix hcy
      have hRl := partV_len (.int .i16 0) g (k := c + 1) (N := m + 1) (by omega)
      have hR1 := partV_get (.int .i16 0) g (k := c + 1) (j := c + 1) (N := m + 1) (Nat.le_refl _) (by omega)
      have hN1 := rowV_at .i16 (x := x) (y := y) (i + 1) (j := c + 1) (by omega)
      have hN0 := rowV_at .i16 (x := x) (y := y) (i + 1) (j := c) (by omega)
      have hNl := rowV_len .i16 x y (i + 1)
      have hT := tabT_le x y (i + 1) (c + 1)
      have b1 : ((c + 1 : Nat) : Int) < ((m + 1 : Nat) : Int) := by omega
      have b2 : ((c : Nat) : Int) < ((m + 1 : Nat) : Int) := by omega
      have b3 : ((i + 1 : Nat) : Int) < ((n + 1 : Nat) : Int) := by omega
      have b4 : ((i : Nat) : Int) < ((n + 1 : Nat) : Int) := by omega
      have b5 : i * 1 + 1 ≤ n + 1 := by omega
      have b6 : (i + 1) * 1 + 1 ≤ n + 1 := by omega
      have b7 : c * 1 + 1 ≤ m + 1 := by omega
      have b8 : (c + 1) * 1 + 1 ≤ m + 1 := by omega
      rw [ec]
      simp only [wpC, mayStop, stops, isFlt, Specs.has, Specs.hasO, Bool.or_false, Specs.hasH, Bool.not_false, List.any_cons, List.any_nil, Bool.false_eq_true, ↓reduceIte, wpS, wantedA, okDst, Nat.reduceLT, decide_true, step1, isOwnCall, hxOp, px, AS.eval, AS.get, Lift.look, reduceCtorEq, Nat.reduceEqDiff, Option.getD_some, AS.put, dropKey, isNilC, pbinP, ofConst, ofVal, pbinI, hge2, thenQ, isB, tmpOf, asB, Has, hasAll, and_true, true_and]
      refine SW.seq (SW.block (SW.seq (SW.regionAny [] [[0, 1, 2, 3, 4, 5, 6, 7, 8]] rfl (by rfl) (by kernel_rfl) ?_)))
      simp only [wpOL, wpO, LOp, List.getElem?_toArray, List.getElem?_cons_zero, okDst, Nat.reduceLT, decide_true, wantedA, ↓reduceIte, step1, isOwnCall, Bool.false_eq_true, hxOp, px, AS.eval, AS.get, Lift.look, Nat.succ_ne_zero, Option.getD_some, List.getElem?_cons_succ, AS.put, dropKey, Nat.reduceEqDiff, reduceCtorEq, pindexAddr, ty43, ty9, ne_eq, not_false_eq_true, Int.natCast_nonneg, Int.toNat_natCast, strL_len, hix, and_self, hgx, pload, okOne, TK.isAgg, beq_self_eq_true, Bool.or_true, List.length_cons, List.length_nil, Nat.zero_add, Nat.le_refl, Lift.valOf, List.take_succ_cons, List.take_nil, List.getD_cons_zero, hcy, hgy, isNilC, pbinP, pbinS, thenQ, true_and]
      have hR1 : ((partV (.int .i16 0) g (m + 1) (c + 1)).drop ((c + 1) * 1)).take 1 = [.int .i16 (tabT x y i (c + 1) : Nat)] := by rw [hR1, hg]
      cases e : (x[i] == y[c])
      · have e2 : x[i] ≠ y[c] := by simpa using e
        rw [if_neg e2] at hst
        refine SW.run [] _ ?_
        simp only [wpC, isB, AS.get, Lift.look, tmpOf, ↓reduceIte, Option.getD_some, asB, Bool.false_eq_true, true_and]
        refine SW.regionAny [] [[0, 1, 2, 3, 4, 5, 6, 7, 8, 9, 10, 11, 12, 13, 14, 15, 16, 17, 18, 19, 20, 21, 22, 23]] rfl (by rfl) (by kernel_rfl) ?_
        simp only [wpOL, wpO, LOp, List.getElem?_toArray, List.getElem?_cons_zero, okDst, Nat.reduceLT, decide_true, wantedA, ↓reduceIte, step1, isOwnCall, Bool.false_eq_true, hxOp, px, AS.eval, AS.get, Lift.look, Nat.reduceEqDiff, reduceCtorEq, Option.getD_some, List.getElem?_cons_succ, AS.put, dropKey, pindexAddr, ty132, ty136, Int.natCast_nonneg, b4, and_self, Int.toNat_natCast, Nat.zero_add, pload, Heap.get_put, hqr, okOne, TK.isAgg, beq_self_eq_true, Bool.or_true, hCl, b5, Lift.valOf, hC1, List.getD_cons_zero, isNilC, pbinP, ofConst, ofVal, pbinI, hwi, b3, b6, hC2, ty135, ne_eq, Nat.succ_ne_zero, not_false_eq_true, hNl, ← hm, true_and, hN0, List.length_cons, List.length_nil, Nat.le_refl, List.take_succ_cons, List.take_nil, hwc, b1, hRl, b8, hR1, pcall, b2, Lift.hx, known1, PV.cells, b7, splice, inQ, thenQ]
        rw [Heap.put_put, partV_set _ _ (by omega), max_int, ← hst, show PV.int .i16 (tabT x y i c : Nat) = g c by rw [hg], partV_cons _ _ (by omega)]
        refine ⟨by omega, ?_⟩
        refine SW.run [] _ ?_
        simp only [wpC, Bool.false_eq_true, ↓reduceIte, wpS, stops, wantedA, okDst, Nat.reduceLT, decide_true, step1, isOwnCall, hxOp, px, AS.eval, AS.get, Lift.look, Nat.reduceEqDiff, reduceCtorEq, Option.getD_some, isFlt, ty3, AS.put, dropKey, isNilC, pbinP, ofConst, ofVal, pbinI, hwd, thenQ, Nat.succ_ne_zero, true_and]
        exact ⟨c, by omega, by omega, rfl, rfl⟩
      · have e2 : x[i] = y[c] := by simpa using e
        rw [if_pos e2] at hst
        refine SW.run [] _ ?_
        simp only [wpC, isB, AS.get, Lift.look, tmpOf, ↓reduceIte, Option.getD_some, asB, true_and]
        have hwt : IntKind.i16.wrap ((tabT x y (i + 1) (c + 1) : Nat) + 1) = ((tabT x y i c : Nat) : Int) := by rw [wi16 (by omega) (by omega), hst]; rfl
        refine SW.regionAny [] [[0, 1, 2, 3, 4, 5, 6, 7, 8, 9, 10, 11, 12, 13, 14, 15, 16]] rfl (by rfl) (by kernel_rfl) ?_
        simp only [wpOL, wpO, LOp, List.getElem?_toArray, List.getElem?_cons_zero, okDst, Nat.reduceLT, decide_true, wantedA, ↓reduceIte, step1, isOwnCall, Bool.false_eq_true, hxOp, px, AS.eval, AS.get, Lift.look, Nat.reduceEqDiff, reduceCtorEq, Option.getD_some, List.getElem?_cons_succ, AS.put, dropKey, pindexAddr, ty132, ty136, Int.natCast_nonneg, b4, and_self, Int.toNat_natCast, Nat.zero_add, pload, Heap.get_put, hqr, okOne, TK.isAgg, beq_self_eq_true, Bool.or_true, hCl, b5, Lift.valOf, hC1, List.getD_cons_zero, isNilC, pbinP, ofConst, ofVal, pbinI, hwi, b3, b6, hC2, hwc, ty135, ne_eq, Nat.succ_ne_zero, not_false_eq_true, hNl, ← hm, true_and, hN1, List.length_cons, List.length_nil, Nat.le_refl, List.take_succ_cons, List.take_nil, hwt, b2, Lift.hx, known1, PV.cells, hRl, b7, splice, inQ, thenQ]
        rw [Heap.put_put, partV_set _ _ (by omega), show PV.int .i16 (tabT x y i c : Nat) = g c by rw [hg], partV_cons _ _ (by omega)]
        refine ⟨by omega, ?_⟩
        refine SW.run [] _ ?_
        simp only [wpC, Bool.false_eq_true, ↓reduceIte, wpS, stops, wantedA, okDst, Nat.reduceLT, decide_true, step1, isOwnCall, hxOp, px, AS.eval, AS.get, Lift.look, Nat.reduceEqDiff, reduceCtorEq, Option.getD_some, isFlt, ty3, AS.put, dropKey, isNilC, pbinP, ofConst, ofVal, pbinI, hwd, thenQ, Nat.succ_ne_zero, true_and]
        exact ⟨c, by omega, by omega, rfl, rfl⟩
def sLengths : List PV → Prop × PV
  | [.list 1 xs, .list 1 ys] => match unS xs with
    | some x => match unS ys with
      | some y => (x.length ≤ 1000 ∧ y.length ≤ 1000, .list 1 (tabV .i16 x y))
      | none => PBad
    | none => PBad
  | _ => PBad
noncomputable def eLengths : SpecE env := ⟨100, sLengths, fun args h hc => by
  unfold sLengths at hc ⊢
  split at hc
  · split at hc
    · rename_i a ha
      split at hc
      · rename_i b hb; rw [unS_spec ha, unS_spec hb]; exact .inl (Lengths_ok a b hc.1 hc.2 h)
      · exact hc.elim
    · exact hc.elim
  · exact hc.elim⟩
end Go.Proofs.YtincpomenogppaaGreatDoor
