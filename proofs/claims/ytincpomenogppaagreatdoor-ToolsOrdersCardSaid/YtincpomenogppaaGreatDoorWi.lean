/- Contracts of functions that the law reaches. -/
import Derived.Test.YtincpomenogppaaGreatDoorWh
set_option linter.unusedSimpArgs false
set_option linter.unusedVariables false
namespace Go.Proofs.YtincpomenogppaaGreatDoor
open Go Go.RowKit Go.Proofs.YtincpomenogppaaGreatDoor Go.Proofs.YtincpomenogppaaGreatDoor.Lift
set_option maxRecDepth 100000

def contL (ls : List (List UInt8)) : List (List UInt8) := ls.map fun l => cutS l [10]
def halfL (ls : List (List UInt8)) (i : Nat) : List (List UInt8) := contL (ls.take i) ++ ls.drop i
theorem halfL_len (ls : List (List UInt8)) (i : Nat) : (halfL ls i).length = ls.length := by
  unfold halfL contL
  rw [List.length_append, List.length_map, ← List.length_append, List.take_append_drop]
theorem halfL_at {ls : List (List UInt8)} {i : Nat} (h : i < ls.length) : (halfL ls i)[i]'(by rw [halfL_len]; exact h) = ls[i] := by
  have hl : (contL (ls.take i)).length = i := by unfold contL; rw [List.length_map, List.length_take]; omega
  unfold halfL
  rw [List.getElem_append_right (by omega)]
  simp [hl]
theorem halfL_set {ls : List (List UInt8)} {i : Nat} (h : i < ls.length) : (halfL ls i).set i (cutS ls[i] [10]) = halfL ls (i + 1) := by
  have hl : (contL (ls.take i)).length = i := by unfold contL; rw [List.length_map, List.length_take]; omega
  unfold halfL
  rw [List.set_append_right _ _ (by omega), hl, Nat.sub_self, List.drop_eq_getElem_cons h, List.set_cons_zero, List.take_succ_eq_append_getElem h]
  unfold contL
  rw [List.map_append, List.append_assoc]
  rfl
theorem halfL_get {ls : List (List UInt8)} {i : Nat} (h : i < ls.length) : ((List.map PV.str (halfL ls i)).drop (i * 1)).take 1 = [.str ls[i]] := by
  have h2 : i < (List.map PV.str (halfL ls i)).length := by rw [List.length_map, halfL_len]; exact h
  rw [Nat.mul_one, List.drop_eq_getElem_cons h2, List.take_succ_cons, List.take_zero, List.getElem_map, halfL_at h]
theorem halfL_put {ls : List (List UInt8)} {i : Nat} (h : i < ls.length) : List.take (i * 1) (List.map PV.str (halfL ls i)) ++ [.str (cutS ls[i] [10])] ++ List.drop (i * 1 + 1) (List.map PV.str (halfL ls i)) = List.map PV.str (halfL ls (i + 1)) := by
  have h2 : i < (List.map PV.str (halfL ls i)).length := by rw [List.length_map, halfL_len]; exact h
  rw [Nat.mul_one, ← halfL_set h, List.map_set, List.set_eq_take_append_cons_drop, if_pos h2, List.append_assoc]
  rfl
theorem linesOf_short {s l : List UInt8} (h : l ∈ linesOf s) : l.length ≤ s.length := by
  have := (List.sublist_flatten_of_mem h).length_le
  rwa [linesOf_flat] at this
set_option maxHeartbeats 4000000 in
theorem ContentsO_ok (s : List UInt8) (hs : s.length ≤ 1000000) (h : Heap) : SCalls env 79 [.str s] h (fun e h' => ∃ u, e = .ret u ∧ Own h 9 1 (strL (contL (linesOf s))) u h') := by
  refine SCalls.body Tryz.func79 rfl rfl (by simp [Tryz.ntmps79]) ?_
  have hll := linesOf_len s
  refine SW.seq (SW.run [] _ ?_)
  simp only [wpC, Bool.false_eq_true, ↓reduceIte, wpS, stops, wantedA, okDst, Tryz.ntmps79, Nat.reduceLT, decide_true, step1, isOwnCall, hxOp, px, AS.eval, ofConst, ofVal, thenQ, AS.put, enumA, dropKey, reduceCtorEq, true_and]
  refine SW.seq (SW.run [] _ ?_)
  simp only [wpC, Bool.false_eq_true, ↓reduceIte, wpS, stops, wantedA, okDst, Nat.reduceLT, decide_true, step1, isOwnCall, hxOp, px, AS.eval, AS.get, Lift.look, Nat.succ_ne_zero, Option.getD_some, Specs.has, Specs.hasO, Bool.or_false, Specs.hasH, Bool.not_false, AS.put, dropKey, Nat.reduceEqDiff, reduceCtorEq, true_and]
  refine SWO.call (.func 41) #[.tmp 5] _ 41 #[] #[] rfl rfl rfl rfl rfl rfl (LinesO_ok s hs h) rfl rfl ?_ (fun c h' hc => by obtain ⟨_, hc, _⟩ := hc; cases hc)
  rintro v h1 ⟨u, e1, ow⟩
  injection e1 with e1
  subst e1
  have hlt : ∀ l ∈ linesOf s, l.length ≤ 9000000000000000000 := fun l hl => by have := linesOf_short hl; omega
  generalize linesOf s = ls at hll hlt ow ⊢
  refine SWO.run [] 1000 ?_
  rcases ow with ⟨rfl, e2, rfl⟩ | ⟨r, cap, rfl, h2, h3, h4, rfl, h6⟩
  · have hx : ls = [] := List.map_eq_nil_iff.1 e2
    subst hx
    simp only [wpS, stops, Bool.false_eq_true, ↓reduceIte, wantedA, okDst, AS.put, dropKey, Nat.reduceEqDiff, reduceCtorEq, Nat.reduceLT, decide_true, step1, isOwnCall, hxOp, px, AS.eval, AS.get, Lift.look, Option.getD_some, thenQ, true_and]
    refine SW.seq (SW.seq (SW.run [] _ ?_))
    simp only [wpC, Bool.false_eq_true, ↓reduceIte, wpS, stops, wantedA, okDst, Nat.reduceLT, decide_true, step1, isOwnCall, hxOp, px, AS.eval, AS.get, Lift.look, Option.getD_some, AS.put, dropKey, Nat.reduceEqDiff, reduceCtorEq, pcall, ty43, plen, okLen, and_self, Int.cast_ofNat_Int, ofConst, ofVal, thenQ, true_and]
    refine SW.block (SW.loopK 22 (fun _ : Nat => [(3, .val (.slice none 0 0)), (8, .int .i64 0), (9, .int .i64 0)]) (fun _ => h1) (fun i => True) (fun i => i) 0 trivial ?_ ?_)
    · simp only [Has, hasAll, AS.get, Lift.look, Nat.reduceEqDiff, ↓reduceIte, Option.getD_some, and_self]
    intro i _
    refine SW.seq (SW.run [] _ ?_)
    simp only [wpC, Bool.false_eq_true, ↓reduceIte, wpS, stops, wantedA, okDst, Nat.reduceLT, decide_true, step1, isOwnCall, hxOp, px, isNilC, pbinP, AS.eval, AS.get, Lift.look, Nat.reduceEqDiff, Option.getD_some, pbinI, Int.reduceLT, decide_false, thenQ, Has, hasAll, and_true, true_and, AS.put, dropKey]
    refine SW.seq (SW.run [] _ ?_)
    simp only [wpC, isB, AS.get, Lift.look, tmpOf, ↓reduceIte, Option.getD_some, asB, Bool.false_eq_true, thenQ, inQ, true_and]
    refine SW.run [] _ ?_
    simp only [wpC, mayStop, stops, isFlt, Specs.has, Specs.hasO, Bool.or_false, Specs.hasH, Bool.not_false, List.any_cons, List.any_nil, Bool.false_eq_true, ↓reduceIte, wpS, wantedA, okDst, Nat.reduceLT, decide_true, step1, isOwnCall, hxOp, px, AS.eval, AS.get, Lift.look, Nat.reduceEqDiff, Option.getD_some, AS.put, dropKey, thenQ, RPost, sres, Tryz.results79, sresL, sres1, Option.some.injEq, exists_eq_left', true_and]
    exact ⟨_, .refl _ _, _, rfl, Own.nil _ _ _⟩
  · rw [strL_len] at h2
    rw [strL_len, strL_flat]
    simp only [wpS, stops, Bool.false_eq_true, ↓reduceIte, wantedA, okDst, AS.put, dropKey, Nat.reduceEqDiff, reduceCtorEq, Nat.reduceLT, decide_true, step1, isOwnCall, hxOp, px, AS.eval, AS.get, Lift.look, Option.getD_some, thenQ, true_and]
    refine SW.seq (SW.seq (SW.run [] _ ?_))
    simp only [wpC, Bool.false_eq_true, ↓reduceIte, wpS, stops, wantedA, okDst, Nat.reduceLT, decide_true, step1, isOwnCall, hxOp, px, AS.eval, AS.get, Lift.look, Option.getD_some, AS.put, dropKey, Nat.reduceEqDiff, reduceCtorEq, pcall, ty43, plen, okLen, and_self, ofConst, ofVal, thenQ, true_and]
    refine SW.block (SW.loopK 22 (fun i : Nat => [(3, .val (.slice (some ⟨r, 0, none⟩) ls.length cap)), (8, .int .i64 (ls.length : Nat)), (9, .int .i64 (i : Nat))]) (fun i => h.put r (.cells 9 (cap * 1) ((halfL ls i).map PV.str))) (fun i => i ≤ ls.length) (fun i => ls.length - i) 0 (Nat.zero_le _) ?_ ?_)
    · simp only [Has, hasAll, AS.get, Lift.look, Nat.reduceEqDiff, ↓reduceIte, Option.getD_some, Int.cast_ofNat_Int, and_self, and_true, true_and]
      rfl
    intro i hi
    refine SW.seq (SW.run [] _ ?_)
    by_cases hlt2 : i < ls.length
    · have hw : IntKind.i64.wrap ((i : Int) + 1) = ((i + 1 : Nat) : Int) := by rw [w64 (by omega) (by omega)]; rfl
      have hl9 := hlt _ (List.getElem_mem hlt2)
      have hget := halfL_get hlt2
      have hput := halfL_put hlt2
      have hlen := halfL_len ls i
      have hle : i * 1 + 1 ≤ ls.length := by omega
      simp only [wpC, Bool.false_eq_true, ↓reduceIte, wpS, stops, wantedA, okDst, Nat.reduceLT, decide_true, step1, isOwnCall, hxOp, px, isNilC, pbinP, AS.eval, AS.get, Lift.look, Nat.reduceEqDiff, Option.getD_some, pbinI, Int.ofNat_lt, hlt2, thenQ, Has, hasAll, and_true, AS.put, dropKey, true_and]
      refine SW.seq (SW.run [] _ ?_)
      simp only [wpC, isB, AS.get, Lift.look, tmpOf, ↓reduceIte, Option.getD_some, asB, thenQ, true_and]
      refine SW.seq (SW.block (SW.seq (SW.run [] _ ?_)))
      simp only [wpC, Bool.false_eq_true, ↓reduceIte, wpS, stops, wantedA, okDst, Nat.reduceLT, decide_true, step1, isOwnCall, hxOp, px, AS.eval, AS.get, Lift.look, Nat.reduceEqDiff, Option.getD_some, AS.put, dropKey, thenQ, true_and]
      refine SW.run [eTrimSuffix] _ ?_
      simp only [wpC, Bool.false_eq_true, ↓reduceIte, wpS, stops, wantedA, okDst, Nat.reduceLT, decide_true, step1, isOwnCall, hxOp, px, AS.eval, AS.get, Lift.look, Nat.reduceEqDiff, Option.getD_some, AS.put, dropKey, pindexAddr, ty43, ty9, Int.natCast_nonneg, Int.ofNat_lt, hlt2, and_self, Int.toNat_natCast, Nat.zero_add, pload, Heap.get_put, okOne, TK.isAgg, beq_self_eq_true, Bool.or_true, List.length_map, hlen, hle, Lift.valOf, hget, List.getD_cons_zero, Specs.has, eTrimSuffix, Specs.hasO, Bool.or_false, Specs.hasH, Bool.not_true, pcall, okArg, ofConst, ofVal, List.all_cons, List.all_nil, Bool.and_true, Specs.at, List.map_cons, List.map_nil, sTrimSuffix, hl9, hx, known1, PV.cells, List.length_cons, List.length_nil, splice, inQ, thenQ, true_and]
      rw [Heap.put_put, hput]
      refine SW.run [] _ ?_
      simp only [wpC, Bool.false_eq_true, ↓reduceIte, wpS, stops, isFlt, ty3, wantedA, okDst, Nat.reduceLT, decide_true, step1, isOwnCall, hxOp, px, isNilC, pbinP, AS.eval, AS.get, Lift.look, Nat.reduceEqDiff, Option.getD_some, ofConst, ofVal, pbinI, hw, AS.put, dropKey, thenQ, true_and]
      exact ⟨i + 1, by omega, by omega, rfl, rfl⟩
    · simp only [wpC, Bool.false_eq_true, ↓reduceIte, wpS, stops, wantedA, okDst, Nat.reduceLT, decide_true, step1, isOwnCall, hxOp, px, isNilC, pbinP, AS.eval, AS.get, Lift.look, Nat.reduceEqDiff, Option.getD_some, pbinI, Int.ofNat_lt, hlt2, decide_false, thenQ, Has, hasAll, and_true, AS.put, dropKey, true_and]
      have hii : ls.length ≤ i := by omega
      refine SW.seq (SW.run [] _ ?_)
      simp only [wpC, isB, AS.get, Lift.look, tmpOf, ↓reduceIte, Option.getD_some, asB, Bool.false_eq_true, thenQ, inQ, true_and]
      refine SW.run [] _ ?_
      simp only [wpC, mayStop, stops, isFlt, Specs.has, Specs.hasO, Bool.or_false, Specs.hasH, Bool.not_false, List.any_cons, List.any_nil, Bool.false_eq_true, ↓reduceIte, wpS, wantedA, okDst, Nat.reduceLT, decide_true, step1, isOwnCall, hxOp, px, AS.eval, AS.get, Lift.look, Nat.reduceEqDiff, Option.getD_some, AS.put, dropKey, thenQ, RPost, sres, Tryz.results79, sresL, sres1, Option.some.injEq, exists_eq_left', true_and]
      refine ⟨_, .refl _ _, _, rfl, .inr ⟨r, cap, ?_, ?_, h3, h4, ?_, strL_wide _⟩⟩
      · rw [strL_len]; unfold contL; rw [List.length_map]
      · rw [strL_len]; unfold contL; rw [List.length_map]; exact h2
      · rw [strL_flat]
        unfold halfL
        rw [List.take_of_length_le hii, List.drop_of_length_le hii, List.append_nil]
def runN (x : List UInt8) : List (List UInt8) → Nat
  | [] => 0
  | y :: r => if y == x then 1 + runN x r else 0
theorem runN_next {x : List UInt8} {xs : List (List UInt8)} {k : Nat} (h : k < xs.length) (hr : runN x xs = k + runN x (xs.drop k)) : (xs[k] == x) = true → runN x xs = (k + 1) + runN x (xs.drop (k + 1)) := fun e => by
  rw [hr, List.drop_eq_getElem_cons h]
  show k + (if (xs[k] == x) = true then 1 + runN x (xs.drop (k + 1)) else 0) = _
  rw [if_pos e]; omega
theorem runN_stop {x : List UInt8} {xs : List (List UInt8)} {k : Nat} (h : k < xs.length) (hr : runN x xs = k + runN x (xs.drop k)) : (xs[k] == x) = false → runN x xs = k := fun e => by
  rw [hr, List.drop_eq_getElem_cons h]
  show k + (if (xs[k] == x) = true then 1 + runN x (xs.drop (k + 1)) else 0) = _
  rw [e]; rfl
theorem runN_all {x : List UInt8} {xs : List (List UInt8)} {k : Nat} (h : xs.length ≤ k) (hr : runN x xs = k + runN x (xs.drop k)) : runN x xs = k := by
  rw [hr, List.drop_of_length_le h]; rfl
def uniqT (n : Bool) (x : List UInt8) (k : Nat) : List UInt8 := (if n then Lib.itoa (k : Nat) ++ [32] else []) ++ (x ++ [10])
def uniqF (n : Bool) : Nat → List (List UInt8) → List UInt8
  | 0, _ => []
  | _ + 1, [] => []
  | f + 1, x :: r => uniqT n x (runN x (x :: r)) ++ uniqF n f ((x :: r).drop (runN x (x :: r)))
def uniqS (s : List UInt8) (n : Bool) : List UInt8 := uniqF n (linesOf s).length (contL (linesOf s))
set_option maxHeartbeats 4000000 in
theorem Unique_ok (s : List UInt8) (n : Bool) (hs : s.length ≤ 1000000) (hb : (uniqS s n).length ≤ 100000000000000) (h : Heap) : SCalls env 22 [.str s, .bool n] h (Ret (.str (uniqS s n)) h) := by
  refine SCalls.body Tryz.func22 rfl rfl (by simp [Tryz.ntmps22]) ?_
  have hll := linesOf_len s
  have hco := ContentsO_ok s hs
  have hcl : (contL (linesOf s)).length = (linesOf s).length := by unfold contL; rw [List.length_map]
  have hsh : ∀ l ∈ contL (linesOf s), l.length ≤ 1000000 := fun l hl => by
    unfold contL at hl
    obtain ⟨l', h1, rfl⟩ := List.mem_map.1 hl
    have := linesOf_short h1
    have h2 : (cutS l' [10]).length ≤ l'.length := by unfold cutS; split <;> simp
    omega
  unfold uniqS at hb ⊢
  generalize contL (linesOf s) = cs at hco hcl hsh hb ⊢
  generalize (linesOf s).length = F at hcl hll hb ⊢
  refine SW.seq (SW.run [] _ ?_)
  simp only [wpC, Bool.false_eq_true, ↓reduceIte, wpS, stops, wantedA, okDst, Tryz.ntmps22, Nat.reduceLT, decide_true, step1, isOwnCall, hxOp, px, AS.eval, ofConst, ofVal, thenQ, AS.put, enumA, Nat.zero_add, dropKey, reduceCtorEq, Nat.reduceEqDiff, true_and]
  refine SW.seq (SW.run [] _ ?_)
  simp only [wpC, Bool.false_eq_true, ↓reduceIte, wpS, stops, wantedA, okDst, Nat.reduceLT, decide_true, step1, okAlloc, ty83, okZero, List.all_cons, Value.oneCell', List.all_nil, Bool.and_true, thenQ, AS.put, dropKey, Nat.reduceEqDiff, reduceCtorEq, zeroOf, List.map_cons, ofVal, List.map_nil, List.length_cons, List.length_nil, Nat.zero_add, Nat.reduceAdd, true_and]
  intro rb hrb
  refine SW.fold_nil (r := rb) (T := 83) (e := 5) (p := none) (.inl rfl) (Heap.put_same _ _ _) ?_
  simp only [Heap.put_put]
  refine SW.seq (SW.run [] _ ?_)
  simp only [wpC, Bool.false_eq_true, ↓reduceIte, wpS, stops, wantedA, okDst, Nat.reduceLT, decide_true, step1, isOwnCall, hxOp, px, AS.eval, AS.get, Lift.look, Nat.succ_ne_zero, Option.getD_some, Specs.has, Specs.hasO, Bool.or_false, Specs.hasH, Bool.not_false, AS.put, dropKey, Nat.reduceEqDiff, reduceCtorEq, true_and]
  refine SWO.call (.func 79) #[.tmp 8] _ 79 #[] #[] rfl rfl rfl rfl rfl rfl (hco _) rfl rfl ?_ (fun c h' hc => by obtain ⟨_, hc, _⟩ := hc; cases hc)
  rintro v h1 ⟨u, e1, ow⟩
  injection e1 with e1
  subst e1
  obtain ⟨A, N, rfl⟩ := ow.slice
  refine SWO.run [] 1000 ?_
  simp only [wpS, stops, Bool.false_eq_true, ↓reduceIte, wantedA, okDst, AS.put, dropKey, Nat.reduceEqDiff, reduceCtorEq, Nat.reduceLT, decide_true, step1, isOwnCall, hxOp, px, AS.eval, AS.get, Lift.look, Option.getD_some, thenQ, true_and]
  refine SW.own_let 6 rfl ow ?_
  obtain ⟨T, hT⟩ : ∃ T, uniqF n F cs = T := ⟨_, rfl⟩
  rw [hT] at hb ⊢
  refine SW.seq (SW.block (SW.loop (fun bb st => ∃ (f : Nat) (xs : List (List UInt8)) (acc : List UInt8), xs.length = bb ∧ xs.length ≤ f ∧ xs.length ≤ 1000000 ∧ acc ++ uniqF n f xs = T ∧ (∀ l ∈ xs, l.length ≤ 1000000) ∧ st.h rb = some (.bld 83 5 acc) ∧ Lift.Inc h st.h ∧ st.n = 43 ∧ hasAll st [(1, .bool n), (5, .val (.pointer (some ⟨rb, 0, none⟩))), (6, .list 1 (strL xs))]) cs.length ⟨F, cs, [], rfl, by omega, by omega, hT, hsh, Heap.put_same _ _ _, Inc.over (incSelf h) hrb _, rfl, ?_⟩ ?_))
  · simp only [hasAll, AS.get, AS.put, dropKey, ↓reduceIte, Nat.reduceEqDiff, reduceCtorEq, Lift.look, Option.getD_some, and_self]
  clear hT hsh hcl hco hll ow
  rintro bb st ⟨f, xs, acc, hbb, hf, hx6, hT, hsh, hbl, inc, hn, hs'⟩
  refine SW.norm ⟨hn, rfl, hs'⟩ ?_
  generalize st.h = H at inc hbl
  clear hn hs'
  refine SW.seq (SW.run [] _ ?_)
  cases xs with
  | nil =>
    have hTa : acc = T := by
      rw [← hT]
      cases f <;> simp [uniqF]
    subst hTa
    have hnl : (strL ([] : List (List UInt8))).length = 0 := rfl
    simp only [wpC, mayStop, stops, isFlt, Specs.has, Specs.hasO, Bool.or_false, Specs.hasH, Bool.not_false, List.any_cons, List.any_nil, Bool.false_eq_true, ↓reduceIte, wpS, wantedA, okDst, Nat.reduceLT, decide_true, step1, isOwnCall, hxOp, px, AS.eval, AS.get, Lift.look, Nat.reduceEqDiff, Option.getD_some, AS.put, dropKey, pcall, ty43, plen, hnl, okLen, and_self, Int.cast_ofNat_Int, isNilC, pbinP, ofConst, ofVal, pbinI, Int.reduceLT, decide_false, thenQ, isB, tmpOf, asB, inQ, true_and]
    have hbl2 : acc.length ≤ 140737488355328 := by omega
    refine SW.run [eBS] _ ?_
    simp only [wpC, mayStop, stops, isFlt, Specs.has, Specs.hasO, Bool.or_false, Specs.hasH, eBS, Bool.false_or, List.any_cons, ↓reduceIte, Bool.not_true, List.any_nil, Bool.false_eq_true, wpS, Bool.or_true, wantedA, okDst, Nat.reduceLT, decide_true, step1, isOwnCall, hxOp, hx, okArg, AS.eval, AS.get, Lift.look, ofConst, ofVal, List.all_cons, Nat.reduceEqDiff, Option.getD_some, List.all_nil, Bool.and_true, Specs.atH, List.map_cons, List.map_nil, sBS, hbl, hbl2, and_self, AS.put, dropKey, px, thenQ, RPost, sres, Tryz.results22, sresL, sres1, Option.some.injEq, Ret_fin, exists_eq_left', true_and]
    exact Inc.to (Inc.gone inc hrb)
  | cons x r =>
    cases f with
    | zero => simp at hf
    | succ f =>
    obtain ⟨xs, hxs⟩ : ∃ xs, xs = x :: r := ⟨_, rfl⟩
    have hx0 : 0 < xs.length := by rw [hxs]; simp
    have h00 : xs[0] = x := by simp [hxs]
    have hrun1 : runN x xs = 1 + runN x (xs.drop 1) := by
      rw [hxs]
      show (if (x == x) = true then 1 + runN x r else 0) = 1 + runN x r
      rw [if_pos (by simp)]
    have hT : acc ++ (uniqT n x (runN x xs) ++ uniqF n f (xs.drop (runN x xs))) = T := by rw [hxs]; exact hT
    rw [← hxs] at hbb hf hx6 hsh ⊢
    have hgt : (0 : Int) < (xs.length : Int) := by omega
    simp only [wpC, mayStop, stops, isFlt, Specs.has, Specs.hasO, Bool.or_false, Specs.hasH, Bool.not_false, List.any_cons, List.any_nil, Bool.false_eq_true, ↓reduceIte, wpS, wantedA, okDst, Nat.reduceLT, decide_true, step1, isOwnCall, hxOp, px, AS.eval, AS.get, Lift.look, Nat.reduceEqDiff, Option.getD_some, AS.put, dropKey, pcall, ty43, plen, strL_len, okLen, and_self, isNilC, pbinP, ofConst, ofVal, pbinI, hgt, thenQ, isB, tmpOf, asB, hasAll, and_true, true_and]
    refine SW.block (SW.seq (SW.run [] _ ?_))
    simp only [wpC, Bool.false_eq_true, ↓reduceIte, wpS, stops, wantedA, okDst, Nat.reduceLT, decide_true, step1, isOwnCall, hxOp, px, AS.eval, ofConst, ofVal, thenQ, AS.put, dropKey, Nat.reduceEqDiff, true_and]
    refine SW.seq (SW.block (SW.loop (fun b2 st => ∃ k : Nat, 1 ≤ k ∧ k ≤ xs.length ∧ xs.length - k = b2 ∧ runN x xs = k + runN x (xs.drop k) ∧ st.h = H ∧ st.n = 43 ∧ hasAll st [(1, .bool n), (5, .val (.pointer (some ⟨rb, 0, none⟩))), (6, .list 1 (strL xs)), (7, .int .i64 (k : Nat))]) (xs.length - 1) ⟨1, Nat.le_refl _, hx0, rfl, hrun1, rfl, rfl, ?_⟩ ?_))
    · simp only [hasAll, AS.get, Lift.look, Nat.reduceEqDiff, ↓reduceIte, Option.getD_some, Int.cast_ofNat_Int, and_self]
    rintro b2 st ⟨k, hk1, hk, hb2, hrun, rfl, hn, hs'⟩
    refine SW.norm ⟨hn, rfl, hs'⟩ ?_
    generalize st.h = H at inc hbl
    clear hn hs'
    refine SW.seq ?_
    have hg0 := strL_at hx0
    rw [h00] at hg0
    by_cases hmore : (∃ h : k < xs.length, (xs[k] == x) = true)
    · obtain ⟨hlt, heq⟩ := hmore
      have hgk := strL_at hlt
      have hw : IntKind.i64.wrap ((k : Int) + 1) = ((k + 1 : Nat) : Int) := by rw [w64 (by omega) (by omega)]; rfl
      refine SW.seq (SW.regionAny [] [[0, 1, 2, 3, 4, 5, 6, 7, 8, 9, 10, 11, 12, 13]] rfl (by rfl) (by kernel_rfl) ?_)
      simp only [wpOL, wpO, LOp, List.getElem?_toArray, List.getElem?_cons_zero, okDst, Nat.reduceLT, decide_true, wantedA, ↓reduceIte, step1, isOwnCall, Bool.false_eq_true, hxOp, px, AS.eval, AS.get, Lift.look, Nat.reduceEqDiff, Option.getD_some, List.getElem?_cons_succ, AS.put, dropKey, pcall, ty43, plen, strL_len, okLen, and_self, isNilC, pbinP, pbinI, Int.ofNat_lt, hlt, Option.bind_some, beq_self_eq_true, pindexAddr, ty9, ne_eq, Nat.succ_ne_zero, not_false_eq_true, Int.natCast_nonneg, Int.toNat_natCast, hgk, pload, okOne, TK.isAgg, Bool.or_true, List.length_cons, List.length_nil, Nat.zero_add, Nat.le_refl, Lift.valOf, List.take_succ_cons, List.take_nil, List.getD_cons_zero, ofConst, ofVal, Int.reduceLE, Int.reduceToNat, hx0, hg0, pbinS, heq, ppick_bool, thenQ, hasAll, and_true, true_and]
      refine SW.run [] _ ?_
      simp only [wpC, isB, AS.get, Lift.look, tmpOf, ↓reduceIte, Option.getD_some, asB, thenQ, true_and]
      refine SW.block (SW.run [] _ ?_)
      simp only [wpC, Bool.false_eq_true, ↓reduceIte, wpS, stops, wantedA, okDst, Nat.reduceLT, decide_true, step1, isOwnCall, hxOp, px, AS.eval, AS.get, Lift.look, Nat.reduceEqDiff, Option.getD_some, isFlt, ty3, AS.put, dropKey, isNilC, pbinP, ofConst, ofVal, pbinI, hw, inQ, thenQ, true_and]
      exact ⟨xs.length - (k + 1), by omega, k + 1, by omega, by omega, rfl, runN_next hlt hrun heq, rfl⟩
    · have hrk : runN x xs = k := by
        by_cases hlt : k < xs.length
        · exact runN_stop hlt hrun (by cases e : (xs[k] == x); rfl; exact absurd ⟨hlt, e⟩ hmore)
        · exact runN_all (by omega) hrun
      refine SW.meet1 43 [(1, .bool n), (5, .val (.pointer (some ⟨rb, 0, none⟩))), (6, .list 1 (strL xs)), (7, .int .i64 (k : Nat)), (26, .bool false)] H ?_ ?_
      · refine SW.regionAny [] [[0, 1, 2, 3, 4, 5, 6, 7, 8, 9, 10, 11, 12, 13]] rfl (by rfl) (by kernel_rfl) ?_
        by_cases hlt : k < xs.length
        · have hgk := strL_at hlt
          have heq : (xs[k] == x) = false := by cases e : (xs[k] == x); rfl; exact absurd ⟨hlt, e⟩ hmore
          simp only [wpOL, wpO, LOp, List.getElem?_toArray, List.getElem?_cons_zero, okDst, Nat.reduceLT, decide_true, wantedA, ↓reduceIte, step1, isOwnCall, Bool.false_eq_true, hxOp, px, AS.eval, AS.get, Lift.look, Nat.reduceEqDiff, Option.getD_some, List.getElem?_cons_succ, AS.put, dropKey, pcall, ty43, plen, strL_len, okLen, and_self, isNilC, pbinP, pbinI, Int.ofNat_lt, hlt, Option.bind_some, beq_self_eq_true, pindexAddr, ty9, ne_eq, Nat.succ_ne_zero, not_false_eq_true, Int.natCast_nonneg, Int.toNat_natCast, hgk, pload, okOne, TK.isAgg, Bool.or_true, List.length_cons, List.length_nil, Nat.zero_add, Nat.le_refl, Lift.valOf, List.take_succ_cons, List.take_nil, List.getD_cons_zero, ofConst, ofVal, Int.reduceLE, Int.reduceToNat, hx0, hg0, pbinS, heq, ppick_bool, thenQ, Meet, HTo_self, hasAll]
        · simp only [wpOL, wpO, LOp, List.getElem?_toArray, List.getElem?_cons_zero, okDst, Nat.reduceLT, decide_true, wantedA, ↓reduceIte, step1, isOwnCall, Bool.false_eq_true, hxOp, px, AS.eval, AS.get, Lift.look, Nat.reduceEqDiff, Option.getD_some, List.getElem?_cons_succ, AS.put, dropKey, pcall, ty43, plen, strL_len, okLen, and_self, isNilC, pbinP, pbinI, Int.ofNat_lt, hlt, decide_false, Option.bind_some, beq_ft, Option.some.injEq, ofConst, ofVal, ppick_false, thenQ, Meet, HTo_self, hasAll]
      refine SW.run [] _ ?_
      simp only [wpC, isB, AS.get, Lift.look, tmpOf, Nat.reduceEqDiff, ↓reduceIte, Option.getD_some, asB, Bool.false_eq_true, thenQ, inQ, true_and]
      rw [hrk] at hT
      have hTl : acc.length + ((uniqT n x k).length + (uniqF n f (xs.drop k)).length) = T.length := by rw [← hT, List.length_append, List.length_append]
      have hxl : x.length ≤ 1000000 := by rw [← h00]; exact hsh _ (List.getElem_mem hx0)
      have hk1' : -9223372036854775808 ≤ ((k : Nat) : Int) := by omega
      have hk2' : ((k : Nat) : Int) ≤ 9223372036854775807 := by omega
      have hk3 : ((k : Nat) : Int) ≤ (xs.length : Int) := by omega
      have hdl : (xs.drop k).length = xs.length - k := List.length_drop
      have hsd : ∀ l ∈ xs.drop k, l.length ≤ 1000000 := fun l hl => hsh l (List.mem_of_mem_drop hl)
      refine SW.seq (SW.run [eItoa, eWS] _ ?_)
      cases n
      · have hTl : acc.length + ((x.length + 1) + (uniqF false f (xs.drop k)).length) = T.length := by
          rw [← hTl]; simp [uniqT]
        have hT : acc ++ ((x ++ [10]) ++ uniqF false f (xs.drop k)) = T := hT
        simp only [wpC, mayStop, stops, isFlt, Specs.has, Specs.hasO, Bool.or_false, Specs.hasH, List.any_cons, List.any_nil, Bool.false_eq_true, ↓reduceIte, wpS, wantedA, okDst, Nat.reduceLT, decide_true, step1, isOwnCall, hxOp, px, AS.eval, AS.get, Lift.look, Option.getD_some, thenQ, isB, AS.put, dropKey, Nat.reduceEqDiff, tmpOf, asB, true_and]
        refine SW.seq (SW.run [eWS] _ ?_)
        simp only [wpC, Bool.false_eq_true, ↓reduceIte, wpS, stops, wantedA, okDst, Nat.reduceLT, decide_true, step1, isOwnCall, hxOp, px, AS.eval, AS.get, Lift.look, Nat.reduceEqDiff, Option.getD_some, AS.put, dropKey, pindexAddr, ty43, ty9, ofConst, ofVal, ne_eq, Nat.succ_ne_zero, not_false_eq_true, Int.reduceLE, Int.reduceToNat, strL_len, hx0, and_self, hg0, pload, okOne, TK.isAgg, beq_self_eq_true, Bool.or_true, List.length_cons, List.length_nil, Nat.zero_add, Nat.le_refl, Lift.valOf, List.take_succ_cons, List.take_nil, List.getD_cons_zero, isFlt, isNilC, pbinP, pbinS, Nat.reduceLeDiff, Specs.has, Specs.hasO, Bool.or_false, Specs.hasH, eWS, Bool.not_true, hx, okArg, List.all_cons, List.all_nil, Bool.and_true, Specs.atH, List.map_cons, List.map_nil, sWS, hbl, true_and, thenQ]
        refine ⟨by omega, by simp only [List.length_append, List.length_cons, List.length_nil]; omega, ?_⟩
        refine SW.run [] _ ?_
        simp only [wpC, Bool.false_eq_true, ↓reduceIte, wpS, stops, wantedA, okDst, Nat.reduceLT, decide_true, step1, isOwnCall, hxOp, px, AS.eval, AS.get, Lift.look, Nat.reduceEqDiff, Option.getD_some, AS.put, dropKey, pslice, ty43, ty9, pB, strL_len, Int.natCast_nonneg, hk3, true_and, Int.toNat_natCast, strL_take, List.take_length, strL_drop, inQ, thenQ, Heap.get_put, Option.some.injEq]
        exact ⟨Int.le_refl _, xs.length - k, by omega, f, xs.drop k, _, hdl, by omega, by omega, by rw [← hT]; simp only [List.append_assoc], hsd, rfl, Inc.over inc hrb _, rfl⟩
      · have hTl : acc.length + ((Lib.itoa (k : Nat)).length + 1 + (x.length + 1) + (uniqF true f (xs.drop k)).length) = T.length := by
          rw [← hTl]; simp [uniqT]; omega
        have hT : acc ++ ((Lib.itoa (k : Nat) ++ [32] ++ (x ++ [10])) ++ uniqF true f (xs.drop k)) = T := hT
        simp only [wpC, mayStop, stops, isFlt, Specs.has, eItoa, Specs.hasO, Bool.or_false, Specs.hasH, eWS, List.any_cons, List.any_nil, Bool.false_eq_true, ↓reduceIte, wpS, wantedA, okDst, Nat.reduceLT, decide_true, step1, isOwnCall, hxOp, px, AS.eval, AS.get, Lift.look, Option.getD_some, thenQ, isB, AS.put, dropKey, Nat.reduceEqDiff, tmpOf, asB, Bool.not_true, pcall, okArg, ofConst, ofVal, List.all_cons, List.all_nil, Bool.and_true, Specs.at, List.map_cons, List.map_nil, sItoa, hk1', hk2', and_self, ty9, isNilC, pbinP, pbinS, List.length_cons, List.length_nil, Nat.zero_add, Nat.reduceLeDiff, Bool.or_true, hx, Specs.atH, sWS, hbl, true_and]
        refine ⟨by omega, by simp only [List.length_append, List.length_cons, List.length_nil]; omega, ?_⟩
        refine SW.seq (SW.run [eWS] _ ?_)
        simp only [wpC, Bool.false_eq_true, ↓reduceIte, wpS, stops, wantedA, okDst, Nat.reduceLT, decide_true, step1, isOwnCall, hxOp, px, AS.eval, AS.get, Lift.look, Nat.reduceEqDiff, Option.getD_some, AS.put, dropKey, pindexAddr, ty43, ty9, ofConst, ofVal, ne_eq, Nat.succ_ne_zero, not_false_eq_true, Int.reduceLE, Int.reduceToNat, strL_len, hx0, and_self, hg0, pload, okOne, TK.isAgg, beq_self_eq_true, Bool.or_true, List.length_cons, List.length_nil, Nat.zero_add, Nat.le_refl, Lift.valOf, List.take_succ_cons, List.take_nil, List.getD_cons_zero, isFlt, isNilC, pbinP, pbinS, Nat.reduceLeDiff, Specs.has, Specs.hasO, Bool.or_false, Specs.hasH, eWS, Bool.not_true, hx, okArg, List.all_cons, List.all_nil, Bool.and_true, Specs.atH, List.map_cons, List.map_nil, sWS, Heap.get_put, true_and, thenQ]
        refine ⟨by omega, by simp only [List.length_append, List.length_cons, List.length_nil]; omega, ?_⟩
        rw [Heap.put_put]
        refine SW.run [] _ ?_
        simp only [wpC, Bool.false_eq_true, ↓reduceIte, wpS, stops, wantedA, okDst, Nat.reduceLT, decide_true, step1, isOwnCall, hxOp, px, AS.eval, AS.get, Lift.look, Nat.reduceEqDiff, Option.getD_some, AS.put, dropKey, pslice, ty43, ty9, pB, strL_len, Int.natCast_nonneg, hk3, true_and, Int.toNat_natCast, strL_take, List.take_length, strL_drop, inQ, thenQ, Heap.get_put, Option.some.injEq]
        exact ⟨Int.le_refl _, xs.length - k, by omega, f, xs.drop k, _, hdl, by omega, by omega, by rw [← hT]; simp only [List.append_assoc], hsd, rfl, Inc.over inc hrb _, rfl⟩
def sUnique : List PV → Prop × PV
  | [.str s, .bool n] => (s.length ≤ 1000000 ∧ (uniqS s n).length ≤ 100000000000000, .str (uniqS s n))
  | _ => PBad
noncomputable def eUnique : SpecE env := ⟨22, sUnique, fun args h hc => by
  unfold sUnique at hc ⊢
  split at hc
  · exact .inl (Unique_ok _ _ hc.1 hc.2 h)
  · exact hc.elim⟩
end Go.Proofs.YtincpomenogppaaGreatDoor
