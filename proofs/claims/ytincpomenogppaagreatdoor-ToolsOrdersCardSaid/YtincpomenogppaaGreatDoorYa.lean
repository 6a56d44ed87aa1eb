/- Contracts of functions that the law reaches. -/
import Derived.Test.YtincpomenogppaaGreatDoorY8
set_option linter.unusedSimpArgs false
set_option linter.unusedVariables false
namespace Go.Proofs.YtincpomenogppaaGreatDoor
open Go Go.RowKit Go.Proofs.YtincpomenogppaaGreatDoor Go.Proofs.YtincpomenogppaaGreatDoor.Lift
set_option maxRecDepth 100000

def sortC (bx : Nat) : PV := .val (.func (.func 81) #[] #[.pointer (some ⟨bx, 0, none⟩)])
theorem Ins_nil (A : Option Addr) (c bx : Nat) (h : Heap) : SCalls env 139 [.val (.slice A 0 c), .int .i64 0, .int .i64 0, sortC bx] h (Ret (.tuple []) h) := by
  refine SCalls.body Tryz.func139 rfl rfl (by simp [Tryz.ntmps139]) ?_
  have hw : IntKind.i64.wrap 1 = 1 := w64 (by omega) (by omega)
  refine SW.seq (SW.run [] _ ?_)
  simp only [wpC, Bool.false_eq_true, ↓reduceIte, wpS, stops, wantedA, okDst, Tryz.ntmps139, Nat.reduceLT, decide_true, step1, isOwnCall, hxOp, px, AS.eval, AS.get, enumA, Nat.zero_add, Nat.reduceAdd, sortC, Lift.look, reduceCtorEq, Option.getD_some, isFlt, ty3, AS.put, dropKey, Nat.reduceEqDiff, isNilC, pbinP, ofConst, ofVal, pbinI, Int.reduceAdd, hw, thenQ, true_and]
  refine SW.block (SW.loopH 53 (fun _ : Unit => [(2, .int .i64 0), (8, .int .i64 1)]) (fun _ => h) (fun _ => True) (fun _ => 0) () trivial ⟨rfl, .refl _ _, ?_⟩ fun _ _ => ?_)
  · simp only [hasAll, AS.get, Lift.look, Nat.reduceEqDiff, ↓reduceIte, reduceCtorEq, Option.getD_some, and_self]
  · refine SW.run [] _ ?_
    simp only [wpC, mayStop, stops, isFlt, Specs.has, Specs.hasO, Bool.or_false, Specs.hasH, Bool.not_false, List.any_cons, List.any_nil, Bool.false_eq_true, ↓reduceIte, wpS, wantedA, okDst, Nat.reduceLT, decide_true, step1, isOwnCall, hxOp, px, AS.eval, AS.get, Lift.look, Nat.reduceEqDiff, Option.getD_some, AS.put, dropKey, isNilC, pbinP, pbinI, Int.reduceLT, decide_false, thenQ, isB, tmpOf, asB, inQ, RPost, sres, Tryz.results139, sresL, Option.some.injEq, Ret_fin, HTo_self, and_true, exists_eq_left', and_self]
def sBitLen : List PV → Prop × PV
  | [.int .u64 n] => (n = 0, .int .i64 0)
  | _ => PBad
noncomputable def eBitsBitLen : SpecE env := ⟨96, sBitLen, fun args h hc => by
  unfold sBitLen at hc ⊢
  split at hc
  · rename_i n
    obtain rfl : n = 0 := hc
    refine .inl (SCalls.ofRead Tryz.func96 rfl rfl fun w I G vs g r => ?_)
    obtain ⟨v1, t1, rfl, r1, r3⟩ := r
    have r3 : t1 = [] := r3
    subst r3
    have r1 : v1 = _ := r1
    subst r1
    exact ⟨.int .i64 0, rfl, Any.bits_Len (SlLaysF0.n15.bits (P := Tryz.prog) (ρ := Tryz.laysSort80_ren) { Tryz.laysSort80 with }) 0 w (by omega) (by omega)⟩
  · exact hc.elim⟩
theorem Pdq_nil (A : Option Addr) (c bx : Nat) (h : Heap) : SCalls env 118 [.val (.slice A 0 c), .int .i64 0, .int .i64 0, .int .i64 0, sortC bx] h (Ret (.tuple []) h) := by
  refine SCalls.body Tryz.func118 rfl rfl (by simp [Tryz.ntmps118]) ?_
  have hw : IntKind.i64.wrap 0 = 0 := w64 (by omega) (by omega)
  refine SW.seq (SW.run [] _ ?_)
  simp only [wpC, Bool.false_eq_true, ↓reduceIte, wpS, stops, wantedA, okDst, Tryz.ntmps118, Nat.reduceLT, decide_true, step1, isOwnCall, hxOp, px, AS.eval, ofConst, ofVal, thenQ, AS.put, enumA, Nat.zero_add, Nat.reduceAdd, sortC, dropKey, reduceCtorEq, Nat.reduceEqDiff, true_and]
  refine SW.seq (SW.run [] _ ?_)
  simp only [wpC, Bool.false_eq_true, ↓reduceIte, wpS, stops, wantedA, okDst, Nat.reduceLT, decide_true, step1, isOwnCall, hxOp, px, AS.eval, ofConst, ofVal, thenQ, AS.put, dropKey, Nat.reduceEqDiff, reduceCtorEq, true_and]
  refine SW.block (SW.loopH 148 (fun _ : Unit => [(0, .val (.slice A 0 c)), (1, .int .i64 0), (2, .int .i64 0), (3, .int .i64 0), (4, sortC bx), (10, .bool true), (11, .bool true)]) (fun _ => h) (fun _ => True) (fun _ => 0) () trivial ⟨rfl, .refl _ _, ?_⟩ fun _ _ => ?_)
  · simp only [hasAll, AS.get, Lift.look, Nat.succ_ne_zero, ↓reduceIte, Option.getD_some, Nat.reduceEqDiff, reduceCtorEq, sortC, and_self]
  · refine SW.run [] _ ?_
    simp only [wpC, mayStop, stops, isFlt, Specs.has, Specs.hasO, Bool.or_false, Specs.hasH, Bool.not_false, List.any_cons, ty3, List.any_nil, Bool.false_eq_true, ↓reduceIte, wpS, wantedA, okDst, Nat.reduceLT, decide_true, step1, isOwnCall, hxOp, px, AS.eval, AS.get, Lift.look, reduceCtorEq, Nat.reduceEqDiff, Option.getD_some, AS.put, dropKey, sortC, isNilC, pbinP, pbinI, Int.reduceSub, hw, thenQ, Bool.or_true, ofConst, ofVal, Int.reduceLE, isB, tmpOf, asB, Nat.succ_ne_zero, hasAll, and_true, false_and, and_false, true_and]
    refine SWO.callRet (.func 139) #[.tmp 26, .tmp 27, .tmp 28, .tmp 29] _ 139 #[] #[] rfl rfl rfl rfl rfl rfl (Ins_nil A c bx h) rfl rfl ?_
    refine SWO.run [] 1000 ?_
    simp only [wpS, thenQ, Tryz.results118, AS.put, dropKey, Nat.reduceEqDiff, ↓reduceIte, reduceCtorEq]
    refine SW.run [] _ ?_
    simp only [wpC, thenQ, inQ, RPost, sres, sresL, Option.some.injEq, Ret_fin, HTo_self, and_true, exists_eq_left']
theorem SortF_nil (A : Option Addr) (c bx : Nat) (h : Heap) : SCalls env 80 [.val (.slice A 0 c), sortC bx] h (Ret (.tuple []) h) := by
  refine SCalls.body Tryz.func80 rfl rfl (by simp [Tryz.ntmps80]) ?_
  have hw : IntKind.u64.wrap 0 = 0 := by decide
  refine SW.seq (SW.run [] _ ?_)
  simp only [wpC, Bool.false_eq_true, ↓reduceIte, wpS, stops, wantedA, okDst, Tryz.ntmps80, Nat.reduceLT, decide_true, step1, isOwnCall, hxOp, px, AS.eval, AS.get, enumA, Nat.zero_add, sortC, Lift.look, Option.getD_some, AS.put, dropKey, reduceCtorEq, Nat.reduceEqDiff, pcall, ty43, plen, okLen, and_self, Int.cast_ofNat_Int, thenQ, true_and]
  refine SW.run [eBitsBitLen] _ ?_
  simp only [wpC, Bool.false_eq_true, ↓reduceIte, wpS, stops, wantedA, okDst, Nat.reduceLT, decide_true, step1, isOwnCall, hxOp, px, AS.eval, AS.get, Lift.look, Nat.succ_ne_zero, Option.getD_some, AS.put, dropKey, Nat.reduceEqDiff, reduceCtorEq, ty3, ty122, pconvH, pconv, hw, Specs.has, eBitsBitLen, Specs.hasO, Bool.or_false, Specs.hasH, Bool.not_true, pcall, okArg, ofConst, ofVal, List.all_cons, List.all_nil, Bool.and_true, Specs.at, List.map_cons, List.map_nil, sBitLen, and_self, Bool.not_false, true_and]
  refine SWO.callRet (.func 118) #[.tmp 7, .const (.int .i64 0), .tmp 8, .tmp 11, .tmp 12] _ 118 #[] #[] rfl rfl rfl rfl rfl rfl (Pdq_nil A c bx h) rfl rfl ?_
  refine SWO.run [] 1000 ?_
  simp only [wpS, RPost, sres, AS.put, dropKey, Nat.reduceEqDiff, ↓reduceIte, reduceCtorEq, Tryz.results80, sresL, Option.some.injEq, Ret_fin, HTo_self, and_true, exists_eq_left']
theorem SortOwn_ok {h0 H : Heap} {bx : Nat} {l : List (List UInt8)} {u : PV} {down : Bool} (ow : Own h0 9 1 (strL l) u H) (hx : h0 bx = some (.cells 4 1 [.bool down])) (hl : l.length ≤ 1000000) :
    SCalls env 80 [u, sortC bx] H (fun e h' => ∃ l' : List (List UInt8), e = .ret (.tuple []) ∧ l.Perm l' ∧ l'.Pairwise (fun x y => ltD down y x = false) ∧ Own h0 9 1 (strL l') u h') := by
  rcases ow with ⟨rfl, e2, rfl⟩ | ⟨r, cap, rfl, h2, h3, h4, rfl, h6⟩
  · have hx : l = [] := List.map_eq_nil_iff.1 e2
    subst hx
    refine (SortF_nil none 0 bx H).mono fun e h' q => ?_
    obtain ⟨rfl, rfl⟩ := q
    exact ⟨[], rfl, .refl _, .nil, Own.nil _ _ _⟩
  · have hne : bx ≠ r := fun e => by rw [e, h4] at hx; cases hx
    rw [strL_len] at h2 ⊢
    refine (SortF_ok (blk := r) (cap := cap) (bx := bx) (l := l) (down := down) (by rw [strL_flat]; exact Heap.put_same _ _ _) (by rw [Heap.put_ne _ _ hne]; exact hx) hl).mono fun e h' q => ?_
    obtain ⟨l', rfl, hp, hs, rfl⟩ := q
    refine ⟨l', rfl, hp.symm, hs, .inr ⟨r, cap, ?_, ?_, h3, h4, ?_, strL_wide _⟩⟩
    · rw [strL_len, hp.length_eq]
    · rw [strL_len, hp.length_eq]; exact h2
    · rw [Heap.put_put, strL_flat]
def sortT (down : Bool) (s : List UInt8) : List UInt8 := selF down (contL (linesOf s)) (linesOf s).length (List.replicate (linesOf s).length false)
def nlL (q : List (List UInt8)) : List UInt8 := (q.map (· ++ [10])).flatten
theorem nlL_next {q : List (List UInt8)} {i : Nat} (h : i < q.length) : nlL (q.take (i + 1)) = nlL (q.take i) ++ (q[i] ++ [10]) := by
  unfold nlL
  rw [List.take_succ_eq_append_getElem h, List.map_append, List.flatten_append]
  simp
theorem nlL_pre (q : List (List UInt8)) (i : Nat) : (nlL (q.take i)).length ≤ (nlL q).length := by
  have e : q.take i ++ q.drop i = q := List.take_append_drop i q
  have : nlL q = nlL (q.take i) ++ nlL (q.drop i) := by
    conv => lhs; rw [← e]
    unfold nlL
    rw [List.map_append, List.flatten_append]
  rw [this, List.length_append]
  omega
set_option maxHeartbeats 4000000 in
theorem Sort_ok (s : List UInt8) (down : Bool) (hs : s.length ≤ 1000000) (hb : (sortT down s).length ≤ 100000000000000) (h : Heap) : SCalls env 20 [.str s, .bool down] h (Ret (.str (sortT down s)) h) := by
  refine SCalls.body Tryz.func20 rfl rfl (by simp [Tryz.ntmps20]) ?_
  have hll := linesOf_len s
  have hco := ContentsO_ok s hs
  have hcl : (contL (linesOf s)).length = (linesOf s).length := contL_len _
  unfold sortT at hb ⊢
  rw [← hcl] at hb ⊢
  generalize contL (linesOf s) = cs at hco hcl hb ⊢
  have hc6 : cs.length ≤ 1000000 := by omega
  refine SW.seq (SW.run [] _ ?_)
  simp only [wpC, Bool.false_eq_true, ↓reduceIte, wpS, stops, wantedA, okDst, Tryz.ntmps20, Nat.reduceLT, decide_true, step1, known1, AS.eval, AS.get, enumA, Nat.zero_add, Lift.look, reduceCtorEq, Option.getD_some, AS.put, dropKey, Nat.reduceEqDiff, isOwnCall, hxOp, px, ofConst, ofVal, thenQ, PV.cells, List.length_cons, List.length_nil, true_and]
  intro bx hbx
  have gx : (h.put bx (.cells 4 1 [.bool down])) bx = some (.cells 4 1 [.bool down]) := Heap.put_same _ _ _
  have inc0 : Lift.Inc h (h.put bx (.cells 4 1 [.bool down])) := Inc.over (incSelf h) hbx _
  generalize h.put bx (.cells 4 1 [.bool down]) = H0 at gx inc0 ⊢
  refine SW.seq (SW.run [] _ ?_)
  simp only [wpC, Bool.false_eq_true, ↓reduceIte, wpS, stops, wantedA, okDst, Nat.reduceLT, decide_true, step1, isOwnCall, hxOp, px, AS.eval, AS.get, Lift.look, Nat.succ_ne_zero, Option.getD_some, Specs.has, Specs.hasO, Bool.or_false, Specs.hasH, Bool.not_false, AS.put, dropKey, Nat.reduceEqDiff, reduceCtorEq, true_and]
  refine SWO.call (.func 79) #[.tmp 9] _ 79 #[] #[] rfl rfl rfl rfl rfl rfl (hco _) rfl rfl ?_ (fun c h' hc => by obtain ⟨_, hc, _⟩ := hc; cases hc)
  rintro v h1 ⟨u, e1, ow⟩
  injection e1 with e1
  subst e1
  obtain ⟨A, N, rfl⟩ := ow.slice
  refine SWO.run [] 1000 ?_
  simp only [wpS, stops, Bool.false_eq_true, ↓reduceIte, wantedA, okDst, AS.put, dropKey, Nat.reduceEqDiff, reduceCtorEq, Nat.reduceLT, decide_true, step1, isOwnCall, hxOp, px, AS.eval, AS.get, Lift.look, Option.getD_some, thenQ, true_and]
  refine SW.seq (SW.run [] _ ?_)
  simp only [wpC, Bool.false_eq_true, ↓reduceIte, wpS, stops, wantedA, okDst, Nat.reduceLT, decide_true, step1, isOwnCall, hxOp, px, AS.eval, AS.get, Lift.look, Option.getD_some, AS.put, dropKey, Nat.reduceEqDiff, reduceCtorEq, List.map_cons, List.map_nil, unVs, unV, Specs.has, Specs.hasO, Bool.or_false, Specs.hasH, Bool.not_false, true_and]
  refine SWO.call (.func 80) #[.tmp 11, .tmp 12] _ 80 #[] #[] rfl rfl rfl rfl rfl rfl (SortOwn_ok ow gx hc6) rfl rfl ?_ (fun c h' hc => by obtain ⟨_, hc, _⟩ := hc; cases hc)
  rintro v h2 ⟨q, e1, hp, hq, ow⟩
  injection e1 with e1
  subst e1
  have hT := sort_law down cs q hp hq
  have hT : selF down cs cs.length (List.replicate cs.length false) = nlL q := hT
  rw [hT] at hb ⊢
  have hq6 : q.length ≤ 1000000 := by rw [← hp.length_eq]; exact hc6
  clear hT hp hq hc6 hcl hco hll hs gx
  refine SWO.run [] 1000 ?_
  simp only [wpS, thenQ, AS.put, dropKey, Nat.reduceEqDiff, ↓reduceIte, reduceCtorEq]
  refine SW.own_let 5 rfl ow ?_
  refine SW.seq (SW.run [] _ ?_)
  simp only [wpC, Bool.false_eq_true, ↓reduceIte, wpS, stops, wantedA, okDst, AS.put, dropKey, Nat.reduceEqDiff, reduceCtorEq, Nat.reduceLT, decide_true, step1, okAlloc, ty83, okZero, List.all_cons, Value.oneCell', List.all_nil, Bool.and_true, thenQ, zeroOf, List.map_cons, ofVal, List.map_nil, List.length_cons, List.length_nil, Nat.zero_add, Nat.reduceAdd, true_and]
  intro rb hrb
  refine SW.fold_nil (r := rb) (T := 83) (e := 5) (p := none) (.inl rfl) (Heap.put_same _ _ _) ?_
  simp only [Heap.put_put]
  refine SW.seq (SW.seq (SW.run [] _ ?_))
  simp only [wpC, Bool.false_eq_true, ↓reduceIte, wpS, stops, wantedA, okDst, Nat.reduceLT, decide_true, step1, isOwnCall, hxOp, px, AS.eval, AS.get, Lift.look, Nat.reduceEqDiff, Option.getD_some, AS.put, dropKey, strL_len, reduceCtorEq, pcall, ty43, plen, okLen, and_self, ofConst, ofVal, thenQ, true_and]
  refine SW.block (SW.loop (fun bb st => ∃ i : Nat, i ≤ q.length ∧ q.length - i = bb ∧ st.h rb = some (.bld 83 5 (nlL (q.take i))) ∧ Lift.Inc H0 st.h ∧ st.n = 25 ∧ hasAll st [(6, .val (.pointer (some ⟨rb, 0, none⟩))), (14, .list 1 (strL q)), (15, .int .i64 (q.length : Nat)), (16, .int .i64 (i : Nat))]) q.length ⟨0, Nat.zero_le _, rfl, Heap.put_same _ _ _, Inc.over (incSelf H0) hrb _, rfl, ?_⟩ ?_)
  · simp only [hasAll, AS.get, Lift.look, Nat.reduceEqDiff, ↓reduceIte, Option.getD_some, Int.cast_ofNat_Int, and_self]
  rintro bb st ⟨i, hi, hbb, hbl, inc, hn, hs'⟩
  refine SW.norm ⟨hn, rfl, hs'⟩ ?_
  generalize st.h = H at inc hbl
  clear hn hs'
  refine SW.seq (SW.run [] _ ?_)
  by_cases hlt : i < q.length
  · have hw : IntKind.i64.wrap ((i : Int) + 1) = ((i + 1 : Nat) : Int) := by rw [w64 (by omega) (by omega)]; rfl
    have hg := strL_at hlt
    have hpre := nlL_pre q (i + 1)
    rw [nlL_next hlt] at hpre
    have hpl : (nlL (q.take i)).length + (q[i].length + 1) ≤ 100000000000000 := by
      simp only [List.length_append, List.length_cons, List.length_nil] at hpre
      omega
    simp only [wpC, Bool.false_eq_true, ↓reduceIte, wpS, stops, wantedA, okDst, Nat.reduceLT, decide_true, step1, isOwnCall, hxOp, px, isNilC, pbinP, AS.eval, AS.get, Lift.look, Nat.reduceEqDiff, Option.getD_some, pbinI, Int.ofNat_lt, hlt, thenQ, hasAll, and_true, AS.put, dropKey, true_and]
    refine SW.seq (SW.run [] _ ?_)
    simp only [wpC, isB, AS.get, Lift.look, tmpOf, ↓reduceIte, Option.getD_some, asB, thenQ, true_and]
    refine SW.seq (SW.block (SW.seq (SW.run [] _ ?_)))
    simp only [wpC, Bool.false_eq_true, ↓reduceIte, wpS, stops, wantedA, okDst, Nat.reduceLT, decide_true, step1, isOwnCall, hxOp, px, pindexAddr, ty43, ty9, AS.eval, AS.get, Lift.look, Nat.reduceEqDiff, Option.getD_some, ne_eq, Nat.succ_ne_zero, not_false_eq_true, Int.natCast_nonneg, Int.toNat_natCast, strL_len, hlt, and_self, hg, AS.put, dropKey, pload, okOne, TK.isAgg, beq_self_eq_true, Bool.or_true, List.length_cons, List.length_nil, Nat.zero_add, Nat.le_refl, Lift.valOf, List.take_succ_cons, List.take_nil, List.getD_cons_zero, thenQ, true_and]
    refine SW.run [eWS] _ ?_
    simp only [wpC, Bool.false_eq_true, ↓reduceIte, wpS, stops, wantedA, okDst, Nat.reduceLT, decide_true, step1, isOwnCall, hxOp, px, AS.eval, AS.get, Lift.look, Option.getD_some, isFlt, ty9, AS.put, dropKey, Nat.reduceEqDiff, isNilC, pbinP, ofConst, ofVal, pbinS, List.length_cons, List.length_nil, Nat.zero_add, Nat.reduceLeDiff, Specs.has, Specs.hasO, Bool.or_false, Specs.hasH, eWS, Bool.or_true, Bool.not_true, hx, okArg, List.all_cons, List.all_nil, Bool.and_true, Specs.atH, List.map_cons, List.map_nil, sWS, hbl, true_and, inQ, thenQ]
    refine ⟨by omega, by simp only [List.length_append, List.length_cons, List.length_nil] <;> omega, ?_⟩
    refine SW.run [] _ ?_
    simp only [wpC, Bool.false_eq_true, ↓reduceIte, wpS, stops, isFlt, ty3, wantedA, okDst, Nat.reduceLT, decide_true, step1, isOwnCall, hxOp, px, isNilC, pbinP, AS.eval, AS.get, Lift.look, Nat.reduceEqDiff, Option.getD_some, ofConst, ofVal, pbinI, hw, AS.put, dropKey, thenQ, Heap.get_put, Option.some.injEq, true_and]
    exact ⟨q.length - (i + 1), by omega, i + 1, by omega, rfl, by rw [nlL_next hlt], Inc.over inc hrb _, rfl⟩
  · have hii : q.length ≤ i := by omega
    rw [List.take_of_length_le hii] at hbl
    simp only [wpC, Bool.false_eq_true, ↓reduceIte, wpS, stops, wantedA, okDst, Nat.reduceLT, decide_true, step1, isOwnCall, hxOp, px, isNilC, pbinP, AS.eval, AS.get, Lift.look, Nat.reduceEqDiff, Option.getD_some, pbinI, Int.ofNat_lt, hlt, decide_false, thenQ, hasAll, and_true, AS.put, dropKey, true_and]
    refine SW.seq (SW.run [] _ ?_)
    simp only [wpC, isB, AS.get, Lift.look, tmpOf, ↓reduceIte, Option.getD_some, asB, Bool.false_eq_true, thenQ, inQ, true_and]
    have hbl2 : (nlL q).length ≤ 140737488355328 := by omega
    refine SW.run [eBS] _ ?_
    simp only [wpC, mayStop, stops, isFlt, Specs.has, Specs.hasO, Bool.or_false, Specs.hasH, eBS, Bool.false_or, List.any_cons, ↓reduceIte, Bool.not_true, List.any_nil, Bool.false_eq_true, wpS, Bool.or_true, wantedA, okDst, Nat.reduceLT, decide_true, step1, isOwnCall, hxOp, hx, okArg, AS.eval, AS.get, Lift.look, ofConst, ofVal, List.all_cons, Nat.reduceEqDiff, Option.getD_some, List.all_nil, Bool.and_true, Specs.atH, List.map_cons, List.map_nil, sBS, hbl, hbl2, and_self, AS.put, dropKey, px, thenQ, RPost, sres, Tryz.results20, sresL, sres1, Option.some.injEq, Ret_fin, exists_eq_left', true_and]
    have incT : Lift.Inc h H := fun k X e => inc k X (inc0 k X e)
    exact Inc.to (Inc.gone incT (incFresh inc0 hrb))
end Go.Proofs.YtincpomenogppaaGreatDoor
