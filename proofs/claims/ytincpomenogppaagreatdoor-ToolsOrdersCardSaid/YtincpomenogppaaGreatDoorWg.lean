/- Contracts of functions that the law reaches. -/
import Derived.Test.YtincpomenogppaaGreatDoorWf
set_option linter.unusedSimpArgs false
set_option linter.unusedVariables false
namespace Go.Proofs.YtincpomenogppaaGreatDoor
open Go Go.RowKit Go.Proofs.YtincpomenogppaaGreatDoor Go.Proofs.YtincpomenogppaaGreatDoor.Lift
set_option maxRecDepth 100000

structure Mb where
  n : List UInt8
  m : Int
  t : Int
  x : List UInt8
deriving DecidableEq
def mbV (e : Mb) : List PV := [.str e.n, .int .i64 e.m, .int .i64 e.t, .str e.x]
def mbL (l : List Mb) : List (List PV) := l.map mbV
theorem mbL_len (l : List Mb) : (mbL l).length = l.length := List.length_map _
theorem mbL_at {l : List Mb} {i : Nat} (h : i < l.length) : (mbL l).getD i [] = mbV l[i] := by
  unfold mbL
  rw [List.getD_eq_getElem?_getD, List.getElem?_map, List.getElem?_eq_getElem h]
  rfl
theorem mbL_take (a : List Mb) (n : Nat) : (mbL a).take n = mbL (a.take n) := by unfold mbL; rw [List.map_take]
def unM : List (List PV) → Option (List Mb)
  | [] => some []
  | [.str n, .int .i64 m, .int .i64 t, .str x] :: l => match unM l with
    | some r => some (⟨n, m, t, x⟩ :: r)
    | none => none
  | _ => none
theorem unM_el : ∀ l : List Mb, unM (mbL l) = some l
  | [] => rfl
  | x :: l => by
    show (match unM (mbL l) with | some r => some ((⟨x.n, x.m, x.t, x.x⟩ : Mb) :: r) | none => none) = _
    rw [unM_el l]
theorem unM_spec : ∀ {xs : List (List PV)} {l : List Mb}, unM xs = some l → xs = mbL l
  | [], l, h => by
    have : [] = l := Option.some.inj h
    subst this; rfl
  | x :: xs, l, h => by
    unfold unM at h
    split at h
    · rename_i e; cases e
    · rename_i n m t z l' e
      injection e with e1 e2
      subst e1 e2
      split at h
      · rename_i r hr
        have := Option.some.inj h
        subst this
        rw [unM_spec hr]
        rfl
      · cases h
    · cases h
def plainB (b : UInt8) : Bool := !(decide (b.toNat < 33) || decide (126 < b.toNat))
def namedS (s : List UInt8) : Bool := s.all plainB && (decide (1 ≤ s.length) && decide (s.length ≤ 40))
set_option maxHeartbeats 2000000 in
theorem Named_ok (l : List UInt8) (h : Heap) (hl : l.length ≤ 1000000000) : SCalls env 119 [.str l] h (Ret (.bool (namedS l)) h) := by
  refine SCalls.body Tryz.func119 rfl rfl (by simp [Tryz.ntmps119]) ?_
  refine SW.seq (SW.run [] _ ?_)
  simp only [wpC, Bool.false_eq_true, ↓reduceIte, wpS, stops, wantedA, okDst, Tryz.ntmps119, Nat.reduceLT, decide_true, step1, isOwnCall, hxOp, px, AS.eval, ofConst, ofVal, thenQ, AS.put, enumA, dropKey, reduceCtorEq, true_and]
  refine SW.seq (SW.seq (SW.run [] _ ?_))
  simp only [wpC, Bool.false_eq_true, ↓reduceIte, wpS, stops, wantedA, okDst, Nat.reduceLT, decide_true, step1, isOwnCall, hxOp, px, AS.eval, AS.get, Lift.look, Nat.succ_ne_zero, Option.getD_some, AS.put, dropKey, Nat.reduceEqDiff, reduceCtorEq, pcall, ty9, plen, okLen, and_self, ofConst, ofVal, thenQ, true_and]
  refine SW.block (SW.loopK 28 (fun i : Nat => [(0, .str l), (5, .int .i64 (l.length : Nat)), (6, .int .i64 (i : Nat))]) (fun _ => h) (fun i => i ≤ l.length ∧ (l.take i).all plainB = true) (fun i => l.length - i) 0 ⟨Nat.zero_le _, rfl⟩ ?_ ?_)
  · simp only [Has, hasAll, AS.get, Lift.look, Nat.succ_ne_zero, ↓reduceIte, Option.getD_some, Nat.reduceEqDiff, Int.cast_ofNat_Int, and_self]
  rintro i ⟨hi, hno⟩
  refine SW.seq (SW.run [] _ ?_)
  by_cases hlt : i < l.length
  · have hw : IntKind.i64.wrap ((i : Int) + 1) = ((i + 1 : Nat) : Int) := by rw [w64 (by omega) (by omega)]; rfl
    have hlt2 : (i : Int) < (l.length : Int) := by omega
    have hg : l.getD i 0 = l[i] := by rw [List.getD_eq_getElem?_getD, List.getElem?_eq_getElem hlt]; rfl
    have hnam : plainB l[i] = false → namedS l = false := fun hp => by
      have : l.all plainB = false := by
        rw [Bool.eq_false_iff]
        intro hc
        have h1 := List.all_eq_true.1 hc _ (List.getElem_mem hlt)
        rw [hp] at h1; cases h1
      unfold namedS; rw [this]; rfl
    simp only [wpC, Bool.false_eq_true, ↓reduceIte, wpS, stops, wantedA, okDst, Nat.reduceLT, decide_true, step1, isOwnCall, hxOp, px, isNilC, pbinP, AS.eval, AS.get, Lift.look, reduceCtorEq, Nat.reduceEqDiff, Option.getD_some, pbinI, hlt2, thenQ, Has, hasAll, and_true, AS.put, dropKey, true_and]
    refine SW.seq (SW.run [] _ ?_)
    simp only [wpC, isB, AS.get, Lift.look, tmpOf, ↓reduceIte, Option.getD_some, asB, thenQ, true_and]
    refine SW.seq (SW.block (SW.seq (SW.run [] _ ?_)))
    simp only [wpC, Bool.false_eq_true, ↓reduceIte, wpS, stops, wantedA, okDst, Nat.reduceLT, decide_true, step1, isOwnCall, hxOp, px, AS.eval, AS.get, Lift.look, Nat.reduceEqDiff, reduceCtorEq, Option.getD_some, AS.put, dropKey, thenQ, true_and]
    refine SW.run [] _ ?_
    by_cases h1 : l[i].toNat < 33
    · have hn := hnam (by unfold plainB; simp [h1])
      have h1' : ((l[i].toNat : Nat) : Int) < 33 := by omega
      simp only [wpC, mayStop, stops, isFlt, Specs.has, Specs.hasO, Bool.or_false, Specs.hasH, Bool.not_false, List.any_cons, List.any_nil, Bool.false_eq_true, ↓reduceIte, wpS, wantedA, okDst, Nat.reduceLT, decide_true, step1, isOwnCall, hxOp, px, AS.eval, AS.get, Lift.look, Nat.succ_ne_zero, Option.getD_some, AS.put, dropKey, Nat.reduceEqDiff, reduceCtorEq, pindex, ty9, Int.natCast_nonneg, Int.toNat_natCast, hlt, and_self, hg, isNilC, pbinP, ofConst, ofVal, pbinI, h1', List.getElem?_toArray, List.getElem?_cons_succ, List.getElem?_cons_zero, Option.bind_some, beq_tf, Option.some.injEq, ppick_true, thenQ, isB, tmpOf, asB, inQ, RPost, sres, Tryz.results119, sresL, sres1, hn, Ret_fin, HTo_self, and_true, exists_eq_left']
    have h1' : ¬ ((l[i].toNat : Nat) : Int) < 33 := by omega
    by_cases h2 : 126 < l[i].toNat
    · have hn := hnam (by unfold plainB; simp [h2])
      have h2' : (126 : Int) < ((l[i].toNat : Nat) : Int) := by omega
      simp only [wpC, mayStop, stops, isFlt, Specs.has, Specs.hasO, Bool.or_false, Specs.hasH, Bool.not_false, List.any_cons, List.any_nil, Bool.false_eq_true, ↓reduceIte, wpS, wantedA, okDst, Nat.reduceLT, decide_true, step1, isOwnCall, hxOp, px, AS.eval, AS.get, Lift.look, Nat.succ_ne_zero, Option.getD_some, AS.put, dropKey, Nat.reduceEqDiff, reduceCtorEq, pindex, ty9, Int.natCast_nonneg, Int.toNat_natCast, hlt, and_self, hg, isNilC, pbinP, ofConst, ofVal, pbinI, h1', decide_false, List.getElem?_toArray, List.getElem?_cons_succ, List.getElem?_cons_zero, Option.bind_some, beq_self_eq_true, h2', ppick_bool, thenQ, isB, tmpOf, asB, inQ, RPost, sres, Tryz.results119, sresL, sres1, Option.some.injEq, hn, Ret_fin, HTo_self, and_true, exists_eq_left']
    have h2' : ¬ (126 : Int) < ((l[i].toNat : Nat) : Int) := by omega
    simp only [wpC, mayStop, stops, isFlt, Specs.has, Specs.hasO, Bool.or_false, Specs.hasH, Bool.not_false, List.any_cons, List.any_nil, Bool.false_eq_true, ↓reduceIte, wpS, wantedA, okDst, Nat.reduceLT, decide_true, step1, isOwnCall, hxOp, px, AS.eval, AS.get, Lift.look, Nat.succ_ne_zero, Option.getD_some, AS.put, dropKey, Nat.reduceEqDiff, reduceCtorEq, pindex, ty9, Int.natCast_nonneg, Int.toNat_natCast, hlt, and_self, hg, isNilC, pbinP, ofConst, ofVal, pbinI, h1', decide_false, List.getElem?_toArray, List.getElem?_cons_succ, List.getElem?_cons_zero, Option.bind_some, beq_self_eq_true, h2', ppick_bool, thenQ, isB, tmpOf, asB, inQ, true_and]
    refine SW.run [] _ ?_
    simp only [wpC, Bool.false_eq_true, ↓reduceIte, wpS, stops, isFlt, ty3, wantedA, okDst, Nat.reduceLT, decide_true, step1, isOwnCall, hxOp, px, isNilC, pbinP, AS.eval, AS.get, Lift.look, Nat.reduceEqDiff, reduceCtorEq, Option.getD_some, ofConst, ofVal, pbinI, hw, AS.put, dropKey, thenQ, Nat.succ_ne_zero, true_and]
    refine ⟨i + 1, ⟨by omega, ?_⟩, by omega, rfl⟩
    rw [List.take_succ_eq_append_getElem hlt, List.all_append, hno]
    simp [plainB, h1, h2]
  · have hlt2 : ¬ (i : Int) < (l.length : Int) := by omega
    rw [List.take_of_length_le (by omega)] at hno
    simp only [wpC, Bool.false_eq_true, ↓reduceIte, wpS, stops, wantedA, okDst, Nat.reduceLT, decide_true, step1, isOwnCall, hxOp, px, isNilC, pbinP, AS.eval, AS.get, Lift.look, reduceCtorEq, Nat.reduceEqDiff, Option.getD_some, pbinI, hlt2, decide_false, thenQ, Has, hasAll, and_true, AS.put, dropKey, true_and]
    refine SW.seq (SW.run [] _ ?_)
    simp only [wpC, isB, AS.get, Lift.look, tmpOf, ↓reduceIte, Option.getD_some, asB, Bool.false_eq_true, thenQ, inQ, true_and]
    refine SW.run [] _ ?_
    by_cases h1 : 1 ≤ l.length
    · have h1' : (1 : Int) ≤ (l.length : Int) := by omega
      by_cases h2 : l.length ≤ 40
      · have h2' : (l.length : Int) ≤ 40 := by omega
        simp only [wpC, mayStop, stops, isFlt, Specs.has, Specs.hasO, Bool.or_false, Specs.hasH, Bool.not_false, List.any_cons, List.any_nil, Bool.false_eq_true, ↓reduceIte, wpS, wantedA, okDst, Nat.reduceLT, decide_true, step1, isOwnCall, hxOp, px, AS.eval, AS.get, Lift.look, Nat.succ_ne_zero, Option.getD_some, AS.put, dropKey, Nat.reduceEqDiff, reduceCtorEq, pcall, ty9, plen, okLen, and_self, isNilC, pbinP, ofConst, ofVal, pbinI, h1', List.getElem?_toArray, List.getElem?_cons_succ, List.getElem?_cons_zero, Option.bind_some, beq_self_eq_true, h2', ppick_bool, thenQ, RPost, sres, Tryz.results119, sresL, sres1, Option.some.injEq, Ret_fin, HTo_self, and_true, exists_eq_left', true_and]
        unfold namedS
        rw [hno]; simp [h1, h2]
      · have h2' : ¬ (l.length : Int) ≤ 40 := by omega
        simp only [wpC, mayStop, stops, isFlt, Specs.has, Specs.hasO, Bool.or_false, Specs.hasH, Bool.not_false, List.any_cons, List.any_nil, Bool.false_eq_true, ↓reduceIte, wpS, wantedA, okDst, Nat.reduceLT, decide_true, step1, isOwnCall, hxOp, px, AS.eval, AS.get, Lift.look, Nat.succ_ne_zero, Option.getD_some, AS.put, dropKey, Nat.reduceEqDiff, reduceCtorEq, pcall, ty9, plen, okLen, and_self, isNilC, pbinP, ofConst, ofVal, pbinI, h1', List.getElem?_toArray, List.getElem?_cons_succ, List.getElem?_cons_zero, Option.bind_some, beq_self_eq_true, h2', decide_false, ppick_bool, thenQ, RPost, sres, Tryz.results119, sresL, sres1, Option.some.injEq, Ret_fin, HTo_self, and_true, exists_eq_left', true_and]
        unfold namedS
        rw [hno]; simp [h1, h2]
    · have h1' : ¬ (1 : Int) ≤ (l.length : Int) := by omega
      simp only [wpC, mayStop, stops, isFlt, Specs.has, Specs.hasO, Bool.or_false, Specs.hasH, Bool.not_false, List.any_cons, List.any_nil, Bool.false_eq_true, ↓reduceIte, wpS, wantedA, okDst, Nat.reduceLT, decide_true, step1, isOwnCall, hxOp, px, AS.eval, AS.get, Lift.look, Nat.succ_ne_zero, Option.getD_some, AS.put, dropKey, Nat.reduceEqDiff, reduceCtorEq, pcall, ty9, plen, okLen, and_self, isNilC, pbinP, ofConst, ofVal, pbinI, h1', decide_false, List.getElem?_toArray, List.getElem?_cons_succ, List.getElem?_cons_zero, Option.bind_some, beq_ft, Option.some.injEq, ppick_false, thenQ, RPost, sres, Tryz.results119, sresL, sres1, Ret_fin, HTo_self, and_true, exists_eq_left', true_and]
      unfold namedS
      rw [hno]; simp [h1]
noncomputable def eNamed : SpecE env := ⟨119, sLB namedS, fun args h hc => by
  unfold sLB at hc ⊢
  split at hc
  · rename_i l; exact .inl (Named_ok l h hc)
  · exact hc.elim⟩
set_option maxHeartbeats 2000000 in
theorem SameN_ok (y x : Mb) (q : Nat) (h : Heap) (hq : h q = some (.cells 58 4 (mbV x))) : SCalls env 121 [.agg (mbV y), .val (.pointer (some ⟨q, 0, none⟩))] h (Ret (.bool (y.n == x.n)) h) := by
  refine SCalls.body Tryz.func121 rfl rfl (by simp [Tryz.ntmps121]) ?_
  unfold mbV at hq
  refine SW.seq (SW.run [] _ ?_)
  simp only [wpC, Bool.false_eq_true, ↓reduceIte, wpS, stops, wantedA, okDst, Tryz.ntmps121, Nat.reduceLT, decide_true, step1, known1, AS.eval, AS.get, enumA, mbV, Nat.zero_add, Lift.look, Option.getD_some, AS.put, dropKey, reduceCtorEq, Nat.reduceEqDiff, isOwnCall, hxOp, px, ofConst, ofVal, thenQ, PV.cells, List.length_cons, List.length_nil, Nat.reduceAdd, true_and]
  intro a hna
  have haq : ¬ a = q := fun e => by subst e; rw [hq] at hna; cases hna
  have hqa : ¬ q = a := fun e => haq e.symm
  have i2 : Lift.Inc h (h.put a (.cells 58 4 [.str y.n, .int .i64 y.m, .int .i64 y.t, .str y.x])) := Inc.over (incSelf h) hna _
  refine SW.run [] _ ?_
  simp only [wpC, mayStop, stops, isFlt, Specs.has, Specs.hasO, Bool.or_false, Specs.hasH, Bool.not_false, List.any_cons, List.any_nil, Bool.false_eq_true, ↓reduceIte, wpS, wantedA, okDst, Nat.reduceLT, decide_true, step1, isOwnCall, hxOp, px, pfieldAddr, fieldOf, ty58, fieldIn, List.getElem?_cons_zero, ty9, Option.map_some, AS.eval, AS.get, Lift.look, Nat.reduceEqDiff, Option.getD_some, ne_eq, Nat.succ_ne_zero, not_false_eq_true, Nat.add_zero, AS.put, dropKey, reduceCtorEq, pload, Heap.get_put, okOne, TK.isAgg, beq_self_eq_true, Bool.or_true, Nat.zero_add, List.length_cons, List.length_nil, Nat.reduceAdd, Nat.reduceLeDiff, and_self, Lift.valOf, List.drop_zero, List.take_succ_cons, List.take_zero, List.getD_cons_zero, hqa, hq, isNilC, pbinP, pbinS, thenQ, RPost, sres, Tryz.results121, sresL, sres1, Option.some.injEq, Ret_fin, exists_eq_left', true_and]
  exact Inc.to i2
def hasN (l : List Mb) (x : Mb) : Bool := l.any fun y => y.n == x.n
set_option maxHeartbeats 4000000 in
theorem IdxN_ok (es : List Mb) (x : Mb) (q : Nat) (hl : es.length ≤ 1000000) (h : Heap) (hq : h q = some (.cells 58 4 (mbV x))) : ∃ z : Int, (hasN es x = decide (0 ≤ z)) ∧ SCalls env 34 [.list 4 (mbL es), .val (.func (.func 121) #[] #[.pointer (some ⟨q, 0, none⟩)])] h (Ret (.int .i64 z) h) := by
  have key : ∀ z : Int, z = (if hasN es x then ((es.findIdx (fun y => y.n == x.n) : Nat) : Int) else -1) → SCalls env 34 [.list 4 (mbL es), .val (.func (.func 121) #[] #[.pointer (some ⟨q, 0, none⟩)])] h (Ret (.int .i64 z) h) := by
    intro z hz
    refine SCalls.body Tryz.func34 rfl rfl (by simp [Tryz.ntmps34]) ?_
    refine SW.seq (SW.run [] _ ?_)
    simp only [wpC, Bool.false_eq_true, ↓reduceIte, wpS, stops, wantedA, okDst, Tryz.ntmps34, Nat.reduceLT, decide_true, step1, isOwnCall, hxOp, px, AS.eval, ofConst, ofVal, thenQ, AS.put, enumA, Nat.zero_add, dropKey, reduceCtorEq, Nat.reduceEqDiff, true_and]
    refine SW.seq (SW.seq (SW.run [] _ ?_))
    simp only [wpC, Bool.false_eq_true, ↓reduceIte, wpS, stops, wantedA, okDst, Nat.reduceLT, decide_true, step1, isOwnCall, hxOp, px, AS.eval, AS.get, Lift.look, Nat.succ_ne_zero, Option.getD_some, AS.put, dropKey, Nat.reduceEqDiff, reduceCtorEq, pcall, ty52, plen, mbL_len, okLen, and_self, ofConst, ofVal, thenQ, true_and]
    refine SW.block (SW.loop (fun bb st => ∃ i : Nat, i ≤ es.length ∧ es.length - i = bb ∧ hasN (es.take i) x = false ∧ Lift.Inc h st.h ∧ st.n = 19 ∧ hasAll st [(0, .list 4 (mbL es)), (1, .val (.func (.func 121) #[] #[.pointer (some ⟨q, 0, none⟩)])), (6, .list 4 (mbL es)), (7, .int .i64 (es.length : Nat)), (8, .int .i64 (i : Nat))]) es.length ⟨0, Nat.zero_le _, rfl, rfl, incSelf h, rfl, ?_⟩ ?_)
    · simp only [hasAll, AS.get, Lift.look, Nat.succ_ne_zero, ↓reduceIte, Option.getD_some, Nat.reduceEqDiff, reduceCtorEq, Int.cast_ofNat_Int, and_self]
    rintro bb st ⟨i, hi, hbb, htk, inc, hn, hs'⟩
    refine SW.norm ⟨hn, rfl, hs'⟩ ?_
    generalize st.h = H at inc
    clear hn hs'
    refine SW.seq (SW.run [] _ ?_)
    by_cases hlt : i < es.length
    · have hw : IntKind.i64.wrap ((i : Int) + 1) = ((i + 1 : Nat) : Int) := by rw [w64 (by omega) (by omega)]; rfl
      have hg := mbL_at hlt
      simp only [wpC, Bool.false_eq_true, ↓reduceIte, wpS, stops, wantedA, okDst, Nat.reduceLT, decide_true, step1, isOwnCall, hxOp, px, isNilC, pbinP, AS.eval, AS.get, Lift.look, reduceCtorEq, Nat.reduceEqDiff, Option.getD_some, pbinI, Int.ofNat_lt, hlt, thenQ, hasAll, and_true, AS.put, dropKey, true_and]
      refine SW.seq (SW.run [] _ ?_)
      simp only [wpC, isB, AS.get, Lift.look, tmpOf, ↓reduceIte, Option.getD_some, asB, thenQ, true_and]
      refine SW.seq (SW.block (SW.seq (SW.run [] _ ?_)))
      simp only [wpC, Bool.false_eq_true, ↓reduceIte, wpS, stops, wantedA, okDst, Nat.reduceLT, decide_true, step1, isOwnCall, hxOp, px, AS.eval, AS.get, Lift.look, Nat.reduceEqDiff, reduceCtorEq, Option.getD_some, AS.put, dropKey, thenQ, true_and]
      refine SW.seq (SW.run [] _ ?_)
      simp only [wpC, Bool.false_eq_true, ↓reduceIte, wpS, stops, wantedA, okDst, Nat.reduceLT, decide_true, step1, isOwnCall, hxOp, px, AS.eval, AS.get, Lift.look, Nat.reduceEqDiff, reduceCtorEq, Option.getD_some, AS.put, dropKey, Nat.succ_ne_zero, pindexAddr, ty52, ty58, ne_eq, not_false_eq_true, Int.natCast_nonneg, Int.toNat_natCast, mbL_len, hlt, and_self, hg, mbV, pload, okOne, TK.isAgg, Nat.reduceBEq, Bool.or_false, List.length_cons, List.length_nil, Nat.zero_add, Nat.reduceAdd, Nat.le_refl, Lift.valOf, List.take_succ_cons, List.take_nil, true_and]
      refine SWO.call (.tmp 11) #[.tmp 15] _ 121 #[] #[.pointer (some ⟨q, 0, none⟩)] rfl rfl rfl rfl rfl rfl (SameN_ok es[i] x q H (inc _ _ hq)) rfl rfl ?_ (fun c h' hc => by cases hc.1)
      rintro p' h' ⟨hp', rfl⟩
      injection hp' with hp'
      subst hp'
      refine SWO.run [] 1000 ?_
      cases heq : (es[i].n == x.n)
      · simp only [wpS, thenQ, AS.put, dropKey, Nat.reduceEqDiff, ↓reduceIte, reduceCtorEq]
        refine SW.run [] _ ?_
        simp only [wpC, isB, AS.get, Lift.look, tmpOf, ↓reduceIte, Option.getD_some, asB, Bool.false_eq_true, inQ, thenQ, true_and]
        refine SW.run [] _ ?_
        simp only [wpC, Bool.false_eq_true, ↓reduceIte, wpS, stops, isFlt, ty3, wantedA, okDst, Nat.reduceLT, decide_true, step1, isOwnCall, hxOp, px, isNilC, pbinP, AS.eval, AS.get, Lift.look, Nat.reduceEqDiff, reduceCtorEq, Option.getD_some, ofConst, ofVal, pbinI, hw, AS.put, dropKey, thenQ, Nat.succ_ne_zero, true_and]
        refine ⟨es.length - (i + 1), by omega, i + 1, by omega, rfl, ?_, inc, rfl⟩
        unfold hasN at htk ⊢
        rw [List.take_succ_eq_append_getElem hlt, List.any_append, htk]
        simpa using heq
      · have h1 : hasN es x = true := by unfold hasN; rw [List.any_eq_true]; exact ⟨_, List.getElem_mem hlt, heq⟩
        have h2 : es.findIdx (fun y => y.n == x.n) = i := by
          rw [List.findIdx_eq hlt]
          refine ⟨heq, fun j hj => ?_⟩
          unfold hasN at htk
          rw [List.any_eq_false] at htk
          have hj2 : j < (es.take i).length := by rw [List.length_take]; omega
          have := htk _ (List.getElem_mem hj2)
          rw [List.getElem_take] at this
          simpa using this
        rw [h1, if_pos rfl, h2] at hz
        simp only [wpS, thenQ, AS.put, dropKey, Nat.reduceEqDiff, ↓reduceIte, reduceCtorEq]
        refine SW.run [] _ ?_
        simp only [wpC, isB, AS.get, Lift.look, tmpOf, ↓reduceIte, Option.getD_some, asB, mayStop, stops, isFlt, Specs.has, Specs.hasO, Bool.or_false, Specs.hasH, Bool.not_false, List.any_cons, List.any_nil, Bool.false_eq_true, wpS, wantedA, okDst, Nat.reduceLT, decide_true, step1, isOwnCall, hxOp, px, AS.eval, Nat.reduceEqDiff, AS.put, dropKey, reduceCtorEq, thenQ, inQ, RPost, sres, Tryz.results34, sresL, sres1, Option.some.injEq, hz, Ret_fin, exists_eq_left', true_and]
        exact Inc.to inc
    · have h1 : hasN es x = false := by
        rw [List.take_of_length_le (by omega)] at htk
        exact htk
      rw [h1] at hz
      have hz : z = -1 := hz
      simp only [wpC, Bool.false_eq_true, ↓reduceIte, wpS, stops, wantedA, okDst, Nat.reduceLT, decide_true, step1, isOwnCall, hxOp, px, isNilC, pbinP, AS.eval, AS.get, Lift.look, reduceCtorEq, Nat.reduceEqDiff, Option.getD_some, pbinI, Int.ofNat_lt, hlt, decide_false, thenQ, hasAll, and_true, AS.put, dropKey, true_and]
      refine SW.seq (SW.run [] _ ?_)
      simp only [wpC, isB, AS.get, Lift.look, tmpOf, ↓reduceIte, Option.getD_some, asB, Bool.false_eq_true, thenQ, inQ, true_and]
      refine SW.run [] _ ?_
      simp only [wpC, mayStop, stops, isFlt, Specs.has, Specs.hasO, Bool.or_false, Specs.hasH, Bool.not_false, List.any_cons, List.any_nil, Bool.false_eq_true, ↓reduceIte, wpS, wantedA, okDst, Nat.reduceLT, decide_true, step1, isOwnCall, hxOp, px, AS.eval, ofConst, ofVal, thenQ, RPost, sres, AS.put, dropKey, Nat.reduceEqDiff, reduceCtorEq, Tryz.results34, sresL, sres1, AS.get, Lift.look, Option.getD_some, Option.some.injEq, hz, Ret_fin, exists_eq_left', true_and]
      exact Inc.to inc
  refine ⟨_, ?_, key _ rfl⟩
  cases hasN es x
  · rfl
  · symm; rw [decide_eq_true_iff]; exact Int.natCast_nonneg _
set_option maxHeartbeats 2000000 in
theorem ContN_ok (es : List Mb) (x : Mb) (q : Nat) (hl : es.length ≤ 1000000) (h : Heap) (hq : h q = some (.cells 58 4 (mbV x))) : SCalls env 120 [.list 4 (mbL es), .val (.func (.func 121) #[] #[.pointer (some ⟨q, 0, none⟩)])] h (Ret (.bool (hasN es x)) h) := by
  refine SCalls.body Tryz.func120 rfl rfl (by simp [Tryz.ntmps120]) ?_
  obtain ⟨z, hz, hc⟩ := IdxN_ok es x q hl h hq
  refine SW.seq (SW.run [] _ ?_)
  simp only [wpC, Bool.false_eq_true, ↓reduceIte, wpS, stops, wantedA, okDst, Tryz.ntmps120, Nat.reduceLT, decide_true, step1, isOwnCall, hxOp, px, AS.eval, ofConst, ofVal, thenQ, AS.put, enumA, Nat.zero_add, dropKey, reduceCtorEq, Nat.reduceEqDiff, true_and]
  refine SW.run [] _ ?_
  simp only [wpC, mayStop, stops, isFlt, Specs.has, Specs.hasO, Bool.or_false, Specs.hasH, Bool.not_false, List.any_cons, List.any_nil, Bool.or_true, ↓reduceIte, Bool.false_eq_true, wpS, wantedA, okDst, Nat.reduceLT, decide_true, step1, isOwnCall, hxOp, px, AS.eval, AS.get, Lift.look, Nat.succ_ne_zero, Option.getD_some, AS.put, dropKey, Nat.reduceEqDiff, reduceCtorEq, true_and]
  refine SWO.call (.func 34) #[.tmp 5, .tmp 6] _ 34 #[] #[] rfl rfl rfl rfl rfl rfl hc rfl rfl ?_ (fun c h' hc => by cases hc.1)
  rintro p' h' ⟨hp', rfl⟩
  injection hp' with hp'
  subst hp'
  refine SWO.run [] 1000 ?_
  simp only [wpS, stops, Bool.false_eq_true, ↓reduceIte, wantedA, okDst, AS.put, dropKey, Nat.reduceEqDiff, reduceCtorEq, Nat.reduceLT, decide_true, step1, isOwnCall, hxOp, px, isNilC, pbinP, AS.eval, AS.get, Lift.look, Option.getD_some, ofConst, ofVal, pbinI, thenQ, true_and]
  refine SW.run [] _ ?_
  simp only [wpC, RPost, sres, Tryz.results120, sresL, sres1, AS.get, Lift.look, ↓reduceIte, Option.getD_some, Option.some.injEq, hz, Ret_fin, HTo_self, and_true, exists_eq_left']
def wrongS (l : List Mb) (e : Mb) (n : Int) : Int := if namedS e.n = false then 8 else if hasN l e = true then 5 else if e.m < 0 ∨ e.t < 0 then 11 else if 1048576 < n then 3 else 0
set_option maxHeartbeats 4000000 in
theorem Wrong_ok (l : List Mb) (e : Mb) (n : Int) (hl : l.length ≤ 1000000) (hn : e.n.length ≤ 1000000000) (h : Heap) : SCalls env 82 [.list 4 (mbL l), .agg (mbV e), .int .i64 n] h (Ret (.int .i64 (wrongS l e n)) h) := by
  refine SCalls.body Tryz.func82 rfl rfl (by simp [Tryz.ntmps82]) ?_
  refine SW.seq (SW.run [] _ ?_)
  simp only [wpC, Bool.false_eq_true, ↓reduceIte, wpS, stops, wantedA, okDst, Tryz.ntmps82, Nat.reduceLT, decide_true, step1, known1, AS.eval, AS.get, enumA, Nat.zero_add, mbV, Nat.reduceAdd, Lift.look, reduceCtorEq, Option.getD_some, AS.put, dropKey, Nat.reduceEqDiff, isOwnCall, hxOp, px, ofConst, ofVal, thenQ, PV.cells, List.length_cons, List.length_nil, true_and]
  intro q hq
  have gq : (h.put q (.cells 58 4 [.str e.n, .int .i64 e.m, .int .i64 e.t, .str e.x])) q = some (.cells 58 4 [.str e.n, .int .i64 e.m, .int .i64 e.t, .str e.x]) := Heap.put_same _ _ _
  have inc : Lift.Inc h (h.put q (.cells 58 4 [.str e.n, .int .i64 e.m, .int .i64 e.t, .str e.x])) := Inc.over (incSelf h) hq _
  generalize h.put q (.cells 58 4 [.str e.n, .int .i64 e.m, .int .i64 e.t, .str e.x]) = H at gq inc ⊢
  refine SW.seq (SW.block (SW.seq (SW.run [eNamed] _ ?_)))
  unfold wrongS
  cases hnm : namedS e.n
  · simp only [wpC, Bool.false_eq_true, ↓reduceIte, wpS, stops, wantedA, okDst, Nat.reduceLT, decide_true, step1, isOwnCall, hxOp, px, pfieldAddr, fieldOf, ty58, fieldIn, List.getElem?_cons_zero, ty9, Option.map_some, AS.eval, AS.get, Lift.look, Nat.reduceEqDiff, Option.getD_some, ne_eq, Nat.succ_ne_zero, not_false_eq_true, Nat.add_zero, AS.put, dropKey, reduceCtorEq, pload, gq, okOne, TK.isAgg, beq_self_eq_true, Bool.or_true, Nat.zero_add, List.length_cons, List.length_nil, Nat.reduceAdd, Nat.reduceLeDiff, and_self, Lift.valOf, List.drop_zero, List.take_succ_cons, List.take_zero, List.getD_cons_zero, Specs.has, eNamed, Specs.hasO, Bool.or_false, Specs.hasH, Bool.not_true, pcall, okArg, ofConst, ofVal, List.all_cons, List.all_nil, Bool.and_true, Specs.at, List.map_cons, List.map_nil, sLB, hn, hnm, pun, Bool.not_false, thenQ, true_and]
    refine SW.run [] _ ?_
    simp only [wpC, isB, AS.get, Lift.look, tmpOf, ↓reduceIte, Option.getD_some, asB, mayStop, stops, isFlt, Specs.has, Specs.hasO, Bool.or_false, Specs.hasH, Bool.not_false, List.any_cons, List.any_nil, Bool.false_eq_true, wpS, wantedA, okDst, Nat.reduceLT, decide_true, step1, isOwnCall, hxOp, px, AS.eval, ofConst, ofVal, thenQ, inQ, RPost, sres, AS.put, dropKey, Nat.reduceEqDiff, reduceCtorEq, Tryz.results82, sresL, sres1, Option.some.injEq, Ret_fin, exists_eq_left', true_and]
    exact Inc.to inc
  simp only [wpC, Bool.false_eq_true, ↓reduceIte, wpS, stops, wantedA, okDst, Nat.reduceLT, decide_true, step1, isOwnCall, hxOp, px, pfieldAddr, fieldOf, ty58, fieldIn, List.getElem?_cons_zero, ty9, Option.map_some, AS.eval, AS.get, Lift.look, Nat.reduceEqDiff, Option.getD_some, ne_eq, Nat.succ_ne_zero, not_false_eq_true, Nat.add_zero, AS.put, dropKey, reduceCtorEq, pload, gq, okOne, TK.isAgg, beq_self_eq_true, Bool.or_true, Nat.zero_add, List.length_cons, List.length_nil, Nat.reduceAdd, Nat.reduceLeDiff, and_self, Lift.valOf, List.drop_zero, List.take_succ_cons, List.take_zero, List.getD_cons_zero, Specs.has, eNamed, Specs.hasO, Bool.or_false, Specs.hasH, Bool.not_true, pcall, okArg, ofConst, ofVal, List.all_cons, List.all_nil, Bool.and_true, Specs.at, List.map_cons, List.map_nil, sLB, hn, hnm, pun, thenQ, Bool.true_eq_false, true_and]
  refine SW.run [] _ ?_
  simp only [wpC, isB, AS.get, Lift.look, tmpOf, ↓reduceIte, Option.getD_some, asB, Bool.false_eq_true, mayStop, stops, isFlt, Specs.has, Specs.hasO, Bool.or_false, Specs.hasH, Bool.not_false, List.any_cons, List.any_nil, Bool.or_true, wpS, wantedA, okDst, Nat.reduceLT, decide_true, step1, isOwnCall, hxOp, px, AS.eval, Nat.succ_ne_zero, AS.put, dropKey, Nat.reduceEqDiff, reduceCtorEq, List.map_cons, List.map_nil, unVs, unV, true_and]
  refine SWO.call (.func 120) #[.tmp 13, .tmp 14] _ 120 #[] #[] rfl rfl rfl rfl rfl rfl (ContN_ok l e q hl H gq) rfl rfl ?_ (fun c h' hc => by cases hc.1)
  rintro p' h' ⟨hp', rfl⟩
  injection hp' with hp'
  subst hp'
  refine SWO.run [] 1000 ?_
  cases hhn : hasN l e
  case true =>
    simp only [wpS, stops, Bool.false_eq_true, ↓reduceIte, wantedA, okDst, AS.put, dropKey, Nat.reduceEqDiff, reduceCtorEq, Nat.reduceLT, decide_true, step1, isOwnCall, hxOp, px, AS.eval, AS.get, Lift.look, Option.getD_some, thenQ, true_and]
    refine SW.run [] _ ?_
    simp only [wpC, isB, AS.get, Lift.look, tmpOf, ↓reduceIte, Option.getD_some, asB, mayStop, stops, isFlt, Specs.has, Specs.hasO, Bool.or_false, Specs.hasH, Bool.not_false, List.any_cons, List.any_nil, Bool.false_eq_true, wpS, wantedA, okDst, Nat.reduceLT, decide_true, step1, isOwnCall, hxOp, px, AS.eval, ofConst, ofVal, thenQ, inQ, RPost, sres, AS.put, dropKey, Nat.reduceEqDiff, reduceCtorEq, Tryz.results82, sresL, sres1, Option.some.injEq, Ret_fin, exists_eq_left', true_and]
    exact Inc.to inc
  simp only [wpS, stops, Bool.false_eq_true, ↓reduceIte, wantedA, okDst, AS.put, dropKey, Nat.reduceEqDiff, reduceCtorEq, Nat.reduceLT, decide_true, step1, isOwnCall, hxOp, px, AS.eval, AS.get, Lift.look, Option.getD_some, thenQ, true_and]
  refine SW.run [] _ ?_
  by_cases h1 : e.m < 0
  · simp only [wpC, isB, AS.get, Lift.look, tmpOf, ↓reduceIte, Option.getD_some, asB, Bool.false_eq_true, mayStop, stops, isFlt, Specs.has, Specs.hasO, Bool.or_false, Specs.hasH, Bool.not_false, List.any_cons, List.any_nil, wpS, wantedA, okDst, Nat.reduceLT, decide_true, step1, isOwnCall, hxOp, px, pfieldAddr, fieldOf, ty58, fieldIn, List.getElem?_cons_succ, List.getElem?_cons_zero, ty3, Option.map_some, AS.eval, Nat.reduceEqDiff, ne_eq, Nat.succ_ne_zero, not_false_eq_true, Nat.zero_add, AS.put, dropKey, reduceCtorEq, pload, gq, okOne, TK.isAgg, beq_self_eq_true, Bool.or_true, Nat.reduceAdd, List.length_cons, List.length_nil, Nat.reduceLeDiff, and_self, Lift.valOf, List.drop_succ_cons, List.drop_zero, List.take_succ_cons, List.take_zero, List.getD_cons_zero, isNilC, pbinP, ofConst, ofVal, pbinI, h1, List.getElem?_toArray, Option.bind_some, beq_tf, Option.some.injEq, ppick_true, thenQ, inQ, RPost, sres, Tryz.results82, sresL, sres1, true_or, Ret_fin, exists_eq_left', true_and]
    exact Inc.to inc
  by_cases h2 : e.t < 0
  · simp only [wpC, isB, AS.get, Lift.look, tmpOf, ↓reduceIte, Option.getD_some, asB, Bool.false_eq_true, mayStop, stops, isFlt, Specs.has, Specs.hasO, Bool.or_false, Specs.hasH, Bool.not_false, List.any_cons, List.any_nil, wpS, wantedA, okDst, Nat.reduceLT, decide_true, step1, isOwnCall, hxOp, px, pfieldAddr, fieldOf, ty58, fieldIn, List.getElem?_cons_succ, List.getElem?_cons_zero, ty3, Option.map_some, AS.eval, Nat.reduceEqDiff, ne_eq, Nat.succ_ne_zero, not_false_eq_true, Nat.zero_add, AS.put, dropKey, reduceCtorEq, pload, gq, okOne, TK.isAgg, beq_self_eq_true, Bool.or_true, Nat.reduceAdd, List.length_cons, List.length_nil, Nat.reduceLeDiff, and_self, Lift.valOf, List.drop_succ_cons, List.drop_zero, List.take_succ_cons, List.take_zero, List.getD_cons_zero, isNilC, pbinP, ofConst, ofVal, pbinI, h1, decide_false, List.getElem?_toArray, Option.bind_some, h2, ppick_bool, thenQ, inQ, RPost, sres, Tryz.results82, sresL, sres1, Option.some.injEq, or_true, Ret_fin, exists_eq_left', true_and]
    exact Inc.to inc
  by_cases h3 : 1048576 < n
  · simp only [wpC, isB, AS.get, Lift.look, tmpOf, ↓reduceIte, Option.getD_some, asB, Bool.false_eq_true, mayStop, stops, isFlt, Specs.has, Specs.hasO, Bool.or_false, Specs.hasH, Bool.not_false, List.any_cons, List.any_nil, wpS, wantedA, okDst, Nat.reduceLT, decide_true, step1, isOwnCall, hxOp, px, pfieldAddr, fieldOf, ty58, fieldIn, List.getElem?_cons_succ, List.getElem?_cons_zero, ty3, Option.map_some, AS.eval, Nat.reduceEqDiff, ne_eq, Nat.succ_ne_zero, not_false_eq_true, Nat.zero_add, AS.put, dropKey, reduceCtorEq, pload, gq, okOne, TK.isAgg, beq_self_eq_true, Bool.or_true, Nat.reduceAdd, List.length_cons, List.length_nil, Nat.reduceLeDiff, and_self, Lift.valOf, List.drop_succ_cons, List.drop_zero, List.take_succ_cons, List.take_zero, List.getD_cons_zero, isNilC, pbinP, ofConst, ofVal, pbinI, h1, decide_false, List.getElem?_toArray, Option.bind_some, h2, ppick_bool, thenQ, h3, inQ, RPost, sres, Tryz.results82, sresL, sres1, Option.some.injEq, or_self, Ret_fin, exists_eq_left', true_and]
    exact Inc.to inc
  simp only [wpC, isB, AS.get, Lift.look, tmpOf, ↓reduceIte, Option.getD_some, asB, Bool.false_eq_true, mayStop, stops, isFlt, Specs.has, Specs.hasO, Bool.or_false, Specs.hasH, Bool.not_false, List.any_cons, List.any_nil, wpS, wantedA, okDst, Nat.reduceLT, decide_true, step1, isOwnCall, hxOp, px, pfieldAddr, fieldOf, ty58, fieldIn, List.getElem?_cons_succ, List.getElem?_cons_zero, ty3, Option.map_some, AS.eval, Nat.reduceEqDiff, ne_eq, Nat.succ_ne_zero, not_false_eq_true, Nat.zero_add, AS.put, dropKey, reduceCtorEq, pload, gq, okOne, TK.isAgg, beq_self_eq_true, Bool.or_true, Nat.reduceAdd, List.length_cons, List.length_nil, Nat.reduceLeDiff, and_self, Lift.valOf, List.drop_succ_cons, List.drop_zero, List.take_succ_cons, List.take_zero, List.getD_cons_zero, isNilC, pbinP, ofConst, ofVal, pbinI, h1, decide_false, List.getElem?_toArray, Option.bind_some, h2, ppick_bool, thenQ, h3, inQ, Tryz.results82, or_self, true_and]
  refine SW.run [] _ ?_
  simp only [wpC, mayStop, stops, isFlt, Specs.has, Specs.hasO, Bool.or_false, Specs.hasH, Bool.not_false, List.any_cons, List.any_nil, Bool.false_eq_true, ↓reduceIte, wpS, wantedA, okDst, Nat.reduceLT, decide_true, step1, isOwnCall, hxOp, px, AS.eval, ofConst, ofVal, thenQ, RPost, sres, sresL, sres1, AS.get, AS.put, dropKey, Nat.reduceEqDiff, reduceCtorEq, Lift.look, Option.getD_some, Option.some.injEq, Ret_fin, exists_eq_left', true_and]
  exact Inc.to inc
def sWrong : List PV → Prop × PV
  | [.list 4 xs, .agg [.str n, .int .i64 m, .int .i64 t, .str x], .int .i64 k] => match unM xs with
    | some l => (l.length ≤ 1000000 ∧ n.length ≤ 1000000000, .int .i64 (wrongS l ⟨n, m, t, x⟩ k))
    | none => PBad
  | _ => PBad
noncomputable def eWrong : SpecE env := ⟨82, sWrong, fun args h hc => by
  unfold sWrong at hc ⊢
  split at hc
  · rename_i xs n m t x k
    split at hc
    · rename_i l hl; rw [unM_spec hl]; exact .inl (Wrong_ok l ⟨n, m, t, x⟩ k hc.1 hc.2 h)
    · exact hc.elim
  · exact hc.elim⟩
end Go.Proofs.YtincpomenogppaaGreatDoor
