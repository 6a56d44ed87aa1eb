/- Contracts of functions that the law reaches. -/
import Derived.Test.YtincpomenogppaaGreatDoorZ6
set_option linter.unusedSimpArgs false
set_option linter.unusedVariables false
namespace Go.Proofs.YtincpomenogppaaGreatDoor
open Go Go.RowKit Go.Proofs.YtincpomenogppaaGreatDoor Go.Proofs.YtincpomenogppaaGreatDoor.Lift
set_option maxRecDepth 100000

def repS (l : List Mb) (m : Mb) : List Mb := if hasN l m = true then l.set (l.findIdx (fun y => y.n == m.n)) m else l ++ [m]
theorem hasN_idx {l : List Mb} {m : Mb} (h : hasN l m = true) : l.findIdx (fun y => y.n == m.n) < l.length := by
  unfold hasN at h
  rw [List.any_eq_true] at h
  exact List.findIdx_lt_length.2 h
theorem mbL_flat_set : ∀ {l : List Mb} {i : Nat} (h : i < l.length) (m : Mb), List.take (i * 4) (mbL l).flatten ++ mbV m ++ List.drop (i * 4 + 4) (mbL l).flatten = (mbL (l.set i m)).flatten
  | x :: l, 0, _, m => by
    have e : (mbL (x :: l)).flatten = mbV x ++ (mbL l).flatten := rfl
    rw [e]
    rfl
  | x :: l, i + 1, h, m => by
    have ih := mbL_flat_set (l := l) (i := i) (by simpa using h) m
    have e : (mbL (x :: l)).flatten = mbV x ++ (mbL l).flatten := rfl
    have e2 : (mbL ((x :: l).set (i + 1) m)).flatten = mbV x ++ (mbL (l.set i m)).flatten := rfl
    have h1 : (i + 1) * 4 = (mbV x).length + i * 4 := by show _ = 4 + i * 4; omega
    have h2 : (i + 1) * 4 + 4 = (mbV x).length + (i * 4 + 4) := by show _ = 4 + (i * 4 + 4); omega
    rw [e, e2, ← ih, h2, h1, List.take_append, List.drop_append, List.take_of_length_le (by omega), List.drop_of_length_le (by omega)]
    simp
theorem mbL_wide (l : List Mb) : ∀ x ∈ mbL l, x.length = 4 := fun x hx => by
  unfold mbL at hx
  obtain ⟨y, _, rfl⟩ := List.mem_map.1 hx
  rfl
theorem mbC_len (l : List Mb) (i : Nat) (m : Mb) : (mbL (l.set i m)).length = (mbL l).length := by rw [mbL_len, mbL_len, List.length_set]
set_option maxHeartbeats 4000000 in
theorem ReplaceO_ok (l : List Mb) (m : Mb) (hl : l.length ≤ 1000000) (h : Heap) : SCalls env 36 [.list 4 (mbL l), .agg (mbV m)] h (fun e h' => ∃ u, e = .ret u ∧ Own h 58 4 (mbL (repS l m)) u h') := by
  refine SCalls.body Tryz.func36 rfl rfl (by simp [Tryz.ntmps36]) ?_
  refine SW.seq (SW.run [] _ ?_)
  simp only [wpC, Bool.false_eq_true, ↓reduceIte, wpS, stops, wantedA, okDst, Tryz.ntmps36, Nat.reduceLT, decide_true, step1, known1, AS.eval, AS.get, enumA, Nat.zero_add, mbV, Lift.look, reduceCtorEq, Option.getD_some, AS.put, dropKey, Nat.reduceEqDiff, isOwnCall, hxOp, px, ofConst, ofVal, thenQ, PV.cells, List.length_cons, List.length_nil, Nat.reduceAdd, true_and]
  intro q hq
  have gq : (h.put q (.cells 58 4 [.str m.n, .int .i64 m.m, .int .i64 m.t, .str m.x])) q = some (.cells 58 4 [.str m.n, .int .i64 m.m, .int .i64 m.t, .str m.x]) := Heap.put_same _ _ _
  have inc0 : Lift.Inc h (h.put q (.cells 58 4 [.str m.n, .int .i64 m.m, .int .i64 m.t, .str m.x])) := Inc.over (incSelf h) hq _
  generalize h.put q (.cells 58 4 [.str m.n, .int .i64 m.m, .int .i64 m.t, .str m.x]) = H0 at gq inc0 ⊢
  refine SW.seq (SW.run [] _ ?_)
  simp only [wpC, Bool.false_eq_true, ↓reduceIte, wpS, stops, wantedA, okDst, Nat.reduceLT, decide_true, step1, isOwnCall, hxOp, px, AS.eval, AS.get, Lift.look, Nat.succ_ne_zero, Option.getD_some, Specs.has, Specs.hasO, Bool.or_false, Specs.hasH, Bool.not_false, AS.put, dropKey, Nat.reduceEqDiff, reduceCtorEq, true_and]
  refine SWO.call (.func 86) #[.tmp 7] _ 86 #[] #[] rfl rfl rfl rfl rfl rfl (CloneM_ok l H0 (by omega)) rfl rfl ?_ (fun c h' hc => by obtain ⟨_, hc, _⟩ := hc; cases hc)
  rintro v h1 ⟨u, e1, ow⟩
  injection e1 with e1
  subst e1
  have gq1 : h1 q = some (.cells 58 4 (mbV m)) := ow.base gq
  obtain ⟨A0, N0, rfl⟩ := ow.slice
  refine SWO.run [] 1000 ?_
  simp only [wpS, stops, Bool.false_eq_true, ↓reduceIte, wantedA, okDst, AS.put, mbL_len, dropKey, Nat.reduceEqDiff, reduceCtorEq, Nat.reduceLT, decide_true, step1, isOwnCall, hxOp, px, AS.eval, AS.get, Lift.look, Option.getD_some, thenQ, true_and]
  refine SW.seq (SW.seq (SW.run [] _ ?_))
  simp only [wpC, Bool.false_eq_true, ↓reduceIte, wpS, stops, wantedA, okDst, Nat.reduceLT, decide_true, step1, isOwnCall, hxOp, px, AS.eval, AS.get, Lift.look, Nat.succ_ne_zero, Option.getD_some, AS.put, dropKey, Nat.reduceEqDiff, reduceCtorEq, List.map_cons, List.map_nil, unVs, unV, Specs.has, Specs.hasO, Bool.or_false, Specs.hasH, Bool.not_false, true_and]
  refine SWO.callRet (.func 34) #[.tmp 9, .tmp 10] _ 34 #[] #[] rfl rfl rfl rfl rfl rfl (IdxG_ok l m q 87 hl h1 (fun y H i => SameR_ok y m q H (i _ _ gq1)) rfl) rfl rfl ?_
  refine SWO.run [] 1000 ?_
  simp only [wpS, stops, Bool.false_eq_true, ↓reduceIte, wantedA, okDst, AS.put, dropKey, Nat.reduceEqDiff, reduceCtorEq, Nat.reduceLT, decide_true, step1, isOwnCall, hxOp, px, AS.eval, AS.get, Lift.look, Option.getD_some, thenQ, true_and]
  refine SW.run [] _ ?_
  have gq2 : h1 q = some (.cells 58 4 [.str m.n, .int .i64 m.m, .int .i64 m.t, .str m.x]) := gq1
  cases hh : hasN l m
  · have hz : idxN l m = -1 := by unfold idxN; rw [hh]; rfl
    have hr : repS l m = l ++ [m] := by unfold repS; rw [hh]; rfl
    rw [hz, hr]
    simp only [wpC, mayStop, stops, isFlt, Specs.has, Specs.hasO, Bool.or_false, Specs.hasH, Bool.not_false, List.any_cons, List.any_nil, Bool.false_eq_true, ↓reduceIte, wpS, wantedA, okDst, Nat.reduceLT, decide_true, step1, isOwnCall, hxOp, px, AS.eval, AS.get, Lift.look, Option.getD_some, AS.put, dropKey, Nat.reduceEqDiff, reduceCtorEq, isNilC, pbinP, ofConst, ofVal, pbinI, Int.reduceLE, decide_false, thenQ, isB, tmpOf, asB, true_and]
    refine SW.seq (SW.run [] _ ?_)
    simp only [wpC, Bool.false_eq_true, ↓reduceIte, wpS, stops, wantedA, okDst, Nat.reduceLT, decide_true, step1, isOwnCall, hxOp, px, AS.eval, AS.get, Lift.look, Nat.reduceEqDiff, Option.getD_some, AS.put, dropKey, reduceCtorEq, pload, ty58, gq2, okOne, TK.isAgg, Nat.reduceBEq, Bool.or_false, Nat.zero_add, List.length_cons, List.length_nil, Nat.reduceAdd, Nat.le_refl, and_self, Lift.valOf, List.drop_zero, List.take_succ_cons, List.take_nil, pbuildSlice, ty52, Nat.succ_ne_zero, List.replicate, List.map_cons, ofVal, List.map_nil, List.flatten_cons, List.flatten_nil, List.append_nil, ofConst, pfill, PV.cells, Nat.reduceMul, splice, List.take_zero, List.nil_append, List.drop_succ_cons, List.drop_nil, Nat.reduceLeDiff, okZero, List.all_cons, Value.oneCell', List.all_nil, Bool.and_true, known, chunk, true_and]
    rw [mbL_len] at ow
    refine SWO.append (.tmp 19) (.tmp 21) 52 52 rfl ty52 rfl ty58 (by decide) rfl ty52 rfl ow (ys := [mbV m]) rfl (by rw [mbL_len]; show (_ + 1) * 48 ≤ _; omega) (by rw [mbL_len]; simp [maxLen]; omega) rfl rfl ?_
    intro v' h' ow' _ _
    refine SWO.run [] 1000 ?_
    obtain ⟨A1, N1, rfl⟩ := ow'.slice
    simp only [wpS, stops, Bool.false_eq_true, ↓reduceIte, wantedA, okDst, AS.put, dropKey, Nat.reduceEqDiff, reduceCtorEq, Nat.reduceLT, decide_true, step1, isOwnCall, hxOp, px, AS.eval, AS.get, Lift.look, Option.getD_some, thenQ, true_and]
    refine SW.run [] _ ?_
    simp only [wpC, RPost, sres, Tryz.results36, sresL, sres1, AS.get, Lift.look, ↓reduceIte, Option.getD_some, Option.some.injEq, exists_eq_left']
    obtain ⟨H', hH, ow2⟩ := Own.shrink ow' inc0
    exact ⟨H', hH, _, rfl, by rw [mbL_append]; exact ow2⟩
  · obtain ⟨k, hk⟩ : ∃ k, k = l.findIdx (fun y => y.n == m.n) := ⟨_, rfl⟩
    have hkl : k < l.length := by rw [hk]; exact hasN_idx hh
    have hz : idxN l m = ((k : Nat) : Int) := by unfold idxN; rw [hh, if_pos rfl, hk]
    have hr : repS l m = l.set k m := by unfold repS; rw [hh, if_pos rfl, hk]
    rw [hz, hr]
    rcases ow with ⟨_, hx0, _⟩ | ⟨r0, cap, hv0, o1, o2, o3, o4, o5⟩
    · have : l = [] := List.map_eq_nil_iff.1 hx0
      subst this
      simp at hkl
    injection hv0 with hv0
    injection hv0 with hv1 hv2 hv3
    subst hv1; subst hv3
    have g0 : h1 r0 = some (.cells 58 (N0 * 4) (mbL l).flatten) := by rw [o4]; exact Heap.put_same _ _ _
    have hqr : ¬ q = r0 := fun e => by subst e; rw [o3] at gq; cases gq
    have hrq : ¬ r0 = q := fun e => hqr e.symm
    have hnn : (0 : Int) ≤ ((k : Nat) : Int) := Int.natCast_nonneg _
    have hkl' : ((k : Nat) : Int) < ((l.length : Nat) : Int) := by omega
    have hfn := mbL_flat_len l
    have hroom : k * 4 + 4 ≤ (mbL l).flatten.length := by omega
    have hset := mbL_flat_set hkl m
    unfold mbV at hset
    simp only [wpC, mayStop, stops, isFlt, Specs.has, Specs.hasO, Bool.or_false, Specs.hasH, Bool.not_false, List.any_cons, List.any_nil, Bool.false_eq_true, ↓reduceIte, wpS, wantedA, okDst, Nat.reduceLT, decide_true, step1, isOwnCall, hxOp, px, AS.eval, AS.get, Lift.look, Option.getD_some, AS.put, dropKey, Nat.reduceEqDiff, reduceCtorEq, isNilC, pbinP, ofConst, ofVal, pbinI, hnn, thenQ, isB, tmpOf, asB, pload, ty58, gq2, okOne, TK.isAgg, Nat.reduceBEq, Nat.zero_add, List.length_cons, List.length_nil, Nat.reduceAdd, Nat.le_refl, and_self, Lift.valOf, List.drop_zero, List.take_succ_cons, List.take_nil, pindexAddr, ty52, hkl', Int.toNat_natCast, hx, g0, known1, PV.cells, hroom, splice, hset, RPost, sres, Tryz.results36, sresL, sres1, Option.some.injEq, exists_eq_left', true_and]
    have ow2 : Own H0 58 4 (mbL (l.set k m)) (.val (.slice (some ⟨r0, 0, none⟩) l.length N0)) (h1.put r0 (.cells 58 (N0 * 4) (mbL (l.set k m)).flatten)) := by
      refine .inr ⟨r0, N0, by rw [mbL_len, List.length_set], by rw [mbC_len]; exact o1, o2, o3, ?_, mbL_wide _⟩
      rw [o4, Heap.put_put]
    obtain ⟨H', hH, ow3⟩ := Own.shrink ow2 inc0
    exact ⟨H', hH, _, rfl, ow3⟩
theorem Replace_ok (l : List Mb) (m : Mb) (hl : l.length ≤ 1000000) (h : Heap) : SCalls env 36 [.list 4 (mbL l), .agg (mbV m)] h (Ret (.list 4 (mbL (repS l m))) h) :=
  (ReplaceO_ok l m hl h).letGo fun e h' ⟨u, e1, ow⟩ => ⟨u, _, h, e1, ow.letGoV, rfl, rfl⟩
def unMb : List PV → Option Mb
  | [.str n, .int .i64 m, .int .i64 t, .str x] => some ⟨n, m, t, x⟩
  | _ => none
theorem unMb_spec {cs : List PV} {m : Mb} (h : unMb cs = some m) : cs = mbV m := by
  unfold unMb at h
  split at h
  · injection h with h; subst h; rfl
  · cases h
def sReplace : List PV → Prop × PV
  | [.list 4 xs, .agg cs] => match unM xs, unMb cs with
    | some l, some m => (l.length ≤ 1000000, .list 4 (mbL (repS l m)))
    | _, _ => PBad
  | _ => PBad
noncomputable def eReplace : SpecE env := ⟨36, sReplace, fun args h hc => by
  unfold sReplace at hc ⊢
  split at hc
  · split at hc
    · rename_i l m hl hm; rw [unM_spec hl, unMb_spec hm]; exact .inl (Replace_ok l m hc h)
    · exact hc.elim
  · exact hc.elim⟩
theorem Members_ok (l : List Mb) (hl : l.length ≤ 1000000) (h : Heap) : SCalls env 29 [.list 4 (mbL l)] h (Ret (.list 4 (mbL l)) h) :=
  (MembersO_ok l hl h).letGo fun e h' ⟨u, e1, ow⟩ => ⟨u, _, h, e1, ow.letGoV, rfl, rfl⟩
def sMembers : List PV → Prop × PV
  | [.list 4 xs] => match unM xs with
    | some l => (l.length ≤ 1000000, .list 4 (mbL l))
    | none => PBad
  | _ => PBad
noncomputable def eMembers : SpecE env := ⟨29, sMembers, fun args h hc => by
  unfold sMembers at hc ⊢
  split at hc
  · split at hc
    · rename_i l hl; rw [unM_spec hl]; exact .inl (Members_ok l hc h)
    · exact hc.elim
  · exact hc.elim⟩
end Go.Proofs.YtincpomenogppaaGreatDoor
