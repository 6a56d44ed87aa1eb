/- Contracts of functions that the law reaches. -/
import Derived.Test.YtincpomenogppaaGreatDoorZ9
set_option linter.unusedSimpArgs false
set_option linter.unusedVariables false
namespace Go.Proofs.YtincpomenogppaaGreatDoor
open Go Go.RowKit Go.Proofs.YtincpomenogppaaGreatDoor Go.Proofs.YtincpomenogppaaGreatDoor.Lift
set_option maxRecDepth 100000

def sAwakeA : List PV → Prop × PV
  | [] => (True, .bool true)
  | _ => PBad
noncomputable def eAwakeA : SpecE env := ⟨7, sAwakeA, fun args h hc => by
  unfold sAwakeA at hc ⊢
  split at hc
  · exact .inl (Awake_ok h)
  · exact hc.elim⟩
theorem Repeat_ok (s : List UInt8) (n : Nat) (h : Heap) (hn : n ≤ 1000000) (hs : s.length ≤ 1000000) : SCalls env 37 [.str s, .int .i64 (n : Nat)] h (Ret (.str (Lib.repeatL s n)) h) :=
  SCalls.ofBelow Tryz.func37 rfl rfl fun w I G vs g r => by
    obtain ⟨u, us, rfl, hu, u2, us2, rfl, hu2, h3⟩ := r
    have h3 : us2 = [] := h3
    subst h3
    obtain rfl : u = .string ⟨s.toArray⟩ := hu
    obtain rfl : u2 = .int .i64 (n : Nat) := hu2
    have hb : s.length * n ≤ 1000000 * 1000000 := Nat.mul_le_mul hs hn
    have hr := Tryz.strings_Repeat ⟨s.toArray⟩ n w (by omega) (by show s.toArray.size * n ≤ _; rw [List.size_toArray]; omega)
    have e1 : (⟨s.toArray⟩ : ByteArray).data.toList = s := by simp
    rw [e1] at hr
    exact ⟨.string ⟨(Lib.repeatL s n).toArray⟩, fun _ => rfl, hr⟩
def sRepeat : List PV → Prop × PV
  | [.str s, .int .i64 n] => (0 ≤ n ∧ n ≤ 1000000 ∧ s.length ≤ 1000000, .str (Lib.repeatL s n.toNat))
  | _ => PBad
noncomputable def eRepeat : SpecE env := ⟨37, sRepeat, fun args h hc => by
  unfold sRepeat at hc ⊢
  split at hc
  · rename_i s n
    obtain ⟨k, rfl⟩ : ∃ k : Nat, n = (k : Int) := ⟨n.toNat, by have := hc.1; omega⟩
    exact .inl (Repeat_ok s k h (by have := hc.2.1; omega) hc.2.2)
  · exact hc.elim⟩
def smallM (m : Mb) : Bool := smallS [m.n, m.x]
theorem smallM_iff {m : Mb} (h : smallM m = true) : m.n.length ≤ 300 ∧ m.x.length ≤ 300 := by
  unfold smallM smallS at h
  simpa using h
theorem packT_len {m : Mb} (h0 : -9223372036854775808 ≤ m.m) (h1 : m.m ≤ 9223372036854775807) (h2 : -9223372036854775808 ≤ m.t) (h3 : m.t ≤ 9223372036854775807) (hn : m.n.length ≤ 300) (hx : m.x.length ≤ 300) : (packT m).length ≤ 700 := by
  have k1 := Lib.itoa_length_le m.m h0 h1
  have k2 := Lib.itoa_length_le m.t h2 h3
  have k3 := Lib.itoa_length_le ((m.x.length : Nat) : Int) (by omega) (by omega)
  unfold packT
  simp only [List.length_append, List.length_cons, List.length_nil]
  omega
theorem packB_len : ∀ {l : List Mb}, (∀ m ∈ l, (packT m).length ≤ 700) → (packB l).length ≤ 9 + 700 * l.length := by
  intro l h
  have key : ∀ l : List Mb, (∀ m ∈ l, (packT m).length ≤ 700) → ((l.map packT).flatten).length ≤ 700 * l.length := by
    intro l
    induction l with
    | nil => intro _; simp
    | cons x l ih =>
      intro h
      have h1 := h x (List.mem_cons_self ..)
      have h2 := ih fun m hm => h m (List.mem_cons_of_mem _ hm)
      rw [List.map_cons, List.flatten_cons, List.length_append, List.length_cons]
      omega
  have := key l h
  unfold packB
  rw [List.length_append]
  show 9 + _ ≤ _
  omega
def Mb.wide (m : Mb) : Prop := -9223372036854775808 ≤ m.m ∧ m.m ≤ 9223372036854775807 ∧ -9223372036854775808 ≤ m.t ∧ m.t ≤ 9223372036854775807
set_option maxHeartbeats 16000000 in
theorem ToolsArchives_ok (l : List Mb) (s : List UInt8) (hw : ∀ m ∈ l, m.wide) (h : Heap) : SCalls env 5 [.list 4 (mbL l), .str s] h (Ret (.bool true) h) := by
  refine SCalls.body Tryz.func5 rfl rfl (by simp [Tryz.ntmps5]) ?_
  refine SW.seq (SW.run [] _ ?_)
  simp only [wpC, Bool.false_eq_true, ↓reduceIte, wpS, stops, wantedA, okDst, Tryz.ntmps5, Nat.reduceLT, decide_true, step1, isOwnCall, hxOp, px, AS.eval, ofConst, ofVal, thenQ, AS.put, enumA, Nat.zero_add, dropKey, reduceCtorEq, Nat.reduceEqDiff, true_and]
  refine SW.seq (SW.run [eAwakeA] _ ?_)
  simp only [wpC, mayStop, stops, isFlt, Specs.has, eAwakeA, Specs.hasO, Bool.or_false, Specs.hasH, List.any_cons, ↓reduceIte, Bool.not_true, List.any_nil, Bool.false_eq_true, wpS, wantedA, okDst, Nat.reduceLT, decide_true, step1, isOwnCall, hxOp, px, pcall, okArg, AS.eval, AS.get, Lift.look, ofConst, ofVal, List.all_nil, Specs.at, List.map_nil, sAwakeA, and_self, AS.put, dropKey, Nat.reduceEqDiff, reduceCtorEq, pun, Option.getD_some, thenQ, isB, tmpOf, asB, true_and]
  refine SW.seq (SW.run [] _ ?_)
  by_cases h10 : (10 : Int) < ((l.length : Nat) : Int)
  · simp only [wpC, mayStop, stops, isFlt, Specs.has, Specs.hasO, Bool.or_false, Specs.hasH, Bool.not_false, List.any_cons, List.any_nil, Bool.false_eq_true, ↓reduceIte, wpS, wantedA, okDst, Nat.reduceLT, decide_true, step1, isOwnCall, hxOp, px, AS.eval, AS.get, Lift.look, Nat.succ_ne_zero, Option.getD_some, AS.put, dropKey, Nat.reduceEqDiff, reduceCtorEq, pcall, ty48, plen, mbL_len, okLen, and_self, isNilC, pbinP, ofConst, ofVal, pbinI, h10, List.getElem?_toArray, List.getElem?_cons_succ, List.getElem?_cons_zero, Option.bind_some, beq_tf, Option.some.injEq, ppick_true, thenQ, isB, tmpOf, asB, RPost, sres, Tryz.results5, sresL, sres1, Ret_fin, HTo_self, and_true, exists_eq_left']
  by_cases hs1 : (1000 : Int) < ((s.length : Nat) : Int)
  · simp only [wpC, mayStop, stops, isFlt, Specs.has, Specs.hasO, Bool.or_false, Specs.hasH, Bool.not_false, List.any_cons, List.any_nil, Bool.false_eq_true, ↓reduceIte, wpS, wantedA, okDst, Nat.reduceLT, decide_true, step1, isOwnCall, hxOp, px, AS.eval, AS.get, Lift.look, Nat.succ_ne_zero, Option.getD_some, AS.put, dropKey, Nat.reduceEqDiff, reduceCtorEq, pcall, ty48, plen, mbL_len, okLen, and_self, isNilC, pbinP, ofConst, ofVal, pbinI, h10, decide_false, List.getElem?_toArray, List.getElem?_cons_succ, List.getElem?_cons_zero, Option.bind_some, beq_self_eq_true, ty9, hs1, ppick_bool, thenQ, isB, tmpOf, asB, RPost, sres, Tryz.results5, sresL, sres1, Option.some.injEq, Ret_fin, HTo_self, and_true, exists_eq_left']
  simp only [wpC, mayStop, stops, isFlt, Specs.has, Specs.hasO, Bool.or_false, Specs.hasH, Bool.not_false, List.any_cons, List.any_nil, Bool.false_eq_true, ↓reduceIte, wpS, wantedA, okDst, Nat.reduceLT, decide_true, step1, isOwnCall, hxOp, px, AS.eval, AS.get, Lift.look, Nat.succ_ne_zero, Option.getD_some, AS.put, dropKey, Nat.reduceEqDiff, reduceCtorEq, pcall, ty48, plen, mbL_len, okLen, and_self, isNilC, pbinP, ofConst, ofVal, pbinI, h10, decide_false, List.getElem?_toArray, List.getElem?_cons_succ, List.getElem?_cons_zero, Option.bind_some, beq_self_eq_true, ty9, hs1, ppick_bool, thenQ, isB, tmpOf, asB, true_and]
  refine SW.seq (SW.seq (SW.run [] _ ?_))
  simp only [wpC, Bool.false_eq_true, ↓reduceIte, wpS, stops, wantedA, okDst, Nat.reduceLT, decide_true, step1, isOwnCall, hxOp, px, AS.eval, AS.get, Lift.look, Nat.succ_ne_zero, Option.getD_some, AS.put, dropKey, Nat.reduceEqDiff, reduceCtorEq, pcall, ty48, plen, mbL_len, okLen, and_self, ofConst, ofVal, thenQ, true_and]
  refine SW.block (SW.loop (fun bb st => ∃ i : Nat, i ≤ l.length ∧ l.length - i = bb ∧ (l.take i).all smallM = true ∧ Lift.Inc h st.h ∧ st.n = 160 ∧ hasAll st [(0, .list 4 (mbL l)), (1, .str s), (31, .list 4 (mbL l)), (32, .int .i64 (l.length : Nat)), (33, .int .i64 (i : Nat))]) l.length ⟨0, Nat.zero_le _, rfl, rfl, incSelf h, rfl, ?_⟩ ?_)
  · simp only [hasAll, AS.get, Lift.look, Nat.succ_ne_zero, ↓reduceIte, Option.getD_some, Nat.reduceEqDiff, reduceCtorEq, Int.cast_ofNat_Int, and_self]
  rintro bb st ⟨i, hi, hbb, hall, inc, hn, hs'⟩
  refine SW.norm ⟨hn, rfl, hs'⟩ ?_
  generalize st.h = H at inc
  clear hn hs'
  refine SW.seq (SW.run [] _ ?_)
  by_cases hlt : i < l.length
  · have hwi : IntKind.i64.wrap ((i : Int) + 1) = ((i + 1 : Nat) : Int) := by rw [w64 (by omega) (by omega)]; rfl
    have hg := mbL_at hlt
    simp only [wpC, Bool.false_eq_true, ↓reduceIte, wpS, stops, wantedA, okDst, Nat.reduceLT, decide_true, step1, isOwnCall, hxOp, px, isNilC, pbinP, AS.eval, AS.get, Lift.look, reduceCtorEq, Nat.reduceEqDiff, Option.getD_some, pbinI, Int.ofNat_lt, hlt, thenQ, hasAll, and_true, AS.put, dropKey, true_and]
    refine SW.seq (SW.run [] _ ?_)
    simp only [wpC, isB, AS.get, Lift.look, tmpOf, ↓reduceIte, Option.getD_some, asB, thenQ, true_and]
    refine SW.seq (SW.block (SW.seq (SW.run [] _ ?_)))
    simp only [wpC, Bool.false_eq_true, ↓reduceIte, wpS, stops, wantedA, okDst, Nat.reduceLT, decide_true, step1, isOwnCall, hxOp, px, pindexAddr, ty48, ty50, AS.eval, AS.get, Lift.look, Nat.reduceEqDiff, reduceCtorEq, Option.getD_some, ne_eq, Nat.succ_ne_zero, not_false_eq_true, Int.natCast_nonneg, Int.toNat_natCast, mbL_len, hlt, and_self, hg, mbV, AS.put, dropKey, pload, okOne, TK.isAgg, Nat.reduceBEq, Bool.or_false, List.length_cons, List.length_nil, Nat.zero_add, Nat.reduceAdd, Nat.le_refl, Lift.valOf, List.take_succ_cons, List.take_nil, okAlloc, okZero, List.all_cons, Value.oneCell', List.all_nil, Bool.and_true, hx, zeroOf, List.map_cons, ofVal, List.map_nil, Heap.get_put, known1, PV.cells, splice, List.take_zero, List.nil_append, List.drop_succ_cons, List.drop_nil, List.append_nil, thenQ, true_and]
    intro q hq
    rw [Heap.put_put]
    have gq : (H.put q (.cells 50 4 [.str l[i].n, .int .i64 l[i].m, .int .i64 l[i].t, .str l[i].x])) q = some (.cells 50 4 [.str l[i].n, .int .i64 l[i].m, .int .i64 l[i].t, .str l[i].x]) := Heap.put_same _ _ _
    have inc1 : Lift.Inc h (H.put q (.cells 50 4 [.str l[i].n, .int .i64 l[i].m, .int .i64 l[i].t, .str l[i].x])) := Inc.over inc (incFresh inc hq) _
    generalize H.put q (.cells 50 4 [.str l[i].n, .int .i64 l[i].m, .int .i64 l[i].t, .str l[i].x]) = H1 at gq inc1 ⊢
    have hu : unS [[.str l[i].n], [.str l[i].x]] = some [l[i].n, l[i].x] := rfl
    have h2 : ([l[i].n, l[i].x] : List (List UInt8)).length ≤ 1000000000 := by show 2 ≤ _; omega
    refine SW.run [eSmall] _ ?_
    cases hsm : smallS [l[i].n, l[i].x]
    · simp only [wpC, mayStop, stops, isFlt, Specs.has, eSmall, Specs.hasO, Bool.or_false, Specs.hasH, List.any_cons, ↓reduceIte, Bool.not_true, List.any_nil, Bool.false_eq_true, wpS, wantedA, okDst, Nat.reduceLT, decide_true, step1, isOwnCall, hxOp, px, pfieldAddr, fieldOf, ty50, fieldIn, List.getElem?_cons_zero, ty9, Option.map_some, AS.eval, AS.get, Lift.look, Option.getD_some, ne_eq, Nat.succ_ne_zero, not_false_eq_true, Nat.add_zero, AS.put, dropKey, Nat.reduceEqDiff, reduceCtorEq, pload, gq, okOne, TK.isAgg, beq_self_eq_true, Bool.or_true, Nat.zero_add, List.length_cons, List.length_nil, Nat.reduceAdd, Nat.reduceLeDiff, and_self, Lift.valOf, List.drop_zero, List.take_succ_cons, List.take_zero, List.getD_cons_zero, List.getElem?_cons_succ, Nat.le_refl, List.drop_succ_cons, List.take_nil, pbuildSlice, ty43, List.replicate, List.map_cons, ofVal, List.map_nil, List.flatten_cons, List.flatten_nil, List.append_nil, List.cons_append, List.nil_append, ofConst, pfill, PV.cells, Nat.reduceMul, splice, List.drop_nil, okZero, List.all_cons, Value.oneCell', List.all_nil, Bool.and_true, known, chunk, pcall, okArg, Specs.at, sSmall, hu, hsm, pun, Bool.not_false, thenQ, isB, tmpOf, asB, inQ, RPost, sres, Tryz.results5, sresL, sres1, Option.some.injEq, Ret_fin, exists_eq_left', true_and]
      exact Inc.to inc1
    · simp only [wpC, mayStop, stops, isFlt, Specs.has, eSmall, Specs.hasO, Bool.or_false, Specs.hasH, List.any_cons, ↓reduceIte, Bool.not_true, List.any_nil, Bool.false_eq_true, wpS, wantedA, okDst, Nat.reduceLT, decide_true, step1, isOwnCall, hxOp, px, pfieldAddr, fieldOf, ty50, fieldIn, List.getElem?_cons_zero, ty9, Option.map_some, AS.eval, AS.get, Lift.look, Option.getD_some, ne_eq, Nat.succ_ne_zero, not_false_eq_true, Nat.add_zero, AS.put, dropKey, Nat.reduceEqDiff, reduceCtorEq, pload, gq, okOne, TK.isAgg, beq_self_eq_true, Bool.or_true, Nat.zero_add, List.length_cons, List.length_nil, Nat.reduceAdd, Nat.reduceLeDiff, and_self, Lift.valOf, List.drop_zero, List.take_succ_cons, List.take_zero, List.getD_cons_zero, List.getElem?_cons_succ, Nat.le_refl, List.drop_succ_cons, List.take_nil, pbuildSlice, ty43, List.replicate, List.map_cons, ofVal, List.map_nil, List.flatten_cons, List.flatten_nil, List.append_nil, List.cons_append, List.nil_append, ofConst, pfill, PV.cells, Nat.reduceMul, splice, List.drop_nil, okZero, List.all_cons, Value.oneCell', List.all_nil, Bool.and_true, known, chunk, pcall, okArg, Specs.at, sSmall, hu, hsm, pun, thenQ, isB, tmpOf, asB, inQ, true_and]
      refine SW.run [] _ ?_
      simp only [wpC, Bool.false_eq_true, ↓reduceIte, wpS, stops, isFlt, ty3, wantedA, okDst, Nat.reduceLT, decide_true, step1, isOwnCall, hxOp, px, isNilC, pbinP, AS.eval, AS.get, Lift.look, Nat.reduceEqDiff, reduceCtorEq, Option.getD_some, ofConst, ofVal, pbinI, hwi, AS.put, dropKey, thenQ, Nat.succ_ne_zero, true_and]
      exact ⟨l.length - (i + 1), by omega, i + 1, by omega, rfl, by rw [List.take_succ_eq_append_getElem hlt, List.all_append, hall]; simp [smallM, hsm], inc1, rfl⟩
  rw [List.take_of_length_le (by omega)] at hall
  have hsm : ∀ m ∈ l, m.n.length ≤ 300 ∧ m.x.length ≤ 300 := fun m hm => smallM_iff (List.all_eq_true.1 hall m hm)
  simp only [wpC, Bool.false_eq_true, ↓reduceIte, wpS, stops, wantedA, okDst, Nat.reduceLT, decide_true, step1, isOwnCall, hxOp, px, isNilC, pbinP, AS.eval, AS.get, Lift.look, reduceCtorEq, Nat.reduceEqDiff, Option.getD_some, pbinI, Int.ofNat_lt, hlt, decide_false, thenQ, hasAll, and_true, AS.put, dropKey, true_and]
  refine SW.seq (SW.run [] _ ?_)
  simp only [wpC, isB, AS.get, Lift.look, tmpOf, ↓reduceIte, Option.getD_some, asB, Bool.false_eq_true, thenQ, inQ, true_and]
  refine SW.enter (n := 160) (l := [(0, .list 4 (mbL l)), (1, .str s)]) (H := h) rfl (Inc.to inc) (by simp only [hasAll, AS.get, Lift.look, Nat.succ_ne_zero, ↓reduceIte, Option.getD_some, Nat.reduceEqDiff, reduceCtorEq, and_self]) ?_
  clear inc hall hlt hi hbb
  have hl10 : l.length ≤ 10 := by omega
  have hs1k : s.length ≤ 1000 := by omega
  have hfit : ∀ m ∈ l, m.fit := fun m hm => by
    obtain ⟨a, b, c, d⟩ := hw m hm
    obtain ⟨e, f⟩ := hsm m hm
    exact ⟨b, d, by omega, by omega⟩
  have hB := packB_len (l := l) fun m hm => by
    obtain ⟨a, b, c, d⟩ := hw m hm
    obtain ⟨e, f⟩ := hsm m hm
    exact packT_len a b c d e f
  have hl6 : l.length ≤ 1000000 := by omega
  have hB14 : (packB l).length ≤ 100000000000000 := by omega
  refine SW.seq (SW.run [eMembers, ePackM] _ ?_)
  simp only [wpC, Bool.false_eq_true, ↓reduceIte, wpS, stops, wantedA, okDst, Nat.reduceLT, decide_true, step1, isOwnCall, hxOp, px, AS.eval, AS.get, Lift.look, Option.getD_some, Specs.has, eMembers, Specs.hasO, Bool.or_false, Specs.hasH, Bool.not_true, AS.put, dropKey, reduceCtorEq, Nat.reduceEqDiff, pcall, okArg, ofConst, ofVal, List.all_cons, List.all_nil, Bool.and_true, Specs.at, List.map_cons, List.map_nil, sMembers, unM_el, hl6, and_self, ePackM, sPackM, hB14, and_true, packR, true_and, List.getElem?_cons_zero, List.getElem?_cons_succ, thenQ]
  refine ⟨hfit, ?_⟩
  refine SW.seq (SW.run [eRPackM] _ ?_)
  simp only [wpC, Bool.false_eq_true, ↓reduceIte, wpS, stops, wantedA, okDst, Nat.reduceLT, decide_true, step1, isOwnCall, hxOp, px, AS.eval, AS.get, Lift.look, Nat.succ_ne_zero, Option.getD_some, Specs.has, eRPackM, Specs.hasO, Bool.or_false, Specs.hasH, Bool.not_true, AS.put, dropKey, Nat.reduceEqDiff, reduceCtorEq, pcall, okArg, ofConst, ofVal, List.all_cons, List.all_nil, Bool.and_true, Specs.at, List.map_cons, List.map_nil, sPackM, unM_el, hl6, hB14, and_self, and_true, packR, true_and, List.getElem?_cons_zero, List.getElem?_cons_succ, thenQ]
  refine ⟨hfit, ?_⟩
  refine SW.seq (SW.run [] _ ?_)
  simp only [wpC, mayStop, stops, isFlt, Specs.has, Specs.hasO, Bool.or_false, Specs.hasH, Bool.not_false, List.any_cons, List.any_nil, Bool.false_eq_true, ↓reduceIte, wpS, wantedA, okDst, Nat.reduceLT, decide_true, step1, isOwnCall, hxOp, px, AS.eval, AS.get, Lift.look, Nat.reduceEqDiff, Option.getD_some, AS.put, dropKey, reduceCtorEq, isNilC, pbinP, pbinS, beq_self_eq_true, Bool.not_true, List.getElem?_toArray, List.getElem?_cons_succ, List.getElem?_cons_zero, Option.bind_some, pbinI, bne_self_eq_false, ofConst, ofVal, ppick_bool, thenQ, isB, tmpOf, asB, true_and]
  refine SW.cut (fun st => st.h = h ∧ st.n = 160 ∧ hasAll st [(0, .list 4 (mbL l)), (1, .str s)]) ?_ ?_
  · refine SW.run [eUnpack, eMembers, eEqualM] _ ?_
    by_cases hk : packE [] l = 0
    · have hp : packS l = (packB l, 0) := by unfold packS; rw [if_pos hk]
      have hu := unpack_pack hk fun m hm => by obtain ⟨a, b, c, d⟩ := hw m hm; exact ⟨b, d⟩
      have hB6 : (packB l).length ≤ 1000000 := by omega
      have hl9 : l.length ≤ 1000000000 := by omega
      rw [hp]
      simp only [wpC, mayStop, stops, isFlt, Specs.has, eUnpack, eMembers, eEqualM, Specs.hasO, Bool.or_false, Specs.hasH, List.any_cons, List.any_nil, Bool.false_eq_true, ↓reduceIte, wpS, wantedA, okDst, Nat.reduceLT, decide_true, step1, isOwnCall, hxOp, px, AS.eval, AS.get, Lift.look, Nat.reduceEqDiff, Option.getD_some, AS.put, dropKey, reduceCtorEq, isNilC, pbinP, ofConst, ofVal, pbinI, beq_self_eq_true, thenQ, isB, tmpOf, asB, Bool.not_true, pcall, okArg, List.all_cons, List.all_nil, Bool.and_true, Specs.at, List.map_cons, List.map_nil, sUnpack, hB6, unpR, hu, and_self, List.getElem?_cons_zero, List.getElem?_cons_succ, bne_self_eq_false, List.getElem?_toArray, Option.bind_some, Nat.succ_ne_zero, sMembers, unM_el, hl6, sEqualM, hl9, pun, ppick_bool, hasAll]
    · have hp : packS l = ([], packE [] l) := by unfold packS; rw [if_neg hk]
      have hkb : (packE [] l == 0) = false := by simpa using hk
      rw [hp]
      simp only [wpC, mayStop, stops, isFlt, Specs.has, Specs.hasO, Bool.or_false, Specs.hasH, List.any_cons, List.any_nil, Bool.false_eq_true, ↓reduceIte, wpS, wantedA, okDst, Nat.reduceLT, decide_true, step1, isOwnCall, hxOp, px, AS.eval, AS.get, Lift.look, Nat.reduceEqDiff, Option.getD_some, AS.put, dropKey, reduceCtorEq, isNilC, pbinP, ofConst, ofVal, pbinI, hkb, thenQ, isB, tmpOf, asB, hasAll, Nat.succ_ne_zero, and_self]
  rintro st ⟨hh, hn, hsl⟩
  refine SW.norm ⟨hn, hh, hsl⟩ ?_
  clear hh hn hsl
  have hs6 : s.length ≤ 1000000 := by omega
  obtain ⟨ms, k, hU⟩ : ∃ ms k, unpS s = (ms, k) := ⟨_, _, rfl⟩
  have hms : ms.length ≤ 1000 := by
    have : (unpS s).1.length ≤ s.length := by
      unfold unpS
      split
      · have := unpF_count (s.length + 1) [] (s.drop 9)
        rw [List.length_drop] at this
        simp only [List.length_nil] at this
        omega
      · simp
    rw [hU] at this
    have this : ms.length ≤ s.length := this
    omega
  have hmf : ∀ m ∈ ms, m.fit := fun m hm => by
    have hm2 : m ∈ (unpS s).1 := by rw [hU]; exact hm
    unfold unpS at hm2
    split at hm2
    · rcases unpF_size _ _ _ m hm2 with e | ⟨a, b, c, d⟩
      · cases e
      · rw [List.length_drop] at a b
        exact ⟨c.2, d.2, by omega, by omega⟩
    · cases hm2
  have hms6 : ms.length ≤ 1000000 := by omega
  have hms9 : ms.length ≤ 1000000000 := by omega
  refine SW.seq (SW.run [eUnpack] _ ?_)
  simp only [wpC, Bool.false_eq_true, ↓reduceIte, wpS, stops, wantedA, okDst, Nat.reduceLT, decide_true, step1, isOwnCall, hxOp, px, AS.eval, AS.get, Lift.look, reduceCtorEq, Option.getD_some, Specs.has, eUnpack, Specs.hasO, Bool.or_false, Specs.hasH, Bool.not_true, AS.put, dropKey, Nat.reduceEqDiff, pcall, okArg, ofConst, ofVal, List.all_cons, List.all_nil, Bool.and_true, Specs.at, List.map_cons, List.map_nil, sUnpack, hs6, unpR, hU, and_self, List.getElem?_cons_zero, List.getElem?_cons_succ, thenQ, true_and]
  refine SW.seq (SW.run [eRUnpack] _ ?_)
  simp only [wpC, Bool.false_eq_true, ↓reduceIte, wpS, stops, wantedA, okDst, Nat.reduceLT, decide_true, step1, isOwnCall, hxOp, px, AS.eval, AS.get, Lift.look, Nat.reduceEqDiff, reduceCtorEq, Option.getD_some, Specs.has, eRUnpack, Specs.hasO, Bool.or_false, Specs.hasH, Bool.not_true, AS.put, dropKey, pcall, okArg, ofConst, ofVal, List.all_cons, List.all_nil, Bool.and_true, Specs.at, List.map_cons, List.map_nil, sUnpack, hs6, unpR, hU, and_self, List.getElem?_cons_zero, List.getElem?_cons_succ, thenQ, true_and]
  refine SW.seq (SW.run [eMembers, eEqualM] _ ?_)
  simp only [wpC, mayStop, stops, isFlt, Specs.has, eMembers, eEqualM, Specs.hasO, Bool.or_false, Specs.hasH, List.any_cons, ↓reduceIte, Bool.not_true, Nat.reduceEqDiff, List.any_nil, Bool.false_eq_true, wpS, wantedA, okDst, Nat.reduceLT, decide_true, step1, isOwnCall, hxOp, px, AS.eval, AS.get, Lift.look, Option.getD_some, AS.put, dropKey, reduceCtorEq, pcall, okArg, ofConst, ofVal, List.all_cons, List.all_nil, Bool.and_true, Specs.at, List.map_cons, List.map_nil, sMembers, unM_el, hms6, and_self, sEqualM, hms9, beq_self_eq_true, pun, List.getElem?_toArray, List.getElem?_cons_succ, List.getElem?_cons_zero, Option.bind_some, isNilC, pbinP, pbinI, bne_self_eq_false, ppick_bool, thenQ, isB, tmpOf, asB, true_and]
  refine SW.cut (fun st => st.h = h ∧ st.n = 160 ∧ hasAll st [(0, .list 4 (mbL l)), (1, .str s)]) ?_ ?_
  · refine SW.run [ePackM] _ ?_
    by_cases hk : k = 0
    · subst hk
      obtain ⟨p1, p2⟩ := pack_unpack hU
      have hp : packS ms = (s, 0) := by unfold packS; rw [if_pos p1, p2]
      have hps : (packB ms).length ≤ 100000000000000 := by rw [p2]; omega
      simp only [wpC, mayStop, stops, isFlt, Specs.has, ePackM, Specs.hasO, Bool.or_false, Specs.hasH, List.any_cons, List.any_nil, Bool.false_eq_true, ↓reduceIte, wpS, wantedA, okDst, Nat.reduceLT, decide_true, step1, isOwnCall, hxOp, px, AS.eval, AS.get, Lift.look, Nat.reduceEqDiff, Option.getD_some, AS.put, dropKey, reduceCtorEq, isNilC, pbinP, ofConst, ofVal, pbinI, beq_self_eq_true, thenQ, isB, tmpOf, asB, Bool.not_true, pcall, okArg, List.all_cons, List.all_nil, Bool.and_true, Specs.at, List.map_cons, List.map_nil, sPackM, unM_el, hms6, hps, and_self, and_true, packR, hp, true_and, List.getElem?_cons_zero, List.getElem?_cons_succ, bne_self_eq_false, List.getElem?_toArray, Option.bind_some, pbinS, ppick_bool, hasAll, Nat.succ_ne_zero]
      exact hmf
    · have hkb : (k == 0) = false := by simpa using hk
      simp only [wpC, mayStop, stops, isFlt, Specs.has, Specs.hasO, Bool.or_false, Specs.hasH, List.any_cons, List.any_nil, Bool.false_eq_true, ↓reduceIte, wpS, wantedA, okDst, Nat.reduceLT, decide_true, step1, isOwnCall, hxOp, px, AS.eval, AS.get, Lift.look, Nat.reduceEqDiff, Option.getD_some, AS.put, dropKey, reduceCtorEq, isNilC, pbinP, ofConst, ofVal, pbinI, hkb, thenQ, isB, tmpOf, asB, hasAll, Nat.succ_ne_zero, and_self]
  rintro st ⟨hh, hn, hsl⟩
  refine SW.norm ⟨hn, hh, hsl⟩ ?_
  clear hh hn hsl hU hms hmf hms6 hms9
  refine SW.seq (SW.seq (SW.run [] _ ?_))
  simp only [wpC, Bool.false_eq_true, ↓reduceIte, wpS, stops, wantedA, okDst, Nat.reduceLT, decide_true, step1, isOwnCall, hxOp, px, AS.eval, AS.get, Lift.look, Option.getD_some, AS.put, dropKey, reduceCtorEq, Nat.reduceEqDiff, pcall, ty48, plen, mbL_len, okLen, and_self, ofConst, ofVal, thenQ, true_and]
  refine SW.block (SW.loop (fun bb st => ∃ i : Nat, i ≤ l.length ∧ l.length - i = bb ∧ Lift.Inc h st.h ∧ st.n = 160 ∧ hasAll st [(0, .list 4 (mbL l)), (1, .str s), (115, .int .i64 (l.length : Nat)), (116, .int .i64 (i : Nat))]) l.length ⟨0, Nat.zero_le _, rfl, incSelf h, rfl, ?_⟩ ?_)
  · simp only [hasAll, AS.get, Lift.look, Nat.succ_ne_zero, ↓reduceIte, Option.getD_some, Nat.reduceEqDiff, reduceCtorEq, Int.cast_ofNat_Int, and_self]
  rintro bb st ⟨i, hi, hbb, inc, hn, hs'⟩
  refine SW.norm ⟨hn, rfl, hs'⟩ ?_
  generalize st.h = H at inc
  clear hn hs'
  refine SW.seq (SW.run [] _ ?_)
  by_cases hlt : i < l.length
  · have hwi : IntKind.i64.wrap ((i : Int) + 1) = ((i + 1 : Nat) : Int) := by rw [w64 (by omega) (by omega)]; rfl
    have hg := mbL_at hlt
    simp only [wpC, Bool.false_eq_true, ↓reduceIte, wpS, stops, wantedA, okDst, Nat.reduceLT, decide_true, step1, isOwnCall, hxOp, px, isNilC, pbinP, AS.eval, AS.get, Lift.look, reduceCtorEq, Nat.reduceEqDiff, Option.getD_some, pbinI, Int.ofNat_lt, hlt, thenQ, hasAll, and_true, AS.put, dropKey, true_and]
    refine SW.seq (SW.run [] _ ?_)
    simp only [wpC, isB, AS.get, Lift.look, tmpOf, ↓reduceIte, Option.getD_some, asB, thenQ, true_and]
    refine SW.seq (SW.block (SW.seq (SW.run [] _ ?_)))
    simp only [wpC, Bool.false_eq_true, ↓reduceIte, wpS, stops, wantedA, okDst, Nat.reduceLT, decide_true, step1, isOwnCall, hxOp, px, AS.eval, AS.get, Lift.look, Nat.reduceEqDiff, reduceCtorEq, Option.getD_some, AS.put, dropKey, thenQ, true_and]
    refine SW.seq (SW.regionAny [] [[0, 1, 2, 3, 4, 5, 6, 7, 8, 9, 10, 11, 12, 13, 14]] rfl (by rfl) (by kernel_rfl) ?_)
    simp only [wpOL, wpO, LOp, List.getElem?_toArray, List.getElem?_cons_zero, okDst, Nat.reduceLT, decide_true, wantedA, ↓reduceIte, step1, isOwnCall, Bool.false_eq_true, hxOp, px, AS.eval, AS.get, Lift.look, Nat.succ_ne_zero, Option.getD_some, List.getElem?_cons_succ, AS.put, dropKey, Nat.reduceEqDiff, reduceCtorEq, pindexAddr, ty48, ty50, ne_eq, not_false_eq_true, Int.natCast_nonneg, Int.toNat_natCast, mbL_len, hlt, and_self, hg, mbV, pfieldAddr, fieldOf, fieldIn, ty9, Option.map_some, List.drop_zero, pload, okOne, TK.isAgg, beq_self_eq_true, Bool.or_true, List.length_cons, List.length_nil, Nat.zero_add, Nat.reduceAdd, Nat.reduceLeDiff, Lift.valOf, List.take_succ_cons, List.take_zero, List.getD_cons_zero, ty3, List.drop_succ_cons, isNilC, pbinP, ofConst, ofVal, pbinI, pbuild, ty58, List.map_cons, List.map_nil, pfill, placeOf, PV.cells, splice, List.nil_append, List.cons_append, Nat.le_refl, List.drop_nil, List.append_nil, List.all_cons, Option.isSome_some, List.all_nil, Bool.and_true, okZero, Value.oneCell', known, okAlloc, hx, zeroOf, Heap.get_put, known1, thenQ, true_and]
    intro q hq
    rw [Heap.put_put]
    obtain ⟨X, hX⟩ : ∃ X, X = bitsOp .xor .i64 l[i].m 1 := ⟨_, rfl⟩
    rw [← hX]
    have gq : (H.put q (.cells 58 4 [.str l[i].n, .int .i64 X, .int .i64 5, .str s])) q = some (.cells 58 4 [.str l[i].n, .int .i64 X, .int .i64 5, .str s]) := Heap.put_same _ _ _
    have inc1 : Lift.Inc h (H.put q (.cells 58 4 [.str l[i].n, .int .i64 X, .int .i64 5, .str s])) := Inc.over inc (incFresh inc hq) _
    generalize H.put q (.cells 58 4 [.str l[i].n, .int .i64 X, .int .i64 5, .str s]) = H1 at gq inc1 ⊢
    refine SW.enter (n := 160) (l := [(0, .list 4 (mbL l)), (1, .str s), (115, .int .i64 (l.length : Nat)), (116, .int .i64 (i : Nat)), (18, .val (.pointer (some ⟨q, 0, none⟩)))]) (H := H1) rfl (.refl _ _) (by simp only [hasAll, AS.get, Lift.look, Nat.succ_ne_zero, ↓reduceIte, Option.getD_some, Nat.reduceEqDiff, reduceCtorEq, and_self]) ?_
    refine SW.seq (SW.run [] _ ?_)
    simp only [wpC, Bool.false_eq_true, ↓reduceIte, wpS, stops, wantedA, okDst, Nat.reduceLT, decide_true, step1, isOwnCall, hxOp, px, AS.eval, AS.get, Lift.look, Option.getD_some, Specs.has, Specs.hasO, Bool.or_false, Specs.hasH, Bool.not_false, AS.put, dropKey, reduceCtorEq, Nat.reduceEqDiff, true_and]
    refine SWO.call (.func 29) #[.tmp 132] _ 29 #[] #[] rfl rfl rfl rfl rfl rfl (MembersO_ok l hl6 H1) rfl rfl ?_ (fun c h' hc => by obtain ⟨_, hc, _⟩ := hc; cases hc)
    rintro v h1 ⟨u, e1, ow⟩
    injection e1 with e1
    subst e1
    have gq1 := ow.base gq
    rcases ow with ⟨_, hx0, _⟩ | ⟨r0, cap, rfl, o1, o2, o3, o4, o5⟩
    · have : l = [] := List.map_eq_nil_iff.1 hx0
      subst this
      simp at hlt
    rw [mbL_len] at o1 ⊢
    have g0 : h1 r0 = some (.cells 58 (cap * 4) (mbL l).flatten) := by rw [o4]; exact Heap.put_same _ _ _
    have hqr : ¬ q = r0 := fun e => by subst e; rw [gq] at o3; cases o3
    have hrq : ¬ r0 = q := fun e => hqr e.symm
    refine SWO.run [] 1000 ?_
    simp only [wpS, stops, Bool.false_eq_true, ↓reduceIte, wantedA, okDst, AS.put, dropKey, Nat.reduceEqDiff, reduceCtorEq, Nat.reduceLT, decide_true, step1, isOwnCall, hxOp, px, AS.eval, AS.get, Lift.look, Option.getD_some, thenQ, true_and]
    obtain ⟨x, hx⟩ : ∃ x : Mb, x = ⟨l[i].n, X, 5, s⟩ := ⟨_, rfl⟩
    have hxV : mbV x = [.str l[i].n, .int .i64 X, .int .i64 5, .str s] := by rw [hx]; rfl
    have hh : hasN l x = true := hasN_hit hlt (by rw [hx]; simp)
    obtain ⟨k, hk⟩ : ∃ k, k = l.findIdx (fun y => y.n == x.n) := ⟨_, rfl⟩
    have hkl : k < l.length := by rw [hk]; exact hasN_idx hh
    have hz : idxN l x = ((k : Nat) : Int) := by unfold idxN; rw [hh, if_pos rfl, hk]
    have hr : repS l x = l.set k x := by unfold repS; rw [hh, if_pos rfl, hk]
    have hc : SCalls env 34 [.val (.slice (some ⟨r0, 0, none⟩) l.length cap), .val (.func (.func 35) #[] #[.pointer (some ⟨q, 0, none⟩)])] h1 (fun e h' => ∃ p, e = .ret p ∧ (p = .int .i64 (k : Nat) ∧ h' = h1)) :=
      (IdxRaw_ok l x q 35 hl6 h1 g0 (fun y H i => SameA_ok y x q H (i _ _ (by rw [hxV]; exact gq1))) hz.symm).mono fun e h' q => ⟨_, q.1, rfl, q.2⟩
    have hkl' : ((k : Nat) : Int) < ((l.length : Nat) : Int) := by omega
    have hfn := mbL_flat_len l
    have hroom : k * 4 + 4 ≤ (mbL l).flatten.length := by omega
    have hset := mbL_flat_set hkl x
    rw [hxV] at hset
    refine SW.seq (SW.regionCut [] rfl (RestC.cutM [] ⟨3, _, 34, _, _, [.val (.slice (some ⟨r0, 0, none⟩) l.length cap), .val (.func (.func 35) #[] #[.pointer (some ⟨q, 0, none⟩)])], h1, fun p h' => p = .int .i64 (k : Nat) ∧ h' = h1, rfl, rfl, hc⟩ (fun _ => True) (fun p h' q r _ => by rw [q.2]) [(0, false), (1, false), (2, false), (4, true)] 5 (k := 2) rfl (by kernel_rfl) ?_))
    simp only [wpP, Bool.false_eq_true, keptP, AS.get, Lift.look, ptrAt, List.getElem?_toArray, List.getElem?_cons_zero, ptrT, Nat.succ_ne_zero, ↓reduceIte, Option.getD_some, false_implies, LOp, okDst, Nat.reduceLT, decide_true, wantedA, step1, isOwnCall, hxOp, px, AS.eval, AS.put, dropKey, Nat.reduceEqDiff, reduceCtorEq, List.getElem?_cons_succ, List.map_cons, List.map_nil, unVs, unV, forall_const, pload, ty58, gq1, okOne, TK.isAgg, Nat.reduceBEq, Bool.or_false, Nat.zero_add, List.length_cons, List.length_nil, Nat.reduceAdd, Nat.le_refl, and_self, Lift.valOf, List.drop_zero, List.take_succ_cons, List.take_nil, HandOK, okArg, ofConst, ofVal, List.all_cons, List.all_nil, Bool.and_true, List.getElem_toArray, List.getElem_cons_succ, List.getElem_cons_zero, true_and]
    rintro p' h' ⟨rfl, rfl⟩
    refine RestC.last [] [5, 6] rfl (by kernel_rfl) ?_
    simp only [wpO, LOp, List.getElem?_toArray, List.getElem?_cons_succ, List.getElem?_cons_zero, okDst, Nat.reduceLT, decide_true, wantedA, ↓reduceIte, step1, isOwnCall, Bool.false_eq_true, hxOp, px, pindexAddr, ty52, ty58, AS.eval, AS.get, Lift.look, Nat.reduceEqDiff, Option.getD_some, Int.natCast_nonneg, hkl', and_self, Int.toNat_natCast, Nat.zero_add, Lift.hx, AS.put, dropKey, reduceCtorEq, g0, known1, PV.cells, List.length_cons, List.length_nil, Nat.reduceAdd, hroom, splice, hset, thenQ, true_and]
    have ow2 : Own H1 58 4 (mbL (l.set k x)) (.val (.slice (some ⟨r0, 0, none⟩) l.length cap)) (h'.put r0 (.cells 58 (cap * 4) (mbL (l.set k x)).flatten)) := by
      refine .inr ⟨r0, cap, by rw [mbL_len, List.length_set], by rw [mbC_len]; rw [mbL_len]; exact o1, o2, o3, ?_, mbL_wide _⟩
      rw [o4, Heap.put_put]
    refine SW.own_let 19 rfl ow2 ?_
    have hrx : repS l ⟨l[i].n, X, 5, s⟩ = l.set k x := by rw [← hx]; exact hr
    have hum : unMb [.str l[i].n, .int .i64 X, .int .i64 5, .str s] = some ⟨l[i].n, X, 5, s⟩ := rfl
    have hsl : (l.set k x).length ≤ 1000000000 := by rw [List.length_set]; omega
    refine SW.seq (SW.regionAny [eMembers, eReplace, eEqualM] [[0, 1, 2, 3, 4, 5, 6]] rfl (by rfl) (by kernel_rfl) ?_)
    simp only [wpOL, wpO, LOp, List.getElem?_toArray, List.getElem?_cons_zero, okDst, AS.put, dropKey, Nat.reduceEqDiff, ↓reduceIte, reduceCtorEq, Nat.reduceLT, decide_true, wantedA, step1, isOwnCall, Bool.false_eq_true, hxOp, px, AS.eval, AS.get, Lift.look, Nat.succ_ne_zero, Option.getD_some, List.getElem?_cons_succ, Specs.hasO, Specs.hasH, pcall, okArg, ofConst, ofVal, List.all_cons, List.all_nil, Bool.and_true, Specs.at, eMembers, List.map_cons, List.map_nil, sMembers, unM_el, hl6, and_self, pload, ty58, gq, okOne, TK.isAgg, Nat.reduceBEq, Bool.or_false, Nat.zero_add, List.length_cons, List.length_nil, Nat.reduceAdd, Nat.le_refl, Lift.valOf, List.drop_zero, List.take_succ_cons, List.take_nil, eReplace, sReplace, hum, hrx, eEqualM, sEqualM, hsl, beq_self_eq_true, pun, Bool.not_true, thenQ, true_and]
    refine SW.run [] _ ?_
    simp only [wpC, isB, AS.get, Lift.look, tmpOf, ↓reduceIte, Option.getD_some, asB, Bool.false_eq_true, inQ, thenQ, true_and]
    refine SW.run [] _ ?_
    simp only [wpC, Bool.false_eq_true, ↓reduceIte, wpS, stops, isFlt, ty3, wantedA, okDst, Nat.reduceLT, decide_true, step1, isOwnCall, hxOp, px, isNilC, pbinP, AS.eval, AS.get, Lift.look, Nat.reduceEqDiff, reduceCtorEq, Option.getD_some, ofConst, ofVal, pbinI, hwi, AS.put, dropKey, thenQ, Nat.succ_ne_zero, true_and]
    exact ⟨l.length - (i + 1), by omega, i + 1, by omega, rfl, inc1, rfl⟩
  simp only [wpC, Bool.false_eq_true, ↓reduceIte, wpS, stops, wantedA, okDst, Nat.reduceLT, decide_true, step1, isOwnCall, hxOp, px, isNilC, pbinP, AS.eval, AS.get, Lift.look, reduceCtorEq, Nat.reduceEqDiff, Option.getD_some, pbinI, Int.ofNat_lt, hlt, decide_false, thenQ, hasAll, and_true, AS.put, dropKey, true_and]
  refine SW.seq (SW.run [] _ ?_)
  simp only [wpC, isB, AS.get, Lift.look, tmpOf, ↓reduceIte, Option.getD_some, asB, Bool.false_eq_true, thenQ, inQ, true_and]
  refine SW.enter (n := 160) (l := [(0, .list 4 (mbL l)), (1, .str s)]) (H := h) rfl (Inc.to inc) (by simp only [hasAll, AS.get, Lift.look, Nat.succ_ne_zero, ↓reduceIte, Option.getD_some, Nat.reduceEqDiff, reduceCtorEq, and_self]) ?_
  have hNl : (Lib.repeatL [110] 400).length = 400 := by kernel_rfl
  refine SW.seq (SW.run [eRepeat] _ ?_)
  simp only [wpC, Bool.false_eq_true, ↓reduceIte, wpS, stops, Specs.has, eRepeat, Specs.hasO, Bool.or_false, Specs.hasH, Bool.not_true, wantedA, okDst, Nat.reduceLT, decide_true, step1, isOwnCall, hxOp, px, pcall, okArg, AS.eval, AS.get, Lift.look, ofConst, ofVal, List.all_cons, List.all_nil, Bool.and_true, Specs.at, List.map_cons, List.map_nil, sRepeat, Int.reduceLE, List.length_cons, List.length_nil, Nat.zero_add, Nat.reduceLeDiff, and_self, Int.reduceToNat, AS.put, dropKey, reduceCtorEq, Nat.reduceEqDiff, pbuild, ty58, Option.getD_some, pfill, placeOf, List.getElem?_cons_zero, ty9, Option.map_some, PV.cells, Nat.reduceAdd, splice, List.take_zero, List.nil_append, List.drop_succ_cons, List.drop_zero, List.cons_append, Option.isSome_some, ty3, okZero, Value.oneCell', known, okAlloc, hx, zeroOf, Heap.get_put, known1, Nat.le_refl, List.drop_nil, List.append_nil, thenQ, true_and]
  generalize Lib.repeatL [110] 400 = N at hNl ⊢
  intro q hq
  rw [Heap.put_put]
  have gq : (h.put q (.cells 58 4 [.str N, .int .i64 0, .int .i64 0, .str []])) q = some (.cells 58 4 [.str N, .int .i64 0, .int .i64 0, .str []]) := Heap.put_same _ _ _
  have inc1 : Lift.Inc h (h.put q (.cells 58 4 [.str N, .int .i64 0, .int .i64 0, .str []])) := Inc.over (incSelf h) hq _
  generalize h.put q (.cells 58 4 [.str N, .int .i64 0, .int .i64 0, .str []]) = H1 at gq inc1 ⊢
  refine SW.enter (n := 160) (l := [(0, .list 4 (mbL l)), (20, .val (.pointer (some ⟨q, 0, none⟩)))]) (H := H1) rfl (.refl _ _) (by simp only [hasAll, AS.get, Lift.look, Nat.succ_ne_zero, ↓reduceIte, Option.getD_some, and_self]) ?_
  have hno : hasN l ⟨N, 0, 0, []⟩ = false := by
    unfold hasN
    rw [List.any_eq_false]
    intro m hm
    have := (hsm m hm).1
    intro e
    have e : m.n = N := by simpa using e
    rw [e, hNl] at this
    omega
  have hrx : repS l ⟨N, 0, 0, []⟩ = l ++ [⟨N, 0, 0, []⟩] := by unfold repS; rw [hno]; rfl
  have hum : unMb [.str N, .int .i64 0, .int .i64 0, .str []] = some ⟨N, 0, 0, []⟩ := rfl
  have hsl : (l ++ [(⟨N, 0, 0, []⟩ : Mb)]).length ≤ 1000000000 := by rw [List.length_append, List.length_singleton]; omega
  have hc : SCalls env 29 [.list 4 (mbL l)] H1 (fun e h' => ∃ p, e = .ret p ∧ Own H1 58 4 (mbL l) p h') := MembersO_ok l hl6 H1
  refine SW.seq (SW.regionCut [] rfl (RestC.cutM [eMembers, eReplace] ⟨5, _, 29, _, _, [.list 4 (mbL l)], H1, fun p h' => Own H1 58 4 (mbL l) p h', rfl, rfl, hc⟩ (fun r => ¬ H1 r = none) (fun p h' ow r hr => by
    cases e : H1 r with
    | none => exact absurd e hr
    | some Y => exact (ow.base e).trans e.symm) [(0, false), (1, false), (2, true), (3, false), (4, false), (6, true), (7, false)] 8 (k := 3) rfl (by kernel_rfl) ?_))
  simp only [wpP, Bool.false_eq_true, keptP, AS.get, Lift.look, ptrAt, List.getElem?_toArray, List.getElem?_cons_zero, ptrT, ↓reduceIte, Option.getD_some, false_implies, LOp, okDst, Nat.reduceLT, decide_true, wantedA, step1, isOwnCall, hxOp, px, AS.eval, AS.put, dropKey, reduceCtorEq, Nat.reduceEqDiff, List.getElem?_cons_succ, Nat.succ_ne_zero, Specs.hasO, Specs.hasH, pcall, okArg, ofConst, ofVal, List.all_cons, List.all_nil, Bool.and_true, Specs.at, eMembers, List.map_cons, List.map_nil, sMembers, unM_el, hl6, and_self, gq, not_false_eq_true, forall_const, pload, ty58, okOne, TK.isAgg, Nat.reduceBEq, Bool.or_false, Nat.zero_add, List.length_cons, List.length_nil, Nat.reduceAdd, Nat.le_refl, Lift.valOf, List.drop_zero, List.take_succ_cons, List.take_nil, eReplace, sReplace, hum, hrx, pbuildSlice, ty52, List.replicate, List.flatten_cons, List.flatten_nil, List.append_nil, pfill, PV.cells, Nat.reduceMul, splice, List.take_zero, List.nil_append, List.drop_succ_cons, List.drop_nil, Nat.reduceLeDiff, okZero, Value.oneCell', known, chunk, HandOK, List.getElem_toArray, List.getElem_cons_succ, List.getElem_cons_zero, true_and]
  intro p1 h3 ow3
  obtain ⟨A0, N0, rfl⟩ := ow3.slice
  refine RestC.cut [] [] 8 (k := 2) rfl (by kernel_rfl) ?_
  simp only [wpO, List.getElem?_toArray, List.getElem?_cons_succ, List.getElem?_cons_zero, Option.toList_some]
  refine SWO.append (.tmp 155) (.tmp 157) 52 52 rfl ty52 rfl ty58 (by decide) rfl ty52 rfl ow3 (ys := [mbV ⟨N, 0, 0, []⟩]) rfl (by rw [mbL_len]; show (_ + 1) * 48 ≤ _; omega) (by rw [mbL_len]; simp [maxLen]; omega) rfl rfl ?_
  intro v4 h4 ow4 _ _
  have ow4 : Own H1 58 4 (mbL (l ++ [⟨N, 0, 0, []⟩])) v4 h4 := by rw [mbL_append]; exact ow4
  refine SWO.own_let 158 rfl ow4 ?_
  refine SWO.run [] 1000 ?_
  simp only [wpS, thenQ, AS.put, dropKey, Nat.reduceEqDiff, ↓reduceIte, reduceCtorEq]
  refine RestC.last [eEqualM] [9, 10] rfl (by kernel_rfl) ?_
  simp only [wpO, LOp, List.getElem?_toArray, List.getElem?_cons_succ, List.getElem?_cons_zero, okDst, Nat.reduceLT, decide_true, wantedA, ↓reduceIte, step1, isOwnCall, Specs.hasO, Bool.false_eq_true, hxOp, Specs.hasH, px, pcall, okArg, AS.eval, AS.get, Lift.look, ofConst, ofVal, List.all_cons, Nat.reduceEqDiff, Option.getD_some, List.all_nil, Bool.and_true, Specs.at, eEqualM, List.map_cons, List.map_nil, sEqualM, unM_el, hsl, beq_self_eq_true, and_self, AS.put, dropKey, reduceCtorEq, thenQ, true_and]
  refine SW.run [] _ ?_
  simp only [wpC, RPost, sres, Tryz.results5, sresL, sres1, AS.get, Lift.look, ↓reduceIte, Option.getD_some, Option.some.injEq, Ret_fin, exists_eq_left', true_and]
  exact Inc.to inc1
def shMb : Sh := .struct (.fcons .str (.fcons (.int .i64) (.fcons (.int .i64) (.fcons .str .fnil))))
theorem open_mb {cs : List PV} (h : VSh shMb cs) : ∃ m : Mb, m.wide ∧ cs = mbV m := by
  obtain ⟨_, _, rfl, ⟨a, rfl, la⟩, _, _, rfl, ⟨m, rfl, wm⟩, _, _, rfl, ⟨t, rfl, wt⟩, _, d, rfl, ⟨x, rfl, lx⟩, h⟩ := h
  have h : d = [] := h
  subst h
  have hm := i64_b wm
  have ht := i64_b wt
  exact ⟨⟨a, m, t, x⟩, ⟨hm.1, by show m ≤ _; omega, ht.1, by show t ≤ _; omega⟩, rfl⟩
theorem open_mbs : ∀ {xs : List (List PV)}, (∀ x ∈ xs, VSh shMb x) → ∃ l : List Mb, (∀ m ∈ l, m.wide) ∧ xs = mbL l
  | [], _ => ⟨[], by simp, rfl⟩
  | x :: xs, h => by
    obtain ⟨e, w, rfl⟩ := open_mb (h x (List.mem_cons_self ..))
    obtain ⟨l, hl, rfl⟩ := open_mbs (fun y hy => h y (List.mem_cons_of_mem _ hy))
    refine ⟨e :: l, fun y hy => ?_, rfl⟩
    rcases List.mem_cons.1 hy with rfl | hy
    · exact w
    · exact hl y hy
theorem open_mbl {cs : List PV} (h : VSh (.slice shMb) cs) : ∃ l : List Mb, (∀ m ∈ l, m.wide) ∧ cs = [.list 4 (mbL l)] := by
  obtain ⟨xs, rfl, hl, hx⟩ := h
  obtain ⟨l, w, rfl⟩ := open_mbs hx
  exact ⟨l, w, rfl⟩
end Go.Proofs.YtincpomenogppaaGreatDoor
