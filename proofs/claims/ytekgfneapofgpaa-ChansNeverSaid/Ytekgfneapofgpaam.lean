/- Contracts of functions that the law reaches. -/
import Derived.Test.Ytekgfneapofgpaak
set_option linter.unusedSimpArgs false
set_option linter.unusedVariables false
namespace Go.Proofs.Ytekgfneapofgpaa
open Go Go.RowKit Go.Proofs.Ytekgfneapofgpaa Go.Proofs.Ytekgfneapofgpaa.Lift

/-! ChansOrders -/
theorem no_pid {B : Bo} (w : WF B) {p : Int} (hp : pOf B.ps p = none) : ∀ i ∈ B.items, (i.pid == p) = false := by
  intro i hi
  rw [w.it] at hi
  obtain ⟨x, hx, hix⟩ := List.mem_flatMap.1 hi
  have h1 := List.find?_eq_none.1 hp x hx
  rw [w.pi x hx i hix]
  simpa using h1
theorem find_head {l : List It} {p : Int} (hp : ∀ i ∈ l, (i.pid == p) = false) (g : It → Bool) : (l.find? fun i => g i && !(i.pid == p)) = (l.filter g).head? := by
  induction l with
  | nil => rfl
  | cons x l ih =>
    have h1 := hp x (List.mem_cons_self ..)
    have h2 := ih fun i hi => hp i (List.mem_cons_of_mem _ hi)
    rw [List.find?_cons, List.filter_cons, h1]
    cases h : g x
    · simpa using h2
    · simp
theorem fst_head {B : Bo} (w : WF B) {p : Int} (hp : pOf B.ps p = none) (c : Int) (s : Bool) : fstS noG B p c (!s) = (fil B.items c s).head? := by
  rw [fst_items w, Bool.not_not]
  exact find_head (no_pid w hp) fun i => i.ch == c && i.sd == s
theorem pOf_delP {ps : List Pr} {q : Int} (p : Int) (h : pOf ps q = none) : pOf (delP p ps) q = none := by
  unfold pOf at h ⊢
  rw [List.find?_eq_none] at h ⊢
  exact fun x hx => h x (List.mem_of_mem_eraseP hx)
theorem keep_less {l : List It} {i : It} (hi : i ∈ l) : (keepS (fun x => x.pid == i.pid) l).length < l.length := by
  unfold keepS
  rw [List.length_filter_lt_length_iff_exists]
  exact ⟨i, hi, by simp⟩
set_option maxHeartbeats 1000000 in
set_option maxRecDepth 100000 in
theorem ChansOrders_ok (l : List ActS) (c : Int) (s : Bool) (h : Heap) : SCalls env 5 [.list 3 (elA l), .int .i64 c, .bool s] h (Ret (.bool true) h) := by
  refine SCalls.body Try.func5 rfl rfl (by simp [Try.ntmps5]) ?_
  refine SW.seq (SW.run [] _ ?_)
  simp only [wpC, Bool.false_eq_true, ↓reduceIte, wpS, stops, wantedA, okDst, Try.ntmps5, Nat.reduceLT, decide_true, step1, isOwnCall, hxOp, px, AS.eval, ofConst, ofVal, thenQ, AS.put, enumA, Nat.zero_add, Nat.reduceAdd, dropKey, reduceCtorEq, Nat.reduceEqDiff, true_and]
  by_cases hf : fewS l = true
  case neg =>
    have hf : fewS l = false := by simpa using hf
    refine SW.seq (SW.run [eAwake, eFew l] _ ?_)
    simp only [wpC, mayStop, stops, isFlt, Specs.has, eAwake, eFew, Specs.hasO, Bool.or_false, Specs.hasH, List.any_cons, ↓reduceIte, Bool.not_true, Nat.reduceEqDiff, List.any_nil, Bool.false_eq_true, wpS, wantedA, okDst, Nat.reduceLT, decide_true, step1, isOwnCall, hxOp, px, pcall, okArg, AS.eval, AS.get, Lift.look, ofConst, ofVal, List.all_nil, Specs.at, List.map_nil, sAwake, and_self, AS.put, dropKey, reduceCtorEq, pun, Option.getD_some, List.getElem?_toArray, List.getElem?_cons_succ, List.getElem?_cons_zero, Option.bind_some, beq_self_eq_true, Nat.succ_ne_zero, List.all_cons, Bool.and_true, List.map_cons, sFew, hf, Bool.not_false, ppick_bool, thenQ, isB, tmpOf, asB, RPost, sres, Try.results5, sresL, sres1, Option.some.injEq, Ret_fin, HTo_self, and_true, exists_eq_left']
  obtain ⟨hl, hos⟩ := few_of hf
  refine SW.seq (SW.run [eAwake, eFew l] _ ?_)
  simp only [wpC, mayStop, stops, isFlt, Specs.has, eAwake, eFew, Specs.hasO, Bool.or_false, Specs.hasH, List.any_cons, ↓reduceIte, Bool.not_true, Nat.reduceEqDiff, List.any_nil, Bool.false_eq_true, wpS, wantedA, okDst, Nat.reduceLT, decide_true, step1, isOwnCall, hxOp, px, pcall, okArg, AS.eval, AS.get, Lift.look, ofConst, ofVal, List.all_nil, Specs.at, List.map_nil, sAwake, and_self, AS.put, dropKey, reduceCtorEq, pun, Option.getD_some, List.getElem?_toArray, List.getElem?_cons_succ, List.getElem?_cons_zero, Option.bind_some, beq_self_eq_true, Nat.succ_ne_zero, List.all_cons, Bool.and_true, List.map_cons, sFew, hf, ppick_bool, thenQ, isB, tmpOf, asB, true_and]
  refine SW.seq (SW.run [] _ ?_)
  simp only [wpC, Bool.false_eq_true, ↓reduceIte, wpS, stops, Specs.has, Specs.hasO, Bool.or_false, Specs.hasH, Bool.not_false]
  refine SWO.call (.func 10) #[] _ 10 #[] #[] rfl rfl rfl rfl rfl rfl (New_ok h) rfl rfl ?_ (fun c h' hc => by obtain ⟨_, hc, _⟩ := hc; cases hc)
  rintro p' h1 ⟨B0, hp', b0, w0, ps0, t0⟩
  injection hp' with hp'
  subst hp'
  have i0 : B0.items = [] := by rw [w0.it, ps0]; rfl
  refine SWO.run [] 1000 ?_
  simp only [wpS, stops, Bool.false_eq_true, ↓reduceIte, wantedA, okDst, AS.put, adr, dropKey, Nat.reduceEqDiff, reduceCtorEq, Nat.reduceLT, decide_true, step1, isOwnCall, hxOp, px, AS.eval, AS.get, Lift.look, Option.getD_some, thenQ, true_and]
  refine SW.seq (SW.seq (SW.run [] _ ?_))
  simp only [wpC, Bool.false_eq_true, ↓reduceIte, wpS, stops, wantedA, okDst, Nat.reduceLT, decide_true, step1, isOwnCall, hxOp, px, AS.eval, ofConst, ofVal, thenQ, AS.put, dropKey, Nat.reduceEqDiff, reduceCtorEq, true_and]
  refine SW.block (SW.loop (fun m a => ∃ (j : Nat) (B : Bo), j ≤ l.length ∧ l.length - j = m ∧ BOn h noG B a.h ∧ WF B ∧ B.items.length ≤ 8 * j ∧ B.time ≤ j ∧ B.rb = B0.rb ∧ a.n = 93 ∧ hasAll a [(0, .list 3 (elA l)), (1, .int .i64 c), (2, .bool s), (7, adr B0.rb), (8, .int .i64 (j : Nat))]) l.length ⟨0, B0, Nat.zero_le _, rfl, b0, w0, by rw [i0]; exact Nat.zero_le _, by rw [t0]; exact Nat.zero_le _, rfl, rfl, ?_⟩ ?_)
  · simp only [hasAll, AS.get, Lift.look, Nat.succ_ne_zero, ↓reduceIte, Option.getD_some, Nat.reduceEqDiff, reduceCtorEq, adr, Int.cast_ofNat_Int, and_self]
  rintro m a ⟨j, B, hj, hm, b, w, si, st, rb, hn, hs⟩
  refine SW.norm ⟨hn, rfl, hs⟩ ?_
  generalize a.h = hj' at b
  clear hn hs
  refine SW.seq (SW.run [] _ ?_)
  by_cases hlt : j < l.length
  · have hw : IntKind.i64.wrap ((j : Int) + 1) = ((j + 1 : Nat) : Int) := by rw [w64 (by omega) (by omega)]; rfl
    have hg := elA_at hlt
    have h8 := hos _ (List.getElem_mem hlt)
    have h9 : l[j].2.2.length ≤ 1000000 := by omega
    simp only [wpC, mayStop, stops, isFlt, Specs.has, Specs.hasO, Bool.or_false, Specs.hasH, Bool.not_false, List.any_cons, List.any_nil, Bool.false_eq_true, ↓reduceIte, wpS, wantedA, okDst, Nat.reduceLT, decide_true, step1, isOwnCall, hxOp, px, AS.eval, AS.get, Lift.look, reduceCtorEq, Nat.reduceEqDiff, Option.getD_some, AS.put, dropKey, Nat.succ_ne_zero, pcall, ty22, plen, elA_len, okLen, and_self, isNilC, pbinP, pbinI, Int.ofNat_lt, hlt, thenQ, isB, tmpOf, asB, hasAll, and_true, true_and]
    refine SW.seq (SW.block ?_)
    refine SW.regionLast [eOwn] [0, 1, 2, 3, 4, 5, 6, 7, 8, 9, 10, 11] rfl (by rfl) (by kernel_rfl) (by rfl) (by kernel_rfl) ?_
    simp only [wpO, LOp, List.getElem?_toArray, List.getElem?_cons_zero, okDst, Nat.reduceLT, decide_true, wantedA, ↓reduceIte, step1, isOwnCall, Bool.false_eq_true, hxOp, px, AS.eval, AS.get, Lift.look, Nat.reduceEqDiff, reduceCtorEq, Option.getD_some, List.getElem?_cons_succ, AS.put, dropKey, Nat.succ_ne_zero, pindexAddr, ty22, ty30, ne_eq, not_false_eq_true, Int.natCast_nonneg, Int.toNat_natCast, elA_len, hlt, and_self, hg, pfieldAddr, fieldOf, fieldIn, ty3, Option.map_some, List.drop_succ_cons, List.drop_zero, pload, okOne, TK.isAgg, beq_self_eq_true, Bool.or_true, List.length_cons, List.length_nil, Nat.zero_add, Nat.reduceAdd, Nat.reduceLeDiff, Lift.valOf, List.take_succ_cons, List.take_zero, List.getD_cons_zero, ty28, Nat.le_refl, List.take_nil, Specs.hasO, Specs.hasH, pcall, okArg, ofConst, ofVal, List.all_cons, List.all_nil, Bool.and_true, Specs.at, eOwn, List.map_cons, List.map_nil, sOwn, unO_el, h9, true_and]
    rw [← rb]
    refine SWO.call (.func 16) #[.tmp 28, .tmp 33, .tmp 39] _ 16 #[] #[] rfl rfl rfl rfl rfl rfl (Wait_any l[j].2.1 l[j].2.2 h8 b w (by omega) (by omega)) rfl rfl ?_ (fun c h' hc => by obtain ⟨_, _, hc, _⟩ := hc; cases hc)
    rintro p' h2 ⟨n, B2, hp', b2, w2, rb2, si2, st2⟩
    injection hp' with hp'
    subst hp'
    refine SWO.run [] 1000 ?_
    simp only [wpS, inQ, thenQ, adr, AS.put, dropKey, Nat.reduceEqDiff, ↓reduceIte, reduceCtorEq]
    refine SW.run [] _ ?_
    simp only [wpC, Bool.false_eq_true, ↓reduceIte, wpS, stops, wantedA, okDst, Nat.reduceLT, decide_true, step1, isOwnCall, hxOp, px, AS.eval, AS.get, Lift.look, Nat.reduceEqDiff, reduceCtorEq, Option.getD_some, isFlt, ty3, AS.put, dropKey, isNilC, pbinP, ofConst, ofVal, pbinI, hw, thenQ, Nat.succ_ne_zero, true_and]
    exact ⟨l.length - (j + 1), by omega, j + 1, B2, hlt, rfl, b2, w2, by omega, by omega, rb2, rfl⟩
  · have hjl : ¬ ((j : Int) < (l.length : Int)) := by omega
    simp only [wpC, mayStop, stops, isFlt, Specs.has, Specs.hasO, Bool.or_false, Specs.hasH, Bool.not_false, List.any_cons, List.any_nil, Bool.false_eq_true, ↓reduceIte, wpS, wantedA, okDst, Nat.reduceLT, decide_true, step1, isOwnCall, hxOp, px, AS.eval, AS.get, Lift.look, reduceCtorEq, Nat.reduceEqDiff, Option.getD_some, AS.put, dropKey, Nat.succ_ne_zero, pcall, ty22, plen, elA_len, okLen, and_self, isNilC, pbinP, pbinI, hjl, decide_false, thenQ, isB, tmpOf, asB, inQ, true_and]
    have hB : B.items.length ≤ 320 := by omega
    have hT : B.time ≤ 40 := by omega
    clear hos hl hlt hjl si st hj hm
    refine SW.seq (SW.run [eWaits h noG B] _ ?_)
    cases hpf : (pOf B.ps (-4611686018427387904)).isSome
    case true =>
      simp only [wpC, mayStop, stops, isFlt, Specs.has, Specs.hasO, Bool.or_false, Specs.hasH, eWaits, Bool.false_or, List.any_cons, ↓reduceIte, Bool.not_true, List.any_nil, Bool.false_eq_true, wpS, wantedA, okDst, Nat.reduceLT, decide_true, step1, isOwnCall, hxOp, px, AS.eval, AS.get, Lift.look, Nat.reduceEqDiff, reduceCtorEq, adr, Option.getD_some, Bool.or_true, AS.put, dropKey, hx, okArg, ofConst, ofVal, List.all_cons, List.all_nil, Bool.and_true, Specs.atH, List.map_cons, List.map_nil, sWaits, rb, true_and, hpf, thenQ, isB, tmpOf, asB, RPost, sres, Try.results5, sresL, sres1, Option.some.injEq, Ret_fin, exists_eq_left']
      exact ⟨b, Inc.to fun K X e => b.inc _ _ e⟩
    simp only [wpC, mayStop, stops, isFlt, Specs.has, Specs.hasO, Bool.or_false, Specs.hasH, eWaits, Bool.false_or, List.any_cons, ↓reduceIte, Bool.not_true, List.any_nil, Bool.false_eq_true, wpS, wantedA, okDst, Nat.reduceLT, decide_true, step1, isOwnCall, hxOp, px, AS.eval, AS.get, Lift.look, Nat.reduceEqDiff, reduceCtorEq, adr, Option.getD_some, Bool.or_true, AS.put, dropKey, hx, okArg, ofConst, ofVal, List.all_cons, List.all_nil, Bool.and_true, Specs.atH, List.map_cons, List.map_nil, sWaits, rb, true_and, hpf, thenQ, isB, tmpOf, asB]
    refine ⟨b, ?_⟩
    have hp0 : pOf B.ps (-4611686018427387904) = none := by simpa using hpf
    refine SW.seq (SW.seq (SW.run [] _ ?_))
    simp only [wpC, Bool.false_eq_true, ↓reduceIte, wpS, stops, wantedA, okDst, Nat.reduceLT, decide_true, step1, isOwnCall, hxOp, px, AS.eval, ofConst, ofVal, thenQ, AS.put, dropKey, Nat.reduceEqDiff, reduceCtorEq, true_and]
    have hrb : adr B0.rb = adr B.rb := by rw [rb]
    refine SW.block (SW.loop (fun m a => ∃ (k : Nat) (B' : Bo), 321 - k = m ∧ B'.items.length + k ≤ 320 ∧ BOn h noG B' a.h ∧ WF B' ∧ pOf B'.ps (-4611686018427387904) = none ∧ B'.rb = B.rb ∧ a.n = 93 ∧ hasAll a [(1, .int .i64 c), (2, .bool s), (7, adr B.rb), (9, .int .i64 (k : Nat))]) 321 ⟨0, B, rfl, hB, b, w, hp0, rfl, rfl, ?_⟩ ?_)
    · simp only [hasAll, AS.get, Lift.look, Nat.reduceEqDiff, ↓reduceIte, reduceCtorEq, Option.getD_some, adr, rb, Int.cast_ofNat_Int, and_self]
    clear hrb hp0 hpf hT hB b w rb b0 w0 ps0 t0 i0
    rintro m a ⟨k, B1, hm, hk, b, w, hp0, rb, hn, hs⟩
    refine SW.norm ⟨hn, rfl, hs⟩ ?_
    generalize a.h = hk' at b
    clear hn hs
    rw [← rb]
    have hw : IntKind.i64.wrap ((k : Int) + 1) = ((k + 1 : Nat) : Int) := by rw [w64 (by omega) (by omega)]; rfl
    have hk3 : (k : Int) ≤ 320 := by omega
    refine SW.seq (SW.run [] _ ?_)
    simp only [wpC, mayStop, stops, isFlt, Specs.has, Specs.hasO, Bool.or_false, Specs.hasH, Bool.not_false, List.any_cons, List.any_nil, Bool.false_eq_true, ↓reduceIte, wpS, wantedA, okDst, Nat.reduceLT, decide_true, step1, isOwnCall, hxOp, px, AS.eval, AS.get, Lift.look, Nat.reduceEqDiff, Option.getD_some, AS.put, dropKey, isNilC, pbinP, ofConst, ofVal, pbinI, hk3, thenQ, isB, tmpOf, asB, hasAll, and_true, true_and]
    have hfh := fst_head w hp0 c s
    obtain ⟨F, hF⟩ : ∃ F, F = fil B1.items c s := ⟨_, rfl⟩
    have hFm : ∀ i ∈ F, i ∈ B1.items ∧ i.ch = c ∧ i.sd = s := fun i hi => by
      rw [hF] at hi
      unfold fil at hi
      rw [List.mem_filter] at hi
      simpa using hi
    rw [← hF] at hfh
    refine SW.seq (SW.block (SW.seq (SW.run [eQueue h B1] _ ?_)))
    simp only [wpC, Bool.false_eq_true, ↓reduceIte, wpS, stops, wantedA, okDst, Nat.reduceLT, decide_true, step1, isOwnCall, hxOp, px, AS.eval, AS.get, Lift.look, Nat.reduceEqDiff, adr, Option.getD_some, AS.put, dropKey, Specs.has, Specs.hasO, Bool.or_false, Specs.hasH, eQueue, Bool.or_true, Bool.not_true, hx, okArg, ofConst, ofVal, List.all_cons, List.all_nil, Bool.and_true, Specs.atH, List.map_cons, List.map_nil, sQueue, true_and, thenQ]
    refine ⟨⟨b, w, by omega⟩, ?_⟩
    rw [← hF]
    cases F with
    | nil =>
      have hfn : fstS noG B1 (-4611686018427387904) c (!s) = none := hfh
      refine SW.seq (SW.run [] _ ?_)
      simp only [wpC, Bool.false_eq_true, ↓reduceIte, wpS, stops, wantedA, okDst, Nat.reduceLT, decide_true, step1, isOwnCall, hxOp, px, AS.eval, AS.get, Lift.look, Nat.reduceEqDiff, Option.getD_some, AS.put, dropKey, pun, pbuild, ty39, List.map_cons, ofVal, List.map_nil, ofConst, pfill, placeOf, List.getElem?_cons_zero, ty3, Option.map_some, PV.cells, List.length_cons, List.length_nil, Nat.zero_add, Nat.reduceAdd, Nat.reduceLeDiff, and_self, List.getElem?_cons_succ, ty4, splice, List.take_zero, List.nil_append, List.drop_succ_cons, List.drop_zero, List.cons_append, Nat.le_refl, List.take_succ_cons, List.drop_nil, List.append_nil, List.all_cons, Option.isSome_some, List.all_nil, Bool.and_true, okZero, Value.oneCell', known, Specs.has, Specs.hasO, Bool.or_false, Specs.hasH, Bool.not_false, true_and]
      refine SWO.call (.func 15) #[.tmp 52, .const (.int .i64 (-4611686018427387904)), .tmp 56] _ 15 #[] #[] rfl rfl rfl rfl rfl rfl (Meet_none (-4611686018427387904) c (!s) b hfn) rfl rfl ?_ (fun c h' hc => by cases hc.1)
      rintro p' h4 ⟨hp', rfl⟩
      injection hp' with hp'
      subst hp'
      refine SWO.run [] 1000 ?_
      simp only [wpS, stops, Bool.false_eq_true, ↓reduceIte, wantedA, okDst, AS.put, enZ, dropKey, Nat.reduceEqDiff, Nat.reduceLT, decide_true, step1, isOwnCall, hxOp, px, AS.eval, AS.get, Lift.look, Option.getD_some, List.getElem?_cons_zero, List.getElem?_cons_succ, okAlloc, ty35, okZero, List.all_cons, Value.oneCell', List.all_nil, Bool.and_true, hx, zeroOf, List.map_cons, ofVal, List.map_nil, List.length_cons, List.length_nil, Nat.zero_add, Nat.reduceAdd, Heap.get_put, known1, PV.cells, Nat.le_refl, and_self, splice, List.take_zero, List.nil_append, List.drop_succ_cons, List.drop_nil, List.append_nil, thenQ, true_and]
      intro r hr
      rw [Heap.put_put]
      have b4 := b.put hr (.cells 35 4 [.int .i64 0, .int .i64 0, .int .i64 0, .bool false])
      refine SW.seq (SW.run [] _ ?_)
      simp only [wpC, mayStop, stops, isFlt, Specs.has, Specs.hasO, Bool.or_false, Specs.hasH, Bool.not_false, List.any_cons, List.any_nil, Bool.false_eq_true, ↓reduceIte, wpS, wantedA, okDst, Nat.reduceLT, decide_true, step1, isOwnCall, hxOp, px, AS.eval, AS.get, Lift.look, Option.getD_some, AS.put, dropKey, Nat.reduceEqDiff, elE, List.map_nil, pun, thenQ, isB, tmpOf, asB, pcall, ty42, plen, List.length_nil, okLen, and_self, Int.cast_ofNat_Int, isNilC, pbinP, ofConst, ofVal, pbinI, beq_self_eq_true, inQ, RPost, sres, Try.results5, sresL, sres1, Option.some.injEq, Ret_fin, exists_eq_left', true_and]
      exact Inc.to fun K X e => b4.inc _ _ e
    | cons i t =>
      obtain ⟨hi, hic, his⟩ := hFm i (List.mem_cons_self ..)
      obtain ⟨xs, hxs⟩ : ∃ xs, xs = elE (i :: t) := ⟨_, rfl⟩
      have hx0 : xs.getD 0 [] = [.int .i64 i.pid, .int .i64 (i.arm : Nat), .int .i64 i.ch, .bool i.sd] := by rw [hxs]; rfl
      have hxl : 0 < xs.length := by rw [hxs]; exact Nat.zero_lt_succ _
      have hxI : ((xs.length : Int) == 0) = false := by rw [beq_eq_false_iff_ne]; omega
      rw [← hxs]
      have hfn : fstS noG B1 (-4611686018427387904) c (!s) = some i := hfh
      refine SW.seq (SW.run [] _ ?_)
      simp only [wpC, Bool.false_eq_true, ↓reduceIte, wpS, stops, wantedA, okDst, Nat.reduceLT, decide_true, step1, isOwnCall, hxOp, px, AS.eval, AS.get, Lift.look, Nat.reduceEqDiff, Option.getD_some, AS.put, dropKey, pun, pbuild, ty39, List.map_cons, ofVal, List.map_nil, ofConst, pfill, placeOf, List.getElem?_cons_zero, ty3, Option.map_some, PV.cells, List.length_cons, List.length_nil, Nat.zero_add, Nat.reduceAdd, Nat.reduceLeDiff, and_self, List.getElem?_cons_succ, ty4, splice, List.take_zero, List.nil_append, List.drop_succ_cons, List.drop_zero, List.cons_append, Nat.le_refl, List.take_succ_cons, List.drop_nil, List.append_nil, List.all_cons, Option.isSome_some, List.all_nil, Bool.and_true, okZero, Value.oneCell', known, Specs.has, Specs.hasO, Bool.or_false, Specs.hasH, Bool.not_false, true_and]
      refine SWO.call (.func 15) #[.tmp 52, .const (.int .i64 (-4611686018427387904)), .tmp 56] _ 15 #[] #[] rfl rfl rfl rfl rfl rfl (Meet_some (-4611686018427387904) c (!s) b w (by omega) hfn) rfl rfl ?_ (fun c h' hc => by cases hc.1)
      rintro p' h4 ⟨hp', B2, b2, w2, ps2, rb2, _⟩
      injection hp' with hp'
      subst hp'
      have it2 := items_del w w2 ps2
      have l2 := keep_less hi
      have n2 : pOf B2.ps (-4611686018427387904) = none := by rw [ps2]; exact pOf_delP _ hp0
      have n3 : (pOf B2.ps i.pid).isSome = false := by rw [ps2, pOf_del w]; rfl
      refine SWO.run [] 1000 ?_
      simp only [wpS, stops, Bool.false_eq_true, ↓reduceIte, wantedA, okDst, AS.put, enV, dropKey, Nat.reduceEqDiff, Nat.reduceLT, decide_true, step1, isOwnCall, hxOp, px, AS.eval, AS.get, Lift.look, Option.getD_some, List.getElem?_cons_zero, List.getElem?_cons_succ, okAlloc, ty35, okZero, List.all_cons, Value.oneCell', List.all_nil, Bool.and_true, hx, zeroOf, List.map_cons, ofVal, List.map_nil, List.length_cons, List.length_nil, Nat.zero_add, Nat.reduceAdd, Heap.get_put, known1, PV.cells, Nat.le_refl, and_self, splice, List.take_zero, List.nil_append, List.drop_succ_cons, List.drop_nil, List.append_nil, thenQ, true_and]
      intro r hr
      rw [Heap.put_put, ← rb2]
      have b4 := b2.put hr (.cells 35 4 [.int .i64 i.pid, .int .i64 (i.arm : Nat), .int .i64 i.ch, .bool i.sd])
      have h5 : (h4.put r (.cells 35 4 [.int .i64 i.pid, .int .i64 (i.arm : Nat), .int .i64 i.ch, .bool i.sd])) r = some (.cells 35 4 [.int .i64 i.pid, .int .i64 (i.arm : Nat), .int .i64 i.ch, .bool i.sd]) := Heap.put_same _ _ _
      generalize h4.put r (.cells 35 4 [.int .i64 i.pid, .int .i64 (i.arm : Nat), .int .i64 i.ch, .bool i.sd]) = H at b4 h5 ⊢
      refine SW.seq (SW.run [] _ ?_)
      simp only [wpC, mayStop, stops, isFlt, Specs.has, Specs.hasO, Bool.or_false, Specs.hasH, Bool.not_false, List.any_cons, List.any_nil, Bool.false_eq_true, ↓reduceIte, wpS, wantedA, okDst, Nat.reduceLT, decide_true, step1, isOwnCall, hxOp, px, AS.eval, AS.get, Lift.look, Option.getD_some, AS.put, dropKey, Nat.reduceEqDiff, pun, Bool.not_true, thenQ, isB, tmpOf, asB, true_and]
      refine SW.seq (SW.regionAny [eWaits h noG B2] [[0, 1, 2, 3, 4, 5, 6, 7, 8, 9, 10, 11, 12, 13, 14, 15, 16, 17, 18, 19, 20, 21, 22, 23, 24, 25, 26, 27]] rfl (by rfl) (by kernel_rfl) ?_)
      simp only [wpOL, wpO, LOp, List.getElem?_toArray, List.getElem?_cons_zero, okDst, Nat.reduceLT, decide_true, wantedA, ↓reduceIte, step1, isOwnCall, Bool.false_eq_true, hxOp, px, AS.eval, AS.get, Lift.look, Nat.reduceEqDiff, Option.getD_some, List.getElem?_cons_succ, AS.put, dropKey, hic, his, pcall, ty42, plen, okLen, and_self, isNilC, pbinP, ofConst, ofVal, pbinI, hxI, Option.bind_some, beq_self_eq_true, pload, ty35, h5, okOne, TK.isAgg, Nat.reduceBEq, Bool.or_false, Nat.zero_add, List.length_cons, List.length_nil, Nat.reduceAdd, Nat.le_refl, Lift.valOf, List.drop_zero, List.take_succ_cons, List.take_nil, pindexAddr, ne_eq, Nat.succ_ne_zero, not_false_eq_true, Int.reduceLE, Int.reduceToNat, hxl, hx0, pflt, peq, eqk35, fits, Bool.and_true, eqCells, Bool.not_true, ppick_bool, pfieldAddr, fieldOf, fieldIn, ty3, Option.map_some, Nat.add_zero, Bool.or_true, Nat.reduceLeDiff, List.take_zero, List.getD_cons_zero, Specs.hasO, Specs.hasH, eWaits, hx, okArg, List.all_cons, List.all_nil, Specs.atH, List.map_cons, List.map_nil, sWaits, true_and, n3, List.drop_succ_cons, bne_self_eq_false, ty4, peqK, thenQ]
      refine ⟨b4, ?_⟩
      refine SW.run [] _ ?_
      simp only [wpC, isB, AS.get, Lift.look, tmpOf, ↓reduceIte, Option.getD_some, asB, Bool.false_eq_true, inQ, thenQ, true_and]
      refine SW.run [] _ ?_
      simp only [wpC, Bool.false_eq_true, ↓reduceIte, wpS, stops, wantedA, okDst, Nat.reduceLT, decide_true, step1, isOwnCall, hxOp, px, AS.eval, AS.get, Lift.look, Nat.reduceEqDiff, Option.getD_some, isFlt, ty3, AS.put, dropKey, isNilC, pbinP, ofConst, ofVal, pbinI, hw, thenQ, true_and]
      exact ⟨321 - (k + 1), by omega, k + 1, B2, rfl, by rw [it2]; omega, b4, w2, n2, rfl, rfl⟩
end Go.Proofs.Ytekgfneapofgpaa
