/- Contracts of functions that the law reaches. -/
import Derived.Test.Ytekgfneapofgpaak
set_option linter.unusedSimpArgs false
set_option linter.unusedVariables false
namespace Go.Proofs.Ytekgfneapofgpaa
open Go Go.RowKit Go.Proofs.Ytekgfneapofgpaa Go.Proofs.Ytekgfneapofgpaa.Lift

/-! ChansLeaves -/
theorem filt_at {α : Type} (f : α → Bool) : ∀ {l : List α} {j : Nat} (hj : j < l.length), f l[j] = true → ∃ k : ((l.take j).filter f).length < (l.filter f).length, (l.filter f)[((l.take j).filter f).length] = l[j]
  | [], _, hj, _ => absurd hj (Nat.not_lt_zero _)
  | x :: l, 0, _, h => by
    have h : f x = true := h
    exact ⟨by simp [h], by simp [h]⟩
  | x :: l, j + 1, hj, h => by
    obtain ⟨k1, k2⟩ := filt_at f (l := l) (j := j) (by simpa using hj) (by simpa using h)
    cases hx : f x
    · refine ⟨by simpa [hx] using k1, ?_⟩
      simpa [hx] using k2
    · refine ⟨by simpa [hx] using k1, ?_⟩
      simpa [hx] using k2
theorem others_eq {B : Bo} (w : WF B) (p c : Int) (s : Bool) : ((fil B.items c s).any fun i => !(i.pid == p)) = (fstS noG B p c (!s)).isSome := by
  rw [fst_items w, Bool.not_not]
  unfold fil
  rw [List.any_filter]
  induction B.items with
  | nil => rfl
  | cons x l ih => 
    rw [List.any_cons, List.find?_cons, ih]
    cases h : ((x.ch == c && x.sd == s) && !(x.pid == p)) <;> simp
theorem ready_one {B : Bo} (p c : Int) (s : Bool) : readyS B p [(c, s)] 1 = if (fstS noG B p c s).isSome then [0] else [] := by
  rw [show (1 : Nat) = 0 + 1 from rfl, ready_next]
  rfl
set_option maxHeartbeats 1000000 in
set_option maxRecDepth 100000 in
theorem ChansLeaves_ok (l : List ActS) (pid : Int) (h : Heap) : SCalls env 6 [.list 3 (elA l), .int .i64 pid] h (Ret (.bool true) h) := by
  refine SCalls.body Try.func6 rfl rfl (by simp [Try.ntmps6]) ?_
  refine SW.seq (SW.run [] _ ?_)
  simp only [wpC, Bool.false_eq_true, ↓reduceIte, wpS, stops, wantedA, okDst, Try.ntmps6, Nat.reduceLT, decide_true, step1, isOwnCall, hxOp, px, AS.eval, ofConst, ofVal, thenQ, AS.put, enumA, Nat.zero_add, dropKey, reduceCtorEq, Nat.reduceEqDiff, true_and]
  by_cases hf : fewS l = true
  case neg =>
    have hf : fewS l = false := by simpa using hf
    refine SW.seq (SW.run [eAwake, eFew l] _ ?_)
    simp only [wpC, mayStop, stops, isFlt, Specs.has, eAwake, eFew, Specs.hasO, Bool.or_false, Specs.hasH, List.any_cons, ↓reduceIte, Bool.not_true, Nat.reduceEqDiff, List.any_nil, Bool.false_eq_true, wpS, wantedA, okDst, Nat.reduceLT, decide_true, step1, isOwnCall, hxOp, px, pcall, okArg, AS.eval, AS.get, Lift.look, ofConst, ofVal, List.all_nil, Specs.at, List.map_nil, sAwake, and_self, AS.put, dropKey, reduceCtorEq, pun, Option.getD_some, List.getElem?_toArray, List.getElem?_cons_succ, List.getElem?_cons_zero, Option.bind_some, beq_self_eq_true, Nat.succ_ne_zero, List.all_cons, Bool.and_true, List.map_cons, sFew, hf, Bool.not_false, ppick_bool, thenQ, isB, tmpOf, asB, RPost, sres, Try.results6, sresL, sres1, Option.some.injEq, Ret_fin, HTo_self, and_true, exists_eq_left']
  obtain ⟨hl, hos⟩ := few_of hf
  refine SW.seq (SW.run [eAwake, eFew l] _ ?_)
  simp only [wpC, mayStop, stops, isFlt, Specs.has, eAwake, eFew, Specs.hasO, Bool.or_false, Specs.hasH, List.any_cons, ↓reduceIte, Bool.not_true, Nat.reduceEqDiff, List.any_nil, Bool.false_eq_true, wpS, wantedA, okDst, Nat.reduceLT, decide_true, step1, isOwnCall, hxOp, px, pcall, okArg, AS.eval, AS.get, Lift.look, ofConst, ofVal, List.all_nil, Specs.at, List.map_nil, sAwake, and_self, AS.put, dropKey, reduceCtorEq, pun, Option.getD_some, List.getElem?_toArray, List.getElem?_cons_succ, List.getElem?_cons_zero, Option.bind_some, beq_self_eq_true, Nat.succ_ne_zero, List.all_cons, Bool.and_true, List.map_cons, sFew, hf, ppick_bool, thenQ, isB, tmpOf, asB, true_and]
  refine SW.seq (SW.run [] _ ?_)
  simp only [wpC, Bool.false_eq_true, ↓reduceIte, wpS, stops, Specs.has, Specs.hasO, Bool.or_false, Specs.hasH, Bool.not_false]
  refine SWO.call (.func 10) #[] _ 10 #[] #[] rfl rfl rfl rfl rfl rfl (New_ok h) rfl rfl ?_ (fun c h' hc => by obtain ⟨_, hc, _⟩ := hc; cases hc)
  rintro p' h1 ⟨B0, hp', b0, w0, ps0, t0⟩
  injection hp' with hp'
  subst hp'
  have i0 : B0.items = [] := by rw [w0.it, ps0]; rfl
  refine SWO.run [] 1000 ?_
  simp only [wpS, stops, Bool.false_eq_true, ↓reduceIte, wantedA, okDst, AS.put, adr, dropKey, Nat.reduceEqDiff, reduceCtorEq, Nat.reduceLT, decide_true, step1, isOwnCall, hxOp, px, AS.eval, AS.get, Lift.look, Option.getD_some, thenQ, true_and]
  refine SW.seq (SW.seq (SW.run [] _ ?_))
  simp only [wpC, Bool.false_eq_true, ↓reduceIte, wpS, stops, wantedA, okDst, Nat.reduceLT, decide_true, step1, isOwnCall, hxOp, px, AS.eval, ofConst, ofVal, thenQ, AS.put, dropKey, Nat.reduceEqDiff, reduceCtorEq, true_and]
  refine SW.block (SW.loop (fun m a => ∃ (j : Nat) (B : Bo), j ≤ l.length ∧ l.length - j = m ∧ BOn h noG B a.h ∧ WF B ∧ B.items.length ≤ 8 * j ∧ B.time ≤ j ∧ B.rb = B0.rb ∧ a.n = 163 ∧ hasAll a [(0, .list 3 (elA l)), (1, .int .i64 pid), (5, adr B0.rb), (6, .int .i64 (j : Nat))]) l.length ⟨0, B0, Nat.zero_le _, rfl, b0, w0, by rw [i0]; exact Nat.zero_le _, by rw [t0]; exact Nat.zero_le _, rfl, rfl, ?_⟩ ?_)
  · simp only [hasAll, AS.get, Lift.look, Nat.succ_ne_zero, ↓reduceIte, Option.getD_some, Nat.reduceEqDiff, reduceCtorEq, adr, Int.cast_ofNat_Int, and_self]
  rintro m a ⟨j, B, hj, hm, b, w, si, st, rb, hn, hs⟩
  refine SW.norm ⟨hn, rfl, hs⟩ ?_
  generalize a.h = hj' at b
  clear hn hs
  refine SW.seq (SW.run [] _ ?_)
  by_cases hlt : j < l.length
  · have hw : IntKind.i64.wrap ((j : Int) + 1) = ((j + 1 : Nat) : Int) := by rw [w64 (by omega) (by omega)]; rfl
    have hg := elA_at hlt
    have h8 := hos _ (List.getElem_mem hlt)
    have h9 : l[j].2.2.length ≤ 1000000 := by omega
    simp only [wpC, mayStop, stops, isFlt, Specs.has, Specs.hasO, Bool.or_false, Specs.hasH, Bool.not_false, List.any_cons, List.any_nil, Bool.false_eq_true, ↓reduceIte, wpS, wantedA, okDst, Nat.reduceLT, decide_true, step1, isOwnCall, hxOp, px, AS.eval, AS.get, Lift.look, reduceCtorEq, Nat.reduceEqDiff, Option.getD_some, AS.put, dropKey, Nat.succ_ne_zero, pcall, ty22, plen, elA_len, okLen, and_self, isNilC, pbinP, pbinI, Int.ofNat_lt, hlt, thenQ, isB, tmpOf, asB, hasAll, and_true, true_and]
    refine SW.seq (SW.block ?_)
    refine SW.regionLast [eOwn] [0, 1, 2, 3, 4, 5, 6, 7, 8, 9, 10, 11] rfl (by rfl) (by kernel_rfl) (by rfl) (by kernel_rfl) ?_
    simp only [wpO, LOp, List.getElem?_toArray, List.getElem?_cons_zero, okDst, Nat.reduceLT, decide_true, wantedA, ↓reduceIte, step1, isOwnCall, Bool.false_eq_true, hxOp, px, AS.eval, AS.get, Lift.look, Nat.reduceEqDiff, reduceCtorEq, Option.getD_some, List.getElem?_cons_succ, AS.put, dropKey, Nat.succ_ne_zero, pindexAddr, ty22, ty30, ne_eq, not_false_eq_true, Int.natCast_nonneg, Int.toNat_natCast, elA_len, hlt, and_self, hg, pfieldAddr, fieldOf, fieldIn, ty3, Option.map_some, List.drop_succ_cons, List.drop_zero, pload, okOne, TK.isAgg, beq_self_eq_true, Bool.or_true, List.length_cons, List.length_nil, Nat.zero_add, Nat.reduceAdd, Nat.reduceLeDiff, Lift.valOf, List.take_succ_cons, List.take_zero, List.getD_cons_zero, ty28, Nat.le_refl, List.take_nil, Specs.hasO, Specs.hasH, pcall, okArg, ofConst, ofVal, List.all_cons, List.all_nil, Bool.and_true, Specs.at, eOwn, List.map_cons, List.map_nil, sOwn, unO_el, h9, true_and]
    rw [← rb]
    refine SWO.call (.func 16) #[.tmp 32, .tmp 37, .tmp 43] _ 16 #[] #[] rfl rfl rfl rfl rfl rfl (Wait_any l[j].2.1 l[j].2.2 h8 b w (by omega) (by omega)) rfl rfl ?_ (fun c h' hc => by obtain ⟨_, _, hc, _⟩ := hc; cases hc)
    rintro p' h2 ⟨n, B2, hp', b2, w2, rb2, si2, st2⟩
    injection hp' with hp'
    subst hp'
    refine SWO.run [] 1000 ?_
    simp only [wpS, inQ, thenQ, adr, AS.put, dropKey, Nat.reduceEqDiff, ↓reduceIte, reduceCtorEq]
    refine SW.run [] _ ?_
    simp only [wpC, Bool.false_eq_true, ↓reduceIte, wpS, stops, wantedA, okDst, Nat.reduceLT, decide_true, step1, isOwnCall, hxOp, px, AS.eval, AS.get, Lift.look, Nat.reduceEqDiff, reduceCtorEq, Option.getD_some, isFlt, ty3, AS.put, dropKey, isNilC, pbinP, ofConst, ofVal, pbinI, hw, thenQ, Nat.succ_ne_zero, true_and]
    exact ⟨l.length - (j + 1), by omega, j + 1, B2, hlt, rfl, b2, w2, by omega, by omega, rb2, rfl⟩
  · have hjl : ¬ ((j : Int) < (l.length : Int)) := by omega
    simp only [wpC, mayStop, stops, isFlt, Specs.has, Specs.hasO, Bool.or_false, Specs.hasH, Bool.not_false, List.any_cons, List.any_nil, Bool.false_eq_true, ↓reduceIte, wpS, wantedA, okDst, Nat.reduceLT, decide_true, step1, isOwnCall, hxOp, px, AS.eval, AS.get, Lift.look, reduceCtorEq, Nat.reduceEqDiff, Option.getD_some, AS.put, dropKey, Nat.succ_ne_zero, pcall, ty22, plen, elA_len, okLen, and_self, isNilC, pbinP, pbinI, hjl, decide_false, thenQ, isB, tmpOf, asB, inQ, true_and]
    have hB : B.items.length ≤ 320 := by omega
    have hT : B.time ≤ 40 := by omega
    clear hos hl hlt hjl si st hj hm
    refine SW.seq (SW.run [eEntries h B, eWaits h noG B] _ ?_)
    simp only [wpC, Bool.false_eq_true, ↓reduceIte, wpS, stops, wantedA, okDst, Nat.reduceLT, decide_true, step1, isOwnCall, hxOp, px, AS.eval, AS.get, Lift.look, Nat.reduceEqDiff, reduceCtorEq, adr, Option.getD_some, Specs.has, Specs.hasO, Bool.or_false, Specs.hasH, eEntries, Bool.or_true, Bool.not_true, AS.put, dropKey, hx, okArg, ofConst, ofVal, List.all_cons, List.all_nil, Bool.and_true, Specs.atH, List.map_cons, List.map_nil, sEntries, rb, true_and, eWaits, sWaits, thenQ]
    refine ⟨⟨b, w, by omega⟩, b, ?_⟩
    have eb : adr B0.rb = adr B.rb := by rw [rb]
    refine SW.enter (n := 163) (l := [(1, .int .i64 pid), (5, adr B.rb), (7, .list 4 (elE B.items)), (8, .bool (pOf B.ps pid).isSome)]) (H := hj') rfl (.refl _ _) (by simp only [hasAll, AS.get, Lift.look, Nat.reduceEqDiff, ↓reduceIte, reduceCtorEq, Option.getD_some, adr, rb, and_self]) ?_
    clear eb rb b0 w0 ps0 t0 i0
    refine SW.seq (SW.seq (SW.run [] _ ?_))
    simp only [wpC, Bool.false_eq_true, ↓reduceIte, wpS, stops, wantedA, okDst, Nat.reduceLT, decide_true, step1, isOwnCall, hxOp, px, AS.eval, ofConst, ofVal, thenQ, AS.put, dropKey, Nat.reduceEqDiff, true_and]
    refine SW.block (SW.loopH 163 (fun i : Nat => [(1, .int .i64 pid), (5, adr B.rb), (7, .list 4 (elE B.items)), (8, .bool (pOf B.ps pid).isSome), (9, .int .i64 (i : Nat))]) (fun _ => hj') (fun i => i ≤ B.items.length) (fun i => B.items.length - i) 0 (Nat.zero_le _) ⟨rfl, .refl _ _, ?_⟩ ?_)
    · simp only [hasAll, AS.get, Lift.look, Nat.reduceEqDiff, ↓reduceIte, Option.getD_some, adr, Int.cast_ofNat_Int, and_self]
    intro i hi
    refine SW.seq (SW.run [] _ ?_)
    by_cases hlt : i < B.items.length
    · have hw : IntKind.i64.wrap ((i : Int) + 1) = ((i + 1 : Nat) : Int) := by rw [w64 (by omega) (by omega)]; rfl
      have hg := elE_at hlt
      simp only [wpC, mayStop, stops, isFlt, Specs.has, Specs.hasO, Bool.or_false, Specs.hasH, Bool.not_false, List.any_cons, List.any_nil, Bool.false_eq_true, ↓reduceIte, wpS, wantedA, okDst, Nat.reduceLT, decide_true, step1, isOwnCall, hxOp, px, AS.eval, AS.get, Lift.look, Nat.reduceEqDiff, Option.getD_some, AS.put, dropKey, pcall, ty42, plen, elE_len, okLen, and_self, isNilC, pbinP, pbinI, Int.ofNat_lt, hlt, thenQ, isB, tmpOf, asB, hasAll, and_true, true_and]
      cases hp : (B.items[i].pid == pid)
      case false =>
        refine SW.seq (SW.block (SW.run [] _ ?_))
        simp only [wpC, mayStop, stops, isFlt, Specs.has, Specs.hasO, Bool.or_false, Specs.hasH, Bool.not_false, List.any_cons, List.any_nil, Bool.false_eq_true, ↓reduceIte, wpS, wantedA, okDst, Nat.reduceLT, decide_true, step1, isOwnCall, hxOp, px, AS.eval, AS.get, Lift.look, Nat.reduceEqDiff, Option.getD_some, AS.put, dropKey, pindexAddr, ty42, ty35, ne_eq, Nat.succ_ne_zero, not_false_eq_true, Int.natCast_nonneg, Int.toNat_natCast, elE_len, hlt, and_self, hg, enC, pfieldAddr, fieldOf, fieldIn, List.getElem?_cons_zero, ty3, Option.map_some, List.drop_zero, pload, okOne, TK.isAgg, beq_self_eq_true, Bool.or_true, List.length_cons, List.length_nil, Nat.zero_add, Nat.reduceAdd, Nat.reduceLeDiff, Lift.valOf, List.take_succ_cons, List.take_zero, List.getD_cons_zero, isNilC, pbinP, pbinI, hp, thenQ, isB, tmpOf, asB, inQ, true_and]
        refine SW.run [] _ ?_
        simp only [wpC, Bool.false_eq_true, ↓reduceIte, wpS, stops, wantedA, okDst, Nat.reduceLT, decide_true, step1, isOwnCall, hxOp, px, AS.eval, AS.get, Lift.look, Nat.reduceEqDiff, Option.getD_some, isFlt, ty3, AS.put, dropKey, isNilC, pbinP, ofConst, ofVal, pbinI, hw, thenQ, HTo_self, true_and]
        exact ⟨i + 1, hlt, by omega, rfl⟩
      have hpe : B.items[i].pid = pid := by simpa using hp
      refine SW.seq (SW.block (SW.run [] _ ?_))
      simp only [wpC, mayStop, stops, isFlt, Specs.has, Specs.hasO, Bool.or_false, Specs.hasH, Bool.not_false, List.any_cons, List.any_nil, Bool.false_eq_true, ↓reduceIte, wpS, wantedA, okDst, Nat.reduceLT, decide_true, step1, isOwnCall, hxOp, px, AS.eval, AS.get, Lift.look, Nat.reduceEqDiff, Option.getD_some, AS.put, dropKey, pindexAddr, ty42, ty35, ne_eq, Nat.succ_ne_zero, not_false_eq_true, Int.natCast_nonneg, Int.toNat_natCast, elE_len, hlt, and_self, hg, enC, pfieldAddr, fieldOf, fieldIn, List.getElem?_cons_zero, ty3, Option.map_some, List.drop_zero, pload, okOne, TK.isAgg, beq_self_eq_true, Bool.or_true, List.length_cons, List.length_nil, Nat.zero_add, Nat.reduceAdd, Nat.reduceLeDiff, Lift.valOf, List.take_succ_cons, List.take_zero, List.getD_cons_zero, isNilC, pbinP, pbinI, hp, thenQ, isB, tmpOf, asB, true_and]
      refine SW.regionAny [eReady h B] [[0, 1, 2, 3, 4, 5, 6, 7, 8, 9, 10, 11, 12, 13, 14, 15, 16]] rfl (by rfl) (by kernel_rfl) ?_
      have hunO : unO [[.int .i64 B.items[i].ch, .bool (!B.items[i].sd)]] = some [(B.items[i].ch, !B.items[i].sd)] := rfl
      simp only [wpOL, wpO, LOp, List.getElem?_toArray, List.getElem?_cons_zero, okDst, Nat.reduceLT, decide_true, wantedA, ↓reduceIte, step1, isOwnCall, Bool.false_eq_true, hxOp, px, AS.eval, AS.get, Lift.look, Nat.reduceEqDiff, adr, Option.getD_some, List.getElem?_cons_succ, AS.put, dropKey, pindexAddr, ty42, ty35, ne_eq, Nat.succ_ne_zero, not_false_eq_true, Int.natCast_nonneg, Int.toNat_natCast, elE_len, hlt, and_self, hg, enC, pfieldAddr, fieldOf, fieldIn, ty3, Option.map_some, List.drop_succ_cons, List.drop_zero, pload, okOne, TK.isAgg, beq_self_eq_true, Bool.or_true, List.length_cons, List.length_nil, Nat.zero_add, Nat.reduceAdd, Nat.reduceLeDiff, Lift.valOf, List.take_succ_cons, List.take_zero, List.getD_cons_zero, ty4, Nat.le_refl, List.take_nil, pun, pbuild, ty39, List.map_cons, ofVal, List.map_nil, ofConst, pfill, placeOf, PV.cells, splice, List.nil_append, List.cons_append, List.drop_nil, List.append_nil, List.all_cons, Option.isSome_some, List.all_nil, Bool.and_true, okZero, Value.oneCell', known, pbuildSlice, ty28, List.replicate, List.flatten_cons, List.flatten_nil, Nat.reduceMul, chunk, Specs.hasO, Specs.hasH, eReady, hx, okArg, Specs.atH, sReady, hunO, and_true, true_and, thenQ]
      refine ⟨b, SW.seq (SW.regionAny [eQueue h B] [[0, 1, 2, 3, 4, 5, 6, 7, 8, 9, 10, 11, 12]] rfl (by rfl) (by kernel_rfl) ?_)⟩
      simp only [wpOL, wpO, LOp, List.getElem?_toArray, List.getElem?_cons_zero, okDst, Nat.reduceLT, decide_true, wantedA, ↓reduceIte, step1, isOwnCall, Bool.false_eq_true, hxOp, px, AS.eval, AS.get, Lift.look, Nat.reduceEqDiff, Option.getD_some, List.getElem?_cons_succ, AS.put, dropKey, pindexAddr, ty42, ty35, ne_eq, Nat.succ_ne_zero, not_false_eq_true, Int.natCast_nonneg, Int.toNat_natCast, elE_len, hlt, and_self, hg, enC, pfieldAddr, fieldOf, fieldIn, ty3, Option.map_some, List.drop_succ_cons, List.drop_zero, pload, okOne, TK.isAgg, beq_self_eq_true, Bool.or_true, List.length_cons, List.length_nil, Nat.zero_add, Nat.reduceAdd, Nat.reduceLeDiff, Lift.valOf, List.take_succ_cons, List.take_zero, List.getD_cons_zero, ty4, Nat.le_refl, List.take_nil, Specs.hasO, Specs.hasH, eQueue, hx, okArg, ofConst, ofVal, List.all_cons, List.all_nil, Bool.and_true, Specs.atH, List.map_cons, List.map_nil, sQueue, true_and, thenQ]
      refine ⟨⟨b, w, by omega⟩, ?_⟩
      obtain ⟨F, hF⟩ : ∃ F, F = fil B.items B.items[i].ch B.items[i].sd := ⟨_, rfl⟩
      have hFl : F.length ≤ B.items.length := by rw [hF]; exact List.length_filter_le _ _
      have ho := others_eq w pid B.items[i].ch B.items[i].sd
      rw [← hF] at ho
      have hr := ready_one (B := B) pid B.items[i].ch (!B.items[i].sd)
      rw [← ho] at hr
      rw [← hF]
      refine SW.enter (n := 163) (l := [(1, .int .i64 pid), (5, adr B.rb), (7, .list 4 (elE B.items)), (8, .bool (pOf B.ps pid).isSome), (9, .int .i64 (i : Nat)), (10, .list 1 (elN (readyS B pid [(B.items[i].ch, !B.items[i].sd)] 1))), (11, .list 4 (elE F))]) (H := hj') rfl (.refl _ _) (by simp only [hasAll, AS.get, Lift.look, Nat.reduceEqDiff, ↓reduceIte, Option.getD_some, adr, and_self]) ?_
      rw [hr]
      clear hr hF hunO
      refine SW.seq (SW.run [] _ ?_)
      simp only [wpC, Bool.false_eq_true, ↓reduceIte, wpS, stops, wantedA, okDst, Nat.reduceLT, decide_true, step1, isOwnCall, hxOp, px, AS.eval, ofConst, ofVal, thenQ, AS.put, dropKey, Nat.reduceEqDiff, true_and]
      refine SW.seq (SW.seq (SW.run [] _ ?_))
      simp only [wpC, Bool.false_eq_true, ↓reduceIte, wpS, stops, wantedA, okDst, Nat.reduceLT, decide_true, step1, isOwnCall, hxOp, px, AS.eval, ofConst, ofVal, thenQ, AS.put, dropKey, Nat.reduceEqDiff, true_and]
      refine SW.block (SW.loopH 163 (fun k : Nat => [(1, .int .i64 pid), (5, adr B.rb), (7, .list 4 (elE B.items)), (8, .bool (pOf B.ps pid).isSome), (9, .int .i64 (i : Nat)), (10, .list 1 (elN (if (F.any fun i => !(i.pid == pid)) then [0] else []))), (11, .list 4 (elE F)), (12, .bool ((F.take k).any fun i => !(i.pid == pid))), (13, .int .i64 (k : Nat))]) (fun _ => hj') (fun k => k ≤ F.length) (fun k => F.length - k) 0 (Nat.zero_le _) ⟨rfl, .refl _ _, ?_⟩ ?_)
      · simp only [hasAll, AS.get, Lift.look, Nat.reduceEqDiff, ↓reduceIte, Option.getD_some, adr, List.take_zero, List.any_nil, Int.cast_ofNat_Int, and_self]
      intro k hk
      refine SW.seq (SW.run [] _ ?_)
      by_cases hlk : k < F.length
      · have hwk : IntKind.i64.wrap ((k : Int) + 1) = ((k + 1 : Nat) : Int) := by rw [w64 (by omega) (by omega)]; rfl
        have hgk := elE_at hlk
        have ha := any_take (f := fun i => !(i.pid == pid)) hlk
        simp only [wpC, mayStop, stops, isFlt, Specs.has, Specs.hasO, Bool.or_false, Specs.hasH, Bool.not_false, List.any_cons, List.any_nil, Bool.false_eq_true, ↓reduceIte, wpS, wantedA, okDst, Nat.reduceLT, decide_true, step1, isOwnCall, hxOp, px, AS.eval, AS.get, Lift.look, Nat.reduceEqDiff, Option.getD_some, AS.put, dropKey, pcall, ty42, plen, elE_len, okLen, and_self, isNilC, pbinP, pbinI, Int.ofNat_lt, hlk, thenQ, isB, tmpOf, asB, hasAll, and_true, true_and]
        refine SW.seq (SW.block (SW.run [] _ ?_))
        cases h1 : (F.take k).any (fun i => !(i.pid == pid))
        · rw [h1] at ha
          simp only [wpC, Bool.false_eq_true, ↓reduceIte, wpS, stops, wantedA, okDst, Nat.reduceLT, decide_true, step1, isOwnCall, hxOp, px, AS.eval, AS.get, Lift.look, Nat.reduceEqDiff, Option.getD_some, AS.put, dropKey, List.getElem?_toArray, List.getElem?_cons_succ, List.getElem?_cons_zero, Option.bind_some, beq_self_eq_true, pindexAddr, ty42, ty35, ne_eq, Nat.succ_ne_zero, not_false_eq_true, Int.natCast_nonneg, Int.toNat_natCast, elE_len, hlk, and_self, hgk, enC, pfieldAddr, fieldOf, fieldIn, ty3, Option.map_some, List.drop_zero, pload, okOne, TK.isAgg, Bool.or_true, List.length_cons, List.length_nil, Nat.zero_add, Nat.reduceAdd, Nat.reduceLeDiff, Lift.valOf, List.take_succ_cons, List.take_zero, List.getD_cons_zero, isNilC, pbinP, pbinI, ofConst, ofVal, ppick_bool, inQ, thenQ, true_and]
          refine SW.run [] _ ?_
          simp only [wpC, Bool.false_eq_true, ↓reduceIte, wpS, stops, wantedA, okDst, Nat.reduceLT, decide_true, step1, isOwnCall, hxOp, px, AS.eval, AS.get, Lift.look, Nat.reduceEqDiff, Option.getD_some, isFlt, ty3, AS.put, dropKey, isNilC, pbinP, ofConst, ofVal, pbinI, hwk, thenQ, HTo_self, true_and]
          exact ⟨k + 1, hlk, by omega, by rw [ha]; rfl, rfl⟩
        · rw [h1] at ha
          simp only [wpC, Bool.false_eq_true, ↓reduceIte, wpS, stops, wantedA, okDst, Nat.reduceLT, decide_true, step1, isOwnCall, hxOp, px, AS.eval, AS.get, Lift.look, Nat.reduceEqDiff, Option.getD_some, AS.put, dropKey, List.getElem?_toArray, List.getElem?_cons_succ, List.getElem?_cons_zero, Option.bind_some, beq_tf, Option.some.injEq, ofConst, ofVal, ppick_true, inQ, thenQ, true_and]
          refine SW.run [] _ ?_
          simp only [wpC, Bool.false_eq_true, ↓reduceIte, wpS, stops, wantedA, okDst, Nat.reduceLT, decide_true, step1, isOwnCall, hxOp, px, AS.eval, AS.get, Lift.look, Nat.reduceEqDiff, Option.getD_some, isFlt, ty3, AS.put, dropKey, isNilC, pbinP, ofConst, ofVal, pbinI, hwk, thenQ, HTo_self, true_and]
          exact ⟨k + 1, hlk, by omega, by rw [ha]; rfl, rfl⟩
      · obtain rfl : k = F.length := by omega
        rw [List.take_length]
        simp only [wpC, mayStop, stops, isFlt, Specs.has, Specs.hasO, Bool.or_false, Specs.hasH, Bool.not_false, List.any_cons, List.any_nil, Bool.false_eq_true, ↓reduceIte, wpS, wantedA, okDst, Nat.reduceLT, decide_true, step1, isOwnCall, hxOp, px, AS.eval, AS.get, Lift.look, Nat.reduceEqDiff, Option.getD_some, AS.put, dropKey, pcall, ty42, plen, elE_len, okLen, and_self, isNilC, pbinP, pbinI, Int.ofNat_lt, Nat.lt_irrefl, decide_false, thenQ, isB, tmpOf, asB, inQ, true_and]
        refine SW.run [] _ ?_
        cases h1 : F.any (fun i => !(i.pid == pid))
        · simp only [wpC, mayStop, stops, isFlt, Specs.has, Specs.hasO, Bool.or_false, Specs.hasH, Bool.not_false, List.any_cons, List.any_nil, Bool.false_eq_true, ↓reduceIte, wpS, wantedA, okDst, Nat.reduceLT, decide_true, step1, isOwnCall, hxOp, px, AS.eval, AS.get, Lift.look, Nat.reduceEqDiff, Option.getD_some, AS.put, dropKey, elN, List.map_nil, pcall, ty31, plen, List.length_nil, okLen, and_self, Int.cast_ofNat_Int, isNilC, pbinP, ofConst, ofVal, pbinI, Int.reduceBEq, pflt, peq, ty4, peqK, beq_self_eq_true, Bool.not_true, thenQ, isB, tmpOf, asB, inQ, true_and]
          refine SW.run [] _ ?_
          simp only [wpC, Bool.false_eq_true, ↓reduceIte, wpS, stops, wantedA, okDst, Nat.reduceLT, decide_true, step1, isOwnCall, hxOp, px, AS.eval, AS.get, Lift.look, Nat.reduceEqDiff, Option.getD_some, isFlt, ty3, AS.put, dropKey, isNilC, pbinP, ofConst, ofVal, pbinI, hw, thenQ, HTo_self, true_and]
          exact ⟨i + 1, hlt, by omega, rfl, rfl⟩
        · simp only [wpC, mayStop, stops, isFlt, Specs.has, Specs.hasO, Bool.or_false, Specs.hasH, Bool.not_false, List.any_cons, List.any_nil, Bool.false_eq_true, ↓reduceIte, wpS, wantedA, okDst, Nat.reduceLT, decide_true, step1, isOwnCall, hxOp, px, AS.eval, AS.get, Lift.look, Nat.reduceEqDiff, Option.getD_some, AS.put, dropKey, elN, List.map_cons, Int.cast_ofNat_Int, List.map_nil, pcall, ty31, plen, List.length_cons, List.length_nil, Nat.zero_add, okLen, and_self, isNilC, pbinP, ofConst, ofVal, pbinI, beq_self_eq_true, pflt, peq, ty4, peqK, Bool.not_true, thenQ, isB, tmpOf, asB, inQ, true_and]
          refine SW.run [] _ ?_
          simp only [wpC, Bool.false_eq_true, ↓reduceIte, wpS, stops, wantedA, okDst, Nat.reduceLT, decide_true, step1, isOwnCall, hxOp, px, AS.eval, AS.get, Lift.look, Nat.reduceEqDiff, Option.getD_some, isFlt, ty3, AS.put, dropKey, isNilC, pbinP, ofConst, ofVal, pbinI, hw, thenQ, HTo_self, true_and]
          exact ⟨i + 1, hlt, by omega, rfl, rfl⟩
    · obtain rfl : i = B.items.length := by omega
      simp only [wpC, mayStop, stops, isFlt, Specs.has, Specs.hasO, Bool.or_false, Specs.hasH, Bool.not_false, List.any_cons, List.any_nil, Bool.false_eq_true, ↓reduceIte, wpS, wantedA, okDst, Nat.reduceLT, decide_true, step1, isOwnCall, hxOp, px, AS.eval, AS.get, Lift.look, Nat.reduceEqDiff, Option.getD_some, AS.put, dropKey, pcall, ty42, plen, elE_len, okLen, and_self, isNilC, pbinP, pbinI, Int.ofNat_lt, Nat.lt_irrefl, decide_false, thenQ, isB, tmpOf, asB, inQ, true_and]
      clear hlt hi
      refine SW.seq (SW.run [] _ ?_)
      simp only [wpC, mayStop, stops, isFlt, Specs.has, Specs.hasO, Bool.or_false, Specs.hasH, Bool.not_false, List.any_cons, List.any_nil, Bool.or_true, ↓reduceIte, Bool.false_eq_true, wpS, wantedA, okDst, Nat.reduceLT, decide_true, step1, isOwnCall, hxOp, px, AS.eval, AS.get, Lift.look, Nat.reduceEqDiff, Option.getD_some, AS.put, dropKey, true_and]
      refine SWO.call (.func 12) #[.tmp 112, .tmp 113] _ 12 #[] #[] rfl rfl rfl rfl rfl rfl (Leave_ok pid b w (by omega)) rfl rfl ?_ (fun c h' hc => by cases hc.1)
      rintro p' h2 ⟨hp', B1, b1, w1, ps1, rb1, _⟩
      injection hp' with hp'
      subst hp'
      have n1 : pOf B1.ps pid = none := by rw [ps1]; exact pOf_del w pid
      have it1 := items_del w w1 ps1
      refine SWO.run [] 1000 ?_
      simp only [wpS, stops, Bool.false_eq_true, ↓reduceIte, wantedA, okDst, AS.put, dropKey, Nat.reduceEqDiff, Nat.reduceLT, decide_true, step1, isOwnCall, hxOp, px, AS.eval, AS.get, Lift.look, Option.getD_some, isNilC, pbinP, pflt, peq, ty4, peqK, beq_self_eq_true, Bool.not_true, List.getElem?_toArray, List.getElem?_cons_succ, List.getElem?_cons_zero, Option.bind_some, Specs.has, Specs.hasO, Bool.or_false, Specs.hasH, Bool.not_false, true_and]
      rw [← rb1]
      have l1 : B1.items.length ≤ 1000000 := by rw [it1]; exact Nat.le_trans (keep_len _ _) (by omega)
      refine SWO.call (.func 12) #[.tmp 118, .tmp 119] _ 12 #[] #[] rfl rfl rfl rfl rfl rfl (Leave_ok pid b1 w1 l1) rfl rfl ?_ (fun c h' hc => by cases hc.1)
      rintro p' h3 ⟨hp', B2, b2, w2, ps2, rb2, _⟩
      injection hp' with hp'
      subst hp'
      rw [pOf_none n1] at ps2
      have it2 : B2.items = keepS (fun i => i.pid == pid) B.items := by rw [w2.it, ps2, ← w1.it, it1]
      have n2 : (pOf B2.ps pid).isSome = false := by rw [ps2, n1]; rfl
      have l2 : B2.items.length ≤ 900000 := by rw [it2]; exact Nat.le_trans (keep_len _ _) (by omega)
      refine SWO.run [eWaits h noG B2] 1000 ?_
      simp only [wpS, stops, Bool.false_eq_true, ↓reduceIte, wantedA, okDst, AS.put, n1, Option.isSome_none, dropKey, Nat.reduceEqDiff, adr, Nat.reduceLT, decide_true, step1, isOwnCall, hxOp, px, AS.eval, AS.get, Lift.look, Option.getD_some, ofConst, ofVal, ppick_bool, List.getElem?_toArray, List.getElem?_cons_succ, List.getElem?_cons_zero, Option.bind_some, beq_self_eq_true, Specs.has, Specs.hasO, Bool.or_false, Specs.hasH, eWaits, Bool.or_true, Bool.not_true, hx, okArg, List.all_cons, List.all_nil, Bool.and_true, Specs.atH, List.map_cons, List.map_nil, sWaits, rb2, true_and, n2, thenQ]
      refine ⟨b2, ?_⟩
      refine SW.run [] _ ?_
      simp only [wpC, isB, AS.get, Lift.look, tmpOf, ↓reduceIte, Option.getD_some, asB, Bool.false_eq_true, thenQ, true_and]
      refine SW.seq (SW.run [eEntries h B2] _ ?_)
      simp only [wpC, Bool.false_eq_true, ↓reduceIte, wpS, stops, wantedA, okDst, Nat.reduceLT, decide_true, step1, isOwnCall, hxOp, px, AS.eval, AS.get, Lift.look, Nat.reduceEqDiff, Option.getD_some, Specs.has, Specs.hasO, Bool.or_false, Specs.hasH, eEntries, Bool.or_true, Bool.not_true, AS.put, dropKey, hx, okArg, ofConst, ofVal, List.all_cons, List.all_nil, Bool.and_true, Specs.atH, List.map_cons, List.map_nil, sEntries, rb2, true_and, thenQ]
      refine ⟨⟨b2, w2, l2⟩, ?_⟩
      rw [it2]
      clear it2 l2 n2 ps2 it1 l1 n1 ps1
      have lA : (keepS (fun i => i.pid == pid) B.items).length ≤ B.items.length := keep_len _ _
      refine SW.enter (n := 163) (l := [(1, .int .i64 pid), (7, .list 4 (elE B.items)), (14, .list 4 (elE (keepS (fun i => i.pid == pid) B.items))), (15, .int .i64 0)]) (H := h3) rfl (.refl _ _) (by simp only [hasAll, AS.get, Lift.look, Nat.reduceEqDiff, ↓reduceIte, Option.getD_some, and_self]) ?_
      refine SW.seq (SW.seq (SW.run [] _ ?_))
      simp only [wpC, Bool.false_eq_true, ↓reduceIte, wpS, stops, wantedA, okDst, Nat.reduceLT, decide_true, step1, isOwnCall, hxOp, px, AS.eval, ofConst, ofVal, thenQ, AS.put, dropKey, Nat.reduceEqDiff, true_and]
      refine SW.block (SW.loopH 163 (fun j : Nat => [(1, .int .i64 pid), (7, .list 4 (elE B.items)), (14, .list 4 (elE (keepS (fun i => i.pid == pid) B.items))), (15, .int .i64 ((keepS (fun i => i.pid == pid) (B.items.take j)).length : Nat)), (16, .int .i64 (j : Nat))]) (fun _ => h3) (fun j => j ≤ B.items.length) (fun j => B.items.length - j) 0 (Nat.zero_le _) ⟨rfl, .refl _ _, ?_⟩ ?_)
      · simp only [hasAll, AS.get, Lift.look, Nat.reduceEqDiff, ↓reduceIte, Option.getD_some, List.take_zero, Int.cast_ofNat_Int, and_self, and_true, true_and]
        rfl
      intro j hj
      refine SW.seq (SW.run [] _ ?_)
      by_cases hlt : j < B.items.length
      · have hw : IntKind.i64.wrap ((j : Int) + 1) = ((j + 1 : Nat) : Int) := by rw [w64 (by omega) (by omega)]; rfl
        have hg := elE_at hlt
        have hk : keepS (fun i => i.pid == pid) (B.items.take (j + 1)) = keepS (fun i => i.pid == pid) (B.items.take j) ++ keepS (fun i => i.pid == pid) [B.items[j]] := by
          rw [take_snoc hlt]; unfold keepS; rw [List.filter_append]
        simp only [wpC, mayStop, stops, isFlt, Specs.has, Specs.hasO, Bool.or_false, Specs.hasH, Bool.not_false, List.any_cons, List.any_nil, Bool.false_eq_true, ↓reduceIte, wpS, wantedA, okDst, Nat.reduceLT, decide_true, step1, isOwnCall, hxOp, px, AS.eval, AS.get, Lift.look, Nat.reduceEqDiff, Option.getD_some, AS.put, dropKey, pcall, ty42, plen, elE_len, okLen, and_self, isNilC, pbinP, pbinI, Int.ofNat_lt, hlt, thenQ, isB, tmpOf, asB, hasAll, and_true, true_and]
        refine SW.seq (SW.block (SW.run [] _ ?_))
        cases hp : (B.items[j].pid == pid)
        case true =>
          simp only [wpC, mayStop, stops, isFlt, Specs.has, Specs.hasO, Bool.or_false, Specs.hasH, Bool.not_false, List.any_cons, List.any_nil, Bool.false_eq_true, ↓reduceIte, wpS, wantedA, okDst, Nat.reduceLT, decide_true, step1, isOwnCall, hxOp, px, AS.eval, AS.get, Lift.look, Nat.reduceEqDiff, Option.getD_some, AS.put, dropKey, pindexAddr, ty42, ty35, ne_eq, Nat.succ_ne_zero, not_false_eq_true, Int.natCast_nonneg, Int.toNat_natCast, elE_len, hlt, and_self, hg, enC, pfieldAddr, fieldOf, fieldIn, List.getElem?_cons_zero, ty3, Option.map_some, List.drop_zero, pload, okOne, TK.isAgg, beq_self_eq_true, Bool.or_true, List.length_cons, List.length_nil, Nat.zero_add, Nat.reduceAdd, Nat.reduceLeDiff, Lift.valOf, List.take_succ_cons, List.take_zero, List.getD_cons_zero, isNilC, pbinP, pbinI, bne, hp, Bool.not_true, thenQ, isB, tmpOf, asB, inQ, true_and]
          refine SW.run [] _ ?_
          simp only [wpC, Bool.false_eq_true, ↓reduceIte, wpS, stops, wantedA, okDst, Nat.reduceLT, decide_true, step1, isOwnCall, hxOp, px, AS.eval, AS.get, Lift.look, Nat.reduceEqDiff, Option.getD_some, isFlt, ty3, AS.put, dropKey, isNilC, pbinP, ofConst, ofVal, pbinI, hw, thenQ, HTo_self, true_and]
          refine ⟨j + 1, hlt, by omega, ?_⟩
          rw [hk, show keepS (fun i => i.pid == pid) [B.items[j]] = [] by simp [keepS, hp], List.append_nil]
          exact ⟨rfl, rfl⟩
        obtain ⟨k1, k2⟩ := filt_at (fun i => !(i.pid == pid)) hlt (by rw [hp]; rfl)
        obtain ⟨n, hn⟩ : ∃ n, n = (keepS (fun i => i.pid == pid) (B.items.take j)).length := ⟨_, rfl⟩
        have k1' : n < (keepS (fun i => i.pid == pid) B.items).length := by rw [hn]; exact k1
        have k2' : (keepS (fun i => i.pid == pid) B.items)[n] = B.items[j] := by subst hn; exact k2
        have hg2 := elE_at k1'
        rw [k2'] at hg2
        have hwn : IntKind.i64.wrap ((n : Int) + 1) = ((n + 1 : Nat) : Int) := by rw [w64 (by omega) (by omega)]; rfl
        have hge : ¬ ((keepS (fun i => i.pid == pid) B.items).length : Int) ≤ (n : Int) := by omega
        rw [← hn]
        simp only [wpC, mayStop, stops, isFlt, Specs.has, Specs.hasO, Bool.or_false, Specs.hasH, Bool.not_false, List.any_cons, List.any_nil, Bool.false_eq_true, ↓reduceIte, wpS, wantedA, okDst, Nat.reduceLT, decide_true, step1, isOwnCall, hxOp, px, AS.eval, AS.get, Lift.look, Nat.reduceEqDiff, Option.getD_some, AS.put, dropKey, pindexAddr, ty42, ty35, ne_eq, Nat.succ_ne_zero, not_false_eq_true, Int.natCast_nonneg, Int.toNat_natCast, elE_len, hlt, and_self, hg, enC, pfieldAddr, fieldOf, fieldIn, List.getElem?_cons_zero, ty3, Option.map_some, List.drop_zero, pload, okOne, TK.isAgg, beq_self_eq_true, Bool.or_true, List.length_cons, List.length_nil, Nat.zero_add, Nat.reduceAdd, Nat.reduceLeDiff, Lift.valOf, List.take_succ_cons, List.take_zero, List.getD_cons_zero, isNilC, pbinP, pbinI, bne, hp, thenQ, isB, tmpOf, asB, true_and]
        refine SW.regionAny [] [[0, 1, 2, 3, 4, 5, 6, 7, 8, 9, 10, 11, 12, 13, 14]] rfl (by rfl) (by kernel_rfl) ?_
        simp only [wpOL, wpO, LOp, List.getElem?_toArray, List.getElem?_cons_zero, okDst, Nat.reduceLT, decide_true, wantedA, ↓reduceIte, step1, isOwnCall, Bool.false_eq_true, hxOp, px, AS.eval, AS.get, Lift.look, Nat.reduceEqDiff, Option.getD_some, List.getElem?_cons_succ, AS.put, dropKey, pcall, ty42, plen, elE_len, okLen, and_self, isNilC, pbinP, pbinI, hge, decide_false, Option.bind_some, beq_self_eq_true, pindexAddr, ty35, ne_eq, Nat.succ_ne_zero, not_false_eq_true, Int.natCast_nonneg, Int.toNat_natCast, k1', hg2, enC, pload, okOne, TK.isAgg, Nat.reduceBEq, Bool.or_false, List.length_cons, List.length_nil, Nat.zero_add, Nat.reduceAdd, Nat.le_refl, Lift.valOf, List.take_succ_cons, List.take_nil, hlt, hg, pflt, peq, eqk35, fits, Bool.and_true, eqCells, Bool.not_true, ofConst, ofVal, ppick_bool, thenQ, true_and]
        refine SW.run [] _ ?_
        simp only [wpC, isB, AS.get, Lift.look, tmpOf, ↓reduceIte, Option.getD_some, asB, Bool.false_eq_true, thenQ, true_and]
        refine SW.run [] _ ?_
        simp only [wpC, Bool.false_eq_true, ↓reduceIte, wpS, stops, wantedA, okDst, Nat.reduceLT, decide_true, step1, isOwnCall, hxOp, px, AS.eval, AS.get, Lift.look, Nat.reduceEqDiff, Option.getD_some, isFlt, ty3, AS.put, dropKey, isNilC, pbinP, ofConst, ofVal, pbinI, hwn, inQ, thenQ, true_and]
        refine SW.run [] _ ?_
        simp only [wpC, Bool.false_eq_true, ↓reduceIte, wpS, stops, wantedA, okDst, Nat.reduceLT, decide_true, step1, isOwnCall, hxOp, px, AS.eval, AS.get, Lift.look, Nat.reduceEqDiff, Option.getD_some, isFlt, ty3, AS.put, dropKey, isNilC, pbinP, ofConst, ofVal, pbinI, hw, thenQ, HTo_self, true_and]
        refine ⟨j + 1, hlt, by omega, ?_⟩
        rw [hk, show keepS (fun i => i.pid == pid) [B.items[j]] = [B.items[j]] by simp [keepS, hp], List.length_append, ← hn]
        exact ⟨rfl, rfl⟩
      · obtain rfl : j = B.items.length := by omega
        simp only [wpC, mayStop, stops, isFlt, Specs.has, Specs.hasO, Bool.or_false, Specs.hasH, Bool.not_false, List.any_cons, List.any_nil, Bool.false_eq_true, ↓reduceIte, wpS, wantedA, okDst, Nat.reduceLT, decide_true, step1, isOwnCall, hxOp, px, AS.eval, AS.get, Lift.look, Nat.reduceEqDiff, Option.getD_some, AS.put, dropKey, pcall, ty42, plen, elE_len, okLen, and_self, isNilC, pbinP, pbinI, Int.ofNat_lt, Nat.lt_irrefl, decide_false, thenQ, isB, tmpOf, asB, inQ, true_and]
        refine SW.run [] _ ?_
        simp only [wpC, mayStop, stops, isFlt, Specs.has, Specs.hasO, Bool.or_false, Specs.hasH, Bool.not_false, List.any_cons, List.any_nil, Bool.false_eq_true, ↓reduceIte, wpS, wantedA, okDst, Nat.reduceLT, decide_true, step1, isOwnCall, hxOp, px, AS.eval, AS.get, Lift.look, Nat.reduceEqDiff, List.take_length, Option.getD_some, AS.put, dropKey, pcall, ty42, plen, elE_len, okLen, and_self, isNilC, pbinP, pbinI, beq_self_eq_true, thenQ, RPost, sres, Try.results6, sresL, sres1, Option.some.injEq, Ret_fin, exists_eq_left', true_and]
        exact Inc.to fun k X e => b2.inc k X e
end Go.Proofs.Ytekgfneapofgpaa
