/- Contracts of functions that the law reaches. -/
import Derived.Test.Ytekgfneapofgpaam
import Derived.Test.YtekgfneapofgpaaLiftE
set_option linter.unusedSimpArgs false
set_option linter.unusedVariables false
namespace Go.Proofs.Ytekgfneapofgpaa
open Go Go.RowKit Go.Proofs.Ytekgfneapofgpaa Go.Proofs.Ytekgfneapofgpaa.Lift

/-! ChansNever -/
theorem cutSW {E : Env} {c1 c2 : Code} {Q : Exit → AS → Prop} {a : AS} (M : AS → Prop) (h1 : Lift.SW E c1 (thenQ M Q) a) (h2 : ∀ a, M a → Lift.SW E c2 Q a) : Lift.SW E (.seq c1 c2) Q a :=
  Lift.SW.seq (h1.mono fun e b q => by cases e <;> first | exact h2 _ q | exact q)
/-- No channel has entries of two processes in both directions. -/
def Clean (l : List It) : Prop := ∀ x ∈ l, ∀ y ∈ l, x.ch = y.ch → x.sd ≠ y.sd → x.pid = y.pid
theorem Clean.sub {l m : List It} (h : Clean l) (hs : ∀ x ∈ m, x ∈ l) : Clean m := fun x hx y hy => h x (hs x hx) y (hs y hy)
theorem readyS_nil {B : Bo} {p : Int} {os : List (Int × Bool)} (h : readyS B p os os.length = []) : ∀ o ∈ os, fstS noG B p o.1 o.2 = none := by
  intro o ho
  obtain ⟨k, hk, rfl⟩ := List.mem_iff_getElem.1 ho
  unfold readyS at h
  rw [List.filter_eq_nil_iff] at h
  have h1 := h k (List.mem_range.2 hk)
  unfold canS at h1
  rw [List.getElem?_eq_getElem hk] at h1
  simpa using h1
theorem readyS_cons {B : Bo} {p : Int} {os : List (Int × Bool)} {n : Nat} {t : List Nat} (h : readyS B p os os.length = n :: t) : ∃ hn : n < os.length, ∃ i, fstS noG B p os[n].1 os[n].2 = some i := by
  have h0 : n ∈ readyS B p os os.length := by rw [h]; exact List.mem_cons_self ..
  unfold readyS at h0
  rw [List.mem_filter] at h0
  have hn := List.mem_range.1 h0.1
  have h1 := h0.2
  unfold canS at h1
  rw [List.getElem?_eq_getElem hn] at h1
  exact ⟨hn, Option.isSome_iff_exists.1 h1⟩
theorem Clean.wait {B B2 : Bo} (w : WF B) (w2 : WF B2) {pr : Pr} (hps : B2.ps = B.ps ++ [pr]) {os : List (Int × Bool)} (hos : pr.its.map (fun i => (i.ch, i.sd)) = os) (hp : pOf B.ps pr.pid = none) (hn : ∀ o ∈ os, fstS noG B pr.pid o.1 o.2 = none) (hc : Clean B.items) : Clean B2.items := by
  rw [items_snoc w w2 hps]
  have hpr : ∀ i ∈ pr.its, i.pid = pr.pid := w2.pi pr (by rw [hps]; simp)
  have key : ∀ x ∈ B.items, ∀ y ∈ pr.its, x.ch = y.ch → x.sd ≠ y.sd → False := by
    intro x hx y hy e1 e2
    have h1 := hn (y.ch, y.sd) (by rw [← hos]; exact List.mem_map_of_mem hy)
    rw [fst_items w, List.find?_eq_none] at h1
    have h2 := h1 x hx
    have h3 := no_pid w hp x hx
    rw [h3] at h2
    apply h2
    rw [e1]
    cases hx1 : x.sd <;> cases hy1 : y.sd <;> simp_all
  intro x hx y hy e1 e2
  rcases List.mem_append.1 hx with hx | hx <;> rcases List.mem_append.1 hy with hy | hy
  · exact hc x hx y hy e1 e2
  · exact (key x hx y hy e1 e2).elim
  · exact (key y hy x hx e1.symm (Ne.symm e2)).elim
  · rw [hpr x hx, hpr y hy]
theorem keep_mem {g : It → Bool} {l : List It} {x : It} (h : x ∈ keepS g l) : x ∈ l := (List.mem_filter.1 h).1
set_option maxHeartbeats 4000000 in
set_option maxRecDepth 100000 in
theorem ChansNever_ok (l : List ActS) (h : Heap) : SCalls env 3 [.list 3 (elA l)] h (Ret (.bool true) h) := by
  refine SCalls.body Try.func3 rfl rfl (by simp [Try.ntmps3]) ?_
  refine SW.seq (SW.run [] _ ?_)
  simp only [wpC, Bool.false_eq_true, ↓reduceIte, wpS, stops, wantedA, okDst, Try.ntmps3, Nat.reduceLT, decide_true, step1, isOwnCall, hxOp, px, AS.eval, ofConst, ofVal, thenQ, AS.put, enumA, dropKey, reduceCtorEq, true_and]
  by_cases hf : fewS l = true
  case neg =>
    have hf : fewS l = false := by simpa using hf
    refine SW.seq (SW.run [eAwake, eFew l] _ ?_)
    simp only [wpC, mayStop, stops, isFlt, Specs.has, eAwake, eFew, Specs.hasO, Bool.or_false, Specs.hasH, List.any_cons, ↓reduceIte, Bool.not_true, Nat.reduceEqDiff, List.any_nil, Bool.false_eq_true, wpS, wantedA, okDst, Nat.reduceLT, decide_true, step1, isOwnCall, hxOp, px, pcall, okArg, AS.eval, AS.get, Lift.look, ofConst, ofVal, List.all_nil, Specs.at, List.map_nil, sAwake, and_self, AS.put, dropKey, reduceCtorEq, pun, Option.getD_some, List.getElem?_toArray, List.getElem?_cons_succ, List.getElem?_cons_zero, Option.bind_some, beq_self_eq_true, Nat.succ_ne_zero, List.all_cons, Bool.and_true, List.map_cons, sFew, hf, Bool.not_false, ppick_bool, thenQ, isB, tmpOf, asB, RPost, sres, Try.results3, sresL, sres1, Option.some.injEq, Ret_fin, HTo_self, and_true, exists_eq_left']
  obtain ⟨hl, hos⟩ := few_of hf
  refine SW.seq (SW.run [eAwake, eFew l] _ ?_)
  simp only [wpC, mayStop, stops, isFlt, Specs.has, eAwake, eFew, Specs.hasO, Bool.or_false, Specs.hasH, List.any_cons, ↓reduceIte, Bool.not_true, Nat.reduceEqDiff, List.any_nil, Bool.false_eq_true, wpS, wantedA, okDst, Nat.reduceLT, decide_true, step1, isOwnCall, hxOp, px, pcall, okArg, AS.eval, AS.get, Lift.look, ofConst, ofVal, List.all_nil, Specs.at, List.map_nil, sAwake, and_self, AS.put, dropKey, reduceCtorEq, pun, Option.getD_some, List.getElem?_toArray, List.getElem?_cons_succ, List.getElem?_cons_zero, Option.bind_some, beq_self_eq_true, Nat.succ_ne_zero, List.all_cons, Bool.and_true, List.map_cons, sFew, hf, ppick_bool, thenQ, isB, tmpOf, asB, true_and]
  refine SW.seq (SW.run [] _ ?_)
  simp only [wpC, Bool.false_eq_true, ↓reduceIte, wpS, stops, Specs.has, Specs.hasO, Bool.or_false, Specs.hasH, Bool.not_false]
  refine SWO.call (.func 10) #[] _ 10 #[] #[] rfl rfl rfl rfl rfl rfl (New_ok h) rfl rfl ?_ (fun c h' hc => by obtain ⟨_, hc, _⟩ := hc; cases hc)
  rintro p' h1 ⟨B0, hp', b0, w0, ps0, t0⟩
  injection hp' with hp'
  subst hp'
  have i0 : B0.items = [] := by rw [w0.it, ps0]; rfl
  refine SWO.run [] 1000 ?_
  simp only [wpS, stops, Bool.false_eq_true, ↓reduceIte, wantedA, okDst, AS.put, adr, dropKey, Nat.reduceEqDiff, reduceCtorEq, Nat.reduceLT, decide_true, step1, isOwnCall, hxOp, px, AS.eval, AS.get, Lift.look, Option.getD_some, thenQ, true_and]
  refine SW.seq (SW.seq (SW.run [] _ ?_))
  simp only [wpC, Bool.false_eq_true, ↓reduceIte, wpS, stops, wantedA, okDst, Nat.reduceLT, decide_true, step1, isOwnCall, hxOp, px, AS.eval, ofConst, ofVal, thenQ, AS.put, dropKey, Nat.reduceEqDiff, reduceCtorEq, true_and]
  refine SW.block (SW.loop (fun m a => ∃ (j : Nat) (B : Bo), j ≤ l.length ∧ l.length - j = m ∧ BOn h noG B a.h ∧ WF B ∧ Clean B.items ∧ B.items.length ≤ 8 * j ∧ B.time ≤ j ∧ B.rb = B0.rb ∧ a.n = 158 ∧ hasAll a [(0, .list 3 (elA l)), (3, adr B0.rb), (4, .int .i64 (j : Nat))]) l.length ⟨0, B0, Nat.zero_le _, rfl, b0, w0, (fun x hx => by rw [i0] at hx; cases hx), by rw [i0]; exact Nat.zero_le _, by rw [t0]; exact Nat.zero_le _, rfl, rfl, ?_⟩ ?_)
  · simp only [hasAll, AS.get, Lift.look, Nat.succ_ne_zero, ↓reduceIte, Option.getD_some, Nat.reduceEqDiff, adr, Int.cast_ofNat_Int, and_self]
  rintro m a ⟨j, B, hj, hm, b, w, hc, si, st, rb, hn, hs⟩
  refine SW.norm ⟨hn, rfl, hs⟩ ?_
  generalize a.h = hj' at b
  clear hn hs
  rw [← rb]
  clear rb b0 w0 ps0 t0 i0
  refine SW.seq (SW.run [] _ ?_)
  by_cases hlt : j < l.length
  · have hw : IntKind.i64.wrap ((j : Int) + 1) = ((j + 1 : Nat) : Int) := by rw [w64 (by omega) (by omega)]; rfl
    have hg := elA_at hlt
    have h8 := hos _ (List.getElem_mem hlt)
    have h9 : l[j].2.2.length ≤ 1000000 := by omega
    obtain ⟨p, ep⟩ : ∃ p, p = l[j].2.1 := ⟨_, rfl⟩
    obtain ⟨os, eo⟩ : ∃ os, os = l[j].2.2 := ⟨_, rfl⟩
    obtain ⟨wh, ew⟩ : ∃ wh, wh = l[j].1 := ⟨_, rfl⟩
    rw [← ep, ← eo, ← ew] at hg
    rw [← eo] at h8 h9
    clear ep eo ew
    simp only [wpC, mayStop, stops, isFlt, Specs.has, Specs.hasO, Bool.or_false, Specs.hasH, Bool.not_false, List.any_cons, List.any_nil, Bool.false_eq_true, ↓reduceIte, wpS, wantedA, okDst, Nat.reduceLT, decide_true, step1, isOwnCall, hxOp, px, AS.eval, AS.get, Lift.look, reduceCtorEq, Nat.reduceEqDiff, Option.getD_some, AS.put, dropKey, Nat.succ_ne_zero, pcall, ty22, plen, elA_len, okLen, and_self, isNilC, pbinP, pbinI, Int.ofNat_lt, hlt, thenQ, isB, tmpOf, asB, hasAll, and_true, true_and]
    refine SW.seq (SW.block (cutSW (fun a => ∃ B1 : Bo, BOn h noG B1 a.h ∧ WF B1 ∧ pOf B1.ps p = none ∧ Clean B1.items ∧ B1.items.length ≤ 8 * j ∧ B1.time ≤ j ∧ B1.rb = B.rb ∧ a.n = 158 ∧ hasAll a [(0, .list 3 (elA l)), (3, adr B.rb), (4, .int .i64 (j : Nat))]) ?_ ?_))
    · refine SW.run [eWaits h noG B] _ ?_
      cases hpf : (pOf B.ps p).isSome
      · simp only [wpC, mayStop, stops, isFlt, Specs.has, Specs.hasO, Bool.or_false, Specs.hasH, eWaits, Bool.false_or, List.any_cons, ↓reduceIte, Bool.not_true, List.any_nil, Bool.false_eq_true, wpS, wantedA, okDst, Nat.reduceLT, decide_true, step1, isOwnCall, hxOp, px, AS.eval, AS.get, Lift.look, Nat.reduceEqDiff, reduceCtorEq, adr, Option.getD_some, AS.put, dropKey, Nat.succ_ne_zero, pindexAddr, ty22, ty30, ne_eq, not_false_eq_true, Int.natCast_nonneg, Int.toNat_natCast, elA_len, hlt, and_self, hg, pfieldAddr, fieldOf, fieldIn, List.getElem?_cons_succ, List.getElem?_cons_zero, ty3, Option.map_some, List.drop_succ_cons, List.drop_zero, pload, okOne, TK.isAgg, beq_self_eq_true, Bool.or_true, List.length_cons, List.length_nil, Nat.zero_add, Nat.reduceAdd, Nat.reduceLeDiff, Lift.valOf, List.take_succ_cons, List.take_zero, List.getD_cons_zero, hx, okArg, ofConst, ofVal, List.all_cons, List.all_nil, Bool.and_true, Specs.atH, List.map_cons, List.map_nil, sWaits, true_and, hpf, thenQ, isB, tmpOf, asB, hasAll, and_true]
        exact ⟨b, B, b, w, by simpa using hpf, hc, si, st, rfl⟩
      · simp only [wpC, mayStop, stops, isFlt, Specs.has, Specs.hasO, Bool.or_false, Specs.hasH, eWaits, Bool.false_or, List.any_cons, ↓reduceIte, Bool.not_true, List.any_nil, Bool.false_eq_true, wpS, wantedA, okDst, Nat.reduceLT, decide_true, step1, isOwnCall, hxOp, px, AS.eval, AS.get, Lift.look, Nat.reduceEqDiff, reduceCtorEq, adr, Option.getD_some, AS.put, dropKey, Nat.succ_ne_zero, pindexAddr, ty22, ty30, ne_eq, not_false_eq_true, Int.natCast_nonneg, Int.toNat_natCast, elA_len, hlt, and_self, hg, pfieldAddr, fieldOf, fieldIn, List.getElem?_cons_succ, List.getElem?_cons_zero, ty3, Option.map_some, List.drop_succ_cons, List.drop_zero, pload, okOne, TK.isAgg, beq_self_eq_true, Bool.or_true, List.length_cons, List.length_nil, Nat.zero_add, Nat.reduceAdd, Nat.reduceLeDiff, Lift.valOf, List.take_succ_cons, List.take_zero, List.getD_cons_zero, hx, okArg, ofConst, ofVal, List.all_cons, List.all_nil, Bool.and_true, Specs.atH, List.map_cons, List.map_nil, sWaits, true_and, hpf, thenQ, isB, tmpOf, asB, Bool.not_false, hasAll, and_true]
        refine ⟨b, SWO.call (.func 12) #[.tmp 33, .tmp 38] _ 12 #[] #[] rfl rfl rfl rfl rfl rfl (Leave_ok p b w (by omega)) rfl rfl ?_ (fun c h' hc => by cases hc.1)⟩
        rintro p' h2 ⟨hp', B1, b1, w1, ps1, rb1, tm1⟩
        injection hp' with hp'
        subst hp'
        have it1 := items_del w w1 ps1
        refine SWO.run [] 1000 ?_
        simp only [wpS, thenQ, AS.put, dropKey, Nat.reduceEqDiff, ↓reduceIte, reduceCtorEq, Lift.look, Nat.succ_ne_zero, Option.getD_some, and_self, and_true]
        exact ⟨B1, b1, w1, by rw [ps1]; exact pOf_del w p, hc.sub fun x hx => keep_mem (by rw [← it1]; exact hx), by rw [it1]; exact Nat.le_trans (keep_len _ _) si, by omega, rb1⟩
    · rintro a ⟨B1, b1, w1, hp1, c1, si1, st1, rb1, hn, hs⟩
      refine SW.norm ⟨hn, rfl, hs⟩ ?_
      generalize a.h = hj1 at b1
      clear hn hs b w hc si st
      rw [← rb1]
      refine SW.seq (SW.regionAny [eOwn, eReady h B1] [[0, 1, 2, 3, 4, 5, 6, 7, 8, 9, 10, 11, 12, 13]] rfl (by rfl) (by kernel_rfl) ?_)
      simp only [wpOL, wpO, LOp, List.getElem?_toArray, List.getElem?_cons_zero, okDst, Nat.reduceLT, decide_true, wantedA, ↓reduceIte, step1, isOwnCall, Bool.false_eq_true, hxOp, px, AS.eval, AS.get, Lift.look, reduceCtorEq, adr, Option.getD_some, List.getElem?_cons_succ, AS.put, dropKey, Nat.reduceEqDiff, Nat.succ_ne_zero, pindexAddr, ty22, ty30, ne_eq, not_false_eq_true, Int.natCast_nonneg, Int.toNat_natCast, elA_len, hlt, and_self, hg, pfieldAddr, fieldOf, fieldIn, ty3, Option.map_some, List.drop_succ_cons, List.drop_zero, pload, okOne, TK.isAgg, beq_self_eq_true, Bool.or_true, List.length_cons, List.length_nil, Nat.zero_add, Nat.reduceAdd, Nat.reduceLeDiff, Lift.valOf, List.take_succ_cons, List.take_zero, List.getD_cons_zero, ty28, Nat.le_refl, List.take_nil, Specs.hasO, Specs.hasH, eReady, pcall, okArg, ofConst, ofVal, List.all_cons, List.all_nil, Bool.and_true, Specs.at, eOwn, List.map_cons, List.map_nil, sOwn, unO_el, h9, hx, Specs.atH, sReady, and_true, true_and, thenQ]
      refine ⟨b1, ?_⟩
      refine cutSW (fun a => ∃ B2 : Bo, BOn h noG B2 a.h ∧ WF B2 ∧ Clean B2.items ∧ B2.items.length ≤ 8 * (j + 1) ∧ B2.time ≤ j + 1 ∧ B2.rb = B1.rb ∧ a.n = 158 ∧ hasAll a [(0, .list 3 (elA l)), (3, adr B1.rb), (4, .int .i64 (j : Nat))]) ?_ ?_
      · refine SW.run [] _ ?_
        cases hR : readyS B1 p os os.length with
        | nil =>
          simp only [wpC, mayStop, stops, isFlt, Specs.has, Specs.hasO, Bool.or_false, Specs.hasH, Bool.not_false, List.any_cons, List.any_nil, Bool.false_eq_true, ↓reduceIte, wpS, wantedA, okDst, Nat.reduceLT, decide_true, step1, isOwnCall, hxOp, px, AS.eval, AS.get, Lift.look, elN, List.map_nil, Option.getD_some, AS.put, dropKey, Nat.reduceEqDiff, reduceCtorEq, pcall, ty31, plen, List.length_nil, okLen, and_self, Int.cast_ofNat_Int, isNilC, pbinP, ofConst, ofVal, pbinI, Int.reduceLT, decide_false, thenQ, isB, tmpOf, asB, Bool.or_true, hasAll, and_true, true_and]
          refine SW.regionChain [eOwn] [([0, 1, 2, 3, 4, 5, 6, 7, 8, 9, 10, 11], 12)] [13] rfl (by rfl) (by kernel_rfl) ?_
          simp only [wpChain, wpO, LOp, List.getElem?_toArray, List.getElem?_cons_zero, okDst, Nat.reduceLT, decide_true, wantedA, ↓reduceIte, step1, isOwnCall, Bool.false_eq_true, hxOp, px, AS.eval, AS.get, Lift.look, Nat.reduceEqDiff, reduceCtorEq, Option.getD_some, List.getElem?_cons_succ, AS.put, dropKey, Nat.succ_ne_zero, pindexAddr, ty22, ty30, ne_eq, not_false_eq_true, Int.natCast_nonneg, Int.toNat_natCast, elA_len, hlt, and_self, hg, pfieldAddr, fieldOf, fieldIn, ty3, Option.map_some, List.drop_succ_cons, List.drop_zero, pload, okOne, TK.isAgg, beq_self_eq_true, Bool.or_true, List.length_cons, List.length_nil, Nat.zero_add, Nat.reduceAdd, Nat.reduceLeDiff, Lift.valOf, List.take_succ_cons, List.take_zero, List.getD_cons_zero, ty28, Nat.le_refl, List.take_nil, Specs.hasO, Specs.hasH, pcall, okArg, ofConst, ofVal, List.all_cons, List.all_nil, Bool.and_true, Specs.at, eOwn, List.map_cons, List.map_nil, sOwn, unO_el, h9, decide_eq_true_eq, isNilC, pbinP, pbinI, PBad, pflt, peq, ty40, peqK, psame, thenQ, adr, true_and]
          refine SWO.call (.func 16) #[.tmp 94, .tmp 99, .tmp 105] _ 16 #[] #[] rfl rfl rfl rfl rfl rfl (Wait_ok p os (by omega) b1 w1 hp1 (by omega) (by omega)) rfl rfl ?_ (fun c h' hc => by cases hc.1)
          rintro p' h2 ⟨hp', B2, pr, b2, w2, ps2, pp2, po2, rb2, tm2⟩
          injection hp' with hp'
          subst hp'
          refine SWO.run [] 1000 ?_
          simp only [wpS, thenQ, AS.put, dropKey, Nat.reduceEqDiff, ↓reduceIte, reduceCtorEq, Nat.reduceLT, Lift.look, Option.getD_some, Int.reduceBNe, true_and]
          refine SW.run [] _ ?_
          simp only [wpC, isB, AS.get, Lift.look, tmpOf, ↓reduceIte, Option.getD_some, asB, Bool.false_eq_true, thenQ, Nat.succ_ne_zero, Nat.reduceEqDiff, reduceCtorEq, and_self, and_true, true_and]
          refine ⟨B2, b2, w2, Clean.wait w1 w2 ps2 po2 (by rw [pp2]; exact hp1) (by rw [pp2]; exact readyS_nil hR) c1, ?_, by omega, rb2⟩
          rw [items_snoc w1 w2 ps2, List.length_append, its_len po2]
          omega
        | cons n t =>
          obtain ⟨hn, i, hi⟩ := readyS_cons hR
          obtain ⟨xs, hxs⟩ : ∃ xs, xs = elN (n :: t) := ⟨_, rfl⟩
          have hx0 : xs.getD 0 [] = [.int .i64 (n : Nat)] := by rw [hxs]; rfl
          have hxl : 0 < xs.length := by rw [hxs]; exact Nat.zero_lt_succ _
          have hxI : (0 : Int) < (xs.length : Int) := by omega
          rw [← hxs]
          have hn1 : ¬ (n : Int) < 0 := by omega
          have hn2 : ¬ (os.length : Int) ≤ (n : Int) := by omega
          simp only [wpC, mayStop, stops, isFlt, Specs.has, Specs.hasO, Bool.or_false, Specs.hasH, Bool.not_false, List.any_cons, List.any_nil, Bool.false_eq_true, ↓reduceIte, wpS, wantedA, okDst, Nat.reduceLT, decide_true, step1, isOwnCall, hxOp, px, AS.eval, AS.get, Lift.look, Option.getD_some, AS.put, dropKey, Nat.reduceEqDiff, reduceCtorEq, pcall, ty31, plen, okLen, and_self, isNilC, pbinP, ofConst, ofVal, pbinI, hxI, thenQ, isB, tmpOf, asB, hasAll, and_true, true_and]
          refine SW.regionAny [] [[0, 1, 2, 3, 4, 5, 6, 7, 8, 9, 10, 11, 12, 13, 14, 15]] rfl (by rfl) (by kernel_rfl) ?_
          simp only [wpOL, wpO, LOp, List.getElem?_toArray, List.getElem?_cons_zero, okDst, Nat.reduceLT, decide_true, wantedA, ↓reduceIte, step1, isOwnCall, Bool.false_eq_true, hxOp, px, AS.eval, AS.get, Lift.look, Nat.reduceEqDiff, Option.getD_some, List.getElem?_cons_succ, AS.put, dropKey, reduceCtorEq, pindexAddr, ty31, ty3, ofConst, ofVal, ne_eq, Nat.succ_ne_zero, not_false_eq_true, Int.reduceLE, Int.reduceToNat, hxl, and_self, hx0, pload, okOne, TK.isAgg, beq_self_eq_true, Bool.or_true, List.length_cons, List.length_nil, Nat.zero_add, Nat.le_refl, Lift.valOf, List.take_succ_cons, List.take_nil, List.getD_cons_zero, isNilC, pbinP, pbinI, hn1, decide_false, Option.bind_some, ty22, ty30, Int.natCast_nonneg, Int.toNat_natCast, elA_len, hlt, hg, pfieldAddr, fieldOf, fieldIn, ty28, Option.map_some, List.drop_succ_cons, List.drop_zero, pcall, plen, elO_len, okLen, hn2, ppick_bool, thenQ, true_and]
          refine SW.run [] _ ?_
          simp only [wpC, isB, AS.get, Lift.look, tmpOf, ↓reduceIte, Option.getD_some, asB, Bool.false_eq_true, thenQ, true_and]
          have hno : n < os.length := hn
          have hge := elO_at hno
          refine SW.seq (SW.regionFloat [] [0, 1, 2, 3, 4, 5, 6, 7, 8, 9, 10, 11, 12, 13, 14, 15] 16 20 [17, 18, 19, 20, 21, 22] [17, 18, 19, 21, 22] rfl rfl (by rfl) (by rfl) (by kernel_rfl) (by kernel_rfl) (by kernel_rfl) (by kernel_rfl) ?_)
          simp only [wpO, LOp, List.getElem?_toArray, List.getElem?_cons_zero, okDst, Nat.reduceLT, decide_true, wantedA, ↓reduceIte, step1, isOwnCall, Bool.false_eq_true, hxOp, px, AS.eval, AS.get, Lift.look, Nat.reduceEqDiff, reduceCtorEq, Option.getD_some, List.getElem?_cons_succ, AS.put, dropKey, Nat.succ_ne_zero, pindexAddr, ty22, ty30, ne_eq, not_false_eq_true, Int.natCast_nonneg, Int.toNat_natCast, elA_len, hlt, and_self, hg, pfieldAddr, fieldOf, fieldIn, ty3, Option.map_some, List.drop_succ_cons, List.drop_zero, pload, okOne, TK.isAgg, beq_self_eq_true, Bool.or_true, List.length_cons, List.length_nil, Nat.zero_add, Nat.reduceAdd, Nat.reduceLeDiff, Lift.valOf, List.take_succ_cons, List.take_zero, List.getD_cons_zero, ty28, Nat.le_refl, List.take_nil, ty31, ofConst, ofVal, Int.reduceLE, Int.reduceToNat, hxl, hx0, ty39, elO_len, hno, hge, Nat.reduceBEq, Bool.or_false, decide_eq_true_eq, PBad, okAlloc, ty35, okZero, List.all_cons, Value.oneCell', List.all_nil, Bool.and_true, hx, zeroOf, List.map_cons, List.map_nil, Heap.get_put, known1, PV.cells, and_true, splice, List.nil_append, thenQ, true_and, HBad]
          have fin : ∀ B2 : Bo, WF B2 → B2.ps = delP i.pid B1.ps → Clean B2.items ∧ B2.items.length ≤ 8 * (j + 1) := fun B2 w2 ps2 => by
            have it2 := items_del w1 w2 ps2
            exact ⟨c1.sub fun x hx => keep_mem (by rw [← it2]; exact hx), by rw [it2]; exact Nat.le_trans (keep_len _ _) (by omega)⟩
          refine ⟨?_, ?_⟩
          · refine SWO.call (.func 15) #[.tmp 73, .tmp 78, .tmp 88] _ 15 #[] #[] rfl rfl rfl rfl rfl rfl (Meet_some p os[n].1 os[n].2 b1 w1 (by omega) hi) rfl rfl ?_ (fun c h' hc => by cases hc.1)
            rintro p' h2 ⟨hp', B2, b2, w2, ps2, rb2, tm2⟩
            injection hp' with hp'
            subst hp'
            obtain ⟨f1, f2⟩ := fin B2 w2 ps2
            refine SWO.run [] 1000 ?_
            simp only [wpS, thenQ, AS.put, enV, dropKey, Nat.reduceEqDiff, ↓reduceIte, reduceCtorEq, Nat.reduceLT, decide_true, Lift.look, Option.getD_some, List.getElem?_cons_zero, List.getElem?_cons_succ, List.length_cons, List.length_nil, Nat.zero_add, Nat.reduceAdd, and_self, List.drop_succ_cons, List.drop_nil, List.append_nil, true_and]
            intro r hr
            rw [Heap.put_put]
            have b4 := b2.put hr (.cells 35 4 [.int .i64 i.pid, .int .i64 (i.arm : Nat), .int .i64 i.ch, .bool i.sd])
            refine SW.run [] _ ?_
            simp only [wpC, mayStop, stops, isFlt, Specs.has, Specs.hasO, Bool.or_false, Specs.hasH, Bool.not_false, List.any_cons, List.any_nil, Bool.false_eq_true, ↓reduceIte, wpS, wantedA, okDst, Nat.reduceLT, decide_true, step1, isOwnCall, hxOp, px, AS.eval, AS.get, Lift.look, Option.getD_some, AS.put, dropKey, Nat.reduceEqDiff, reduceCtorEq, pun, Bool.not_true, thenQ, isB, tmpOf, asB, Nat.succ_ne_zero, and_true, true_and]
            exact ⟨B2, b4, w2, f1, f2, by omega, rb2, rfl⟩
          · intro r hr
            have h0r : h r = none := by
              cases e : h r with
              | none => rfl
              | some X => rw [b1.inc _ _ e] at hr; cases hr
            refine SWO.call (.func 15) #[.tmp 73, .tmp 78, .tmp 88] _ 15 #[] #[] rfl rfl rfl rfl rfl rfl (Meet_some p os[n].1 os[n].2 (b1.over (.inr hr) _) w1 (by omega) hi) rfl rfl ?_ (fun c h' hc => by cases hc.1)
            rintro p' h2 ⟨hp', B2, b2, w2, ps2, rb2, tm2⟩
            injection hp' with hp'
            subst hp'
            obtain ⟨f1, f2⟩ := fin B2 w2 ps2
            have hr2 := b2.inc _ _ (Heap.put_same _ _ _)
            refine SWO.run [] 1000 ?_
            simp only [wpS, thenQ, AS.put, enV, dropKey, Nat.reduceEqDiff, ↓reduceIte, reduceCtorEq, Nat.reduceLT, decide_true, Lift.look, Option.getD_some, List.getElem?_cons_zero, List.getElem?_cons_succ, hr2, List.length_cons, List.length_nil, Nat.zero_add, Nat.reduceAdd, Nat.le_refl, and_self, List.take_zero, List.nil_append, List.drop_succ_cons, List.drop_nil, List.append_nil, true_and]
            have b4 := (b2.over (r := r) (.inl (by rw [Heap.put_same]; simp)) (.cells 35 4 [.int .i64 i.pid, .int .i64 (i.arm : Nat), .int .i64 i.ch, .bool i.sd])).weak (h1 := h) (by rw [Heap.put_put]; exact (Inc.self h).put h0r _)
            refine SW.run [] _ ?_
            simp only [wpC, mayStop, stops, isFlt, Specs.has, Specs.hasO, Bool.or_false, Specs.hasH, Bool.not_false, List.any_cons, List.any_nil, Bool.false_eq_true, ↓reduceIte, wpS, wantedA, okDst, Nat.reduceLT, decide_true, step1, isOwnCall, hxOp, px, AS.eval, AS.get, Lift.look, Option.getD_some, AS.put, dropKey, Nat.reduceEqDiff, reduceCtorEq, pun, Bool.not_true, thenQ, isB, tmpOf, asB, Nat.succ_ne_zero, and_true, true_and]
            exact ⟨B2, b4, w2, f1, f2, by omega, rb2, rfl⟩
      · rintro a ⟨B2, b2, w2, c2, si2, st2, rb2, hn, hs⟩
        refine SW.norm ⟨hn, rfl, hs⟩ ?_
        generalize a.h = hj2 at b2
        clear hn hs b1 w1 c1 si1 st1 hp1
        rw [← rb2]
        refine SW.seq (SW.run [eEntries h B2] _ ?_)
        simp only [wpC, Bool.false_eq_true, ↓reduceIte, wpS, stops, wantedA, okDst, Nat.reduceLT, decide_true, step1, isOwnCall, hxOp, px, AS.eval, AS.get, Lift.look, reduceCtorEq, adr, Option.getD_some, Specs.has, Specs.hasO, Bool.or_false, Specs.hasH, eEntries, Bool.or_true, Bool.not_true, AS.put, dropKey, Nat.reduceEqDiff, hx, okArg, ofConst, ofVal, List.all_cons, List.all_nil, Bool.and_true, Specs.atH, List.map_cons, List.map_nil, sEntries, true_and, thenQ]
        refine ⟨⟨b2, w2, by omega⟩, ?_⟩
        have l2 : B2.items.length ≤ 400 := by omega
        refine SW.seq (SW.run [] _ ?_)
        simp only [wpC, Bool.false_eq_true, ↓reduceIte, wpS, stops, wantedA, okDst, Nat.reduceLT, decide_true, step1, isOwnCall, hxOp, px, AS.eval, ofConst, ofVal, thenQ, AS.put, dropKey, Nat.reduceEqDiff, reduceCtorEq, true_and]
        refine SW.block (SW.loopH 158 (fun x : Nat => [(0, .list 3 (elA l)), (3, adr B2.rb), (4, .int .i64 (j : Nat)), (8, .list 4 (elE B2.items)), (9, .int .i64 (x : Nat))]) (fun _ => hj2) (fun x => x ≤ B2.items.length) (fun x => B2.items.length - x) 0 (Nat.zero_le _) ⟨rfl, .refl _ _, ?_⟩ ?_)
        · simp only [hasAll, AS.get, Lift.look, Nat.succ_ne_zero, ↓reduceIte, Option.getD_some, Nat.reduceEqDiff, reduceCtorEq, adr, Int.cast_ofNat_Int, and_self]
        intro x hx
        refine SW.seq (SW.run [] _ ?_)
        by_cases hlx : x < B2.items.length
        · have hwx : IntKind.i64.wrap ((x : Int) + 1) = ((x + 1 : Nat) : Int) := by rw [w64 (by omega) (by omega)]; rfl
          have hgx := elE_at hlx
          simp only [wpC, mayStop, stops, isFlt, Specs.has, Specs.hasO, Bool.or_false, Specs.hasH, Bool.not_false, List.any_cons, List.any_nil, Bool.false_eq_true, ↓reduceIte, wpS, wantedA, okDst, Nat.reduceLT, decide_true, step1, isOwnCall, hxOp, px, AS.eval, AS.get, Lift.look, reduceCtorEq, Nat.reduceEqDiff, Option.getD_some, AS.put, dropKey, pcall, ty42, plen, elE_len, okLen, and_self, isNilC, pbinP, pbinI, Int.ofNat_lt, hlx, thenQ, isB, tmpOf, asB, hasAll, and_true, true_and]
          refine SW.seq (SW.block (SW.seq (SW.run [] _ ?_)))
          simp only [wpC, Bool.false_eq_true, ↓reduceIte, wpS, stops, wantedA, okDst, Nat.reduceLT, decide_true, step1, isOwnCall, hxOp, px, AS.eval, ofConst, ofVal, thenQ, AS.put, dropKey, Nat.reduceEqDiff, reduceCtorEq, true_and]
          refine SW.block (SW.loopH 158 (fun y : Nat => [(0, .list 3 (elA l)), (3, adr B2.rb), (4, .int .i64 (j : Nat)), (8, .list 4 (elE B2.items)), (9, .int .i64 (x : Nat)), (10, .int .i64 (y : Nat))]) (fun _ => hj2) (fun y => y ≤ x) (fun y => x - y) 0 (Nat.zero_le _) ⟨rfl, .refl _ _, ?_⟩ ?_)
          · simp only [hasAll, AS.get, Lift.look, Nat.succ_ne_zero, ↓reduceIte, Option.getD_some, Nat.reduceEqDiff, reduceCtorEq, adr, Int.cast_ofNat_Int, and_self]
          intro y hy
          refine SW.seq (SW.run [] _ ?_)
          by_cases hly : y < x
          · have hwy : IntKind.i64.wrap ((y : Int) + 1) = ((y + 1 : Nat) : Int) := by rw [w64 (by omega) (by omega)]; rfl
            have hly2 : y < B2.items.length := by omega
            have hgy := elE_at hly2
            have hcl := c2 _ (List.getElem_mem hlx) _ (List.getElem_mem hly2)
            simp only [wpC, mayStop, stops, isFlt, Specs.has, Specs.hasO, Bool.or_false, Specs.hasH, Bool.not_false, List.any_cons, List.any_nil, Bool.false_eq_true, ↓reduceIte, wpS, wantedA, okDst, Nat.reduceLT, decide_true, step1, isOwnCall, hxOp, px, AS.eval, AS.get, Lift.look, reduceCtorEq, Nat.reduceEqDiff, Option.getD_some, AS.put, dropKey, isNilC, pbinP, pbinI, Int.ofNat_lt, hly, thenQ, isB, tmpOf, asB, hasAll, and_true, true_and]
            generalize B2.items[x] = X at hgx hcl
            generalize B2.items[y] = Y at hgy hcl
            refine SW.seq (SW.block (SW.seq (SW.regionCut [] rfl (RestC.cut [] [0, 1, 2, 3, 4, 5, 6, 7, 8, 9, 10] 11 (k := 25) rfl (by kernel_rfl) ?_))))
            simp only [wpO, LOp, List.getElem?_toArray, List.getElem?_cons_zero, okDst, Nat.reduceLT, decide_true, wantedA, ↓reduceIte, step1, isOwnCall, Bool.false_eq_true, hxOp, px, AS.eval, AS.get, Lift.look, Nat.reduceEqDiff, reduceCtorEq, Option.getD_some, List.getElem?_cons_succ, AS.put, dropKey, pindexAddr, ty42, ty35, ne_eq, Nat.succ_ne_zero, not_false_eq_true, Int.natCast_nonneg, Int.toNat_natCast, elE_len, hlx, and_self, hgx, enC, pfieldAddr, fieldOf, fieldIn, ty3, Option.map_some, List.drop_succ_cons, List.drop_zero, pload, okOne, TK.isAgg, beq_self_eq_true, Bool.or_true, List.length_cons, List.length_nil, Nat.zero_add, Nat.reduceAdd, Nat.reduceLeDiff, Lift.valOf, List.take_succ_cons, List.take_zero, List.getD_cons_zero, hly2, hgy, isNilC, pbinP, pbinI, Option.toList_some, true_and]
            refine SWO.run [] 1000 ?_
            simp only [wpS, stops, Bool.false_eq_true, ↓reduceIte, wantedA, okDst, Nat.reduceLT, decide_true, step1, isOwnCall, hxOp, px, AS.eval, AS.get, Lift.look, Option.getD_some, thenQ, AS.put, dropKey, Nat.reduceEqDiff, reduceCtorEq, true_and]
            refine RestC.norm (n := 158) (l := [(0, .list 3 (elA l)), (3, adr B2.rb), (4, .int .i64 (j : Nat)), (8, .list 4 (elE B2.items)), (9, .int .i64 (x : Nat)), (10, .int .i64 (y : Nat)), (132, .bool (X.ch == Y.ch))]) (h := hj2) ⟨rfl, rfl, ?_⟩ ?_
            · simp only [hasAll, AS.get, Lift.look, Nat.succ_ne_zero, ↓reduceIte, Option.getD_some, Nat.reduceEqDiff, reduceCtorEq, and_self]
            refine RestC.cut [] [12, 13, 14, 15, 16, 17, 18, 19, 20, 21, 22, 23] 24 (k := 12) rfl (by kernel_rfl) ?_
            cases e1 : (X.ch == Y.ch)
            · simp only [wpO, LOp, List.getElem?_toArray, List.getElem?_cons_succ, List.getElem?_cons_zero, okDst, Nat.reduceLT, decide_true, wantedA, Option.bind_some, AS.get, Lift.look, reduceCtorEq, ↓reduceIte, Nat.reduceEqDiff, Option.getD_some, beq_ft, Option.some.injEq, Bool.false_eq_true, AS.put, dropKey, step1, isOwnCall, hxOp, px, AS.eval, ofConst, ofVal, ppick_false, Option.toList_some, true_and]
              refine SWO.run [] 1000 ?_
              simp only [wpS, stops, Bool.false_eq_true, ↓reduceIte, wantedA, okDst, Nat.reduceLT, decide_true, step1, isOwnCall, hxOp, px, AS.eval, AS.get, Lift.look, Option.getD_some, thenQ, AS.put, dropKey, Nat.reduceEqDiff, reduceCtorEq, true_and]
              refine RestC.norm (n := 158) (l := [(0, .list 3 (elA l)), (3, adr B2.rb), (4, .int .i64 (j : Nat)), (8, .list 4 (elE B2.items)), (9, .int .i64 (x : Nat)), (10, .int .i64 (y : Nat)), (145, .bool false)]) (h := hj2) ⟨rfl, rfl, ?_⟩ ?_
              · simp only [hasAll, AS.get, Lift.look, Nat.succ_ne_zero, ↓reduceIte, Option.getD_some, Nat.reduceEqDiff, reduceCtorEq, and_self]
              refine RestC.last [] [25, 26, 27, 28, 29, 30, 31, 32, 33, 34, 35, 36] rfl (by kernel_rfl) ?_
              simp only [wpO, LOp, List.getElem?_toArray, List.getElem?_cons_succ, List.getElem?_cons_zero, okDst, Nat.reduceLT, decide_true, wantedA, Option.bind_some, AS.get, Lift.look, reduceCtorEq, ↓reduceIte, Nat.reduceEqDiff, Option.getD_some, beq_ft, Option.some.injEq, Bool.false_eq_true, AS.put, dropKey, step1, isOwnCall, hxOp, px, AS.eval, ofConst, ofVal, ppick_false, thenQ, true_and]
              refine SW.run [] _ ?_
              simp only [wpC, isB, AS.get, Lift.look, tmpOf, ↓reduceIte, Option.getD_some, asB, Bool.false_eq_true, inQ, thenQ, true_and]
              refine SW.run [] _ ?_
              simp only [wpC, Bool.false_eq_true, ↓reduceIte, wpS, stops, wantedA, okDst, Nat.reduceLT, decide_true, step1, isOwnCall, hxOp, px, AS.eval, AS.get, Lift.look, Nat.reduceEqDiff, reduceCtorEq, Option.getD_some, isFlt, ty3, AS.put, dropKey, isNilC, pbinP, ofConst, ofVal, pbinI, hwy, thenQ, HTo_self, Nat.succ_ne_zero, true_and]
              exact ⟨y + 1, hly, by omega, rfl⟩
            · simp only [wpO, LOp, List.getElem?_toArray, List.getElem?_cons_succ, List.getElem?_cons_zero, okDst, Nat.reduceLT, decide_true, wantedA, Option.bind_some, AS.get, Lift.look, reduceCtorEq, ↓reduceIte, Nat.reduceEqDiff, Option.getD_some, beq_self_eq_true, step1, isOwnCall, Bool.false_eq_true, hxOp, px, AS.eval, AS.put, dropKey, pindexAddr, ty42, ty35, ne_eq, Nat.succ_ne_zero, not_false_eq_true, Int.natCast_nonneg, Int.toNat_natCast, elE_len, hlx, and_self, hgx, enC, pfieldAddr, fieldOf, fieldIn, ty4, Option.map_some, List.drop_succ_cons, List.drop_zero, pload, okOne, TK.isAgg, Bool.or_true, List.length_cons, List.length_nil, Nat.zero_add, Nat.le_refl, Lift.valOf, List.take_succ_cons, List.take_nil, List.getD_cons_zero, hly2, hgy, isNilC, pbinP, pflt, peq, peqK, ofConst, ofVal, ppick_bool, Option.toList_some, true_and]
              refine SWO.run [] 1000 ?_
              simp only [wpS, stops, Bool.false_eq_true, ↓reduceIte, wantedA, okDst, Nat.reduceLT, decide_true, step1, isOwnCall, hxOp, px, AS.eval, AS.get, Lift.look, Option.getD_some, thenQ, AS.put, dropKey, Nat.reduceEqDiff, reduceCtorEq, true_and]
              refine RestC.norm (n := 158) (l := [(0, .list 3 (elA l)), (3, adr B2.rb), (4, .int .i64 (j : Nat)), (8, .list 4 (elE B2.items)), (9, .int .i64 (x : Nat)), (10, .int .i64 (y : Nat)), (145, .bool (X.sd != Y.sd))]) (h := hj2) ⟨rfl, rfl, ?_⟩ ?_
              · simp only [hasAll, AS.get, Lift.look, Nat.succ_ne_zero, ↓reduceIte, Option.getD_some, Nat.reduceEqDiff, reduceCtorEq, and_true, true_and]
                rfl
              refine RestC.last [] [25, 26, 27, 28, 29, 30, 31, 32, 33, 34, 35, 36] rfl (by kernel_rfl) ?_
              cases e2 : (X.sd != Y.sd)
              · simp only [wpO, LOp, List.getElem?_toArray, List.getElem?_cons_succ, List.getElem?_cons_zero, okDst, Nat.reduceLT, decide_true, wantedA, Option.bind_some, AS.get, Lift.look, reduceCtorEq, ↓reduceIte, Nat.reduceEqDiff, Option.getD_some, beq_ft, Option.some.injEq, Bool.false_eq_true, AS.put, dropKey, step1, isOwnCall, hxOp, px, AS.eval, ofConst, ofVal, ppick_false, thenQ, true_and]
                refine SW.run [] _ ?_
                simp only [wpC, isB, AS.get, Lift.look, tmpOf, ↓reduceIte, Option.getD_some, asB, Bool.false_eq_true, inQ, thenQ, true_and]
                refine SW.run [] _ ?_
                simp only [wpC, Bool.false_eq_true, ↓reduceIte, wpS, stops, wantedA, okDst, Nat.reduceLT, decide_true, step1, isOwnCall, hxOp, px, AS.eval, AS.get, Lift.look, Nat.reduceEqDiff, reduceCtorEq, Option.getD_some, isFlt, ty3, AS.put, dropKey, isNilC, pbinP, ofConst, ofVal, pbinI, hwy, thenQ, HTo_self, Nat.succ_ne_zero, true_and]
                exact ⟨y + 1, hly, by omega, rfl⟩
              · have e3 : (X.pid != Y.pid) = false := by
                  have := hcl (by simpa using e1) (by simpa using e2)
                  rw [this, bne_self_eq_false]
                simp only [wpO, LOp, List.getElem?_toArray, List.getElem?_cons_succ, List.getElem?_cons_zero, okDst, Nat.reduceLT, decide_true, wantedA, Option.bind_some, AS.get, Lift.look, reduceCtorEq, ↓reduceIte, Nat.reduceEqDiff, Option.getD_some, beq_self_eq_true, step1, isOwnCall, Bool.false_eq_true, hxOp, px, AS.eval, AS.put, dropKey, pindexAddr, ty42, ty35, ne_eq, Nat.succ_ne_zero, not_false_eq_true, Int.natCast_nonneg, Int.toNat_natCast, elE_len, hlx, and_self, hgx, enC, pfieldAddr, fieldOf, fieldIn, ty3, Option.map_some, List.drop_zero, pload, okOne, TK.isAgg, Bool.or_true, List.length_cons, List.length_nil, Nat.zero_add, Nat.reduceAdd, Nat.reduceLeDiff, Lift.valOf, List.take_succ_cons, List.take_zero, List.getD_cons_zero, hly2, hgy, isNilC, pbinP, pbinI, e3, ofConst, ofVal, ppick_bool, thenQ, true_and]
                refine SW.run [] _ ?_
                simp only [wpC, isB, AS.get, Lift.look, tmpOf, ↓reduceIte, Option.getD_some, asB, Bool.false_eq_true, inQ, thenQ, true_and]
                refine SW.run [] _ ?_
                simp only [wpC, Bool.false_eq_true, ↓reduceIte, wpS, stops, wantedA, okDst, Nat.reduceLT, decide_true, step1, isOwnCall, hxOp, px, AS.eval, AS.get, Lift.look, Nat.reduceEqDiff, reduceCtorEq, Option.getD_some, isFlt, ty3, AS.put, dropKey, isNilC, pbinP, ofConst, ofVal, pbinI, hwy, thenQ, HTo_self, Nat.succ_ne_zero, true_and]
                exact ⟨y + 1, hly, by omega, rfl⟩
          · obtain rfl : y = x := by omega
            simp only [wpC, mayStop, stops, isFlt, Specs.has, Specs.hasO, Bool.or_false, Specs.hasH, Bool.not_false, List.any_cons, List.any_nil, Bool.false_eq_true, ↓reduceIte, wpS, wantedA, okDst, Nat.reduceLT, decide_true, step1, isOwnCall, hxOp, px, AS.eval, AS.get, Lift.look, reduceCtorEq, Nat.reduceEqDiff, Option.getD_some, AS.put, dropKey, isNilC, pbinP, pbinI, Int.ofNat_lt, Nat.lt_irrefl, decide_false, thenQ, isB, tmpOf, asB, inQ, true_and]
            refine SW.run [] _ ?_
            simp only [wpC, Bool.false_eq_true, ↓reduceIte, wpS, stops, wantedA, okDst, Nat.reduceLT, decide_true, step1, isOwnCall, hxOp, px, AS.eval, AS.get, Lift.look, Nat.reduceEqDiff, reduceCtorEq, Option.getD_some, isFlt, ty3, AS.put, dropKey, isNilC, pbinP, ofConst, ofVal, pbinI, hwx, thenQ, HTo_self, Nat.succ_ne_zero, true_and]
            exact ⟨y + 1, hlx, by omega, rfl⟩
        · obtain rfl : x = B2.items.length := by omega
          simp only [wpC, mayStop, stops, isFlt, Specs.has, Specs.hasO, Bool.or_false, Specs.hasH, Bool.not_false, List.any_cons, List.any_nil, Bool.false_eq_true, ↓reduceIte, wpS, wantedA, okDst, Nat.reduceLT, decide_true, step1, isOwnCall, hxOp, px, AS.eval, AS.get, Lift.look, reduceCtorEq, Nat.reduceEqDiff, Option.getD_some, AS.put, dropKey, pcall, ty42, plen, elE_len, okLen, and_self, isNilC, pbinP, pbinI, Int.ofNat_lt, Nat.lt_irrefl, decide_false, thenQ, isB, tmpOf, asB, inQ, true_and]
          refine SW.run [] _ ?_
          simp only [wpC, Bool.false_eq_true, ↓reduceIte, wpS, stops, wantedA, okDst, Nat.reduceLT, decide_true, step1, isOwnCall, hxOp, px, AS.eval, AS.get, Lift.look, Nat.reduceEqDiff, reduceCtorEq, Option.getD_some, isFlt, ty3, AS.put, dropKey, isNilC, pbinP, ofConst, ofVal, pbinI, hw, thenQ, Nat.succ_ne_zero, true_and]
          exact ⟨l.length - (j + 1), by omega, j + 1, B2, hlt, rfl, b2, w2, c2, si2, st2, rfl, rfl, rfl⟩
  · obtain rfl : j = l.length := by omega
    simp only [wpC, mayStop, stops, isFlt, Specs.has, Specs.hasO, Bool.or_false, Specs.hasH, Bool.not_false, List.any_cons, List.any_nil, Bool.false_eq_true, ↓reduceIte, wpS, wantedA, okDst, Nat.reduceLT, decide_true, step1, isOwnCall, hxOp, px, AS.eval, AS.get, Lift.look, reduceCtorEq, Nat.reduceEqDiff, Option.getD_some, AS.put, dropKey, Nat.succ_ne_zero, pcall, ty22, plen, elA_len, okLen, and_self, isNilC, pbinP, pbinI, Int.ofNat_lt, Nat.lt_irrefl, decide_false, thenQ, isB, tmpOf, asB, inQ, true_and]
    refine SW.run [] _ ?_
    simp only [wpC, mayStop, stops, isFlt, Specs.has, Specs.hasO, Bool.or_false, Specs.hasH, Bool.not_false, List.any_cons, List.any_nil, Bool.false_eq_true, ↓reduceIte, wpS, wantedA, okDst, Nat.reduceLT, decide_true, step1, isOwnCall, hxOp, px, AS.eval, ofConst, ofVal, thenQ, RPost, sres, AS.put, dropKey, Nat.reduceEqDiff, reduceCtorEq, Try.results3, sresL, sres1, AS.get, Lift.look, Option.getD_some, Option.some.injEq, Ret_fin, exists_eq_left', true_and]
    exact Inc.to fun K X e => b.inc _ _ e
end Go.Proofs.Ytekgfneapofgpaa
