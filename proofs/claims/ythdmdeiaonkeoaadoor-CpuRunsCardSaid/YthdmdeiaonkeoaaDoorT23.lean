/- Contracts of functions that the law reaches. -/
import Derived.Test.YthdmdeiaonkeoaaDoorT18
set_option linter.unusedSimpArgs false
set_option linter.unusedVariables false
namespace Go.Proofs.YthdmdeiaonkeoaaDoor
open Go Go.RowKit Go.Proofs.YthdmdeiaonkeoaaDoor Go.Proofs.YthdmdeiaonkeoaaDoor.Lift

/-! acheronref25.Run -/
/-- A memory of the reference's: its own, or an empty literal. -/
def ovP (c : Bool) (o : Option (Nat × Nat)) (n : Nat) : PV :=
  match o with
  | none => if c = true then .cap0 else .val (.slice none 0 0)
  | some x => .val (ovl (some x) n)
theorem ovP_known (c : Bool) (o : Option (Nat × Nat)) (n : Nat) : known1 (ovP c o n) = true := by cases o <;> cases c <;> rfl
theorem ovP_cells (c : Bool) (o : Option (Nat × Nat)) (n : Nat) : (ovP c o n).cells = [ovP c o n] := by cases o <;> cases c <;> rfl
theorem own_ovP {h H : Heap} {xs : List Int} {v : PV} (own : OwnC h 2 1 (el64 xs) v H) : ∃ c o, okO o xs h ∧ v = ovP c o xs.length ∧ H = omem o xs h := by
  rcases own with ⟨h1, h2, h3⟩ | own
  · exact ⟨true, none, by cases xs with | nil => rfl | cons => simp [el64] at h2, h1, h3⟩
  · obtain ⟨o, h1, h2, h3⟩ := own_omem own
    refine ⟨false, o, h1, ?_, h3⟩
    rw [h2]
    cases o <;> rfl
theorem ovP_own {h : Heap} {c : Bool} {o : Option (Nat × Nat)} {xs : List Int} (ok : okO o xs h) : OwnC h 2 1 (el64 xs) (ovP c o xs.length) (omem o xs h) := by
  cases o with
  | none =>
    obtain rfl : xs = [] := ok
    cases c
    · exact .inr (.inl ⟨rfl, rfl, rfl⟩)
    · exact .inl ⟨rfl, rfl, rfl⟩
  | some x => exact .inr (omem_own ok)
theorem ownC_keeps {h0 H : Heap} {r : Nat} {X : AObj} {e : TypeId} {sz : Nat} {xs : List (List PV)} {v : PV} (o : OwnC h0 e sz xs v H) (hr : h0 r = some X) : H r = some X := by
  rcases o with ⟨_, _, rfl⟩ | o
  · exact hr
  · exact own_keeps o hr
def ownW (c1 c2 : Bool) (o1 o2 : Option (Nat × Nat)) (n m : Nat) (s : Mach) : List PV := stC s.pc s.rg (ovP c1 o1 n) (ovP c2 o2 m) s.st
def RunW (code : List Int) (s : Mach) (h : Heap) : SEnd → Heap → Prop := fun e h' => ∃ c1 c2 o1 o2 s' how n, runAll code s = (s', how, n) ∧ okO o1 s'.fr h ∧ okO o2 s'.da (omem o1 s'.fr h) ∧
  e = .ret (.tuple [.agg (ownW c1 c2 o1 o2 s'.fr.length s'.da.length s'), .int .i64 how, .int .i64 n]) ∧ h' = mems o1 o2 s' h
theorem RunW_letGo {code : List Int} {s : Mach} {h : Heap} {f : FuncId} {args : List PV} (hc : SCalls env f args h (RunW code s h)) :
    SCalls env f args h (Ret (.tuple [.agg (stV (runAll code s).1), .int .i64 (runAll code s).2.1, .int .i64 (runAll code s).2.2]) h) := by
  refine hc.letGo ?_
  rintro e h' ⟨x1, x2, o1, o2, s', how, n, e0, ok1, ok2, rfl, rfl⟩
  refine ⟨_, _, h, rfl, ?_, rfl, rfl⟩
  rw [e0]
  have a2 := (ovP_own (c := x2) ok2).letGo (E := env) (.int .i64 s'.pc :: (s'.rg.map (PV.int .i64) ++ [ovP x1 o1 s'.fr.length])) [.int .i64 s'.st] [.int .i64 how, .int .i64 n]
  have a1 := (ovP_own (c := x1) ok1).letGo (E := env) (.int .i64 s'.pc :: s'.rg.map (PV.int .i64)) [.list 1 (el64 s'.da), .int .i64 s'.st] [.int .i64 how, .int .i64 n]
  have c2 : (PV.int .i64 s'.pc :: (s'.rg.map (PV.int .i64) ++ [ovP x1 o1 s'.fr.length])) ++ ovP x2 o2 s'.da.length :: [PV.int .i64 s'.st] = ownW x1 x2 o1 o2 s'.fr.length s'.da.length s' := by simp [ownW, stC]
  have c3 : (PV.int .i64 s'.pc :: (s'.rg.map (PV.int .i64) ++ [ovP x1 o1 s'.fr.length])) ++ PV.list 1 (el64 s'.da) :: [PV.int .i64 s'.st] = (PV.int .i64 s'.pc :: s'.rg.map (PV.int .i64)) ++ ovP x1 o1 s'.fr.length :: [PV.list 1 (el64 s'.da), PV.int .i64 s'.st] := by simp
  have c4 : (PV.int .i64 s'.pc :: s'.rg.map (PV.int .i64)) ++ PV.list 1 (el64 s'.fr) :: [PV.list 1 (el64 s'.da), PV.int .i64 s'.st] = stV s' := by simp [stV, stC]
  rw [c2, c3] at a2
  rw [c4] at a1
  exact a2.trans a1
theorem exitW {code : List Int} {s b : Mach} {h : Heap} {c1 c2 : Bool} {o1 o2 : Option (Nat × Nat)} {how n : Int} (ok1 : okO o1 s.fr h) (ok2 : okO o2 s.da (omem o1 s.fr h)) (hfl : b.fr.length = s.fr.length) (hdl : b.da.length = s.da.length) (e : runAll code s = (b, how, n)) :
    RunW code s h (.ret (.tuple [.agg (stC b.pc b.rg (ovP c1 o1 s.fr.length) (ovP c2 o2 s.da.length) b.st), .int .i64 how, .int .i64 n])) (mems o1 o2 b h) :=
  ⟨c1, c2, o1, o2, b, how, n, e, okO_len ok1 hfl, okO_len (okO_mem ok2) hdl, by rw [hfl, hdl]; rfl, rfl⟩
/-- Its length can be asked. -/
theorem ovP_slice {c : Bool} {o : Option (Nat × Nat)} {xs : List Int} {h : Heap} (ok : okO o xs h) : (ovP c o xs.length = .cap0 ∧ xs.length = 0) ∨ ∃ A cap, ovP c o xs.length = .val (.slice A xs.length cap) := by
  cases o with
  | none =>
    obtain rfl : xs = [] := ok
    cases c
    · exact .inr ⟨none, 0, rfl⟩
    · exact .inl ⟨rfl, rfl⟩
  | some x => exact .inr ⟨_, _, rfl⟩
theorem ovP_some {c : Bool} {o : Option (Nat × Nat)} {k cap : Nat} (h : ∀ n, ovl o n = .slice (some ⟨k, 0, none⟩) n cap) (n : Nat) : ovP c o n = .val (.slice (some ⟨k, 0, none⟩) n cap) := by
  cases o with
  | none => have := h 0; cases this
  | some x => show PV.val (ovl (some x) n) = _; rw [h]
/-- Between an instruction and the end of its round. -/
def MidW (code : List Int) (h : Heap) (o1 o2 : Option (Nat × Nat)) (f1 d1 : PV) (r q : Nat) (Z : AObj) (b : Mach) (a : AS) : Prop :=
  ∃ s1 : Mach, stepS code b = .go ⟨s1.pc, s1.rg.set 0 0, s1.fr, s1.da, b.st - 1⟩ ∧ s1.rg.length = 16 ∧ a.n = 176 ∧
    HTo env a.h (((mems o1 o2 s1 h).put q Z).put r (.cells 50 20 (stC s1.pc s1.rg f1 d1 b.st))) ∧
    hasAll a [(0, .list 1 (el64 code)), (3, .val (.pointer (some ⟨r, 0, none⟩))), (4, .val (.pointer (some ⟨q, 0, none⟩)))]
theorem midW0 {M : Heap} {q r d : Nat} {Z R R' I : AObj} (hdn : M d = none) (hdr : ¬ d = r) (hdq : ¬ d = q) : HTo env ((((M.put q Z).put r R).put d I).put r R') ((M.put q Z).put r R') := by
  refine HSub.to fun j => ?_
  by_cases e0 : j = d
  · subst e0
    exact .inl (by rw [Heap.put_ne _ _ hdr, Heap.put_ne _ _ hdq]; exact hdn)
  · right
    by_cases e1 : j = r
    · subst e1
      rw [Heap.put_same, Heap.put_same]
    · rw [Heap.put_ne _ _ e1, Heap.put_ne _ _ e1, Heap.put_ne _ _ e0, Heap.put_ne _ _ e1]
theorem midW1 {M : Heap} {q r d : Nat} {Z R R1 R' I : AObj} (hdn : M d = none) (hdr : ¬ d = r) (hdq : ¬ d = q) : HTo env (((((M.put q Z).put r R).put d I).put r R1).put r R') ((M.put q Z).put r R') := by
  rw [Heap.put_put]
  exact midW0 hdn hdr hdq
theorem midW2 {M : Heap} {q r d k : Nat} {Z R R' I K : AObj} (hdn : M d = none) (hdr : ¬ d = r) (hdq : ¬ d = q) (hkr : ¬ k = r) (hkq : ¬ k = q) (hkd : ¬ k = d) :
    HTo env (((((M.put q Z).put r R).put d I).put k K).put r R') (((M.put k K).put q Z).put r R') := by
  refine HSub.to fun j => ?_
  by_cases e0 : j = d
  · subst e0
    exact .inl (by rw [Heap.put_ne _ _ hdr, Heap.put_ne _ _ hdq, Heap.put_ne _ _ (fun e => hkd e.symm)]; exact hdn)
  · right
    by_cases e1 : j = r
    · subst e1
      rw [Heap.put_same, Heap.put_same]
    · rw [Heap.put_ne _ _ e1, Heap.put_ne _ _ e1]
      by_cases e2 : j = k
      · subst e2
        rw [Heap.put_ne _ _ hkq, Heap.put_same, Heap.put_same]
      · rw [Heap.put_ne (k := j) _ _ e2, Heap.put_ne (k := j) _ _ e0, Heap.put_ne _ _ e1]
        by_cases e4 : j = q
        · subst e4; rw [Heap.put_same, Heap.put_same]
        · rw [Heap.put_ne _ _ e4, Heap.put_ne _ _ e4, Heap.put_ne _ _ e2]
theorem ovP_form (c : Bool) (o : Option (Nat × Nat)) (n : Nat) : ovP c o n = .cap0 ∨ ∃ v, ovP c o n = .val v := by
  cases o with
  | none => cases c <;> first | exact .inl rfl | exact .inr ⟨_, rfl⟩
  | some x => exact .inr ⟨_, rfl⟩
/-- Behind the copies. -/
def MidS (code : List Int) (s : Mach) (h : Heap) (r q : Nat) (Z : AObj) (a : AS) : Prop :=
  ∃ c1 o1 c2 o2, okO o1 s.fr h ∧ okO o2 s.da (omem o1 s.fr h) ∧ notIn o1 r ∧ notIn o1 q ∧ notIn o2 r ∧ notIn o2 q ∧ a.n = 176 ∧
    HTo env a.h (((mems o1 o2 s h).put q Z).put r (.cells 50 20 (stC s.pc s.rg (ovP c1 o1 s.fr.length) (ovP c2 o2 s.da.length) s.st))) ∧
    hasAll a [(0, .list 1 (el64 code)), (3, .val (.pointer (some ⟨r, 0, none⟩))), (4, .val (.pointer (some ⟨q, 0, none⟩)))]
theorem tm4 : Int.tmod 4 2 = 0 := rfl
theorem tm5 : Int.tmod 5 2 = 1 := rfl
theorem tm6 : Int.tmod 6 2 = 0 := rfl
theorem tm7 : Int.tmod 7 2 = 1 := rfl

set_option maxRecDepth 100000 in
set_option maxHeartbeats 4000000 in
theorem RunW_ok (code : List Int) (s : Mach) (h : Heap) (hrg : s.rg.length = 16) (hst : s.st < 9223372036854775808) (hcl : code.length ≤ 1000000000) (hf : s.fr.length ≤ 1000000000) (hd : s.da.length ≤ 1000000000) (hcw : ∀ w ∈ code, -9223372036854775808 ≤ w ∧ w < 9223372036854775808) :
    SCalls env 21 [.list 1 (el64 code), .agg (stV s)] h (RunW code s h) := by
  refine SCalls.body Tryd.func21 rfl rfl (by simp [Tryd.ntmps21]) ?_
  unfold stV
  refine SW.seq (SW.run [] _ ?_)
  simp only [wpC, Bool.false_eq_true, ↓reduceIte, wpS, stops, wantedA, okDst, Tryd.ntmps21, Nat.reduceLT, decide_true, step1, known1, AS.eval, AS.get, enumA, Nat.zero_add, Lift.look, reduceCtorEq, Option.getD_some, AS.put, dropKey, Nat.reduceEqDiff, okAlloc, ty50, okZero, List.all_cons, Value.oneCell', List.all_nil, Bool.and_true, PV.cells, stC_len hrg, Heap.get_put, some_none, isOwnCall, hxOp, px, ofConst, ofVal, zeroOf, List.map_cons, List.map_nil, List.length_cons, List.length_nil, Nat.reduceAdd, thenQ, true_and]
  rintro r hr q ⟨hqr, hq⟩
  have hrq : ¬ r = q := fun e => hqr e.symm
  have g1 : (el64 s.fr).length * 8 ≤ 140737488355328 := by rw [el64_len]; omega
  have g2 : (el64 s.fr).length ≤ maxLen := by rw [el64_len]; unfold maxLen; omega
  have g3 : (el64 s.da).length * 8 ≤ 140737488355328 := by rw [el64_len]; omega
  have g4 : (el64 s.da).length ≤ maxLen := by rw [el64_len]; unfold maxLen; omega
  refine SW.cut (MidS code s h r q (.cells 50 20 zSt)) ?_ ?_
  · refine SW.regionAny [] [[0, 4, 1, 2, 5, 6, 3, 8, 7, 9, 10, 11]] rfl (by rfl) (by kernel_rfl) ?_
    simp only [wpOL, wpO, LOp, List.getElem?_toArray, List.getElem?_cons_zero, okDst, Nat.reduceLT, decide_true, wantedA, ↓reduceIte, step1, isOwnCall, Bool.false_eq_true, hxOp, px, pbuildSlice, ty43, ty2, AS.eval, AS.get, Lift.look, ofConst, ofVal, List.map_nil, List.getElem?_cons_succ, AS.put, dropKey, Nat.reduceEqDiff, reduceCtorEq, pfieldAddr, fieldOf, ty50, fieldIn, Option.map_some, Option.getD_some, ne_eq, Nat.succ_ne_zero, not_false_eq_true, Nat.zero_add, pload, Heap.get_put, hrq, okOne, TK.isAgg, beq_self_eq_true, Bool.or_true, Nat.reduceAdd, stC_len hrg, Nat.reduceLeDiff, and_self, Lift.valOf, stC_fr hrg, List.getD_cons_zero, stC_da hrg, ownSpec, appSpec, srcOf, isCap0, List.length_cons, List.length_nil, srcTy, g1, g2, Int.cast_ofNat_Int, OwnR, isApp, ownOf, Int.reduceToNat, g3, g4, hx, known1, PV.cells, splice, HBad, thenQ, true_and]
    intro u1 h1 own1 u2 h2 own2
    have own1 : OwnC ((h.put r (.cells 50 20 (stC s.pc s.rg (.list 1 (el64 s.fr)) (.list 1 (el64 s.da)) s.st))).put q (.cells 50 20 zSt)) 2 1 (el64 s.fr) u1 h1 := own1
    have own2 : OwnC h1 2 1 (el64 s.da) u2 h2 := own2
    have hr1 : h1 r = some (.cells 50 20 (stC s.pc s.rg (.list 1 (el64 s.fr)) (.list 1 (el64 s.da)) s.st)) := ownC_keeps own1 (by rw [Heap.put_ne _ _ hrq, Heap.put_same])
    have hr2 := ownC_keeps own2 hr1
    obtain ⟨c1, o1, ok1, rfl, e1⟩ := own_ovP own1
    obtain ⟨c2, o2, ok2, rfl, e2⟩ := own_ovP own2
    obtain ⟨ok1a, n1q⟩ := okO_put ok1
    obtain ⟨ok1b, n1r⟩ := okO_put ok1a
    rw [omem_put n1q, omem_put n1r] at e1
    subst e1
    obtain ⟨ok2a, n2q⟩ := okO_put ok2
    obtain ⟨ok2b, n2r⟩ := okO_put ok2a
    rw [omem_put n2q, omem_put n2r] at e2
    subst e2
    clear own1 own2 hr1 ok1 ok1a ok2 ok2a
    have fin : ∀ (F D : PV), ovP c1 o1 s.fr.length = F → ovP c2 o2 s.da.length = D → ∀ (a : AS), a.n = 176 → a.h = (((((mems o1 o2 s h).put r (.cells 50 20 (stC s.pc s.rg (.list 1 (el64 s.fr)) (.list 1 (el64 s.da)) s.st))).put q (.cells 50 20 zSt)).put r (.cells 50 20 (stC s.pc s.rg F (.list 1 (el64 s.da)) s.st)))).put r (.cells 50 20 (stC s.pc s.rg F D s.st)) →
        hasAll a [(0, .list 1 (el64 code)), (3, .val (.pointer (some ⟨r, 0, none⟩))), (4, .val (.pointer (some ⟨q, 0, none⟩)))] → MidS code s h r q (.cells 50 20 zSt) a := fun F D hF hD a hn hh hs => by
      refine ⟨c1, o1, c2, o2, ok1b, ok2b, n1r, n1q, n2r, n2q, hn, ?_, hs⟩
      rw [hF, hD, hh]
      refine HTo_eq (funext fun j => ?_)
      by_cases j1 : j = r
      · subst j1; simp only [Heap.put_same]
      · by_cases j2 : j = q
        · subst j2; simp only [Heap.put_same, Heap.put_ne _ _ j1]
        · simp only [Heap.put_ne _ _ j1, Heap.put_ne _ _ j2]
    rcases ovP_form c1 o1 s.fr.length with hF | ⟨v1, hF⟩ <;> rcases ovP_form c2 o2 s.da.length with hD | ⟨v2, hD⟩
    all_goals have hF0 := hF
    all_goals have hD0 := hD
    all_goals rw [hF, hD]
    all_goals simp only [Heap.get_put, hrq, ↓reduceIte, List.length_cons, List.length_nil, Nat.zero_add, stC_len hrg, Nat.reduceLeDiff, and_self, Nat.reduceAdd, stC_setfr hrg, stC_setda hrg, true_and]
    all_goals exact fin _ _ hF0 hD0 _ rfl rfl ⟨rfl, rfl, rfl, trivial⟩
  rintro a0 ⟨c1, o1, c2, o2, ok1b, ok2b, n1r, n1q, n2r, n2q, hn0, ht0, hs0⟩
  refine SW.enter hn0 ht0 hs0 ?_
  clear hn0 ht0 hs0
  generalize hF : ovP c1 o1 s.fr.length = F
  generalize hD : ovP c2 o2 s.da.length = D
  refine SW.seq (SW.run [] _ ?_)
  simp only [wpC, Bool.false_eq_true, ↓reduceIte, wpS, stops, wantedA, okDst, Nat.reduceLT, decide_true, step1, isOwnCall, hxOp, px, pfieldAddr, fieldOf, ty50, fieldIn, List.getElem?_cons_succ, List.getElem?_cons_zero, ty42, Option.map_some, AS.eval, AS.get, Lift.look, reduceCtorEq, Option.getD_some, ne_eq, Nat.succ_ne_zero, not_false_eq_true, Nat.zero_add, AS.put, dropKey, Nat.reduceEqDiff, pindexAddr, ty2, ofConst, ofVal, Int.reduceLE, Int.cast_ofNat_Int, Int.reduceLT, and_self, Int.reduceToNat, Nat.reduceMul, Nat.add_zero, hx, Heap.get_put, known1, PV.cells, List.length_cons, List.length_nil, Nat.reduceAdd, stC_len hrg, Nat.reduceLeDiff, splice, stC_pc, List.cons_append, List.nil_append, stC_set0 hrg, thenQ, true_and]
  have hrg0 : (s.rg.set 0 0).length = 16 := by rw [List.length_set]; exact hrg
  refine SW.meet1 176 [(0, .list 1 (el64 code)), (3, .val (.pointer (some ⟨r, 0, none⟩))), (4, .val (.pointer (some ⟨q, 0, none⟩)))] (((mems o1 o2 s h).put q (.cells 50 20 zSt)).put r (.cells 50 20 (stC s.pc (s.rg.set 0 0) F D (max 0 s.st)))) ?_ ?_
  · by_cases hneg : s.st < 0
    · refine SW.run [] _ ?_
      simp only [wpC, mayStop, stops, isFlt, Specs.has, Specs.hasO, Bool.or_false, Bool.not_false, List.any_cons, List.any_nil, Bool.false_eq_true, ↓reduceIte, wpS, wantedA, okDst, Nat.reduceLT, decide_true, step1, isOwnCall, hxOp, px, pfieldAddr, fieldOf, ty50, fieldIn, List.getElem?_cons_succ, List.getElem?_cons_zero, ty3, Option.map_some, AS.eval, AS.get, Lift.look, Nat.reduceEqDiff, reduceCtorEq, Option.getD_some, ne_eq, Nat.succ_ne_zero, not_false_eq_true, Nat.zero_add, AS.put, dropKey, Heap.put_put, pload, Heap.get_put, okOne, TK.isAgg, beq_self_eq_true, Bool.or_true, Nat.reduceAdd, stC_len hrg0, Nat.le_refl, and_self, Lift.valOf, stC_st hrg0, List.getD_cons_zero, pbinP, ofConst, ofVal, pbinI, hneg, thenQ, isB, tmpOf, asB, hx, known1, PV.cells, List.length_cons, List.length_nil, splice, stC_setst hrg0, stC_none hrg0, List.append_nil, Meet, hasAll, and_true, true_and]
      rw [show max 0 s.st = 0 by omega]
      exact HTo.refl _ _
    · refine SW.run [] _ ?_
      simp only [wpC, mayStop, stops, isFlt, Specs.has, Specs.hasO, Bool.or_false, Bool.not_false, List.any_cons, List.any_nil, Bool.false_eq_true, ↓reduceIte, wpS, wantedA, okDst, Nat.reduceLT, decide_true, step1, isOwnCall, hxOp, px, pfieldAddr, fieldOf, ty50, fieldIn, List.getElem?_cons_succ, List.getElem?_cons_zero, ty3, Option.map_some, AS.eval, AS.get, Lift.look, Nat.reduceEqDiff, reduceCtorEq, Option.getD_some, ne_eq, Nat.succ_ne_zero, not_false_eq_true, Nat.zero_add, AS.put, dropKey, Heap.put_put, pload, Heap.get_put, okOne, TK.isAgg, beq_self_eq_true, Bool.or_true, Nat.reduceAdd, stC_len hrg0, Nat.le_refl, and_self, Lift.valOf, stC_st hrg0, List.getD_cons_zero, pbinP, ofConst, ofVal, pbinI, hneg, decide_false, thenQ, isB, tmpOf, asB, Meet, hasAll, and_true, true_and]
      rw [show max 0 s.st = s.st by omega]
      exact HTo.refl _ _
  have hb0 : s.begin.ok := ⟨by simp [Mach.begin, hrg], by show 0 ≤ max 0 s.st; omega, by show max 0 s.st < _; omega⟩
  refine SW.seq (SW.block ?_)
  refine SW.loopH 176 (fun b : Mach => [(0, .list 1 (el64 code)), (3, .val (.pointer (some ⟨r, 0, none⟩))), (4, .val (.pointer (some ⟨q, 0, none⟩)))]) (fun b => ((mems o1 o2 b h).put q (.cells 50 20 zSt)).put r (.cells 50 20 (stC b.pc b.rg F D b.st))) (fun b => b.ok ∧ b.fr.length = s.fr.length ∧ b.da.length = s.da.length ∧ runS code b.st.toNat b = runAll code s) (fun b => b.st.toNat) s.begin ⟨hb0, rfl, rfl, rfl⟩ ?_ ?_
  · exact ⟨rfl, HTo.refl _ _, ⟨rfl, rfl, rfl, trivial⟩⟩
  rintro b ⟨hok, hfl, hdl, hrun⟩
  have hb := hok.rg
  have nR : mems o1 o2 b h r = none := none_mems ⟨hr, n1r, n2r⟩
  have nQ : mems o1 o2 b h q = none := none_mems ⟨hq, n1q, n2q⟩
  have hz : zSt.length = 20 := rfl
  have hz2 : List.drop 20 zSt = [] := rfl
  have exit0 : ∀ {b' : Mach} {how n : Int}, b'.fr.length = s.fr.length → b'.da.length = s.da.length → runAll code s = (b', how, n) → RunW code s h (.ret (.tuple [.agg (stC b'.pc b'.rg F D b'.st), .int .i64 how, .int .i64 n])) (mems o1 o2 b' h) := fun h1 h2 e => by
    rw [← hF, ← hD]
    exact exitW ok1b ok2b h1 h2 e
  by_cases h0 : 0 < b.st
  · by_cases hp0 : b.pc < 0
    · have e : stepS code b = .out b 3 b.pc := by unfold stepS; rw [if_pos (.inl hp0)]
      refine SW.run [] _ ?_
      simp only [wpC, mayStop, stops, isFlt, Specs.has, Specs.hasO, Bool.or_false, Bool.not_false, List.any_cons, List.any_nil, Bool.false_eq_true, ↓reduceIte, wpS, wantedA, okDst, Nat.reduceLT, decide_true, step1, isOwnCall, hxOp, px, pfieldAddr, fieldOf, ty50, fieldIn, List.getElem?_cons_succ, List.getElem?_cons_zero, ty3, Option.map_some, AS.eval, AS.get, Lift.look, reduceCtorEq, Option.getD_some, ne_eq, Nat.succ_ne_zero, not_false_eq_true, Nat.zero_add, AS.put, dropKey, Nat.reduceEqDiff, pload, Heap.get_put, okOne, TK.isAgg, beq_self_eq_true, Bool.or_true, Nat.reduceAdd, stC_len hb, Nat.le_refl, and_self, Lift.valOf, stC_st hb, List.getD_cons_zero, pbinP, ofConst, ofVal, pbinI, h0, thenQ, isB, tmpOf, asB, Nat.add_zero, Nat.reduceLeDiff, List.drop_zero, stC_pc, hp0, List.getElem?_toArray, Option.bind_some, beq_tf, Option.some.injEq, ppick_true, hasAll, and_true, true_and]
      refine SW.regionAny2 [] [(0, []), (1, []), (2, [3]), (3, []), (4, []), (5, [])] rfl (by rfl) (by kernel_rfl) ?_
      simp only [wpO2, dynOK, LOp, List.getElem?_toArray, List.getElem?_cons_zero, okDst, Nat.reduceLT, decide_true, wantedA, ↓reduceIte, step1, isOwnCall, Bool.false_eq_true, hxOp, px, pload, ty50, AS.eval, AS.get, Lift.look, Nat.reduceEqDiff, reduceCtorEq, Option.getD_some, Heap.get_put, okOne, TK.isAgg, Nat.reduceBEq, Bool.or_false, Nat.zero_add, stC_len hb, Nat.le_refl, and_self, Lift.valOf, List.drop_zero, stC_all hb, List.getElem?_cons_succ, AS.put, dropKey, pfieldAddr, fieldOf, fieldIn, ty3, Option.map_some, ne_eq, Nat.succ_ne_zero, not_false_eq_true, Nat.add_zero, disj, ptrAt, ptrT, hrq, beq_self_eq_true, Bool.or_true, Nat.reduceLeDiff, stC_pc, List.getD_cons_zero, hx, hqr, known1, PV.cells, hz, splice, List.take_zero, List.nil_append, hz2, List.append_nil, ofConst, ofVal, thenQ, true_and]
      refine SW.run [] _ ?_
      simp only [wpC, thenQ, inQ, RPost, sres, Tryd.results21, sresL, sres1, AS.get, Lift.look, Nat.reduceEqDiff, ↓reduceIte, reduceCtorEq, Option.getD_some, ty50, Heap.get_put, Nat.zero_add, stC_len hb, Nat.le_refl, okOne, TK.isAgg, Nat.reduceBEq, Bool.or_false, and_self, Lift.valOf, List.drop_zero, stC_all hb, Option.some.injEq, exists_eq_left']
      exact ⟨_, HSub.to (hdrop (hdrop (hdrop (hself _) nQ) nR) nQ), exit0 hfl hdl (by rw [← hrun, runS_out h0 e])⟩
    by_cases hp1 : (code.length : Int) ≤ b.pc
    · have e : stepS code b = .out b 3 b.pc := by unfold stepS; rw [if_pos (.inr hp1)]
      refine SW.run [] _ ?_
      simp only [wpC, mayStop, stops, isFlt, Specs.has, Specs.hasO, Bool.or_false, Bool.not_false, List.any_cons, List.any_nil, Bool.false_eq_true, ↓reduceIte, wpS, wantedA, okDst, Nat.reduceLT, decide_true, step1, isOwnCall, hxOp, px, pfieldAddr, fieldOf, ty50, fieldIn, List.getElem?_cons_succ, List.getElem?_cons_zero, ty3, Option.map_some, AS.eval, AS.get, Lift.look, reduceCtorEq, Option.getD_some, ne_eq, Nat.succ_ne_zero, not_false_eq_true, Nat.zero_add, AS.put, dropKey, Nat.reduceEqDiff, pload, Heap.get_put, okOne, TK.isAgg, beq_self_eq_true, Bool.or_true, Nat.reduceAdd, stC_len hb, Nat.le_refl, and_self, Lift.valOf, stC_st hb, List.getD_cons_zero, pbinP, ofConst, ofVal, pbinI, h0, thenQ, isB, tmpOf, asB, Nat.add_zero, Nat.reduceLeDiff, List.drop_zero, stC_pc, hp0, decide_false, List.getElem?_toArray, Option.bind_some, pcall, ty41, plen, el64_len, okLen, hp1, ppick_bool, hasAll, and_true, true_and]
      refine SW.regionAny2 [] [(0, []), (1, []), (2, [3]), (3, []), (4, []), (5, [])] rfl (by rfl) (by kernel_rfl) ?_
      simp only [wpO2, dynOK, LOp, List.getElem?_toArray, List.getElem?_cons_zero, okDst, Nat.reduceLT, decide_true, wantedA, ↓reduceIte, step1, isOwnCall, Bool.false_eq_true, hxOp, px, pload, ty50, AS.eval, AS.get, Lift.look, Nat.reduceEqDiff, reduceCtorEq, Option.getD_some, Heap.get_put, okOne, TK.isAgg, Nat.reduceBEq, Bool.or_false, Nat.zero_add, stC_len hb, Nat.le_refl, and_self, Lift.valOf, List.drop_zero, stC_all hb, List.getElem?_cons_succ, AS.put, dropKey, pfieldAddr, fieldOf, fieldIn, ty3, Option.map_some, ne_eq, Nat.succ_ne_zero, not_false_eq_true, Nat.add_zero, disj, ptrAt, ptrT, hrq, beq_self_eq_true, Bool.or_true, Nat.reduceLeDiff, stC_pc, List.getD_cons_zero, hx, hqr, known1, PV.cells, hz, splice, List.take_zero, List.nil_append, hz2, List.append_nil, ofConst, ofVal, thenQ, true_and]
      refine SW.run [] _ ?_
      simp only [wpC, thenQ, inQ, RPost, sres, Tryd.results21, sresL, sres1, AS.get, Lift.look, Nat.reduceEqDiff, ↓reduceIte, reduceCtorEq, Option.getD_some, ty50, Heap.get_put, Nat.zero_add, stC_len hb, Nat.le_refl, okOne, TK.isAgg, Nat.reduceBEq, Bool.or_false, and_self, Lift.valOf, List.drop_zero, stC_all hb, Option.some.injEq, exists_eq_left']
      exact ⟨_, HSub.to (hdrop (hdrop (hdrop (hself _) nQ) nR) nQ), exit0 hfl hdl (by rw [← hrun, runS_out h0 e])⟩
    have hpl : b.pc.toNat < code.length := by omega
    have hpn : 0 ≤ b.pc := by omega
    have hw := el64_getD hpl
    have hwr : -9223372036854775808 ≤ code.getD b.pc.toNat 0 ∧ code.getD b.pc.toNat 0 < 9223372036854775808 := hcw _ (by
      rw [List.getD_eq_getElem?_getD, List.getElem?_eq_getElem hpl]
      exact List.getElem_mem hpl)
    refine SW.run [] _ ?_
    simp only [wpC, mayStop, stops, isFlt, Specs.has, Specs.hasO, Bool.or_false, Bool.not_false, List.any_cons, List.any_nil, Bool.false_eq_true, ↓reduceIte, wpS, wantedA, okDst, Nat.reduceLT, decide_true, step1, isOwnCall, hxOp, px, pfieldAddr, fieldOf, ty50, fieldIn, List.getElem?_cons_succ, List.getElem?_cons_zero, ty3, Option.map_some, AS.eval, AS.get, Lift.look, reduceCtorEq, Option.getD_some, ne_eq, Nat.succ_ne_zero, not_false_eq_true, Nat.zero_add, AS.put, dropKey, Nat.reduceEqDiff, pload, Heap.get_put, okOne, TK.isAgg, beq_self_eq_true, Bool.or_true, Nat.reduceAdd, stC_len hb, Nat.le_refl, and_self, Lift.valOf, stC_st hb, List.getD_cons_zero, pbinP, ofConst, ofVal, pbinI, h0, thenQ, isB, tmpOf, asB, Nat.add_zero, Nat.reduceLeDiff, List.drop_zero, stC_pc, hp0, decide_false, List.getElem?_toArray, Option.bind_some, pcall, ty41, plen, el64_len, okLen, hp1, ppick_bool, hasAll, and_true, true_and]
    by_cases hi : ¬ isW (code.getD b.pc.toNat 0) = true
    · have e : stepS code b = .out b 4 b.pc := by unfold stepS; rw [if_neg (by omega), if_neg hi]
      have hdec : decS (code.getD b.pc.toNat 0) = .tuple [.agg [.int .i64 0, .int .i64 0, .int .i64 0, .int .i64 0, .int .i64 0], .int .i64 2] := by unfold decS; rw [if_neg hi]; rfl
      refine SW.run [eDecodeR] _ ?_
      simp only [wpC, mayStop, stops, isFlt, Specs.has, eDecodeR, Specs.hasO, Nat.reduceLeDiff, Nat.reduceSub, false_and, ↓reduceIte, Bool.or_false, List.any_cons, Bool.not_true, List.any_nil, Bool.false_eq_true, wpS, wantedA, okDst, Nat.reduceLT, decide_true, step1, isOwnCall, hxOp, px, AS.eval, AS.get, Lift.look, Nat.succ_ne_zero, Option.getD_some, AS.put, dropKey, Nat.reduceEqDiff, reduceCtorEq, pfieldAddr, fieldOf, ty50, fieldIn, List.getElem?_cons_zero, ty3, Option.map_some, ne_eq, not_false_eq_true, Nat.add_zero, pload, Heap.get_put, okOne, TK.isAgg, beq_self_eq_true, Bool.or_true, Nat.zero_add, stC_len hb, and_self, Lift.valOf, List.drop_zero, stC_pc, List.getD_cons_zero, pindexAddr, ty41, hpn, el64_len, hpl, hw, List.length_cons, List.length_nil, Nat.le_refl, List.take_succ_cons, List.take_nil, pcall, okArg, ofConst, ofVal, List.all_cons, List.all_nil, Bool.and_true, Specs.at, List.map_cons, List.map_nil, sDecodeR, hwr, hdec, List.getElem?_cons_succ, okAlloc, ty25, okZero, Value.oneCell', some_none, hx, zeroOf, Nat.reduceAdd, known1, PV.cells, splice, List.take_zero, List.nil_append, List.drop_succ_cons, List.drop_nil, List.append_nil, thenQ, pbinP, pbinI, Int.reduceBNe, isB, tmpOf, asB, true_and]
      rintro d ⟨hdr, hdq, hdn⟩
      have hrd : ¬ r = d := fun e => hdr e.symm
      have hqd : ¬ q = d := fun e => hdq e.symm
      refine SW.regionAny2 [] [(0, []), (1, []), (2, [3]), (3, []), (4, []), (5, [])] rfl (by rfl) (by kernel_rfl) ?_
      simp only [wpO2, dynOK, LOp, List.getElem?_toArray, List.getElem?_cons_zero, okDst, Nat.reduceLT, decide_true, wantedA, ↓reduceIte, step1, isOwnCall, Bool.false_eq_true, hxOp, px, pload, ty50, AS.eval, AS.get, Lift.look, Nat.reduceEqDiff, reduceCtorEq, Option.getD_some, Heap.get_put, hrd, okOne, TK.isAgg, Nat.reduceBEq, Bool.or_false, Nat.zero_add, stC_len hb, Nat.le_refl, and_self, Lift.valOf, List.drop_zero, stC_all hb, List.getElem?_cons_succ, AS.put, dropKey, pfieldAddr, fieldOf, fieldIn, ty3, Option.map_some, ne_eq, Nat.succ_ne_zero, not_false_eq_true, Nat.add_zero, disj, ptrAt, ptrT, hrq, beq_self_eq_true, Bool.or_true, Nat.reduceLeDiff, stC_pc, List.getD_cons_zero, hx, hqd, hqr, known1, PV.cells, hz, splice, List.take_zero, List.nil_append, hz2, List.append_nil, ofConst, ofVal, thenQ, true_and]
      refine SW.run [] _ ?_
      simp only [wpC, thenQ, inQ, RPost, sres, Tryd.results21, sresL, sres1, AS.get, Lift.look, Nat.reduceEqDiff, ↓reduceIte, reduceCtorEq, Option.getD_some, ty50, Heap.get_put, Nat.zero_add, stC_len hb, Nat.le_refl, okOne, TK.isAgg, Nat.reduceBEq, Bool.or_false, and_self, Lift.valOf, List.drop_zero, stC_all hb, Option.some.injEq, exists_eq_left']
      exact ⟨_, HSub.to (hdrop (hdrop (hdrop (hdrop (hdrop (hself _) nQ) nR) hdn) hdn) nQ), exit0 hfl hdl (by rw [← hrun, runS_out h0 e])⟩
    have hi : isW (code.getD b.pc.toNat 0) = true := Classical.not_not.1 hi
    obtain ⟨o, a, x, c, i, hdec, hstep, ⟨ho0, ho1, ha0, ha1, hx0, hx1, hc0, hc1⟩, hmb, hi0, hi1⟩ : ∃ o a x c i, decS (code.getD b.pc.toNat 0) = .tuple [.agg [.int .i64 o, .int .i64 a, .int .i64 x, .int .i64 c, .int .i64 i], .int .i64 0] ∧ stepS code b = execS b o a x c i ∧ inR o a x c ∧ (4 ≤ o ∧ o ≤ 7 → x = 0 ∨ x = 1) ∧ -2147483648 ≤ i ∧ i ≤ 2147483647 := by
      obtain ⟨k1, k2, k3, k4⟩ := isW_spec hi
      refine ⟨_, _, _, _, _, by unfold decS; rw [if_pos hi]; rfl, by unfold stepS; rw [if_neg (by omega), if_pos hi], k1, k2, k3, k4⟩
    have hpc : IntKind.i64.wrap (b.pc + 1) = b.pc + 1 := w64 (by omega) (by omega)
    have hst1 : IntKind.i64.wrap (b.st - 1) = b.st - 1 := by have := hok.st1; exact w64 (by omega) (by omega)
    have ha : a < 16 := by omega
    have hx : x < 16 := by omega
    have hc : c < 16 := by omega
    have ha2 : 1 + a.toNat + 1 ≤ 20 := by omega
    have hx2 : 1 + x.toNat + 1 ≤ 20 := by omega
    have hc2 : 1 + c.toNat + 1 ≤ 20 := by omega
    refine SW.run [eDecodeR] _ ?_
    simp only [wpC, mayStop, stops, isFlt, Specs.has, eDecodeR, Specs.hasO, Nat.reduceLeDiff, Nat.reduceSub, false_and, ↓reduceIte, Bool.or_false, List.any_cons, Bool.not_true, List.any_nil, Bool.false_eq_true, wpS, wantedA, okDst, Nat.reduceLT, decide_true, step1, isOwnCall, hxOp, px, AS.eval, AS.get, Lift.look, Nat.succ_ne_zero, Option.getD_some, AS.put, dropKey, Nat.reduceEqDiff, reduceCtorEq, pfieldAddr, fieldOf, ty50, fieldIn, List.getElem?_cons_zero, ty3, Option.map_some, ne_eq, not_false_eq_true, Nat.add_zero, pload, Heap.get_put, okOne, TK.isAgg, beq_self_eq_true, Bool.or_true, Nat.zero_add, stC_len hb, and_self, Lift.valOf, List.drop_zero, stC_pc, List.getD_cons_zero, pindexAddr, ty41, hpn, el64_len, hpl, hw, List.length_cons, List.length_nil, Nat.le_refl, List.take_succ_cons, List.take_nil, pcall, okArg, ofConst, ofVal, List.all_cons, List.all_nil, Bool.and_true, Specs.at, List.map_cons, List.map_nil, sDecodeR, hwr, hdec, List.getElem?_cons_succ, okAlloc, ty25, okZero, Value.oneCell', some_none, Lift.hx, zeroOf, Nat.reduceAdd, known1, PV.cells, splice, List.take_zero, List.nil_append, List.drop_succ_cons, List.drop_nil, List.append_nil, thenQ, pbinP, pbinI, Int.reduceBNe, isB, tmpOf, asB, true_and]
    rintro d ⟨hdr, hdq, hdn⟩
    have hrd : ¬ r = d := fun e => hdr e.symm
    have hqd : ¬ q = d := fun e => hdq e.symm
    refine SW.enter (n := 176) (l := [(0, .list 1 (el64 code)), (3, .val (.pointer (some ⟨r, 0, none⟩))), (4, .val (.pointer (some ⟨q, 0, none⟩))), (7, .val (.pointer (some ⟨d, 0, none⟩)))])
      (H := (((mems o1 o2 b h).put q (.cells 50 20 zSt)).put r (.cells 50 20 (stC b.pc b.rg F D b.st))).put d (.cells 25 5 [.int .i64 o, .int .i64 a, .int .i64 x, .int .i64 c, .int .i64 i])) rfl (HTo_eq (by dsimp only; rw [Heap.put_put])) ⟨rfl, rfl, rfl, rfl, trivial⟩ ?_
    clear hw hdec
    by_cases k0 : o = 0
    · have e : execS b o a x c i = .out { b with st := b.st - 1 } 0 i := by unfold execS; rw [if_pos k0]
      subst k0
      refine SW.run [] _ ?_
      simp only [wpC, mayStop, stops, isFlt, Specs.has, Specs.hasO, Bool.or_false, Bool.not_false, List.any_cons, List.any_nil, ty3, Bool.or_true, ↓reduceIte, Bool.false_eq_true, wpS, wantedA, okDst, Nat.reduceLT, decide_true, step1, isOwnCall, hxOp, px, pfieldAddr, fieldOf, ty25, fieldIn, List.getElem?_cons_zero, Option.map_some, AS.eval, AS.get, Lift.look, reduceCtorEq, Nat.reduceEqDiff, Option.getD_some, ne_eq, Nat.succ_ne_zero, not_false_eq_true, Nat.add_zero, AS.put, dropKey, pload, Heap.get_put, okOne, TK.isAgg, beq_self_eq_true, Nat.zero_add, List.length_cons, List.length_nil, Nat.reduceAdd, Nat.reduceLeDiff, and_self, Lift.valOf, List.drop_zero, List.take_succ_cons, List.take_zero, List.getD_cons_zero, pbinP, ofConst, ofVal, pbinI, thenQ, isB, tmpOf, asB, ty50, List.getElem?_cons_succ, hrd, stC_len hb, Nat.le_refl, stC_st hb, hst1, Lift.hx, known1, PV.cells, splice, stC_setst hb, stC_none hb, List.append_nil, true_and]
      refine SW.regionAny2 [] [(0, []), (1, []), (2, [3]), (3, []), (4, []), (5, [])] rfl (by rfl) (by kernel_rfl) ?_
      simp only [wpO2, dynOK, LOp, List.getElem?_toArray, List.getElem?_cons_zero, okDst, Nat.reduceLT, decide_true, wantedA, ↓reduceIte, step1, isOwnCall, Bool.false_eq_true, hxOp, px, pload, ty50, AS.eval, AS.get, Lift.look, Nat.reduceEqDiff, reduceCtorEq, Option.getD_some, Heap.get_put, okOne, TK.isAgg, Nat.reduceBEq, Bool.or_false, Nat.zero_add, stC_len hb, Nat.le_refl, and_self, Lift.valOf, List.drop_zero, stC_all hb, List.getElem?_cons_succ, AS.put, dropKey, pfieldAddr, fieldOf, ty25, fieldIn, ty3, Option.map_some, ne_eq, Nat.succ_ne_zero, not_false_eq_true, disj, ptrAt, ptrT, hdq, hdr, beq_self_eq_true, Bool.or_true, Nat.reduceAdd, List.length_cons, List.length_nil, List.drop_succ_cons, List.take_succ_cons, List.take_nil, List.getD_cons_zero, Lift.hx, hqr, hqd, known1, PV.cells, hz, splice, List.take_zero, List.nil_append, hz2, List.append_nil, ofConst, ofVal, thenQ, true_and]
      refine SW.run [] _ ?_
      simp only [wpC, thenQ, inQ, RPost, sres, Tryd.results21, sresL, sres1, AS.get, Lift.look, Nat.reduceEqDiff, ↓reduceIte, reduceCtorEq, Option.getD_some, ty50, Heap.get_put, Nat.zero_add, stC_len hb, Nat.le_refl, okOne, TK.isAgg, Nat.reduceBEq, Bool.or_false, and_self, Lift.valOf, List.drop_zero, stC_all hb, Option.some.injEq, exists_eq_left']
      have hb1 := hok.st1
      exact ⟨_, HSub.to (hdrop (hdrop (hdrop (hdrop (hdrop (hself _) nQ) nR) hdn) nR) nQ), exit0 (b' := { b with st := b.st - 1 }) hfl hdl (by rw [← hrun, runS_out h0 (hstep.trans e)])⟩
    have k0' : (o == 0) = false := by simpa using k0
    refine SW.seq (SW.run [] _ ?_)
    simp only [wpC, mayStop, stops, isFlt, Specs.has, Specs.hasO, Bool.or_false, Bool.not_false, List.any_cons, List.any_nil, Bool.false_eq_true, ↓reduceIte, wpS, wantedA, okDst, Nat.reduceLT, decide_true, step1, isOwnCall, hxOp, px, pfieldAddr, fieldOf, ty25, fieldIn, List.getElem?_cons_zero, ty3, Option.map_some, AS.eval, AS.get, Lift.look, reduceCtorEq, Nat.reduceEqDiff, Option.getD_some, ne_eq, Nat.succ_ne_zero, not_false_eq_true, Nat.add_zero, AS.put, dropKey, pload, Heap.get_put, okOne, TK.isAgg, beq_self_eq_true, Bool.or_true, Nat.zero_add, List.length_cons, List.length_nil, Nat.reduceAdd, Nat.reduceLeDiff, and_self, Lift.valOf, List.drop_zero, List.take_succ_cons, List.take_zero, List.getD_cons_zero, pbinP, ofConst, ofVal, pbinI, k0', thenQ, isB, tmpOf, asB, true_and]
    refine SW.cut (MidW code h o1 o2 F D r q (.cells 50 20 zSt) b) ?_ ?_
    rotate_left
    · rintro a1 ⟨s1, e, h16, hn, ht, hs⟩
      refine SW.enter (n := 176) (l := [(0, .list 1 (el64 code)), (3, .val (.pointer (some ⟨r, 0, none⟩))), (4, .val (.pointer (some ⟨q, 0, none⟩)))]) hn ht hs ?_
      have hb2 : (s1.rg.set 0 0).length = 16 := by rw [List.length_set]; exact h16
      refine SW.seq (SW.run [] _ ?_)
      simp only [wpC, Bool.false_eq_true, ↓reduceIte, wpS, stops, wantedA, okDst, Nat.reduceLT, decide_true, step1, isOwnCall, hxOp, px, pfieldAddr, fieldOf, ty50, fieldIn, List.getElem?_cons_succ, List.getElem?_cons_zero, ty42, Option.map_some, AS.eval, AS.get, Lift.look, reduceCtorEq, Option.getD_some, ne_eq, Nat.succ_ne_zero, not_false_eq_true, Nat.zero_add, AS.put, dropKey, Nat.reduceEqDiff, pindexAddr, ty2, ofConst, ofVal, Int.reduceLE, Int.cast_ofNat_Int, Int.reduceLT, and_self, Int.reduceToNat, Nat.reduceMul, Nat.add_zero, Lift.hx, Heap.get_put, known1, PV.cells, List.length_cons, List.length_nil, Nat.reduceAdd, stC_len h16, Nat.reduceLeDiff, splice, stC_pc, List.cons_append, List.nil_append, stC_set0 h16, thenQ, true_and]
      refine SW.run [] _ ?_
      simp only [wpC, Bool.false_eq_true, ↓reduceIte, wpS, stops, wantedA, okDst, Nat.reduceLT, decide_true, step1, isOwnCall, hxOp, px, pfieldAddr, fieldOf, ty50, fieldIn, List.getElem?_cons_succ, List.getElem?_cons_zero, ty3, Option.map_some, AS.eval, AS.get, Lift.look, Nat.reduceEqDiff, reduceCtorEq, Option.getD_some, ne_eq, Nat.succ_ne_zero, not_false_eq_true, Nat.zero_add, AS.put, dropKey, pload, Heap.get_put, okOne, TK.isAgg, beq_self_eq_true, Bool.or_true, Nat.reduceAdd, stC_len hb2, Nat.le_refl, and_self, Lift.valOf, stC_st hb2, List.getD_cons_zero, isFlt, pbinP, ofConst, ofVal, pbinI, hst1, Lift.hx, known1, PV.cells, List.length_cons, List.length_nil, splice, stC_setst hb2, stC_none hb2, List.append_nil, inQ, thenQ, and_true, true_and]
      obtain ⟨g1, g2⟩ := goInv hok h0 e hfl hdl hrun
      refine ⟨_, g1, g2, HTo_eq (funext fun j => ?_)⟩
      by_cases e1 : j = r
      · subst e1
        simp only [Heap.put_same]
      · simp only [Heap.put_ne _ _ e1]
        rfl
    by_cases k4 : 4 ≤ o ∧ o ≤ 7
    · have ho : o = 4 ∨ o = 5 ∨ o = 6 ∨ o = 7 := by omega
      rcases hmb k4 with rfl | rfl
      · have hmm : b.mem 0 = b.fr := rfl
        by_cases hrng : i < 0 ∨ ((b.fr).length : Int) ≤ i
        · have e : execS b o a 0 c i = .out b (if o = 4 ∨ o = 5 then 1 else 2) i := by unfold execS; rw [if_neg k0, if_pos k4, hmm, if_pos hrng]
          rcases ovP_slice (c := c1) ok1b with ⟨hv, hv0⟩ | ⟨A, cap, hv⟩
          · rw [hF] at hv
            subst hv
            by_cases hA : i < 0
            · rcases ho with rfl | rfl | rfl | rfl
              all_goals refine SW.run [] _ ?_
              all_goals simp only [wpC, mayStop, stops, isFlt, Specs.has, Specs.hasO, Bool.or_false, Bool.not_false, List.any_cons, List.any_nil, Bool.false_eq_true, ↓reduceIte, wpS, wantedA, okDst, Nat.reduceLT, decide_true, step1, isOwnCall, hxOp, px, pfieldAddr, fieldOf, ty25, fieldIn, List.getElem?_cons_zero, ty3, Option.map_some, AS.eval, AS.get, Lift.look, Nat.reduceEqDiff, reduceCtorEq, Option.getD_some, ne_eq, Nat.succ_ne_zero, not_false_eq_true, Nat.add_zero, AS.put, dropKey, pload, Heap.get_put, okOne, TK.isAgg, beq_self_eq_true, Bool.or_true, Nat.zero_add, List.length_cons, List.length_nil, Nat.reduceAdd, Nat.reduceLeDiff, and_self, Lift.valOf, List.drop_zero, List.take_succ_cons, List.take_zero, List.getD_cons_zero, pbinP, ofConst, ofVal, pbinI, Int.reduceLE, List.getElem?_toArray, List.getElem?_cons_succ, Option.bind_some, ppick_bool, thenQ, isB, tmpOf, asB, ty50, ty43, hrd, stC_len hb, stC_fr hb, List.drop_succ_cons, Int.reduceBEq, Nat.le_refl, List.take_nil, hA, beq_tf, Option.some.injEq, ppick_true, Int.reduceLT, true_and, decide_false]
              all_goals first | refine SW.regionAny2 [] [(0, []), (1, []), (2, [3]), (3, []), (4, []), (5, [])] rfl (by rfl) (by kernel_rfl) ?_ | refine SW.seq (SW.regionAny2 [] [(0, []), (1, []), (2, [3]), (3, []), (4, []), (5, [])] rfl (by rfl) (by kernel_rfl) ?_)
              all_goals simp only [wpO2, dynOK, LOp, List.getElem?_toArray, List.getElem?_cons_zero, okDst, Nat.reduceLT, decide_true, wantedA, ↓reduceIte, step1, isOwnCall, Bool.false_eq_true, hxOp, px, pload, ty50, AS.eval, AS.get, Lift.look, Nat.reduceEqDiff, reduceCtorEq, Option.getD_some, Heap.get_put, hrd, okOne, TK.isAgg, Nat.reduceBEq, Bool.or_false, Nat.zero_add, stC_len hb, Nat.le_refl, and_self, Lift.valOf, List.drop_zero, stC_all hb, List.getElem?_cons_succ, AS.put, dropKey, pfieldAddr, fieldOf, ty25, fieldIn, ty3, Option.map_some, ne_eq, Nat.succ_ne_zero, not_false_eq_true, disj, ptrAt, ptrT, hdq, beq_self_eq_true, Bool.or_true, Nat.reduceAdd, List.length_cons, List.length_nil, List.drop_succ_cons, List.take_succ_cons, List.take_nil, List.getD_cons_zero, Lift.hx, hqd, hqr, known1, PV.cells, hz, splice, List.take_zero, List.nil_append, hz2, List.append_nil, ofConst, ofVal, thenQ, true_and]
              all_goals refine SW.run [] _ ?_
              all_goals simp only [wpC, thenQ, inQ, RPost, sres, Tryd.results21, sresL, sres1, AS.get, Lift.look, Nat.reduceEqDiff, ↓reduceIte, reduceCtorEq, Option.getD_some, ty50, Heap.get_put, Nat.zero_add, stC_len hb, Nat.le_refl, okOne, TK.isAgg, Nat.reduceBEq, Bool.or_false, and_self, Lift.valOf, List.drop_zero, stC_all hb, Option.some.injEq, exists_eq_left']
              all_goals exact ⟨_, HSub.to (hdrop (hdrop (hdrop (hdrop (hself _) nQ) nR) hdn) nQ), exit0 hfl hdl (by rw [← hrun, runS_out h0 (hstep.trans e)]; rfl)⟩
            · have hB : 0 ≤ i := by omega
              rcases ho with rfl | rfl | rfl | rfl
              all_goals refine SW.run [] _ ?_
              all_goals simp only [wpC, mayStop, stops, isFlt, Specs.has, Specs.hasO, Bool.or_false, Bool.not_false, List.any_cons, List.any_nil, Bool.false_eq_true, ↓reduceIte, wpS, wantedA, okDst, Nat.reduceLT, decide_true, step1, isOwnCall, hxOp, px, pfieldAddr, fieldOf, ty25, fieldIn, List.getElem?_cons_zero, ty3, Option.map_some, AS.eval, AS.get, Lift.look, Nat.reduceEqDiff, reduceCtorEq, Option.getD_some, ne_eq, Nat.succ_ne_zero, not_false_eq_true, Nat.add_zero, AS.put, dropKey, pload, Heap.get_put, okOne, TK.isAgg, beq_self_eq_true, Bool.or_true, Nat.zero_add, List.length_cons, List.length_nil, Nat.reduceAdd, Nat.reduceLeDiff, and_self, Lift.valOf, List.drop_zero, List.take_succ_cons, List.take_zero, List.getD_cons_zero, pbinP, ofConst, ofVal, pbinI, Int.reduceLE, List.getElem?_toArray, List.getElem?_cons_succ, Option.bind_some, ppick_bool, thenQ, isB, tmpOf, asB, ty50, ty43, hrd, stC_len hb, stC_fr hb, List.drop_succ_cons, Int.reduceBEq, Nat.le_refl, List.take_nil, hA, decide_false, pcall, plen, okLen, Int.cast_ofNat_Int, hB, Int.reduceLT, true_and]
              all_goals first | refine SW.regionAny2 [] [(0, []), (1, []), (2, [3]), (3, []), (4, []), (5, [])] rfl (by rfl) (by kernel_rfl) ?_ | refine SW.seq (SW.regionAny2 [] [(0, []), (1, []), (2, [3]), (3, []), (4, []), (5, [])] rfl (by rfl) (by kernel_rfl) ?_)
              all_goals simp only [wpO2, dynOK, LOp, List.getElem?_toArray, List.getElem?_cons_zero, okDst, Nat.reduceLT, decide_true, wantedA, ↓reduceIte, step1, isOwnCall, Bool.false_eq_true, hxOp, px, pload, ty50, AS.eval, AS.get, Lift.look, Nat.reduceEqDiff, reduceCtorEq, Option.getD_some, Heap.get_put, hrd, okOne, TK.isAgg, Nat.reduceBEq, Bool.or_false, Nat.zero_add, stC_len hb, Nat.le_refl, and_self, Lift.valOf, List.drop_zero, stC_all hb, List.getElem?_cons_succ, AS.put, dropKey, pfieldAddr, fieldOf, ty25, fieldIn, ty3, Option.map_some, ne_eq, Nat.succ_ne_zero, not_false_eq_true, disj, ptrAt, ptrT, hdq, beq_self_eq_true, Bool.or_true, Nat.reduceAdd, List.length_cons, List.length_nil, List.drop_succ_cons, List.take_succ_cons, List.take_nil, List.getD_cons_zero, Lift.hx, hqd, hqr, known1, PV.cells, hz, splice, List.take_zero, List.nil_append, hz2, List.append_nil, ofConst, ofVal, thenQ, true_and]
              all_goals refine SW.run [] _ ?_
              all_goals simp only [wpC, thenQ, inQ, RPost, sres, Tryd.results21, sresL, sres1, AS.get, Lift.look, Nat.reduceEqDiff, ↓reduceIte, reduceCtorEq, Option.getD_some, ty50, Heap.get_put, Nat.zero_add, stC_len hb, Nat.le_refl, okOne, TK.isAgg, Nat.reduceBEq, Bool.or_false, and_self, Lift.valOf, List.drop_zero, stC_all hb, Option.some.injEq, exists_eq_left']
              all_goals exact ⟨_, HSub.to (hdrop (hdrop (hdrop (hdrop (hself _) nQ) nR) hdn) nQ), exit0 hfl hdl (by rw [← hrun, runS_out h0 (hstep.trans e)]; rfl)⟩
          · rw [hF] at hv
            subst hv
            by_cases hA : i < 0
            · rcases ho with rfl | rfl | rfl | rfl
              all_goals refine SW.run [] _ ?_
              all_goals simp only [wpC, mayStop, stops, isFlt, Specs.has, Specs.hasO, Bool.or_false, Bool.not_false, List.any_cons, List.any_nil, Bool.false_eq_true, ↓reduceIte, wpS, wantedA, okDst, Nat.reduceLT, decide_true, step1, isOwnCall, hxOp, px, pfieldAddr, fieldOf, ty25, fieldIn, List.getElem?_cons_zero, ty3, Option.map_some, AS.eval, AS.get, Lift.look, Nat.reduceEqDiff, reduceCtorEq, Option.getD_some, ne_eq, Nat.succ_ne_zero, not_false_eq_true, Nat.add_zero, AS.put, dropKey, pload, Heap.get_put, okOne, TK.isAgg, beq_self_eq_true, Bool.or_true, Nat.zero_add, List.length_cons, List.length_nil, Nat.reduceAdd, Nat.reduceLeDiff, and_self, Lift.valOf, List.drop_zero, List.take_succ_cons, List.take_zero, List.getD_cons_zero, pbinP, ofConst, ofVal, pbinI, Int.reduceLE, List.getElem?_toArray, List.getElem?_cons_succ, Option.bind_some, ppick_bool, thenQ, isB, tmpOf, asB, ty50, ty43, hrd, stC_len hb, stC_fr hb, List.drop_succ_cons, Int.reduceBEq, Nat.le_refl, List.take_nil, hA, beq_tf, Option.some.injEq, ppick_true, Int.reduceLT, true_and, decide_false]
              all_goals first | refine SW.regionAny2 [] [(0, []), (1, []), (2, [3]), (3, []), (4, []), (5, [])] rfl (by rfl) (by kernel_rfl) ?_ | refine SW.seq (SW.regionAny2 [] [(0, []), (1, []), (2, [3]), (3, []), (4, []), (5, [])] rfl (by rfl) (by kernel_rfl) ?_)
              all_goals simp only [wpO2, dynOK, LOp, List.getElem?_toArray, List.getElem?_cons_zero, okDst, Nat.reduceLT, decide_true, wantedA, ↓reduceIte, step1, isOwnCall, Bool.false_eq_true, hxOp, px, pload, ty50, AS.eval, AS.get, Lift.look, Nat.reduceEqDiff, reduceCtorEq, Option.getD_some, Heap.get_put, hrd, okOne, TK.isAgg, Nat.reduceBEq, Bool.or_false, Nat.zero_add, stC_len hb, Nat.le_refl, and_self, Lift.valOf, List.drop_zero, stC_all hb, List.getElem?_cons_succ, AS.put, dropKey, pfieldAddr, fieldOf, ty25, fieldIn, ty3, Option.map_some, ne_eq, Nat.succ_ne_zero, not_false_eq_true, disj, ptrAt, ptrT, hdq, beq_self_eq_true, Bool.or_true, Nat.reduceAdd, List.length_cons, List.length_nil, List.drop_succ_cons, List.take_succ_cons, List.take_nil, List.getD_cons_zero, Lift.hx, hqd, hqr, known1, PV.cells, hz, splice, List.take_zero, List.nil_append, hz2, List.append_nil, ofConst, ofVal, thenQ, true_and]
              all_goals refine SW.run [] _ ?_
              all_goals simp only [wpC, thenQ, inQ, RPost, sres, Tryd.results21, sresL, sres1, AS.get, Lift.look, Nat.reduceEqDiff, ↓reduceIte, reduceCtorEq, Option.getD_some, ty50, Heap.get_put, Nat.zero_add, stC_len hb, Nat.le_refl, okOne, TK.isAgg, Nat.reduceBEq, Bool.or_false, and_self, Lift.valOf, List.drop_zero, stC_all hb, Option.some.injEq, exists_eq_left']
              all_goals exact ⟨_, HSub.to (hdrop (hdrop (hdrop (hdrop (hself _) nQ) nR) hdn) nQ), exit0 hfl hdl (by rw [← hrun, runS_out h0 (hstep.trans e)]; rfl)⟩
            · have hB : ((s.fr.length : Nat) : Int) ≤ i := by rw [← hfl]; omega
              rcases ho with rfl | rfl | rfl | rfl
              all_goals refine SW.run [] _ ?_
              all_goals simp only [wpC, mayStop, stops, isFlt, Specs.has, Specs.hasO, Bool.or_false, Bool.not_false, List.any_cons, List.any_nil, Bool.false_eq_true, ↓reduceIte, wpS, wantedA, okDst, Nat.reduceLT, decide_true, step1, isOwnCall, hxOp, px, pfieldAddr, fieldOf, ty25, fieldIn, List.getElem?_cons_zero, ty3, Option.map_some, AS.eval, AS.get, Lift.look, Nat.reduceEqDiff, reduceCtorEq, Option.getD_some, ne_eq, Nat.succ_ne_zero, not_false_eq_true, Nat.add_zero, AS.put, dropKey, pload, Heap.get_put, okOne, TK.isAgg, beq_self_eq_true, Bool.or_true, Nat.zero_add, List.length_cons, List.length_nil, Nat.reduceAdd, Nat.reduceLeDiff, and_self, Lift.valOf, List.drop_zero, List.take_succ_cons, List.take_zero, List.getD_cons_zero, pbinP, ofConst, ofVal, pbinI, Int.reduceLE, List.getElem?_toArray, List.getElem?_cons_succ, Option.bind_some, ppick_bool, thenQ, isB, tmpOf, asB, ty50, ty43, hrd, stC_len hb, stC_fr hb, List.drop_succ_cons, Int.reduceBEq, Nat.le_refl, List.take_nil, hA, decide_false, pcall, plen, okLen, hB, Int.reduceLT, true_and]
              all_goals first | refine SW.regionAny2 [] [(0, []), (1, []), (2, [3]), (3, []), (4, []), (5, [])] rfl (by rfl) (by kernel_rfl) ?_ | refine SW.seq (SW.regionAny2 [] [(0, []), (1, []), (2, [3]), (3, []), (4, []), (5, [])] rfl (by rfl) (by kernel_rfl) ?_)
              all_goals simp only [wpO2, dynOK, LOp, List.getElem?_toArray, List.getElem?_cons_zero, okDst, Nat.reduceLT, decide_true, wantedA, ↓reduceIte, step1, isOwnCall, Bool.false_eq_true, hxOp, px, pload, ty50, AS.eval, AS.get, Lift.look, Nat.reduceEqDiff, reduceCtorEq, Option.getD_some, Heap.get_put, hrd, okOne, TK.isAgg, Nat.reduceBEq, Bool.or_false, Nat.zero_add, stC_len hb, Nat.le_refl, and_self, Lift.valOf, List.drop_zero, stC_all hb, List.getElem?_cons_succ, AS.put, dropKey, pfieldAddr, fieldOf, ty25, fieldIn, ty3, Option.map_some, ne_eq, Nat.succ_ne_zero, not_false_eq_true, disj, ptrAt, ptrT, hdq, beq_self_eq_true, Bool.or_true, Nat.reduceAdd, List.length_cons, List.length_nil, List.drop_succ_cons, List.take_succ_cons, List.take_nil, List.getD_cons_zero, Lift.hx, hqd, hqr, known1, PV.cells, hz, splice, List.take_zero, List.nil_append, hz2, List.append_nil, ofConst, ofVal, thenQ, true_and]
              all_goals refine SW.run [] _ ?_
              all_goals simp only [wpC, thenQ, inQ, RPost, sres, Tryd.results21, sresL, sres1, AS.get, Lift.look, Nat.reduceEqDiff, ↓reduceIte, reduceCtorEq, Option.getD_some, ty50, Heap.get_put, Nat.zero_add, stC_len hb, Nat.le_refl, okOne, TK.isAgg, Nat.reduceBEq, Bool.or_false, and_self, Lift.valOf, List.drop_zero, stC_all hb, Option.some.injEq, exists_eq_left']
              all_goals exact ⟨_, HSub.to (hdrop (hdrop (hdrop (hdrop (hself _) nQ) nR) hdn) nQ), exit0 hfl hdl (by rw [← hrun, runS_out h0 (hstep.trans e)]; rfl)⟩
        have hA : ¬ i < 0 := by omega
        have hB : ¬ ((s.fr.length : Nat) : Int) ≤ i := by rw [← hfl]; omega
        have hC : 0 ≤ i := by omega
        have hD0 : i < ((s.fr.length : Nat) : Int) := by omega
        have hE : i.toNat < (b.fr).length := by omega
        have hF0 : i.toNat + 1 ≤ (b.fr).length := by omega
        obtain ⟨k, cap, hv, hk, hput, hnk⟩ := mem_fr (okO_len ok1b hfl) (okO_len (okO_mem ok2b) hdl) (fun e => by rw [e] at hE; cases hE)
        have hkr := hnk r nR
        have hkq := hnk q nQ
        have hkd := hnk d hdn
        have hrk : ¬ r = k := fun e => hkr e.symm
        have hqk : ¬ q = k := fun e => hkq e.symm
        have hdk : ¬ d = k := fun e => hkd e.symm
        have hvF := ovP_some (c := c1) hv s.fr.length
        rw [hF] at hvF
        subst hvF
        have ho : (o = 4 ∨ o = 6) ∨ (o = 5 ∨ o = 7) := by omega
        rcases ho with ho | ho
        · have e : stepS code b = .go (b.wr a ((b.fr).getD i.toNat 0)) := by rw [hstep]; unfold execS; rw [if_neg k0, if_pos k4, hmm, if_neg hrng, if_pos ho]
          have hb1 : (b.rg.set a.toNat ((b.fr).getD i.toNat 0)).length = 16 := by rw [List.length_set]; exact hb
          rcases ho with rfl | rfl
          all_goals refine SW.run [] _ ?_
          all_goals simp only [wpC, mayStop, stops, isFlt, Specs.has, Specs.hasO, Bool.or_false, Bool.not_false, List.any_cons, List.any_nil, Bool.false_eq_true, ↓reduceIte, wpS, wantedA, okDst, Nat.reduceLT, decide_true, step1, isOwnCall, hxOp, px, pfieldAddr, fieldOf, ty25, fieldIn, List.getElem?_cons_zero, ty3, Option.map_some, AS.eval, AS.get, Lift.look, Nat.reduceEqDiff, reduceCtorEq, Option.getD_some, ne_eq, Nat.succ_ne_zero, not_false_eq_true, Nat.add_zero, AS.put, dropKey, pload, Heap.get_put, okOne, TK.isAgg, beq_self_eq_true, Bool.or_true, Nat.zero_add, List.length_cons, List.length_nil, Nat.reduceAdd, Nat.reduceLeDiff, and_self, Lift.valOf, List.drop_zero, List.take_succ_cons, List.take_zero, List.getD_cons_zero, pbinP, ofConst, ofVal, pbinI, Int.reduceLE, List.getElem?_toArray, List.getElem?_cons_succ, Option.bind_some, ppick_bool, thenQ, isB, tmpOf, asB, ty50, ty43, hrd, stC_len hb, stC_fr hb, List.drop_succ_cons, Int.reduceBEq, Nat.le_refl, List.take_nil, hA, decide_false, pcall, plen, okLen, hB, true_and]
          all_goals refine SW.run [] _ ?_
          all_goals simp only [wpC, mayStop, stops, isFlt, Specs.has, Specs.hasO, Bool.or_false, Bool.not_false, List.any_cons, List.any_nil, Bool.or_true, ↓reduceIte, Bool.false_eq_true, wpS, wantedA, okDst, Nat.reduceLT, decide_true, step1, isOwnCall, hxOp, px, pfieldAddr, fieldOf, ty25, fieldIn, List.getElem?_cons_zero, ty3, Option.map_some, AS.eval, AS.get, Lift.look, Nat.reduceEqDiff, reduceCtorEq, Option.getD_some, ne_eq, Nat.succ_ne_zero, not_false_eq_true, Nat.add_zero, AS.put, dropKey, pload, Heap.get_put, okOne, TK.isAgg, beq_self_eq_true, Nat.zero_add, List.length_cons, List.length_nil, Nat.reduceAdd, Nat.reduceLeDiff, and_self, Lift.valOf, List.drop_zero, List.take_succ_cons, List.take_zero, List.getD_cons_zero, pbinP, ofConst, ofVal, pbinI, Int.reduceEq, tm4, thenQ, isB, tmpOf, asB, true_and, tm6]
          all_goals refine SW.regionAny [] [[0, 1, 2, 3, 4, 5, 6, 7, 8, 9]] rfl (by rfl) (by kernel_rfl) ?_
          all_goals simp only [wpOL, wpO, LOp, List.getElem?_toArray, List.getElem?_cons_zero, okDst, Nat.reduceLT, decide_true, wantedA, ↓reduceIte, step1, isOwnCall, Bool.false_eq_true, hxOp, px, pfieldAddr, fieldOf, ty25, fieldIn, List.getElem?_cons_succ, ty3, Option.map_some, AS.eval, AS.get, Lift.look, Nat.reduceEqDiff, reduceCtorEq, Option.getD_some, ne_eq, Nat.succ_ne_zero, not_false_eq_true, Nat.zero_add, AS.put, dropKey, pload, Heap.get_put, okOne, TK.isAgg, beq_self_eq_true, Bool.or_true, Nat.reduceAdd, List.length_cons, List.length_nil, Nat.reduceLeDiff, and_self, Lift.valOf, List.drop_succ_cons, List.drop_zero, List.take_succ_cons, List.take_zero, List.getD_cons_zero, Nat.le_refl, List.take_nil, pindexAddr, ty43, ty2, hC, hD0, Nat.mul_one, hkd, hkr, hkq, hk, List.length_map, hF0, mget hE, ty50, ty42, ha0, Int.cast_ofNat_Int, ha, Lift.hx, hrd, known1, PV.cells, stC_len hb, ha2, splice, stC_setreg hb ha0 ha, thenQ, true_and]
          all_goals refine SW.run [] _ ?_
          all_goals simp only [wpC, Bool.false_eq_true, ↓reduceIte, wpS, stops, wantedA, okDst, Nat.reduceLT, decide_true, step1, isOwnCall, hxOp, px, pfieldAddr, fieldOf, ty50, fieldIn, List.getElem?_cons_zero, ty3, Option.map_some, AS.eval, AS.get, Lift.look, Nat.reduceEqDiff, reduceCtorEq, Option.getD_some, ne_eq, Nat.succ_ne_zero, not_false_eq_true, Nat.add_zero, AS.put, dropKey, pload, Heap.get_put, okOne, TK.isAgg, beq_self_eq_true, Bool.or_true, Nat.zero_add, stC_len hb1, Nat.reduceLeDiff, and_self, Lift.valOf, List.drop_zero, stC_pc, List.getD_cons_zero, isFlt, pbinP, ofConst, ofVal, pbinI, hpc, Lift.hx, known1, PV.cells, List.length_cons, List.length_nil, splice, List.take_zero, List.nil_append, List.cons_append, stC_setpc, thenQ, true_and]
          all_goals exact ⟨⟨b.pc + 1, b.rg.set a.toNat ((b.fr).getD i.toNat 0), b.fr, b.da, b.st⟩, e, hb1, rfl, midW1 hdn hdr hdq, ⟨rfl, rfl, rfl, trivial⟩⟩
        · have e : stepS code b = .go (b.sto 0 i (b.r a)) := by rw [hstep]; unfold execS; rw [if_neg k0, if_pos k4, hmm, if_neg hrng, if_neg (by omega)]
          rcases ho with rfl | rfl
          all_goals refine SW.run [] _ ?_
          all_goals simp only [wpC, mayStop, stops, isFlt, Specs.has, Specs.hasO, Bool.or_false, Bool.not_false, List.any_cons, List.any_nil, Bool.false_eq_true, ↓reduceIte, wpS, wantedA, okDst, Nat.reduceLT, decide_true, step1, isOwnCall, hxOp, px, pfieldAddr, fieldOf, ty25, fieldIn, List.getElem?_cons_zero, ty3, Option.map_some, AS.eval, AS.get, Lift.look, Nat.reduceEqDiff, reduceCtorEq, Option.getD_some, ne_eq, Nat.succ_ne_zero, not_false_eq_true, Nat.add_zero, AS.put, dropKey, pload, Heap.get_put, okOne, TK.isAgg, beq_self_eq_true, Bool.or_true, Nat.zero_add, List.length_cons, List.length_nil, Nat.reduceAdd, Nat.reduceLeDiff, and_self, Lift.valOf, List.drop_zero, List.take_succ_cons, List.take_zero, List.getD_cons_zero, pbinP, ofConst, ofVal, pbinI, Int.reduceLE, List.getElem?_toArray, List.getElem?_cons_succ, Option.bind_some, ppick_bool, thenQ, isB, tmpOf, asB, ty50, ty43, hrd, stC_len hb, stC_fr hb, List.drop_succ_cons, Int.reduceBEq, Nat.le_refl, List.take_nil, hA, decide_false, pcall, plen, okLen, hB, true_and]
          all_goals refine SW.run [] _ ?_
          all_goals simp only [wpC, mayStop, stops, isFlt, Specs.has, Specs.hasO, Bool.or_false, Bool.not_false, List.any_cons, List.any_nil, Bool.or_true, ↓reduceIte, Bool.false_eq_true, wpS, wantedA, okDst, Nat.reduceLT, decide_true, step1, isOwnCall, hxOp, px, pfieldAddr, fieldOf, ty25, fieldIn, List.getElem?_cons_zero, ty3, Option.map_some, AS.eval, AS.get, Lift.look, Nat.reduceEqDiff, reduceCtorEq, Option.getD_some, ne_eq, Nat.succ_ne_zero, not_false_eq_true, Nat.add_zero, AS.put, dropKey, pload, Heap.get_put, okOne, TK.isAgg, beq_self_eq_true, Nat.zero_add, List.length_cons, List.length_nil, Nat.reduceAdd, Nat.reduceLeDiff, and_self, Lift.valOf, List.drop_zero, List.take_succ_cons, List.take_zero, List.getD_cons_zero, pbinP, ofConst, ofVal, pbinI, Int.reduceEq, tm5, Int.reduceBEq, thenQ, isB, tmpOf, asB, true_and, tm7]
          all_goals refine SW.regionAny [] [[0, 1, 2, 3, 4, 5, 6, 7, 8, 9]] rfl (by rfl) (by kernel_rfl) ?_
          all_goals simp only [wpOL, wpO, LOp, List.getElem?_toArray, List.getElem?_cons_zero, okDst, Nat.reduceLT, decide_true, wantedA, ↓reduceIte, step1, isOwnCall, Bool.false_eq_true, hxOp, px, AS.eval, AS.get, Lift.look, Nat.reduceEqDiff, Option.getD_some, List.getElem?_cons_succ, AS.put, dropKey, reduceCtorEq, pfieldAddr, fieldOf, ty25, fieldIn, ty3, Option.map_some, ne_eq, Nat.succ_ne_zero, not_false_eq_true, Nat.zero_add, pload, Heap.get_put, okOne, TK.isAgg, beq_self_eq_true, Bool.or_true, Nat.reduceAdd, List.length_cons, List.length_nil, Nat.le_refl, and_self, Lift.valOf, List.drop_succ_cons, List.drop_zero, List.take_succ_cons, List.take_nil, List.getD_cons_zero, Nat.reduceLeDiff, List.take_zero, ty50, ty42, pindexAddr, ty2, ha0, Int.cast_ofNat_Int, ha, Nat.mul_one, hrd, stC_len hb, ha2, stC_reg hb ha0 ha, ty43, hC, hD0, Lift.hx, hkd, hkr, hkq, hk, known1, PV.cells, List.length_map, hF0, splice, mset hE, thenQ, true_and]
          all_goals refine SW.run [] _ ?_
          all_goals simp only [wpC, Bool.false_eq_true, ↓reduceIte, wpS, stops, wantedA, okDst, Nat.reduceLT, decide_true, step1, isOwnCall, hxOp, px, pfieldAddr, fieldOf, ty50, fieldIn, List.getElem?_cons_zero, ty3, Option.map_some, AS.eval, AS.get, Lift.look, Nat.reduceEqDiff, reduceCtorEq, Option.getD_some, ne_eq, Nat.succ_ne_zero, not_false_eq_true, Nat.add_zero, AS.put, dropKey, pload, Heap.get_put, hrk, hrd, okOne, TK.isAgg, beq_self_eq_true, Bool.or_true, Nat.zero_add, stC_len hb, Nat.reduceLeDiff, and_self, Lift.valOf, List.drop_zero, stC_pc, List.getD_cons_zero, isFlt, pbinP, ofConst, ofVal, pbinI, hpc, Lift.hx, known1, PV.cells, List.length_cons, List.length_nil, splice, List.take_zero, List.nil_append, List.cons_append, stC_setpc, thenQ, true_and]
          all_goals exact ⟨⟨b.pc + 1, b.rg, b.fr.set i.toNat (b.r a), b.da, b.st⟩, e, hb, rfl, by rw [hput ⟨b.pc + 1, b.rg, b.fr.set i.toNat (b.r a), b.da, b.st⟩ rfl]; exact midW2 hdn hdr hdq hkr hkq hkd, ⟨rfl, rfl, rfl, trivial⟩⟩
      · have hmm : b.mem 1 = b.da := rfl
        by_cases hrng : i < 0 ∨ ((b.da).length : Int) ≤ i
        · have e : execS b o a 1 c i = .out b (if o = 4 ∨ o = 5 then 1 else 2) i := by unfold execS; rw [if_neg k0, if_pos k4, hmm, if_pos hrng]
          rcases ovP_slice (c := c2) ok2b with ⟨hv, hv0⟩ | ⟨A, cap, hv⟩
          · rw [hD] at hv
            subst hv
            by_cases hA : i < 0
            · rcases ho with rfl | rfl | rfl | rfl
              all_goals refine SW.run [] _ ?_
              all_goals simp only [wpC, mayStop, stops, isFlt, Specs.has, Specs.hasO, Bool.or_false, Bool.not_false, List.any_cons, List.any_nil, Bool.false_eq_true, ↓reduceIte, wpS, wantedA, okDst, Nat.reduceLT, decide_true, step1, isOwnCall, hxOp, px, pfieldAddr, fieldOf, ty25, fieldIn, List.getElem?_cons_zero, ty3, Option.map_some, AS.eval, AS.get, Lift.look, Nat.reduceEqDiff, reduceCtorEq, Option.getD_some, ne_eq, Nat.succ_ne_zero, not_false_eq_true, Nat.add_zero, AS.put, dropKey, pload, Heap.get_put, okOne, TK.isAgg, beq_self_eq_true, Bool.or_true, Nat.zero_add, List.length_cons, List.length_nil, Nat.reduceAdd, Nat.reduceLeDiff, and_self, Lift.valOf, List.drop_zero, List.take_succ_cons, List.take_zero, List.getD_cons_zero, pbinP, ofConst, ofVal, pbinI, Int.reduceLE, List.getElem?_toArray, List.getElem?_cons_succ, Option.bind_some, ppick_bool, thenQ, isB, tmpOf, asB, ty50, ty43, hrd, stC_len hb, stC_fr hb, List.drop_succ_cons, stC_da hb, Nat.le_refl, List.take_nil, hA, beq_tf, Option.some.injEq, ppick_true, Int.reduceLT, true_and, decide_false]
              all_goals first | refine SW.regionAny2 [] [(0, []), (1, []), (2, [3]), (3, []), (4, []), (5, [])] rfl (by rfl) (by kernel_rfl) ?_ | refine SW.seq (SW.regionAny2 [] [(0, []), (1, []), (2, [3]), (3, []), (4, []), (5, [])] rfl (by rfl) (by kernel_rfl) ?_)
              all_goals simp only [wpO2, dynOK, LOp, List.getElem?_toArray, List.getElem?_cons_zero, okDst, Nat.reduceLT, decide_true, wantedA, ↓reduceIte, step1, isOwnCall, Bool.false_eq_true, hxOp, px, pload, ty50, AS.eval, AS.get, Lift.look, Nat.reduceEqDiff, reduceCtorEq, Option.getD_some, Heap.get_put, hrd, okOne, TK.isAgg, Nat.reduceBEq, Bool.or_false, Nat.zero_add, stC_len hb, Nat.le_refl, and_self, Lift.valOf, List.drop_zero, stC_all hb, List.getElem?_cons_succ, AS.put, dropKey, pfieldAddr, fieldOf, ty25, fieldIn, ty3, Option.map_some, ne_eq, Nat.succ_ne_zero, not_false_eq_true, disj, ptrAt, ptrT, hdq, beq_self_eq_true, Bool.or_true, Nat.reduceAdd, List.length_cons, List.length_nil, List.drop_succ_cons, List.take_succ_cons, List.take_nil, List.getD_cons_zero, Lift.hx, hqd, hqr, known1, PV.cells, hz, splice, List.take_zero, List.nil_append, hz2, List.append_nil, ofConst, ofVal, thenQ, true_and]
              all_goals refine SW.run [] _ ?_
              all_goals simp only [wpC, thenQ, inQ, RPost, sres, Tryd.results21, sresL, sres1, AS.get, Lift.look, Nat.reduceEqDiff, ↓reduceIte, reduceCtorEq, Option.getD_some, ty50, Heap.get_put, Nat.zero_add, stC_len hb, Nat.le_refl, okOne, TK.isAgg, Nat.reduceBEq, Bool.or_false, and_self, Lift.valOf, List.drop_zero, stC_all hb, Option.some.injEq, exists_eq_left']
              all_goals exact ⟨_, HSub.to (hdrop (hdrop (hdrop (hdrop (hself _) nQ) nR) hdn) nQ), exit0 hfl hdl (by rw [← hrun, runS_out h0 (hstep.trans e)]; rfl)⟩
            · have hB : 0 ≤ i := by omega
              rcases ho with rfl | rfl | rfl | rfl
              all_goals refine SW.run [] _ ?_
              all_goals simp only [wpC, mayStop, stops, isFlt, Specs.has, Specs.hasO, Bool.or_false, Bool.not_false, List.any_cons, List.any_nil, Bool.false_eq_true, ↓reduceIte, wpS, wantedA, okDst, Nat.reduceLT, decide_true, step1, isOwnCall, hxOp, px, pfieldAddr, fieldOf, ty25, fieldIn, List.getElem?_cons_zero, ty3, Option.map_some, AS.eval, AS.get, Lift.look, Nat.reduceEqDiff, reduceCtorEq, Option.getD_some, ne_eq, Nat.succ_ne_zero, not_false_eq_true, Nat.add_zero, AS.put, dropKey, pload, Heap.get_put, okOne, TK.isAgg, beq_self_eq_true, Bool.or_true, Nat.zero_add, List.length_cons, List.length_nil, Nat.reduceAdd, Nat.reduceLeDiff, and_self, Lift.valOf, List.drop_zero, List.take_succ_cons, List.take_zero, List.getD_cons_zero, pbinP, ofConst, ofVal, pbinI, Int.reduceLE, List.getElem?_toArray, List.getElem?_cons_succ, Option.bind_some, ppick_bool, thenQ, isB, tmpOf, asB, ty50, ty43, hrd, stC_len hb, stC_fr hb, List.drop_succ_cons, stC_da hb, Nat.le_refl, List.take_nil, hA, decide_false, pcall, plen, okLen, Int.cast_ofNat_Int, hB, Int.reduceLT, true_and]
              all_goals first | refine SW.regionAny2 [] [(0, []), (1, []), (2, [3]), (3, []), (4, []), (5, [])] rfl (by rfl) (by kernel_rfl) ?_ | refine SW.seq (SW.regionAny2 [] [(0, []), (1, []), (2, [3]), (3, []), (4, []), (5, [])] rfl (by rfl) (by kernel_rfl) ?_)
              all_goals simp only [wpO2, dynOK, LOp, List.getElem?_toArray, List.getElem?_cons_zero, okDst, Nat.reduceLT, decide_true, wantedA, ↓reduceIte, step1, isOwnCall, Bool.false_eq_true, hxOp, px, pload, ty50, AS.eval, AS.get, Lift.look, Nat.reduceEqDiff, reduceCtorEq, Option.getD_some, Heap.get_put, hrd, okOne, TK.isAgg, Nat.reduceBEq, Bool.or_false, Nat.zero_add, stC_len hb, Nat.le_refl, and_self, Lift.valOf, List.drop_zero, stC_all hb, List.getElem?_cons_succ, AS.put, dropKey, pfieldAddr, fieldOf, ty25, fieldIn, ty3, Option.map_some, ne_eq, Nat.succ_ne_zero, not_false_eq_true, disj, ptrAt, ptrT, hdq, beq_self_eq_true, Bool.or_true, Nat.reduceAdd, List.length_cons, List.length_nil, List.drop_succ_cons, List.take_succ_cons, List.take_nil, List.getD_cons_zero, Lift.hx, hqd, hqr, known1, PV.cells, hz, splice, List.take_zero, List.nil_append, hz2, List.append_nil, ofConst, ofVal, thenQ, true_and]
              all_goals refine SW.run [] _ ?_
              all_goals simp only [wpC, thenQ, inQ, RPost, sres, Tryd.results21, sresL, sres1, AS.get, Lift.look, Nat.reduceEqDiff, ↓reduceIte, reduceCtorEq, Option.getD_some, ty50, Heap.get_put, Nat.zero_add, stC_len hb, Nat.le_refl, okOne, TK.isAgg, Nat.reduceBEq, Bool.or_false, and_self, Lift.valOf, List.drop_zero, stC_all hb, Option.some.injEq, exists_eq_left']
              all_goals exact ⟨_, HSub.to (hdrop (hdrop (hdrop (hdrop (hself _) nQ) nR) hdn) nQ), exit0 hfl hdl (by rw [← hrun, runS_out h0 (hstep.trans e)]; rfl)⟩
          · rw [hD] at hv
            subst hv
            by_cases hA : i < 0
            · rcases ho with rfl | rfl | rfl | rfl
              all_goals refine SW.run [] _ ?_
              all_goals simp only [wpC, mayStop, stops, isFlt, Specs.has, Specs.hasO, Bool.or_false, Bool.not_false, List.any_cons, List.any_nil, Bool.false_eq_true, ↓reduceIte, wpS, wantedA, okDst, Nat.reduceLT, decide_true, step1, isOwnCall, hxOp, px, pfieldAddr, fieldOf, ty25, fieldIn, List.getElem?_cons_zero, ty3, Option.map_some, AS.eval, AS.get, Lift.look, Nat.reduceEqDiff, reduceCtorEq, Option.getD_some, ne_eq, Nat.succ_ne_zero, not_false_eq_true, Nat.add_zero, AS.put, dropKey, pload, Heap.get_put, okOne, TK.isAgg, beq_self_eq_true, Bool.or_true, Nat.zero_add, List.length_cons, List.length_nil, Nat.reduceAdd, Nat.reduceLeDiff, and_self, Lift.valOf, List.drop_zero, List.take_succ_cons, List.take_zero, List.getD_cons_zero, pbinP, ofConst, ofVal, pbinI, Int.reduceLE, List.getElem?_toArray, List.getElem?_cons_succ, Option.bind_some, ppick_bool, thenQ, isB, tmpOf, asB, ty50, ty43, hrd, stC_len hb, stC_fr hb, List.drop_succ_cons, stC_da hb, Nat.le_refl, List.take_nil, hA, beq_tf, Option.some.injEq, ppick_true, Int.reduceLT, true_and, decide_false]
              all_goals first | refine SW.regionAny2 [] [(0, []), (1, []), (2, [3]), (3, []), (4, []), (5, [])] rfl (by rfl) (by kernel_rfl) ?_ | refine SW.seq (SW.regionAny2 [] [(0, []), (1, []), (2, [3]), (3, []), (4, []), (5, [])] rfl (by rfl) (by kernel_rfl) ?_)
              all_goals simp only [wpO2, dynOK, LOp, List.getElem?_toArray, List.getElem?_cons_zero, okDst, Nat.reduceLT, decide_true, wantedA, ↓reduceIte, step1, isOwnCall, Bool.false_eq_true, hxOp, px, pload, ty50, AS.eval, AS.get, Lift.look, Nat.reduceEqDiff, reduceCtorEq, Option.getD_some, Heap.get_put, hrd, okOne, TK.isAgg, Nat.reduceBEq, Bool.or_false, Nat.zero_add, stC_len hb, Nat.le_refl, and_self, Lift.valOf, List.drop_zero, stC_all hb, List.getElem?_cons_succ, AS.put, dropKey, pfieldAddr, fieldOf, ty25, fieldIn, ty3, Option.map_some, ne_eq, Nat.succ_ne_zero, not_false_eq_true, disj, ptrAt, ptrT, hdq, beq_self_eq_true, Bool.or_true, Nat.reduceAdd, List.length_cons, List.length_nil, List.drop_succ_cons, List.take_succ_cons, List.take_nil, List.getD_cons_zero, Lift.hx, hqd, hqr, known1, PV.cells, hz, splice, List.take_zero, List.nil_append, hz2, List.append_nil, ofConst, ofVal, thenQ, true_and]
              all_goals refine SW.run [] _ ?_
              all_goals simp only [wpC, thenQ, inQ, RPost, sres, Tryd.results21, sresL, sres1, AS.get, Lift.look, Nat.reduceEqDiff, ↓reduceIte, reduceCtorEq, Option.getD_some, ty50, Heap.get_put, Nat.zero_add, stC_len hb, Nat.le_refl, okOne, TK.isAgg, Nat.reduceBEq, Bool.or_false, and_self, Lift.valOf, List.drop_zero, stC_all hb, Option.some.injEq, exists_eq_left']
              all_goals exact ⟨_, HSub.to (hdrop (hdrop (hdrop (hdrop (hself _) nQ) nR) hdn) nQ), exit0 hfl hdl (by rw [← hrun, runS_out h0 (hstep.trans e)]; rfl)⟩
            · have hB : ((s.da.length : Nat) : Int) ≤ i := by rw [← hdl]; omega
              rcases ho with rfl | rfl | rfl | rfl
              all_goals refine SW.run [] _ ?_
              all_goals simp only [wpC, mayStop, stops, isFlt, Specs.has, Specs.hasO, Bool.or_false, Bool.not_false, List.any_cons, List.any_nil, Bool.false_eq_true, ↓reduceIte, wpS, wantedA, okDst, Nat.reduceLT, decide_true, step1, isOwnCall, hxOp, px, pfieldAddr, fieldOf, ty25, fieldIn, List.getElem?_cons_zero, ty3, Option.map_some, AS.eval, AS.get, Lift.look, Nat.reduceEqDiff, reduceCtorEq, Option.getD_some, ne_eq, Nat.succ_ne_zero, not_false_eq_true, Nat.add_zero, AS.put, dropKey, pload, Heap.get_put, okOne, TK.isAgg, beq_self_eq_true, Bool.or_true, Nat.zero_add, List.length_cons, List.length_nil, Nat.reduceAdd, Nat.reduceLeDiff, and_self, Lift.valOf, List.drop_zero, List.take_succ_cons, List.take_zero, List.getD_cons_zero, pbinP, ofConst, ofVal, pbinI, Int.reduceLE, List.getElem?_toArray, List.getElem?_cons_succ, Option.bind_some, ppick_bool, thenQ, isB, tmpOf, asB, ty50, ty43, hrd, stC_len hb, stC_fr hb, List.drop_succ_cons, stC_da hb, Nat.le_refl, List.take_nil, hA, decide_false, pcall, plen, okLen, hB, Int.reduceLT, true_and]
              all_goals first | refine SW.regionAny2 [] [(0, []), (1, []), (2, [3]), (3, []), (4, []), (5, [])] rfl (by rfl) (by kernel_rfl) ?_ | refine SW.seq (SW.regionAny2 [] [(0, []), (1, []), (2, [3]), (3, []), (4, []), (5, [])] rfl (by rfl) (by kernel_rfl) ?_)
              all_goals simp only [wpO2, dynOK, LOp, List.getElem?_toArray, List.getElem?_cons_zero, okDst, Nat.reduceLT, decide_true, wantedA, ↓reduceIte, step1, isOwnCall, Bool.false_eq_true, hxOp, px, pload, ty50, AS.eval, AS.get, Lift.look, Nat.reduceEqDiff, reduceCtorEq, Option.getD_some, Heap.get_put, hrd, okOne, TK.isAgg, Nat.reduceBEq, Bool.or_false, Nat.zero_add, stC_len hb, Nat.le_refl, and_self, Lift.valOf, List.drop_zero, stC_all hb, List.getElem?_cons_succ, AS.put, dropKey, pfieldAddr, fieldOf, ty25, fieldIn, ty3, Option.map_some, ne_eq, Nat.succ_ne_zero, not_false_eq_true, disj, ptrAt, ptrT, hdq, beq_self_eq_true, Bool.or_true, Nat.reduceAdd, List.length_cons, List.length_nil, List.drop_succ_cons, List.take_succ_cons, List.take_nil, List.getD_cons_zero, Lift.hx, hqd, hqr, known1, PV.cells, hz, splice, List.take_zero, List.nil_append, hz2, List.append_nil, ofConst, ofVal, thenQ, true_and]
              all_goals refine SW.run [] _ ?_
              all_goals simp only [wpC, thenQ, inQ, RPost, sres, Tryd.results21, sresL, sres1, AS.get, Lift.look, Nat.reduceEqDiff, ↓reduceIte, reduceCtorEq, Option.getD_some, ty50, Heap.get_put, Nat.zero_add, stC_len hb, Nat.le_refl, okOne, TK.isAgg, Nat.reduceBEq, Bool.or_false, and_self, Lift.valOf, List.drop_zero, stC_all hb, Option.some.injEq, exists_eq_left']
              all_goals exact ⟨_, HSub.to (hdrop (hdrop (hdrop (hdrop (hself _) nQ) nR) hdn) nQ), exit0 hfl hdl (by rw [← hrun, runS_out h0 (hstep.trans e)]; rfl)⟩
        have hA : ¬ i < 0 := by omega
        have hB : ¬ ((s.da.length : Nat) : Int) ≤ i := by rw [← hdl]; omega
        have hC : 0 ≤ i := by omega
        have hD0 : i < ((s.da.length : Nat) : Int) := by omega
        have hE : i.toNat < (b.da).length := by omega
        have hF0 : i.toNat + 1 ≤ (b.da).length := by omega
        obtain ⟨k, cap, hv, hk, hput, hnk⟩ := mem_da (o1 := o1) (okO_len (okO_mem (zs := b.fr) ok2b) hdl) (fun e => by rw [e] at hE; cases hE)
        have hkr := hnk r nR
        have hkq := hnk q nQ
        have hkd := hnk d hdn
        have hrk : ¬ r = k := fun e => hkr e.symm
        have hqk : ¬ q = k := fun e => hkq e.symm
        have hdk : ¬ d = k := fun e => hkd e.symm
        have hvF := ovP_some (c := c2) hv s.da.length
        rw [hD] at hvF
        subst hvF
        have ho : (o = 4 ∨ o = 6) ∨ (o = 5 ∨ o = 7) := by omega
        rcases ho with ho | ho
        · have e : stepS code b = .go (b.wr a ((b.da).getD i.toNat 0)) := by rw [hstep]; unfold execS; rw [if_neg k0, if_pos k4, hmm, if_neg hrng, if_pos ho]
          have hb1 : (b.rg.set a.toNat ((b.da).getD i.toNat 0)).length = 16 := by rw [List.length_set]; exact hb
          rcases ho with rfl | rfl
          all_goals refine SW.run [] _ ?_
          all_goals simp only [wpC, mayStop, stops, isFlt, Specs.has, Specs.hasO, Bool.or_false, Bool.not_false, List.any_cons, List.any_nil, Bool.false_eq_true, ↓reduceIte, wpS, wantedA, okDst, Nat.reduceLT, decide_true, step1, isOwnCall, hxOp, px, pfieldAddr, fieldOf, ty25, fieldIn, List.getElem?_cons_zero, ty3, Option.map_some, AS.eval, AS.get, Lift.look, Nat.reduceEqDiff, reduceCtorEq, Option.getD_some, ne_eq, Nat.succ_ne_zero, not_false_eq_true, Nat.add_zero, AS.put, dropKey, pload, Heap.get_put, okOne, TK.isAgg, beq_self_eq_true, Bool.or_true, Nat.zero_add, List.length_cons, List.length_nil, Nat.reduceAdd, Nat.reduceLeDiff, and_self, Lift.valOf, List.drop_zero, List.take_succ_cons, List.take_zero, List.getD_cons_zero, pbinP, ofConst, ofVal, pbinI, Int.reduceLE, List.getElem?_toArray, List.getElem?_cons_succ, Option.bind_some, ppick_bool, thenQ, isB, tmpOf, asB, ty50, ty43, hrd, stC_len hb, stC_fr hb, List.drop_succ_cons, stC_da hb, Nat.le_refl, List.take_nil, hA, decide_false, pcall, plen, okLen, hB, true_and]
          all_goals refine SW.run [] _ ?_
          all_goals simp only [wpC, mayStop, stops, isFlt, Specs.has, Specs.hasO, Bool.or_false, Bool.not_false, List.any_cons, List.any_nil, Bool.or_true, ↓reduceIte, Bool.false_eq_true, wpS, wantedA, okDst, Nat.reduceLT, decide_true, step1, isOwnCall, hxOp, px, pfieldAddr, fieldOf, ty25, fieldIn, List.getElem?_cons_zero, ty3, Option.map_some, AS.eval, AS.get, Lift.look, Nat.reduceEqDiff, reduceCtorEq, Option.getD_some, ne_eq, Nat.succ_ne_zero, not_false_eq_true, Nat.add_zero, AS.put, dropKey, pload, Heap.get_put, okOne, TK.isAgg, beq_self_eq_true, Nat.zero_add, List.length_cons, List.length_nil, Nat.reduceAdd, Nat.reduceLeDiff, and_self, Lift.valOf, List.drop_zero, List.take_succ_cons, List.take_zero, List.getD_cons_zero, pbinP, ofConst, ofVal, pbinI, Int.reduceEq, tm4, thenQ, isB, tmpOf, asB, true_and, tm6]
          all_goals refine SW.regionAny [] [[0, 1, 2, 3, 4, 5, 6, 7, 8, 9]] rfl (by rfl) (by kernel_rfl) ?_
          all_goals simp only [wpOL, wpO, LOp, List.getElem?_toArray, List.getElem?_cons_zero, okDst, Nat.reduceLT, decide_true, wantedA, ↓reduceIte, step1, isOwnCall, Bool.false_eq_true, hxOp, px, pfieldAddr, fieldOf, ty25, fieldIn, List.getElem?_cons_succ, ty3, Option.map_some, AS.eval, AS.get, Lift.look, Nat.reduceEqDiff, reduceCtorEq, Option.getD_some, ne_eq, Nat.succ_ne_zero, not_false_eq_true, Nat.zero_add, AS.put, dropKey, pload, Heap.get_put, okOne, TK.isAgg, beq_self_eq_true, Bool.or_true, Nat.reduceAdd, List.length_cons, List.length_nil, Nat.reduceLeDiff, and_self, Lift.valOf, List.drop_succ_cons, List.drop_zero, List.take_succ_cons, List.take_zero, List.getD_cons_zero, Nat.le_refl, List.take_nil, pindexAddr, ty43, ty2, hC, hD0, Nat.mul_one, hkd, hkr, hkq, hk, List.length_map, hF0, mget hE, ty50, ty42, ha0, Int.cast_ofNat_Int, ha, Lift.hx, hrd, known1, PV.cells, stC_len hb, ha2, splice, stC_setreg hb ha0 ha, thenQ, true_and]
          all_goals refine SW.run [] _ ?_
          all_goals simp only [wpC, Bool.false_eq_true, ↓reduceIte, wpS, stops, wantedA, okDst, Nat.reduceLT, decide_true, step1, isOwnCall, hxOp, px, pfieldAddr, fieldOf, ty50, fieldIn, List.getElem?_cons_zero, ty3, Option.map_some, AS.eval, AS.get, Lift.look, Nat.reduceEqDiff, reduceCtorEq, Option.getD_some, ne_eq, Nat.succ_ne_zero, not_false_eq_true, Nat.add_zero, AS.put, dropKey, pload, Heap.get_put, okOne, TK.isAgg, beq_self_eq_true, Bool.or_true, Nat.zero_add, stC_len hb1, Nat.reduceLeDiff, and_self, Lift.valOf, List.drop_zero, stC_pc, List.getD_cons_zero, isFlt, pbinP, ofConst, ofVal, pbinI, hpc, Lift.hx, known1, PV.cells, List.length_cons, List.length_nil, splice, List.take_zero, List.nil_append, List.cons_append, stC_setpc, thenQ, true_and]
          all_goals exact ⟨⟨b.pc + 1, b.rg.set a.toNat ((b.da).getD i.toNat 0), b.fr, b.da, b.st⟩, e, hb1, rfl, midW1 hdn hdr hdq, ⟨rfl, rfl, rfl, trivial⟩⟩
        · have e : stepS code b = .go (b.sto 1 i (b.r a)) := by rw [hstep]; unfold execS; rw [if_neg k0, if_pos k4, hmm, if_neg hrng, if_neg (by omega)]
          rcases ho with rfl | rfl
          all_goals refine SW.run [] _ ?_
          all_goals simp only [wpC, mayStop, stops, isFlt, Specs.has, Specs.hasO, Bool.or_false, Bool.not_false, List.any_cons, List.any_nil, Bool.false_eq_true, ↓reduceIte, wpS, wantedA, okDst, Nat.reduceLT, decide_true, step1, isOwnCall, hxOp, px, pfieldAddr, fieldOf, ty25, fieldIn, List.getElem?_cons_zero, ty3, Option.map_some, AS.eval, AS.get, Lift.look, Nat.reduceEqDiff, reduceCtorEq, Option.getD_some, ne_eq, Nat.succ_ne_zero, not_false_eq_true, Nat.add_zero, AS.put, dropKey, pload, Heap.get_put, okOne, TK.isAgg, beq_self_eq_true, Bool.or_true, Nat.zero_add, List.length_cons, List.length_nil, Nat.reduceAdd, Nat.reduceLeDiff, and_self, Lift.valOf, List.drop_zero, List.take_succ_cons, List.take_zero, List.getD_cons_zero, pbinP, ofConst, ofVal, pbinI, Int.reduceLE, List.getElem?_toArray, List.getElem?_cons_succ, Option.bind_some, ppick_bool, thenQ, isB, tmpOf, asB, ty50, ty43, hrd, stC_len hb, stC_fr hb, List.drop_succ_cons, stC_da hb, Nat.le_refl, List.take_nil, hA, decide_false, pcall, plen, okLen, hB, true_and]
          all_goals refine SW.run [] _ ?_
          all_goals simp only [wpC, mayStop, stops, isFlt, Specs.has, Specs.hasO, Bool.or_false, Bool.not_false, List.any_cons, List.any_nil, Bool.or_true, ↓reduceIte, Bool.false_eq_true, wpS, wantedA, okDst, Nat.reduceLT, decide_true, step1, isOwnCall, hxOp, px, pfieldAddr, fieldOf, ty25, fieldIn, List.getElem?_cons_zero, ty3, Option.map_some, AS.eval, AS.get, Lift.look, Nat.reduceEqDiff, reduceCtorEq, Option.getD_some, ne_eq, Nat.succ_ne_zero, not_false_eq_true, Nat.add_zero, AS.put, dropKey, pload, Heap.get_put, okOne, TK.isAgg, beq_self_eq_true, Nat.zero_add, List.length_cons, List.length_nil, Nat.reduceAdd, Nat.reduceLeDiff, and_self, Lift.valOf, List.drop_zero, List.take_succ_cons, List.take_zero, List.getD_cons_zero, pbinP, ofConst, ofVal, pbinI, Int.reduceEq, tm5, Int.reduceBEq, thenQ, isB, tmpOf, asB, true_and, tm7]
          all_goals refine SW.regionAny [] [[0, 1, 2, 3, 4, 5, 6, 7, 8, 9]] rfl (by rfl) (by kernel_rfl) ?_
          all_goals simp only [wpOL, wpO, LOp, List.getElem?_toArray, List.getElem?_cons_zero, okDst, Nat.reduceLT, decide_true, wantedA, ↓reduceIte, step1, isOwnCall, Bool.false_eq_true, hxOp, px, AS.eval, AS.get, Lift.look, Nat.reduceEqDiff, Option.getD_some, List.getElem?_cons_succ, AS.put, dropKey, reduceCtorEq, pfieldAddr, fieldOf, ty25, fieldIn, ty3, Option.map_some, ne_eq, Nat.succ_ne_zero, not_false_eq_true, Nat.zero_add, pload, Heap.get_put, okOne, TK.isAgg, beq_self_eq_true, Bool.or_true, Nat.reduceAdd, List.length_cons, List.length_nil, Nat.le_refl, and_self, Lift.valOf, List.drop_succ_cons, List.drop_zero, List.take_succ_cons, List.take_nil, List.getD_cons_zero, Nat.reduceLeDiff, List.take_zero, ty50, ty42, pindexAddr, ty2, ha0, Int.cast_ofNat_Int, ha, Nat.mul_one, hrd, stC_len hb, ha2, stC_reg hb ha0 ha, ty43, hC, hD0, Lift.hx, hkd, hkr, hkq, hk, known1, PV.cells, List.length_map, hF0, splice, mset hE, thenQ, true_and]
          all_goals refine SW.run [] _ ?_
          all_goals simp only [wpC, Bool.false_eq_true, ↓reduceIte, wpS, stops, wantedA, okDst, Nat.reduceLT, decide_true, step1, isOwnCall, hxOp, px, pfieldAddr, fieldOf, ty50, fieldIn, List.getElem?_cons_zero, ty3, Option.map_some, AS.eval, AS.get, Lift.look, Nat.reduceEqDiff, reduceCtorEq, Option.getD_some, ne_eq, Nat.succ_ne_zero, not_false_eq_true, Nat.add_zero, AS.put, dropKey, pload, Heap.get_put, hrk, hrd, okOne, TK.isAgg, beq_self_eq_true, Bool.or_true, Nat.zero_add, stC_len hb, Nat.reduceLeDiff, and_self, Lift.valOf, List.drop_zero, stC_pc, List.getD_cons_zero, isFlt, pbinP, ofConst, ofVal, pbinI, hpc, Lift.hx, known1, PV.cells, List.length_cons, List.length_nil, splice, List.take_zero, List.nil_append, List.cons_append, stC_setpc, thenQ, true_and]
          all_goals exact ⟨⟨b.pc + 1, b.rg, b.fr, b.da.set i.toNat (b.r a), b.st⟩, e, hb, rfl, by rw [hput ⟨b.pc + 1, b.rg, b.fr, b.da.set i.toNat (b.r a), b.st⟩ rfl]; exact midW2 hdn hdr hdq hkr hkq hkd, ⟨rfl, rfl, rfl, trivial⟩⟩
    by_cases k5 : 24 ≤ o
    · have hjo : 24 ≤ o ∧ o ≤ 31 := by omega
      have k6 : ¬ o ≤ 7 := by omega
      have k7 : ¬ o < 24 := by omega
      have k8 : 4 ≤ o := by omega
      have e : stepS code b = .go (b.to (if holdS o (b.r x) (b.r c) = true then i else b.pc + 1)) := by rw [hstep]; unfold execS; rw [if_neg k0, if_neg k4, if_pos k5]
      refine SW.run [] _ ?_
      simp only [wpC, mayStop, stops, isFlt, Specs.has, Specs.hasO, Bool.or_false, Bool.not_false, List.any_cons, List.any_nil, Bool.false_eq_true, ↓reduceIte, wpS, wantedA, okDst, Nat.reduceLT, decide_true, step1, isOwnCall, hxOp, px, pfieldAddr, fieldOf, ty25, fieldIn, List.getElem?_cons_zero, ty3, Option.map_some, AS.eval, AS.get, Lift.look, Nat.reduceEqDiff, reduceCtorEq, Option.getD_some, ne_eq, Nat.succ_ne_zero, not_false_eq_true, Nat.add_zero, AS.put, dropKey, pload, Heap.get_put, okOne, TK.isAgg, beq_self_eq_true, Bool.or_true, Nat.zero_add, List.length_cons, List.length_nil, Nat.reduceAdd, Nat.reduceLeDiff, and_self, Lift.valOf, List.drop_zero, List.take_succ_cons, List.take_zero, List.getD_cons_zero, pbinP, ofConst, ofVal, pbinI, k8, List.getElem?_toArray, List.getElem?_cons_succ, Option.bind_some, k6, decide_false, ppick_bool, thenQ, isB, tmpOf, asB, k7, true_and]
      refine SW.regionAny [eGoes] [[0, 1, 2, 3, 4, 5, 6, 7, 8, 9, 10, 11, 12]] rfl (by rfl) (by kernel_rfl) ?_
      simp only [wpOL, wpO, LOp, List.getElem?_toArray, List.getElem?_cons_zero, okDst, Nat.reduceLT, decide_true, wantedA, ↓reduceIte, step1, isOwnCall, Bool.false_eq_true, hxOp, px, pfieldAddr, fieldOf, ty25, fieldIn, ty3, Option.map_some, AS.eval, AS.get, Lift.look, Nat.reduceEqDiff, reduceCtorEq, Option.getD_some, ne_eq, Nat.succ_ne_zero, not_false_eq_true, Nat.add_zero, List.getElem?_cons_succ, AS.put, dropKey, pload, Heap.get_put, okOne, TK.isAgg, beq_self_eq_true, Bool.or_true, Nat.zero_add, List.length_cons, List.length_nil, Nat.reduceAdd, Nat.reduceLeDiff, and_self, Lift.valOf, List.drop_zero, List.take_succ_cons, List.take_zero, List.getD_cons_zero, List.drop_succ_cons, ty50, ty42, pindexAddr, ty2, hx0, Int.cast_ofNat_Int, hx, Nat.mul_one, hrd, stC_len hb, hx2, stC_reg hb hx0 hx, hc0, hc, hc2, stC_reg hb hc0 hc, Specs.hasO, eGoes, Nat.reduceSub, pcall, okArg, ofConst, ofVal, List.all_cons, List.all_nil, Bool.and_true, Specs.at, List.map_cons, List.map_nil, sHolds, hjo, thenQ, true_and]
      cases hh : holdS o (b.rg.getD x.toNat 0) (b.rg.getD c.toNat 0) with
      | true =>
        refine SW.run [] _ ?_
        simp only [wpC, isB, AS.get, Lift.look, tmpOf, ↓reduceIte, Option.getD_some, asB, Bool.false_eq_true, wpS, stops, wantedA, okDst, Nat.reduceLT, decide_true, step1, isOwnCall, hxOp, px, pfieldAddr, fieldOf, ty25, fieldIn, List.getElem?_cons_succ, List.getElem?_cons_zero, ty3, Option.map_some, AS.eval, Nat.reduceEqDiff, reduceCtorEq, ne_eq, Nat.succ_ne_zero, not_false_eq_true, Nat.zero_add, AS.put, dropKey, pload, Heap.get_put, okOne, TK.isAgg, beq_self_eq_true, Bool.or_true, Nat.reduceAdd, List.length_cons, List.length_nil, Nat.le_refl, and_self, Lift.valOf, List.drop_succ_cons, List.drop_zero, List.take_succ_cons, List.take_nil, List.getD_cons_zero, ty50, Nat.add_zero, Lift.hx, hrd, known1, PV.cells, stC_len hb, Nat.reduceLeDiff, splice, List.take_zero, List.nil_append, List.cons_append, stC_setpc, thenQ, true_and]
        rw [show holdS o (b.r x) (b.r c) = true from hh] at e
        exact ⟨⟨i, b.rg, b.fr, b.da, b.st⟩, e, hb, rfl, midW0 hdn hdr hdq, ⟨rfl, rfl, rfl, trivial⟩⟩
      | false =>
        refine SW.run [] _ ?_
        simp only [wpC, isB, AS.get, Lift.look, tmpOf, ↓reduceIte, Option.getD_some, asB, Bool.false_eq_true, wpS, stops, wantedA, okDst, Nat.reduceLT, decide_true, step1, isOwnCall, hxOp, px, pfieldAddr, fieldOf, ty50, fieldIn, List.getElem?_cons_zero, ty3, Option.map_some, AS.eval, Nat.reduceEqDiff, reduceCtorEq, ne_eq, Nat.succ_ne_zero, not_false_eq_true, Nat.add_zero, AS.put, dropKey, pload, Heap.get_put, hrd, okOne, TK.isAgg, beq_self_eq_true, Bool.or_true, Nat.zero_add, stC_len hb, Nat.reduceLeDiff, and_self, Lift.valOf, List.drop_zero, stC_pc, List.getD_cons_zero, isFlt, pbinP, ofConst, ofVal, pbinI, hpc, Lift.hx, known1, PV.cells, List.length_cons, List.length_nil, splice, List.take_zero, List.nil_append, List.cons_append, stC_setpc, thenQ, true_and]
        rw [show holdS o (b.r x) (b.r c) = false from hh] at e
        exact ⟨⟨b.pc + 1, b.rg, b.fr, b.da, b.st⟩, e, hb, rfl, midW0 hdn hdr hdq, ⟨rfl, rfl, rfl, trivial⟩⟩
    have hop : opW o := by unfold opW; omega
    have e : stepS code b = .go (b.wr a (writeS o i (b.r x) (b.r c))) := by rw [hstep]; unfold execS; rw [if_neg k0, if_neg k4, if_neg k5]
    have k7 : o < 24 := by omega
    have hb1 : (b.rg.set a.toNat (writeS o i (b.rg.getD x.toNat 0) (b.rg.getD c.toNat 0))).length = 16 := by rw [List.length_set]; exact hb
    by_cases k8 : 4 ≤ o
    · have k6 : ¬ o ≤ 7 := by omega
      refine SW.run [] _ ?_
      simp only [wpC, mayStop, stops, isFlt, Specs.has, Specs.hasO, Bool.or_false, Bool.not_false, List.any_cons, List.any_nil, Bool.false_eq_true, ↓reduceIte, wpS, wantedA, okDst, Nat.reduceLT, decide_true, step1, isOwnCall, hxOp, px, pfieldAddr, fieldOf, ty25, fieldIn, List.getElem?_cons_zero, ty3, Option.map_some, AS.eval, AS.get, Lift.look, Nat.reduceEqDiff, reduceCtorEq, Option.getD_some, ne_eq, Nat.succ_ne_zero, not_false_eq_true, Nat.add_zero, AS.put, dropKey, pload, Heap.get_put, okOne, TK.isAgg, beq_self_eq_true, Bool.or_true, Nat.zero_add, List.length_cons, List.length_nil, Nat.reduceAdd, Nat.reduceLeDiff, and_self, Lift.valOf, List.drop_zero, List.take_succ_cons, List.take_zero, List.getD_cons_zero, pbinP, ofConst, ofVal, pbinI, k8, List.getElem?_toArray, List.getElem?_cons_succ, Option.bind_some, k6, decide_false, ppick_bool, thenQ, isB, tmpOf, asB, k7, true_and]
      refine SW.regionAny [eComputeR] [[0, 1, 2, 3, 4, 5, 6, 7, 8, 9, 10, 11, 12, 13, 14, 15, 16]] rfl (by rfl) (by kernel_rfl) ?_
      simp only [wpOL, wpO, LOp, List.getElem?_toArray, List.getElem?_cons_zero, okDst, Nat.reduceLT, decide_true, wantedA, ↓reduceIte, step1, isOwnCall, Bool.false_eq_true, hxOp, px, pfieldAddr, fieldOf, ty25, fieldIn, List.getElem?_cons_succ, ty3, Option.map_some, AS.eval, AS.get, Lift.look, Nat.reduceEqDiff, reduceCtorEq, Option.getD_some, ne_eq, Nat.succ_ne_zero, not_false_eq_true, Nat.zero_add, AS.put, dropKey, pload, Heap.get_put, okOne, TK.isAgg, beq_self_eq_true, Bool.or_true, Nat.reduceAdd, List.length_cons, List.length_nil, Nat.reduceLeDiff, and_self, Lift.valOf, List.drop_succ_cons, List.drop_zero, List.take_succ_cons, List.take_zero, List.getD_cons_zero, Nat.reduceBEq, Bool.or_false, Nat.le_refl, List.take_nil, ty50, ty42, pindexAddr, ty2, hx0, Int.cast_ofNat_Int, hx, Nat.mul_one, hrd, stC_len hb, hx2, stC_reg hb hx0 hx, hc0, hc, hc2, stC_reg hb hc0 hc, Specs.hasO, eComputeR, Nat.reduceSub, pcall, okArg, ofConst, ofVal, List.all_cons, List.all_nil, Bool.and_true, Specs.at, List.map_cons, List.map_nil, sComputeR, hop, ha0, ha, Lift.hx, known1, PV.cells, ha2, splice, stC_setreg hb ha0 ha, thenQ, true_and]
      refine SW.run [] _ ?_
      simp only [wpC, Bool.false_eq_true, ↓reduceIte, wpS, stops, wantedA, okDst, Nat.reduceLT, decide_true, step1, isOwnCall, hxOp, px, pfieldAddr, fieldOf, ty50, fieldIn, List.getElem?_cons_zero, ty3, Option.map_some, AS.eval, AS.get, Lift.look, Nat.reduceEqDiff, reduceCtorEq, Option.getD_some, ne_eq, Nat.succ_ne_zero, not_false_eq_true, Nat.add_zero, AS.put, dropKey, pload, Heap.get_put, okOne, TK.isAgg, beq_self_eq_true, Bool.or_true, Nat.zero_add, stC_len hb1, Nat.reduceLeDiff, and_self, Lift.valOf, List.drop_zero, stC_pc, List.getD_cons_zero, isFlt, pbinP, ofConst, ofVal, pbinI, hpc, Lift.hx, known1, PV.cells, List.length_cons, List.length_nil, splice, List.take_zero, List.nil_append, List.cons_append, stC_setpc, thenQ, true_and]
      exact ⟨⟨b.pc + 1, b.rg.set a.toNat (writeS o i (b.r x) (b.r c)), b.fr, b.da, b.st⟩, e, hb1, rfl, midW1 hdn hdr hdq, ⟨rfl, rfl, rfl, trivial⟩⟩
    · refine SW.run [] _ ?_
      simp only [wpC, mayStop, stops, isFlt, Specs.has, Specs.hasO, Bool.or_false, Bool.not_false, List.any_cons, List.any_nil, Bool.false_eq_true, ↓reduceIte, wpS, wantedA, okDst, Nat.reduceLT, decide_true, step1, isOwnCall, hxOp, px, pfieldAddr, fieldOf, ty25, fieldIn, List.getElem?_cons_zero, ty3, Option.map_some, AS.eval, AS.get, Lift.look, Nat.reduceEqDiff, reduceCtorEq, Option.getD_some, ne_eq, Nat.succ_ne_zero, not_false_eq_true, Nat.add_zero, AS.put, dropKey, pload, Heap.get_put, okOne, TK.isAgg, beq_self_eq_true, Bool.or_true, Nat.zero_add, List.length_cons, List.length_nil, Nat.reduceAdd, Nat.reduceLeDiff, and_self, Lift.valOf, List.drop_zero, List.take_succ_cons, List.take_zero, List.getD_cons_zero, pbinP, ofConst, ofVal, pbinI, k8, decide_false, List.getElem?_toArray, List.getElem?_cons_succ, Option.bind_some, beq_ft, Option.some.injEq, ppick_false, thenQ, isB, tmpOf, asB, k7, true_and]
      refine SW.regionAny [eComputeR] [[0, 1, 2, 3, 4, 5, 6, 7, 8, 9, 10, 11, 12, 13, 14, 15, 16]] rfl (by rfl) (by kernel_rfl) ?_
      simp only [wpOL, wpO, LOp, List.getElem?_toArray, List.getElem?_cons_zero, okDst, Nat.reduceLT, decide_true, wantedA, ↓reduceIte, step1, isOwnCall, Bool.false_eq_true, hxOp, px, pfieldAddr, fieldOf, ty25, fieldIn, List.getElem?_cons_succ, ty3, Option.map_some, AS.eval, AS.get, Lift.look, Nat.reduceEqDiff, reduceCtorEq, Option.getD_some, ne_eq, Nat.succ_ne_zero, not_false_eq_true, Nat.zero_add, AS.put, dropKey, pload, Heap.get_put, okOne, TK.isAgg, beq_self_eq_true, Bool.or_true, Nat.reduceAdd, List.length_cons, List.length_nil, Nat.reduceLeDiff, and_self, Lift.valOf, List.drop_succ_cons, List.drop_zero, List.take_succ_cons, List.take_zero, List.getD_cons_zero, Nat.reduceBEq, Bool.or_false, Nat.le_refl, List.take_nil, ty50, ty42, pindexAddr, ty2, hx0, Int.cast_ofNat_Int, hx, Nat.mul_one, hrd, stC_len hb, hx2, stC_reg hb hx0 hx, hc0, hc, hc2, stC_reg hb hc0 hc, Specs.hasO, eComputeR, Nat.reduceSub, pcall, okArg, ofConst, ofVal, List.all_cons, List.all_nil, Bool.and_true, Specs.at, List.map_cons, List.map_nil, sComputeR, hop, ha0, ha, Lift.hx, known1, PV.cells, ha2, splice, stC_setreg hb ha0 ha, thenQ, true_and]
      refine SW.run [] _ ?_
      simp only [wpC, Bool.false_eq_true, ↓reduceIte, wpS, stops, wantedA, okDst, Nat.reduceLT, decide_true, step1, isOwnCall, hxOp, px, pfieldAddr, fieldOf, ty50, fieldIn, List.getElem?_cons_zero, ty3, Option.map_some, AS.eval, AS.get, Lift.look, Nat.reduceEqDiff, reduceCtorEq, Option.getD_some, ne_eq, Nat.succ_ne_zero, not_false_eq_true, Nat.add_zero, AS.put, dropKey, pload, Heap.get_put, okOne, TK.isAgg, beq_self_eq_true, Bool.or_true, Nat.zero_add, stC_len hb1, Nat.reduceLeDiff, and_self, Lift.valOf, List.drop_zero, stC_pc, List.getD_cons_zero, isFlt, pbinP, ofConst, ofVal, pbinI, hpc, Lift.hx, known1, PV.cells, List.length_cons, List.length_nil, splice, List.take_zero, List.nil_append, List.cons_append, stC_setpc, thenQ, true_and]
      exact ⟨⟨b.pc + 1, b.rg.set a.toNat (writeS o i (b.r x) (b.r c)), b.fr, b.da, b.st⟩, e, hb1, rfl, midW1 hdn hdr hdq, ⟨rfl, rfl, rfl, trivial⟩⟩
  · refine SW.run [] _ ?_
    simp only [wpC, mayStop, stops, isFlt, Specs.has, Specs.hasO, Bool.or_false, Bool.not_false, List.any_cons, List.any_nil, Bool.false_eq_true, ↓reduceIte, wpS, wantedA, okDst, Nat.reduceLT, decide_true, step1, isOwnCall, hxOp, px, pfieldAddr, fieldOf, ty50, fieldIn, List.getElem?_cons_succ, List.getElem?_cons_zero, ty3, Option.map_some, AS.eval, AS.get, Lift.look, reduceCtorEq, Option.getD_some, ne_eq, Nat.succ_ne_zero, not_false_eq_true, Nat.zero_add, AS.put, dropKey, Nat.reduceEqDiff, pload, Heap.get_put, okOne, TK.isAgg, beq_self_eq_true, Bool.or_true, Nat.reduceAdd, stC_len hb, Nat.le_refl, and_self, Lift.valOf, stC_st hb, List.getD_cons_zero, pbinP, ofConst, ofVal, pbinI, h0, decide_false, thenQ, isB, tmpOf, asB, inQ, true_and]
    refine SW.run [] _ ?_
    simp only [wpC, mayStop, stops, isFlt, Specs.has, Specs.hasO, Bool.or_false, Bool.not_false, List.any_cons, List.any_nil, Bool.false_eq_true, ↓reduceIte, wpS, wantedA, okDst, Nat.reduceLT, decide_true, step1, isOwnCall, hxOp, px, pload, ty50, AS.eval, AS.get, Lift.look, Nat.reduceEqDiff, reduceCtorEq, Option.getD_some, Heap.get_put, okOne, TK.isAgg, Nat.reduceBEq, Nat.zero_add, stC_len hb, Nat.le_refl, and_self, Lift.valOf, List.drop_zero, stC_all hb, hx, AS.put, dropKey, hqr, known1, PV.cells, hz, splice, List.take_zero, List.nil_append, hz2, List.append_nil, ofConst, ofVal, thenQ, RPost, sres, Tryd.results21, sresL, sres1, Option.some.injEq, exists_eq_left', true_and]
    refine ⟨_, HSub.to (hdrop (hdrop (hdrop (hself _) nQ) nR) nQ), exit0 hfl hdl ?_⟩
    have hb0' : b.st = 0 := by have := hok.st0; omega
    rw [← hrun, hb0']
    rfl
end Go.Proofs.YthdmdeiaonkeoaaDoor
