/- Contracts of functions that the law reaches. -/
import Derived.Test.Ytekgfneapofgpaag
set_option linter.unusedSimpArgs false
set_option linter.unusedVariables false
namespace Go.Proofs.Ytekgfneapofgpaa
open Go Go.RowKit Go.Proofs.Ytekgfneapofgpaa Go.Proofs.Ytekgfneapofgpaa.Lift

/-! The examples -/
theorem fst_items {B : Bo} (w : WF B) (p c : Int) (s : Bool) : fstS noG B p c s = B.items.find? fun i => (i.ch == c && i.sd == !s) && !(i.pid == p) := by
  unfold fstS
  cases hq : qOf B.qs c (!s) with
  | none =>
    symm
    rw [Option.bind_none, List.find?_eq_none]
    intro i hi e
    obtain ⟨q, hqm, h1, h2⟩ := w.kx i hi
    have := List.find?_eq_none.1 hq q hqm
    rw [h1, h2] at this
    simp only [Bool.and_eq_true] at e
    exact this (by simpa using e.1)
  | some q =>
    obtain ⟨hqm, e1, e2⟩ := qOf_mem hq
    have hl := (w.kf q hqm).2
    rw [e1, e2] at hl
    rw [Option.bind_some, hl]
    unfold fil
    rw [List.find?_filter]
    congr 1
    funext i
    simp [openI, noG]
    rfl
def sReady (h0 : Heap) (B : Bo) : List PV → Heap → Prop × PV × Heap
  | [.val (.pointer (some ⟨a, 0, none⟩)), .int .i64 p, .list 2 xs], h => match unO xs with
    | some os => (a = B.rb ∧ BOn h0 noG B h ∧ os.length ≤ 1000000, .list 1 (elN (readyS B p os os.length)), h)
    | none => HBad h
  | _, h => HBad h
noncomputable def eReady (h0 : Heap) (B : Bo) : SpecH env := ⟨13, sReady h0 B, fun args h hc => by
  unfold sReady at hc ⊢
  split at hc
  · rename_i a p xs
    split at hc
    · rename_i os ho
      obtain ⟨rfl, hb, hl⟩ := hc
      rw [unO_spec ho]
      exact Ready_ok p os hb hl
    · exact hc.elim
  · exact hc.elim⟩
def sEntries (h0 : Heap) (B : Bo) : List PV → Heap → Prop × PV × Heap
  | [.val (.pointer (some ⟨a, 0, none⟩))], h => (a = B.rb ∧ BOn h0 noG B h ∧ WF B ∧ B.items.length ≤ 900000, .list 4 (elE B.items), h)
  | _, h => HBad h
noncomputable def eEntries (h0 : Heap) (B : Bo) : SpecH env := ⟨17, sEntries h0 B, fun args h hc => by
  unfold sEntries at hc ⊢
  split at hc
  · obtain ⟨rfl, hb, hw, hl⟩ := hc
    exact Entries_ok hb hw hl
  · exact hc.elim⟩
theorem its_one {its : List It} {c : Int} {s : Bool} {p : Int} (h : its.map (fun i => (i.ch, i.sd)) = [(c, s)]) (hp : ∀ i ∈ its, i.pid = p) (ha : its.map It.arm = List.range its.length) : ∃ i, its = [i] ∧ i.ch = c ∧ i.sd = s ∧ i.pid = p ∧ i.arm = 0 := by
  match its, h with
  | [i], h =>
    simp only [List.map_cons, List.map_nil, List.cons.injEq, Prod.mk.injEq, and_true] at h
    refine ⟨i, rfl, h.1, h.2, hp i (by simp), ?_⟩
    have : [i.arm] = List.range 1 := ha
    simpa using this
theorem its_two {its : List It} {c d : Int} {s t : Bool} {p : Int} (h : its.map (fun i => (i.ch, i.sd)) = [(c, s), (d, t)]) (hp : ∀ i ∈ its, i.pid = p) (ha : its.map It.arm = List.range its.length) : ∃ i j, its = [i, j] ∧ (i.ch = c ∧ i.sd = s ∧ i.pid = p ∧ i.arm = 0) ∧ j.ch = d ∧ j.sd = t ∧ j.pid = p ∧ j.arm = 1 := by
  match its, h with
  | [i, j], h =>
    simp only [List.map_cons, List.map_nil, List.cons.injEq, Prod.mk.injEq, and_true] at h
    have : [i.arm, j.arm] = List.range 2 := ha
    have this : [i.arm, j.arm] = [0, 1] := this
    simp only [List.cons.injEq, and_true] at this
    exact ⟨i, j, rfl, ⟨h.1.1, h.1.2, hp i (by simp), this.1⟩, h.2.1, h.2.2, hp j (by simp), this.2⟩
set_option maxHeartbeats 1000000 in
set_option maxRecDepth 100000 in
theorem Awake_ok (h : Heap) : SCalls env 8 [] h (Ret (.bool true) h) := by
  refine SCalls.body Try.func8 rfl rfl (by simp [Try.ntmps8]) ?_
  refine SW.seq (SW.run [] _ ?_)
  simp only [wpC, Bool.false_eq_true, ↓reduceIte, wpS, stops, wantedA, okDst, Try.ntmps8, Nat.reduceLT, decide_true, step1, isOwnCall, hxOp, px, AS.eval, ofConst, ofVal, thenQ, AS.put, enumA, dropKey, true_and]
  refine SW.seq (SW.run [] _ ?_)
  simp only [wpC, Bool.false_eq_true, ↓reduceIte, wpS, stops, Specs.has, Specs.hasO, Bool.or_false, Specs.hasH, Bool.not_false]
  refine SWO.call (.func 10) #[] _ 10 #[] #[] rfl rfl rfl rfl rfl rfl (New_ok h) rfl rfl ?_ (fun c h' hc => by obtain ⟨_, hc, _⟩ := hc; cases hc)
  rintro p' h1 ⟨B0, hp', b0, w0, ps0, t0⟩
  injection hp' with hp'
  subst hp'
  have i0 : B0.items = [] := by rw [w0.it, ps0]; rfl
  refine SWO.run [] 1000 ?_
  simp only [wpS, stops, Bool.false_eq_true, ↓reduceIte, wantedA, okDst, AS.put, adr, dropKey, reduceCtorEq, Nat.reduceLT, decide_true, step1, isOwnCall, hxOp, px, AS.eval, AS.get, Lift.look, Option.getD_some, thenQ, Nat.reduceEqDiff, true_and]
  refine SW.seq (SW.seq (SW.run [] _ ?_))
  simp only [wpC, Bool.false_eq_true, ↓reduceIte, wpS, stops, wantedA, okDst, Nat.reduceLT, decide_true, step1, isOwnCall, hxOp, px, AS.eval, AS.get, Lift.look, Option.getD_some, AS.put, dropKey, Nat.reduceEqDiff, reduceCtorEq, isNilC, pbinP, pflt, peq, ty25, peqK, ofConst, ofVal, List.getElem?_toArray, List.getElem?_cons_succ, List.getElem?_cons_zero, Option.bind_some, beq_self_eq_true, pbuild, ty39, List.map_cons, List.map_nil, pfill, placeOf, ty3, Option.map_some, PV.cells, List.length_cons, List.length_nil, Nat.zero_add, Nat.reduceAdd, Nat.reduceLeDiff, and_self, ty4, splice, List.take_zero, List.nil_append, List.drop_succ_cons, List.drop_zero, List.cons_append, Nat.le_refl, List.take_succ_cons, List.drop_nil, List.append_nil, List.all_cons, Option.isSome_some, List.all_nil, Bool.and_true, okZero, Value.oneCell', known, pbuildSlice, ty28, Nat.succ_ne_zero, List.replicate, List.flatten_cons, List.flatten_nil, Nat.reduceMul, chunk, List.take_nil, Specs.has, Specs.hasO, Bool.or_false, Specs.hasH, Bool.not_false, true_and]
  refine SWO.call (.func 16) #[.tmp 9, .const (.int .i64 1), .tmp 12] _ 16 #[] #[] rfl rfl rfl rfl rfl rfl (Wait_ok 1 [(7, true), (8, false)] (by decide) b0 w0 (by rw [ps0]; rfl) (by rw [i0]; decide) (by rw [t0]; decide)) rfl rfl ?_ (fun c h' hc => by cases hc.1)
  rintro p' h2 ⟨hp', B1, p1, b1, w1, ps1, e1, k1, r1, t1⟩
  injection hp' with hp'
  subst hp'
  rw [ps0, List.nil_append] at ps1
  have hm1 : p1 ∈ B1.ps := by rw [ps1]; simp
  obtain ⟨ia, ib, its1, ⟨a1, a2, a3, a4⟩, c1, c2, c3, c4⟩ := its_two k1 (fun i hi => (w1.pi p1 hm1 i hi).trans e1) (w1.ar p1 hm1)
  have it1 : B1.items = [ia, ib] := by rw [w1.it, ps1]; simp [its1]
  refine SWO.run [] 1000 ?_
  simp only [wpS, stops, Bool.false_eq_true, ↓reduceIte, wantedA, List.getElem?_toArray, List.getElem?_cons_succ, List.getElem?_cons_zero, Option.bind_some, AS.get, AS.put, dropKey, Nat.reduceEqDiff, reduceCtorEq, Lift.look, Option.getD_some, beq_self_eq_true, okDst, Nat.reduceLT, decide_true, step1, isOwnCall, hxOp, px, isNilC, pbinP, AS.eval, ofConst, ofVal, pbinI, Int.reduceBNe, ppick_bool, pbuild, ty39, List.map_cons, List.map_nil, pfill, placeOf, ty3, Option.map_some, PV.cells, List.length_cons, List.length_nil, Nat.zero_add, Nat.reduceAdd, Nat.reduceLeDiff, and_self, ty4, splice, List.take_zero, List.nil_append, List.drop_succ_cons, List.drop_zero, List.cons_append, Nat.le_refl, List.take_succ_cons, List.drop_nil, List.append_nil, List.all_cons, Option.isSome_some, List.all_nil, Bool.and_true, okZero, Value.oneCell', known, pbuildSlice, ty28, Nat.succ_ne_zero, List.replicate, List.flatten_cons, List.flatten_nil, Nat.reduceMul, chunk, List.take_nil, Specs.has, Specs.hasO, Bool.or_false, Specs.hasH, Bool.not_false, true_and]
  rw [← r1]
  refine SWO.call (.func 16) #[.tmp 17, .const (.int .i64 2), .tmp 19] _ 16 #[] #[] rfl rfl rfl rfl rfl rfl (Wait_ok 2 [(7, true)] (by decide) b1 w1 (by rw [ps1]; simp [pOf, e1]) (by rw [it1]; simp) (by rw [t1, t0]; decide)) rfl rfl ?_ (fun c h' hc => by cases hc.1)
  rintro p' h3 ⟨hp', B2, p2, b2, w2, ps2, e2, k2, r2, t2⟩
  injection hp' with hp'
  subst hp'
  rw [ps1] at ps2
  have hm2 : p2 ∈ B2.ps := by rw [ps2]; simp
  obtain ⟨ic, its2, d1, d2, d3, d4⟩ := its_one k2 (fun i hi => (w2.pi p2 hm2 i hi).trans e2) (w2.ar p2 hm2)
  have it2 : B2.items = [ia, ib, ic] := by rw [w2.it, ps2]; simp [its1, its2]
  refine SWO.run [] 1000 ?_
  simp only [wpS, stops, Bool.false_eq_true, ↓reduceIte, wantedA, List.getElem?_toArray, List.getElem?_cons_succ, List.getElem?_cons_zero, Option.bind_some, AS.get, AS.put, dropKey, Nat.reduceEqDiff, reduceCtorEq, Lift.look, Option.getD_some, beq_self_eq_true, okDst, Nat.reduceLT, decide_true, step1, isOwnCall, hxOp, px, isNilC, pbinP, AS.eval, ofConst, ofVal, pbinI, Int.reduceBNe, ppick_bool, thenQ, true_and]
  have hunO : unO [[.int .i64 8, .bool false], [.int .i64 8, .bool true], [.int .i64 7, .bool false]] = some [(8, false), (8, true), (7, false)] := rfl
  have f1 : fstS noG B2 3 8 false = none := by rw [fst_items w2, it2]; simp [a1, a2, a3, c1, c2, c3, d1, d2, d3]
  have f2 : fstS noG B2 3 8 true = some ib := by rw [fst_items w2, it2]; simp [a1, a2, a3, c1, c2, c3, d1, d2, d3]
  have f3 : fstS noG B2 3 7 false = some ia := by rw [fst_items w2, it2]; simp [a1, a2, a3, c1, c2, c3, d1, d2, d3]
  have hrd : readyS B2 3 [(8, false), (8, true), (7, false)] 3 = [1, 2] := by
    rw [ready_next, ready_next, ready_next]
    simp [canS, f1, f2, f3, readyS]
  refine SW.run [] _ ?_
  simp only [wpC, isB, AS.get, Lift.look, tmpOf, ↓reduceIte, Option.getD_some, asB, Bool.false_eq_true, thenQ, true_and]
  rw [← r2]
  refine SW.seq (SW.run [eReady h B2] _ ?_)
  simp only [wpC, Bool.false_eq_true, ↓reduceIte, wpS, stops, wantedA, okDst, Nat.reduceLT, decide_true, step1, isOwnCall, hxOp, px, AS.eval, AS.get, Lift.look, Nat.reduceEqDiff, Option.getD_some, AS.put, dropKey, reduceCtorEq, pbuild, ty39, List.map_cons, ofVal, List.map_nil, ofConst, pfill, placeOf, List.getElem?_cons_zero, ty3, Option.map_some, PV.cells, List.length_cons, List.length_nil, Nat.zero_add, Nat.reduceAdd, Nat.reduceLeDiff, and_self, splice, List.take_zero, List.nil_append, List.drop_succ_cons, List.drop_zero, List.cons_append, List.all_cons, Option.isSome_some, ty4, List.all_nil, Bool.and_true, okZero, Value.oneCell', known, List.getElem?_cons_succ, Nat.le_refl, List.take_succ_cons, List.drop_nil, List.append_nil, pbuildSlice, ty28, Nat.succ_ne_zero, List.replicate, List.flatten_cons, List.flatten_nil, Nat.reduceMul, chunk, List.take_nil, Specs.has, Specs.hasO, Bool.or_false, Specs.hasH, eReady, Bool.or_true, Bool.not_true, hx, okArg, Specs.atH, sReady, hunO, and_true, true_and, elN, hrd, Int.cast_ofNat_Int, thenQ]
  refine ⟨b2, ?_⟩
  refine SW.seq (SW.run [] _ ?_)
  simp only [wpC, Bool.false_eq_true, ↓reduceIte, wpS, stops, wantedA, okDst, Nat.reduceLT, decide_true, step1, isOwnCall, hxOp, px, AS.eval, AS.get, Lift.look, Nat.reduceEqDiff, Option.getD_some, AS.put, dropKey, reduceCtorEq, pbuild, ty39, List.map_cons, ofVal, List.map_nil, ofConst, pfill, placeOf, List.getElem?_cons_zero, ty3, Option.map_some, PV.cells, List.length_cons, List.length_nil, Nat.zero_add, Nat.reduceAdd, Nat.reduceLeDiff, and_self, splice, List.take_zero, List.nil_append, List.drop_succ_cons, List.drop_zero, List.cons_append, List.all_cons, Option.isSome_some, ty4, List.all_nil, Bool.and_true, okZero, Value.oneCell', known, Specs.has, Specs.hasO, Bool.or_false, Specs.hasH, Bool.not_false, true_and]
  refine SWO.call (.func 15) #[.tmp 30, .const (.int .i64 3), .tmp 31] _ 15 #[] #[] rfl rfl rfl rfl rfl rfl (Meet_some 3 7 false b2 w2 (by rw [it2]; simp) f3) rfl rfl ?_ (fun c h' hc => by cases hc.1)
  rintro p' h4 ⟨hp', B3, b3, w3, ps3, r3, t3⟩
  injection hp' with hp'
  subst hp'
  have hd : delP ia.pid B2.ps = [p2] := by rw [ps2, a3]; simp [delP, e1]
  rw [hd] at ps3
  have it3 : B3.items = [ic] := by rw [w3.it, ps3]; simp [its2]
  refine SWO.run [] 1000 ?_
  simp only [wpS, stops, Bool.false_eq_true, ↓reduceIte, wantedA, okDst, AS.put, enV, a3, a4, Int.cast_ofNat_Int, a1, a2, dropKey, Nat.reduceEqDiff, reduceCtorEq, Nat.reduceLT, decide_true, step1, isOwnCall, hxOp, px, AS.eval, AS.get, Lift.look, Option.getD_some, List.getElem?_cons_zero, List.getElem?_cons_succ, okAlloc, ty35, okZero, List.all_cons, Value.oneCell', List.all_nil, Bool.and_true, hx, zeroOf, List.map_cons, ofVal, List.map_nil, List.length_cons, List.length_nil, Nat.zero_add, Nat.reduceAdd, Heap.get_put, known1, PV.cells, Nat.le_refl, and_self, splice, List.take_zero, List.nil_append, List.drop_succ_cons, List.drop_nil, List.append_nil, thenQ, true_and]
  intro r hr
  rw [Heap.put_put, ← r3]
  have b4 := b3.put hr (.cells 35 4 [.int .i64 1, .int .i64 ((0 : Nat) : Int), .int .i64 7, .bool true])
  have h5 : (h4.put r (.cells 35 4 [.int .i64 1, .int .i64 ((0 : Nat) : Int), .int .i64 7, .bool true])) r = some (.cells 35 4 [.int .i64 1, .int .i64 ((0 : Nat) : Int), .int .i64 7, .bool true]) := Heap.put_same _ _ _
  have i5 : Inc h (h4.put r (.cells 35 4 [.int .i64 1, .int .i64 ((0 : Nat) : Int), .int .i64 7, .bool true])) := b4.inc
  generalize h4.put r (.cells 35 4 [.int .i64 1, .int .i64 ((0 : Nat) : Int), .int .i64 7, .bool true]) = H at b4 h5 i5 ⊢
  have g1 : (pOf B3.ps 1).isSome = false := by rw [ps3]; simp [pOf, e2]
  have g2 : (pOf B3.ps 2).isSome = true := by rw [ps3]; simp [pOf, e2]
  have g3 : (elE B3.items).length = 1 := by rw [it3]; rfl
  refine SW.run [eWaits h noG B3, eEntries h B3] _ ?_
  simp only [wpC, mayStop, stops, isFlt, Specs.has, Specs.hasO, Bool.or_false, Specs.hasH, eWaits, eEntries, Bool.false_or, List.any_cons, ↓reduceIte, Bool.not_true, Nat.reduceEqDiff, List.any_nil, Bool.false_eq_true, wpS, wantedA, okDst, Nat.reduceLT, decide_true, step1, isOwnCall, hxOp, px, AS.eval, AS.get, Lift.look, Option.getD_some, AS.put, dropKey, reduceCtorEq, pcall, ty31, plen, List.length_cons, List.length_nil, Nat.zero_add, Nat.reduceAdd, okLen, and_self, Int.cast_ofNat_Int, isNilC, pbinP, ofConst, ofVal, pbinI, beq_self_eq_true, List.getElem?_toArray, List.getElem?_cons_succ, List.getElem?_cons_zero, Option.bind_some, pindexAddr, ty3, ne_eq, Nat.succ_ne_zero, not_false_eq_true, Int.reduceLE, Int.reduceToNat, List.getD_cons_zero, pload, okOne, TK.isAgg, Bool.or_true, Nat.le_refl, Lift.valOf, List.take_succ_cons, List.take_nil, ppick_bool, List.getD_cons_succ, ty35, h5, Nat.reduceBEq, List.drop_zero, pbuild, List.map_cons, List.map_nil, pfill, placeOf, Option.map_some, PV.cells, Nat.reduceLeDiff, splice, List.take_zero, List.nil_append, List.drop_succ_cons, List.cons_append, ty4, List.drop_nil, List.append_nil, List.all_cons, Option.isSome_some, List.all_nil, Bool.and_true, okZero, Value.oneCell', known, pflt, peq, eqk35, fits, eqCells, hx, okArg, Specs.atH, sWaits, true_and, g1, pun, Bool.not_false, g2, sEntries, ty42, g3, thenQ, RPost, sres, Try.results8, sresL, sres1, Option.some.injEq, Ret_fin, exists_eq_left']
  exact ⟨b4, b4, ⟨b4, w3, by rw [it3]; simp⟩, i5.to⟩
def sAwake : List PV → Prop × PV
  | [] => (True, .bool true)
  | _ => PBad
noncomputable def eAwake : SpecE env := ⟨8, sAwake, fun args h hc => by
  unfold sAwake at hc ⊢
  split at hc
  · exact .inl (Awake_ok h)
  · exact hc.elim⟩
end Go.Proofs.Ytekgfneapofgpaa
