/- Contracts of functions that the law reaches. -/
import Derived.Test.Ytekgfneapofgpaak
import Derived.Test.YtekgfneapofgpaaLiftE
set_option linter.unusedSimpArgs false
set_option linter.unusedVariables false
namespace Go.Proofs.Ytekgfneapofgpaa
open Go Go.RowKit Go.Proofs.Ytekgfneapofgpaa Go.Proofs.Ytekgfneapofgpaa.Lift

/-! The board of the reference -/
def elP (l : List Int) : List (List PV) := l.map fun p => [.int .i64 p]
theorem elP_len (l : List Int) : (elP l).length = l.length := List.length_map _
/-- A slice that lies in a field: a row of the heap, or none yet. -/
def RowAt (h : Heap) (t : TypeId) (sz : Nat) (xs : List (List PV)) (v : PV) : Prop :=
  ∃ A cap, v = .val (.slice A xs.length cap) ∧ xs.length ≤ cap ∧ cap ≤ maxLen ∧ (∀ x ∈ xs, x.length = sz) ∧ ((A = none ∧ xs = [] ∧ cap = 0) ∨ ∃ r, A = some ⟨r, 0, none⟩ ∧ h r = some (.cells t (cap * sz) xs.flatten))
theorem flat_drop {sz : Nat} : ∀ {xs : List (List PV)}, (∀ x ∈ xs, x.length = sz) → ∀ {i : Nat} (hi : i < xs.length) {o w : Nat}, o + w ≤ sz → (xs.flatten.drop (i * sz + o)).take w = (xs[i].drop o).take w
  | [], _, i, hi, _, _, _ => absurd hi (Nat.not_lt_zero _)
  | x :: xs, h, 0, _, o, w, hw => by
    have hx := h x (List.mem_cons_self ..)
    rw [Nat.zero_mul, Nat.zero_add, List.flatten_cons, List.drop_append, List.take_append, hx]
    have e : w - (x.drop o).length = 0 := by rw [List.length_drop]; omega
    rw [e, List.take_zero, List.append_nil]
    rfl
  | x :: xs, h, i + 1, hi, o, w, hw => by
    have hx := h x (List.mem_cons_self ..)
    have ih := flat_drop (fun y hy => h y (List.mem_cons_of_mem _ hy)) (i := i) (by simpa using hi) (o := o) (w := w) hw
    rw [List.flatten_cons, List.drop_append, List.drop_eq_nil_of_le (by rw [hx, Nat.add_mul]; omega), List.nil_append, show (i + 1) * sz + o - x.length = i * sz + o by rw [hx, Nat.add_mul]; omega, ih]
    rfl
/-- What can be read of the board of the reference. -/
def Rd (m : Nat) (ps : List Int) (es : List It) (h : Heap) : Prop := ∃ v1 v2, h m = some (.cells 47 2 [v1, v2]) ∧ RowAt h 3 1 (elP ps) v1 ∧ RowAt h 78 4 (elE es) v2
theorem elP_flat {ps : List Int} {i : Nat} (h : i < ps.length) : ((elP ps).flatten.drop (i * 1)).take 1 = [.int .i64 ps[i]] ∧ i * 1 + 1 ≤ (elP ps).flatten.length := by
  have hw : ∀ x ∈ elP ps, x.length = 1 := fun x hx => by unfold elP at hx; obtain ⟨y, _, rfl⟩ := List.mem_map.1 hx; rfl
  have hf := flat_drop hw (i := i) (by rw [elP_len]; exact h) (o := 0) (w := 1) (by omega)
  refine ⟨hf.trans ?_, ?_⟩
  · unfold elP; rw [List.getElem_map]; rfl
  · rw [flatten_len hw, elP_len]; omega
theorem elE_wide (es : List It) : ∀ x ∈ elE es, x.length = 4 := fun x hx => by unfold elE at hx; obtain ⟨y, _, rfl⟩ := List.mem_map.1 hx; rfl
theorem elE_flat {es : List It} {i : Nat} (h : i < es.length) : ((elE es).flatten.drop (i * 4)).take 1 = [.int .i64 es[i].pid] ∧ ((elE es).flatten.drop (i * 4 + 2)).take 1 = [.int .i64 es[i].ch] ∧ ((elE es).flatten.drop (i * 4 + 3)).take 1 = [.bool es[i].sd] ∧ ((elE es).flatten.drop (i * 4)).take 4 = enC es[i] ∧ i * 4 + 4 ≤ (elE es).flatten.length := by
  have hi : i < (elE es).length := by rw [elE_len]; exact h
  have he : (elE es)[i] = enC es[i] := by simp [elE]
  have k : ∀ o w, o + w ≤ 4 → ((elE es).flatten.drop (i * 4 + o)).take w = ((enC es[i]).drop o).take w := fun o w hw => by rw [flat_drop (elE_wide es) hi hw, he]
  refine ⟨k 0 1 (by omega), k 2 1 (by omega), k 3 1 (by omega), k 0 4 (by omega), ?_⟩
  rw [flatten_len (elE_wide es), elE_len]; omega
theorem RWaits_ok {m : Nat} {ps : List Int} {es : List It} {h : Heap} (rd : Rd m ps es h) (p : Int) (hl : ps.length ≤ 1000000) : SCalls env 34 [adr m, .int .i64 p] h (Ret (.bool (ps.contains p)) h) := by
  obtain ⟨v1, v2, hm, ⟨A, cap, rfl, hc1, hc2, hw1, hr⟩, _⟩ := rd
  rw [elP_len] at hm hc1
  refine SCalls.body Try.func34 rfl rfl (by simp [Try.ntmps34]) ?_
  refine SW.seq (SW.run [] _ ?_)
  simp only [wpC, Bool.false_eq_true, ↓reduceIte, wpS, stops, wantedA, okDst, Try.ntmps34, Nat.reduceLT, decide_true, step1, isOwnCall, hxOp, px, AS.eval, ofConst, ofVal, thenQ, AS.put, enumA, Nat.zero_add, dropKey, reduceCtorEq, Nat.reduceEqDiff, true_and]
  refine SW.seq (SW.seq (SW.run [] _ ?_))
  simp only [wpC, Bool.false_eq_true, ↓reduceIte, wpS, stops, wantedA, okDst, Nat.reduceLT, decide_true, step1, isOwnCall, hxOp, px, AS.eval, ofConst, ofVal, thenQ, AS.put, dropKey, Nat.reduceEqDiff, reduceCtorEq, true_and]
  refine SW.block (SW.loopH 24 (fun i : Nat => [(0, adr m), (1, .int .i64 p), (5, .int .i64 (i : Nat))]) (fun _ => h) (fun i => i ≤ ps.length ∧ ∀ x ∈ ps.take i, ¬ x = p) (fun i => ps.length - i) 0 ⟨Nat.zero_le _, by simp⟩ ⟨rfl, .refl _ _, ?_⟩ ?_)
  · simp only [hasAll, AS.get, Lift.look, Nat.succ_ne_zero, ↓reduceIte, adr, Option.getD_some, Nat.reduceEqDiff, reduceCtorEq, Int.cast_ofNat_Int, and_self]
  rintro i ⟨hi, hsk⟩
  refine SW.seq (SW.run [] _ ?_)
  by_cases hlt : i < ps.length
  · have hw : IntKind.i64.wrap ((i : Int) + 1) = ((i + 1 : Nat) : Int) := by rw [w64 (by omega) (by omega)]; rfl
    rcases hr with ⟨_, he, _⟩ | ⟨r, rfl, hr⟩
    · have := elP_len ps; rw [he] at this; simp at this; omega
    obtain ⟨hf, hfl⟩ := elP_flat hlt
    simp only [wpC, mayStop, stops, isFlt, Specs.has, Specs.hasO, Bool.or_false, Specs.hasH, Bool.not_false, List.any_cons, List.any_nil, Bool.false_eq_true, ↓reduceIte, wpS, wantedA, okDst, Nat.reduceLT, decide_true, step1, isOwnCall, hxOp, px, AS.eval, AS.get, Lift.look, reduceCtorEq, Nat.reduceEqDiff, Option.getD_some, AS.put, dropKey, adr, Nat.succ_ne_zero, pfieldAddr, fieldOf, ty47, fieldIn, List.getElem?_cons_zero, ty31, Option.map_some, ne_eq, not_false_eq_true, Nat.add_zero, pload, hm, okOne, TK.isAgg, beq_self_eq_true, Bool.or_true, Nat.zero_add, List.length_cons, List.length_nil, Nat.reduceAdd, Nat.reduceLeDiff, and_self, Lift.valOf, List.drop_zero, List.take_succ_cons, List.take_zero, List.getD_cons_zero, pcall, plen, okLen, isNilC, pbinP, pbinI, Int.ofNat_lt, hlt, thenQ, isB, tmpOf, asB, hasAll, and_true, true_and]
    refine SW.seq (SW.block (SW.run [] _ ?_))
    cases he : (ps[i] == p)
    · simp only [wpC, mayStop, stops, isFlt, Specs.has, Specs.hasO, Bool.or_false, Specs.hasH, Bool.not_false, List.any_cons, List.any_nil, Bool.false_eq_true, ↓reduceIte, wpS, wantedA, okDst, Nat.reduceLT, decide_true, step1, isOwnCall, hxOp, px, AS.eval, AS.get, Lift.look, Nat.succ_ne_zero, Option.getD_some, AS.put, dropKey, Nat.reduceEqDiff, reduceCtorEq, pfieldAddr, fieldOf, ty47, fieldIn, List.getElem?_cons_zero, ty31, Option.map_some, ne_eq, not_false_eq_true, Nat.add_zero, pload, hm, okOne, TK.isAgg, beq_self_eq_true, Bool.or_true, Nat.zero_add, List.length_cons, List.length_nil, Nat.reduceAdd, Nat.reduceLeDiff, and_self, Lift.valOf, List.drop_zero, List.take_succ_cons, List.take_zero, List.getD_cons_zero, pindexAddr, ty3, Int.natCast_nonneg, Int.ofNat_lt, hlt, Int.toNat_natCast, hr, hfl, hf, isNilC, pbinP, pbinI, he, thenQ, isB, tmpOf, asB, inQ, true_and]
      refine SW.run [] _ ?_
      simp only [wpC, Bool.false_eq_true, ↓reduceIte, wpS, stops, wantedA, okDst, Nat.reduceLT, decide_true, step1, isOwnCall, hxOp, px, AS.eval, AS.get, Lift.look, Nat.reduceEqDiff, reduceCtorEq, Option.getD_some, isFlt, ty3, AS.put, dropKey, isNilC, pbinP, ofConst, ofVal, pbinI, hw, thenQ, HTo_self, Nat.succ_ne_zero, true_and]
      refine ⟨i + 1, ⟨hlt, fun x hx => ?_⟩, by omega, rfl⟩
      rw [take_snoc hlt] at hx
      rcases List.mem_append.1 hx with hx | hx
      · exact hsk x hx
      · rw [List.mem_singleton.1 hx]; simpa using he
    · have ht : ps.contains p = true := by rw [List.contains_iff_mem]; have : ps[i] = p := by simpa using he
                                           rw [← this]; exact List.getElem_mem hlt
      simp only [wpC, mayStop, stops, isFlt, Specs.has, Specs.hasO, Bool.or_false, Specs.hasH, Bool.not_false, List.any_cons, List.any_nil, Bool.false_eq_true, ↓reduceIte, wpS, wantedA, okDst, Nat.reduceLT, decide_true, step1, isOwnCall, hxOp, px, AS.eval, AS.get, Lift.look, Nat.succ_ne_zero, Option.getD_some, AS.put, dropKey, Nat.reduceEqDiff, reduceCtorEq, pfieldAddr, fieldOf, ty47, fieldIn, List.getElem?_cons_zero, ty31, Option.map_some, ne_eq, not_false_eq_true, Nat.add_zero, pload, hm, okOne, TK.isAgg, beq_self_eq_true, Bool.or_true, Nat.zero_add, List.length_cons, List.length_nil, Nat.reduceAdd, Nat.reduceLeDiff, and_self, Lift.valOf, List.drop_zero, List.take_succ_cons, List.take_zero, List.getD_cons_zero, pindexAddr, ty3, Int.natCast_nonneg, Int.ofNat_lt, hlt, Int.toNat_natCast, hr, hfl, hf, isNilC, pbinP, pbinI, he, thenQ, isB, tmpOf, asB, ofConst, ofVal, inQ, RPost, sres, Try.results34, sresL, sres1, Option.some.injEq, ht, Ret_fin, HTo_self, and_true, exists_eq_left']
  · obtain rfl : i = ps.length := by omega
    rw [List.take_length] at hsk
    have ht : ps.contains p = false := by
      cases e : ps.contains p
      · rfl
      · exact absurd rfl (hsk p (by simpa using e))
    simp only [wpC, mayStop, stops, isFlt, Specs.has, Specs.hasO, Bool.or_false, Specs.hasH, Bool.not_false, List.any_cons, List.any_nil, Bool.false_eq_true, ↓reduceIte, wpS, wantedA, okDst, Nat.reduceLT, decide_true, step1, isOwnCall, hxOp, px, AS.eval, AS.get, Lift.look, reduceCtorEq, Nat.reduceEqDiff, Option.getD_some, AS.put, dropKey, adr, Nat.succ_ne_zero, pfieldAddr, fieldOf, ty47, fieldIn, List.getElem?_cons_zero, ty31, Option.map_some, ne_eq, not_false_eq_true, Nat.add_zero, pload, hm, okOne, TK.isAgg, beq_self_eq_true, Bool.or_true, Nat.zero_add, List.length_cons, List.length_nil, Nat.reduceAdd, Nat.reduceLeDiff, and_self, Lift.valOf, List.drop_zero, List.take_succ_cons, List.take_zero, List.getD_cons_zero, pcall, plen, okLen, isNilC, pbinP, pbinI, Int.ofNat_lt, Nat.lt_irrefl, decide_false, thenQ, isB, tmpOf, asB, inQ, true_and]
    refine SW.run [] _ ?_
    simp only [wpC, mayStop, stops, isFlt, Specs.has, Specs.hasO, Bool.or_false, Specs.hasH, Bool.not_false, List.any_cons, List.any_nil, Bool.false_eq_true, ↓reduceIte, wpS, wantedA, okDst, Nat.reduceLT, decide_true, step1, isOwnCall, hxOp, px, AS.eval, ofConst, ofVal, thenQ, RPost, sres, AS.put, dropKey, Nat.reduceEqDiff, reduceCtorEq, Try.results34, sresL, sres1, AS.get, Lift.look, Option.getD_some, Option.some.injEq, ht, Ret_fin, HTo_self, and_true, exists_eq_left', and_self]
/-- The entry that an offer meets. -/
def meetB (p c : Int) (s : Bool) (i : It) : Bool := (i.ch == c) && (i.sd != s) && (i.pid != p)
def firstI (es : List It) (p c : Int) (s : Bool) : Int := match es.findIdx? (meetB p c s) with | some k => (k : Int) | none => -1
set_option maxHeartbeats 1000000 in
set_option maxRecDepth 100000 in
theorem RFirst_ok {m : Nat} {ps : List Int} {es : List It} {h : Heap} (rd : Rd m ps es h) (p c : Int) (s : Bool) (hl : es.length ≤ 1000000) : SCalls env 41 [adr m, .int .i64 p, .agg [.int .i64 c, .bool s]] h (Ret (.int .i64 (firstI es p c s)) h) := by
  obtain ⟨v1, v2, hm, _, ⟨A, cap, rfl, hc1, hc2, hw1, hr⟩⟩ := rd
  rw [elE_len] at hm hc1
  refine SCalls.body Try.func41 rfl rfl (by simp [Try.ntmps41]) ?_
  refine SW.seq (SW.run [] _ ?_)
  simp only [wpC, Bool.false_eq_true, ↓reduceIte, wpS, stops, wantedA, okDst, Try.ntmps41, Nat.reduceLT, decide_true, step1, known1, AS.eval, AS.get, enumA, Nat.zero_add, Nat.reduceAdd, Lift.look, reduceCtorEq, Nat.reduceEqDiff, Option.getD_some, AS.put, dropKey, isOwnCall, hxOp, px, ofConst, ofVal, thenQ, PV.cells, List.length_cons, List.length_nil, true_and]
  intro q hq
  have hqm : ¬ m = q := by rintro rfl; rw [hq] at hm; cases hm
  have h1 : (h.put q (.cells 81 2 [.int .i64 c, .bool s])) m = some (.cells 47 2 [v1, .val (.slice A es.length cap)]) := by rw [Heap.put_ne _ _ hqm]; exact hm
  have h2 : (h.put q (.cells 81 2 [.int .i64 c, .bool s])) q = some (.cells 81 2 [.int .i64 c, .bool s]) := Heap.put_same _ _ _
  have hr' : (A = none ∧ elE es = [] ∧ cap = 0) ∨ ∃ r, A = some ⟨r, 0, none⟩ ∧ (h.put q (.cells 81 2 [.int .i64 c, .bool s])) r = some (.cells 78 (cap * 4) (elE es).flatten) := by
    rcases hr with hr | ⟨r, e1, e2⟩
    · exact .inl hr
    · exact .inr ⟨r, e1, by rw [Heap.put_ne _ _ (by rintro rfl; rw [hq] at e2; cases e2)]; exact e2⟩
  have hin : Inc h (h.put q (.cells 81 2 [.int .i64 c, .bool s])) := (Inc.self h).put hq _
  generalize h.put q (.cells 81 2 [.int .i64 c, .bool s]) = H at h1 h2 hr' hin ⊢
  clear hr hm
  refine SW.seq (SW.seq (SW.run [] _ ?_))
  simp only [wpC, Bool.false_eq_true, ↓reduceIte, wpS, stops, wantedA, okDst, Nat.reduceLT, decide_true, step1, isOwnCall, hxOp, px, AS.eval, ofConst, ofVal, thenQ, AS.put, dropKey, Nat.reduceEqDiff, reduceCtorEq, true_and]
  refine SW.block (SW.loopH 54 (fun i : Nat => [(0, adr m), (1, .int .i64 p), (5, adr q), (7, .int .i64 (i : Nat))]) (fun _ => H) (fun i => i ≤ es.length ∧ ∀ x ∈ es.take i, meetB p c s x = false) (fun i => es.length - i) 0 ⟨Nat.zero_le _, by simp⟩ ⟨rfl, .refl _ _, ?_⟩ ?_)
  · simp only [hasAll, AS.get, Lift.look, Nat.succ_ne_zero, ↓reduceIte, adr, Option.getD_some, Nat.reduceEqDiff, reduceCtorEq, Int.cast_ofNat_Int, and_self]
  rintro i ⟨hi, hsk⟩
  refine SW.seq (SW.run [] _ ?_)
  by_cases hlt : i < es.length
  · have hw : IntKind.i64.wrap ((i : Int) + 1) = ((i + 1 : Nat) : Int) := by rw [w64 (by omega) (by omega)]; rfl
    rcases hr' with ⟨_, he, _⟩ | ⟨r, rfl, hr3⟩
    · have := elE_len es; rw [he] at this; simp at this; omega
    obtain ⟨f0, f2, f3, _, hfl⟩ := elE_flat hlt
    have l1 : i * 4 + 1 ≤ (elE es).flatten.length := by omega
    have l2 : i * 4 + 2 + 1 ≤ (elE es).flatten.length := by omega
    have l3 : i * 4 + 3 + 1 ≤ (elE es).flatten.length := by omega
    simp only [wpC, mayStop, stops, isFlt, Specs.has, Specs.hasO, Bool.or_false, Specs.hasH, Bool.not_false, List.any_cons, List.any_nil, Bool.false_eq_true, ↓reduceIte, wpS, wantedA, okDst, Nat.reduceLT, decide_true, step1, isOwnCall, hxOp, px, AS.eval, AS.get, Lift.look, reduceCtorEq, Nat.reduceEqDiff, Option.getD_some, AS.put, dropKey, adr, Nat.succ_ne_zero, pfieldAddr, fieldOf, ty47, fieldIn, List.getElem?_cons_succ, List.getElem?_cons_zero, ty45, Option.map_some, ne_eq, not_false_eq_true, Nat.zero_add, pload, h1, okOne, TK.isAgg, beq_self_eq_true, Bool.or_true, Nat.reduceAdd, List.length_cons, List.length_nil, Nat.le_refl, and_self, Lift.valOf, List.drop_succ_cons, List.drop_zero, List.take_succ_cons, List.take_nil, List.getD_cons_zero, pcall, plen, okLen, isNilC, pbinP, pbinI, Int.ofNat_lt, hlt, thenQ, isB, tmpOf, asB, hasAll, and_true, true_and]
    obtain ⟨X, hX⟩ : ∃ X, X = es[i] := ⟨_, rfl⟩
    rw [← hX] at f0 f2 f3
    have mb : meetB p c s X = ((X.ch == c) && (X.sd != s) && (X.pid != p)) := rfl
    refine SW.seq (SW.block (SW.seq (SW.regionCut [] rfl (RestC.cut [] [0, 1, 2, 3, 4, 5, 6, 7, 8, 9, 10] 11 (k := 24) rfl (by kernel_rfl) ?_))))
    simp only [wpO, LOp, List.getElem?_toArray, List.getElem?_cons_zero, okDst, Nat.reduceLT, decide_true, wantedA, ↓reduceIte, step1, isOwnCall, Bool.false_eq_true, hxOp, px, AS.eval, AS.get, Lift.look, Nat.succ_ne_zero, Option.getD_some, List.getElem?_cons_succ, AS.put, dropKey, Nat.reduceEqDiff, reduceCtorEq, pfieldAddr, fieldOf, ty47, fieldIn, ty45, Option.map_some, ne_eq, not_false_eq_true, Nat.zero_add, pload, h1, okOne, TK.isAgg, beq_self_eq_true, Bool.or_true, Nat.reduceAdd, List.length_cons, List.length_nil, Nat.le_refl, and_self, Lift.valOf, List.drop_succ_cons, List.drop_zero, List.take_succ_cons, List.take_nil, List.getD_cons_zero, pindexAddr, ty78, Int.natCast_nonneg, Int.ofNat_lt, hlt, Int.toNat_natCast, ty3, hr3, l2, f2, ty81, Nat.add_zero, h2, Nat.reduceLeDiff, List.take_zero, isNilC, pbinP, pbinI, Option.toList_some, true_and]
    refine SWO.run [] 1000 ?_
    simp only [wpS, stops, Bool.false_eq_true, ↓reduceIte, wantedA, okDst, Nat.reduceLT, decide_true, step1, isOwnCall, hxOp, px, AS.eval, AS.get, Lift.look, Option.getD_some, thenQ, AS.put, dropKey, Nat.reduceEqDiff, reduceCtorEq, true_and]
    refine RestC.norm (n := 54) (l := [(0, adr m), (1, .int .i64 p), (5, adr q), (7, .int .i64 (i : Nat)), (28, .bool (X.ch == c))]) (h := H) ⟨rfl, rfl, ?_⟩ ?_
    · simp only [hasAll, AS.get, Lift.look, Nat.succ_ne_zero, ↓reduceIte, Option.getD_some, adr, Nat.reduceEqDiff, reduceCtorEq, and_self]
    refine RestC.cut [] [12, 13, 14, 15, 16, 17, 18, 19, 20, 21, 22, 23] 24 (k := 11) rfl (by kernel_rfl) ?_
    cases e1 : (X.ch == c)
    · rw [e1, Bool.false_and, Bool.false_and] at mb
      simp only [wpO, LOp, List.getElem?_toArray, List.getElem?_cons_succ, List.getElem?_cons_zero, okDst, Nat.reduceLT, decide_true, wantedA, Option.bind_some, AS.get, Lift.look, reduceCtorEq, ↓reduceIte, Nat.reduceEqDiff, Option.getD_some, beq_ft, Option.some.injEq, Bool.false_eq_true, AS.put, dropKey, step1, isOwnCall, hxOp, px, AS.eval, ofConst, ofVal, ppick_false, Option.toList_some, true_and]
      refine SWO.run [] 1000 ?_
      simp only [wpS, stops, Bool.false_eq_true, ↓reduceIte, wantedA, okDst, Nat.reduceLT, decide_true, step1, isOwnCall, hxOp, px, AS.eval, AS.get, Lift.look, Option.getD_some, thenQ, AS.put, dropKey, Nat.reduceEqDiff, reduceCtorEq, true_and]
      refine RestC.norm (n := 54) (l := [(0, adr m), (1, .int .i64 p), (5, adr q), (7, .int .i64 (i : Nat)), (41, .bool false)]) (h := H) ⟨rfl, rfl, ?_⟩ ?_
      · simp only [hasAll, AS.get, Lift.look, Nat.succ_ne_zero, ↓reduceIte, adr, Option.getD_some, Nat.reduceEqDiff, reduceCtorEq, and_self]
      refine RestC.last [] [25, 26, 27, 28, 29, 30, 31, 32, 33, 34, 35] rfl (by kernel_rfl) ?_
      simp only [wpO, LOp, List.getElem?_toArray, List.getElem?_cons_succ, List.getElem?_cons_zero, okDst, Nat.reduceLT, decide_true, wantedA, Option.bind_some, AS.get, Lift.look, reduceCtorEq, ↓reduceIte, Nat.reduceEqDiff, Option.getD_some, beq_ft, Option.some.injEq, Bool.false_eq_true, AS.put, dropKey, step1, isOwnCall, hxOp, px, AS.eval, ofConst, ofVal, ppick_false, thenQ, true_and]
      refine SW.run [] _ ?_
      simp only [wpC, isB, AS.get, Lift.look, tmpOf, ↓reduceIte, Option.getD_some, asB, Bool.false_eq_true, inQ, thenQ, true_and]
      refine SW.run [] _ ?_
      simp only [wpC, Bool.false_eq_true, ↓reduceIte, wpS, stops, wantedA, okDst, Nat.reduceLT, decide_true, step1, isOwnCall, hxOp, px, AS.eval, AS.get, Lift.look, Nat.reduceEqDiff, reduceCtorEq, Option.getD_some, isFlt, ty3, AS.put, dropKey, adr, isNilC, pbinP, ofConst, ofVal, pbinI, hw, thenQ, HTo_self, Nat.succ_ne_zero, true_and]
      refine ⟨i + 1, ⟨hlt, fun x hx => ?_⟩, by omega, rfl⟩
      rw [take_snoc hlt] at hx
      rcases List.mem_append.1 hx with hx | hx
      · exact hsk x hx
      · rw [List.mem_singleton.1 hx, ← hX]; exact mb
    · rw [e1, Bool.true_and] at mb
      simp only [wpO, LOp, List.getElem?_toArray, List.getElem?_cons_succ, List.getElem?_cons_zero, okDst, Nat.reduceLT, decide_true, wantedA, Option.bind_some, AS.get, Lift.look, reduceCtorEq, ↓reduceIte, Nat.reduceEqDiff, Option.getD_some, beq_self_eq_true, step1, isOwnCall, Bool.false_eq_true, hxOp, px, AS.eval, adr, AS.put, dropKey, pfieldAddr, fieldOf, ty47, fieldIn, ty45, Option.map_some, ne_eq, Nat.succ_ne_zero, not_false_eq_true, Nat.zero_add, pload, h1, okOne, TK.isAgg, Bool.or_true, Nat.reduceAdd, List.length_cons, List.length_nil, Nat.le_refl, and_self, Lift.valOf, List.drop_succ_cons, List.drop_zero, List.take_succ_cons, List.take_nil, List.getD_cons_zero, pindexAddr, ty78, Int.natCast_nonneg, Int.ofNat_lt, hlt, Int.toNat_natCast, ty4, hr3, l3, f3, ty81, h2, isNilC, pbinP, pflt, peq, peqK, ofConst, ofVal, ppick_bool, Option.toList_some, true_and]
      refine SWO.run [] 1000 ?_
      simp only [wpS, stops, Bool.false_eq_true, ↓reduceIte, wantedA, okDst, Nat.reduceLT, decide_true, step1, isOwnCall, hxOp, px, AS.eval, AS.get, Lift.look, Option.getD_some, thenQ, AS.put, dropKey, Nat.reduceEqDiff, reduceCtorEq, true_and]
      refine RestC.norm (n := 54) (l := [(0, adr m), (1, .int .i64 p), (5, adr q), (7, .int .i64 (i : Nat)), (41, .bool (X.sd != s))]) (h := H) ⟨rfl, rfl, ?_⟩ ?_
      · simp only [hasAll, AS.get, Lift.look, Nat.succ_ne_zero, ↓reduceIte, Option.getD_some, adr, Nat.reduceEqDiff, reduceCtorEq, and_true, true_and]
        rfl
      refine RestC.last [] [25, 26, 27, 28, 29, 30, 31, 32, 33, 34, 35] rfl (by kernel_rfl) ?_
      cases e2 : (X.sd != s)
      · rw [e2, Bool.false_and] at mb
        simp only [wpO, LOp, List.getElem?_toArray, List.getElem?_cons_succ, List.getElem?_cons_zero, okDst, Nat.reduceLT, decide_true, wantedA, Option.bind_some, AS.get, Lift.look, reduceCtorEq, ↓reduceIte, Nat.reduceEqDiff, Option.getD_some, beq_ft, Option.some.injEq, Bool.false_eq_true, AS.put, dropKey, step1, isOwnCall, hxOp, px, AS.eval, ofConst, ofVal, ppick_false, thenQ, true_and]
        refine SW.run [] _ ?_
        simp only [wpC, isB, AS.get, Lift.look, tmpOf, ↓reduceIte, Option.getD_some, asB, Bool.false_eq_true, inQ, thenQ, true_and]
        refine SW.run [] _ ?_
        simp only [wpC, Bool.false_eq_true, ↓reduceIte, wpS, stops, wantedA, okDst, Nat.reduceLT, decide_true, step1, isOwnCall, hxOp, px, AS.eval, AS.get, Lift.look, Nat.reduceEqDiff, reduceCtorEq, Option.getD_some, isFlt, ty3, AS.put, dropKey, adr, isNilC, pbinP, ofConst, ofVal, pbinI, hw, thenQ, HTo_self, Nat.succ_ne_zero, true_and]
        refine ⟨i + 1, ⟨hlt, fun x hx => ?_⟩, by omega, rfl⟩
        rw [take_snoc hlt] at hx
        rcases List.mem_append.1 hx with hx | hx
        · exact hsk x hx
        · rw [List.mem_singleton.1 hx, ← hX]; exact mb
      · rw [e2, Bool.true_and] at mb
        cases e3 : (X.pid != p)
        · rw [e3] at mb
          simp only [wpO, LOp, List.getElem?_toArray, List.getElem?_cons_succ, List.getElem?_cons_zero, okDst, Nat.reduceLT, decide_true, wantedA, Option.bind_some, AS.get, Lift.look, reduceCtorEq, ↓reduceIte, Nat.reduceEqDiff, Option.getD_some, beq_self_eq_true, step1, isOwnCall, Bool.false_eq_true, hxOp, px, AS.eval, adr, AS.put, dropKey, pfieldAddr, fieldOf, ty47, fieldIn, ty45, Option.map_some, ne_eq, Nat.succ_ne_zero, not_false_eq_true, Nat.zero_add, pload, h1, okOne, TK.isAgg, Bool.or_true, Nat.reduceAdd, List.length_cons, List.length_nil, Nat.le_refl, and_self, Lift.valOf, List.drop_succ_cons, List.drop_zero, List.take_succ_cons, List.take_nil, List.getD_cons_zero, pindexAddr, ty78, Int.natCast_nonneg, Int.ofNat_lt, hlt, Int.toNat_natCast, ty3, Nat.add_zero, hr3, l1, f0, isNilC, pbinP, pbinI, e3, ofConst, ofVal, ppick_bool, thenQ, true_and]
          refine SW.run [] _ ?_
          simp only [wpC, isB, AS.get, Lift.look, tmpOf, ↓reduceIte, Option.getD_some, asB, Bool.false_eq_true, inQ, thenQ, true_and]
          refine SW.run [] _ ?_
          simp only [wpC, Bool.false_eq_true, ↓reduceIte, wpS, stops, wantedA, okDst, Nat.reduceLT, decide_true, step1, isOwnCall, hxOp, px, AS.eval, AS.get, Lift.look, Nat.reduceEqDiff, reduceCtorEq, Option.getD_some, isFlt, ty3, AS.put, dropKey, isNilC, pbinP, ofConst, ofVal, pbinI, hw, thenQ, HTo_self, Nat.succ_ne_zero, true_and]
          refine ⟨i + 1, ⟨hlt, fun x hx => ?_⟩, by omega, rfl⟩
          rw [take_snoc hlt] at hx
          rcases List.mem_append.1 hx with hx | hx
          · exact hsk x hx
          · rw [List.mem_singleton.1 hx, ← hX]; exact mb
        · rw [e3] at mb
          have hfi : firstI es p c s = (i : Nat) := by
            unfold firstI
            have : es.findIdx? (meetB p c s) = some i := by
              rw [List.findIdx?_eq_some_iff_getElem]
              exact ⟨hlt, by rw [← hX]; exact mb, fun j hj => by rw [hsk _ (List.mem_take_iff_getElem.2 ⟨j, by omega, rfl⟩)]; simp⟩
            rw [this]
          simp only [wpO, LOp, List.getElem?_toArray, List.getElem?_cons_succ, List.getElem?_cons_zero, okDst, Nat.reduceLT, decide_true, wantedA, Option.bind_some, AS.get, Lift.look, reduceCtorEq, ↓reduceIte, Nat.reduceEqDiff, Option.getD_some, beq_self_eq_true, step1, isOwnCall, Bool.false_eq_true, hxOp, px, AS.eval, adr, AS.put, dropKey, pfieldAddr, fieldOf, ty47, fieldIn, ty45, Option.map_some, ne_eq, Nat.succ_ne_zero, not_false_eq_true, Nat.zero_add, pload, h1, okOne, TK.isAgg, Bool.or_true, Nat.reduceAdd, List.length_cons, List.length_nil, Nat.le_refl, and_self, Lift.valOf, List.drop_succ_cons, List.drop_zero, List.take_succ_cons, List.take_nil, List.getD_cons_zero, pindexAddr, ty78, Int.natCast_nonneg, Int.ofNat_lt, hlt, Int.toNat_natCast, ty3, Nat.add_zero, hr3, l1, f0, isNilC, pbinP, pbinI, e3, ofConst, ofVal, ppick_bool, thenQ, true_and]
          refine SW.run [] _ ?_
          simp only [wpC, isB, AS.get, Lift.look, tmpOf, ↓reduceIte, Option.getD_some, asB, mayStop, stops, isFlt, Specs.has, Specs.hasO, Bool.or_false, Specs.hasH, Bool.not_false, List.any_cons, List.any_nil, Bool.false_eq_true, wpS, wantedA, okDst, Nat.reduceLT, decide_true, step1, isOwnCall, hxOp, px, AS.eval, Nat.reduceEqDiff, reduceCtorEq, AS.put, dropKey, thenQ, inQ, RPost, sres, Try.results41, sresL, sres1, Option.some.injEq, hfi, Ret_fin, exists_eq_left', true_and]
          exact hin.to
  · obtain rfl : i = es.length := by omega
    rw [List.take_length] at hsk
    have hfi : firstI es p c s = -1 := by
      unfold firstI
      rw [List.findIdx?_eq_none_iff.2 hsk]
    simp only [wpC, mayStop, stops, isFlt, Specs.has, Specs.hasO, Bool.or_false, Specs.hasH, Bool.not_false, List.any_cons, List.any_nil, Bool.false_eq_true, ↓reduceIte, wpS, wantedA, okDst, Nat.reduceLT, decide_true, step1, isOwnCall, hxOp, px, AS.eval, AS.get, Lift.look, reduceCtorEq, Nat.reduceEqDiff, Option.getD_some, AS.put, dropKey, adr, Nat.succ_ne_zero, pfieldAddr, fieldOf, ty47, fieldIn, List.getElem?_cons_succ, List.getElem?_cons_zero, ty45, Option.map_some, ne_eq, not_false_eq_true, Nat.zero_add, pload, h1, okOne, TK.isAgg, beq_self_eq_true, Bool.or_true, Nat.reduceAdd, List.length_cons, List.length_nil, Nat.le_refl, and_self, Lift.valOf, List.drop_succ_cons, List.drop_zero, List.take_succ_cons, List.take_nil, List.getD_cons_zero, pcall, plen, okLen, isNilC, pbinP, pbinI, Int.ofNat_lt, Nat.lt_irrefl, decide_false, thenQ, isB, tmpOf, asB, inQ, true_and]
    refine SW.run [] _ ?_
    simp only [wpC, mayStop, stops, isFlt, Specs.has, Specs.hasO, Bool.or_false, Specs.hasH, Bool.not_false, List.any_cons, List.any_nil, Bool.false_eq_true, ↓reduceIte, wpS, wantedA, okDst, Nat.reduceLT, decide_true, step1, isOwnCall, hxOp, px, AS.eval, ofConst, ofVal, thenQ, RPost, sres, AS.put, dropKey, Nat.reduceEqDiff, reduceCtorEq, Try.results41, sresL, sres1, AS.get, Lift.look, Option.getD_some, Option.some.injEq, hfi, Ret_fin, exists_eq_left', true_and]
    exact hin.to
end Go.Proofs.Ytekgfneapofgpaa
