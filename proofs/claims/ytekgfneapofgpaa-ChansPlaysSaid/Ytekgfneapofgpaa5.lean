/- Contracts of functions that the law reaches. -/
import Derived.Test.Ytekgfneapofgpaa4
set_option linter.unusedSimpArgs false
set_option linter.unusedVariables false
namespace Go.Proofs.Ytekgfneapofgpaa
open Go Go.RowKit Go.Proofs.Ytekgfneapofgpaa Go.Proofs.Ytekgfneapofgpaa.Lift

/-! slices.DeleteFunc of what was taken back; tidy -/
/-- What the row holds when so many items have been looked at. -/
def curS (gn : It → Bool) (l : List It) (j : Nat) : List It := keepS gn (l.take j) ++ l.drop (keepS gn (l.take j)).length
def kS (gn : It → Bool) (l : List It) (j : Nat) : Nat := (keepS gn (l.take j)).length
theorem keep_le (gn : It → Bool) (l : List It) (j : Nat) : kS gn l j ≤ (l.take j).length := List.length_filter_le ..
theorem kS_le (gn : It → Bool) (l : List It) (j : Nat) : kS gn l j ≤ j ∧ kS gn l j ≤ l.length := by
  have := keep_le gn l j
  rw [List.length_take] at this
  omega
theorem curS_len (gn : It → Bool) (l : List It) (j : Nat) : (curS gn l j).length = l.length := by
  have := (kS_le gn l j).2
  unfold kS at this
  unfold curS
  rw [List.length_append, List.length_drop]
  omega
theorem keep_next (gn : It → Bool) {l : List It} {j : Nat} (hj : j < l.length) : keepS gn (l.take (j + 1)) = if gn l[j] then keepS gn (l.take j) else keepS gn (l.take j) ++ [l[j]] := by
  unfold keepS
  rw [List.take_add_one, List.getElem?_eq_getElem hj, List.filter_append]
  cases h : gn l[j] <;> simp [h]
theorem kS_next_gone {gn : It → Bool} {l : List It} {j : Nat} (hj : j < l.length) (h : gn l[j] = true) : kS gn l (j + 1) = kS gn l j ∧ curS gn l (j + 1) = curS gn l j := by
  unfold kS curS
  rw [keep_next gn hj, h]
  exact ⟨rfl, rfl⟩
theorem kS_next_kept {gn : It → Bool} {l : List It} {j : Nat} (hj : j < l.length) (h : gn l[j] = false) : kS gn l (j + 1) = kS gn l j + 1 ∧ Lift.splice (adrs (curS gn l j)) (kS gn l j) [adr l[j].a] = adrs (curS gn l (j + 1)) := by
  have hk := kS_le gn l j
  unfold kS at hk
  unfold kS curS
  rw [keep_next gn hj, h]
  simp only [Bool.false_eq_true, if_false]
  refine ⟨by rw [List.length_append]; rfl, ?_⟩
  unfold Lift.splice adrs
  have e1 : ((keepS gn (l.take j) ++ l.drop (keepS gn (l.take j)).length).map fun i => adr i.a).take (keepS gn (l.take j)).length = (keepS gn (l.take j)).map fun i => adr i.a := by
    rw [List.map_append, List.take_left' (by rw [List.length_map])]
  rw [e1]
  have e2 : ((keepS gn (l.take j) ++ l.drop (keepS gn (l.take j)).length).map fun i => adr i.a).drop ((keepS gn (l.take j)).length + [adr l[j].a].length) = (l.drop ((keepS gn (l.take j)).length + 1)).map fun i => adr i.a := by
    rw [List.map_append, List.drop_append, List.drop_of_length_le (by rw [List.length_map]; simp), List.nil_append, List.length_map, List.length_singleton, Nat.add_sub_cancel_left, List.map_drop, List.drop_drop, ← List.map_drop]
  rw [e2, List.length_append, List.map_append, List.map_append]
  rfl
theorem curS_at {gn : It → Bool} {l : List It} {j : Nat} (hj : j < l.length) : ((adrs (curS gn l j)).drop j).take 1 = [adr l[j].a] := by
  have hk := kS_le gn l j
  unfold kS at hk
  have hl : j < (curS gn l j).length := by rw [curS_len]; exact hj
  rw [adrs_at hl]
  have e : (curS gn l j)[j]? = l[j]? := by
    unfold curS
    rw [List.getElem?_append_right hk.1, List.getElem?_drop]
    congr 1
    omega
  rw [List.getElem?_eq_getElem hl, List.getElem?_eq_getElem hj] at e
  injection e with e
  rw [e]
theorem cur_end (gn : It → Bool) (l : List It) : curS gn l l.length = keepS gn l ++ l.drop (keepS gn l).length := by unfold curS; rw [List.take_length]
theorem nils (n : Nat) : (List.replicate n (i61.zero.map ofVal)).flatten = List.replicate n (PV.val (.pointer none)) := by
  induction n with
  | zero => rfl
  | succ n ih => rw [List.replicate_succ, List.flatten_cons, ih]; rfl
theorem clear_end (gn : It → Bool) (l : List It) : Lift.splice (adrs (curS gn l l.length)) (keepS gn l).length (List.replicate (l.length - (keepS gn l).length) (PV.val (.pointer none))) = adrs (keepS gn l) ++ List.replicate (l.length - (keepS gn l).length) (PV.val (.pointer none)) := by
  have hk : (keepS gn l).length ≤ l.length := List.length_filter_le ..
  rw [cur_end]
  unfold Lift.splice
  have e1 : (adrs (keepS gn l ++ l.drop (keepS gn l).length)).take (keepS gn l).length = adrs (keepS gn l) := by
    unfold adrs
    rw [List.map_append, List.take_left' (by rw [List.length_map])]
  rw [e1, List.drop_of_length_le (by rw [adrs_len, List.length_append, List.length_drop, List.length_replicate]; omega), List.append_nil]
theorem fix_some {gn : It → Bool} {l : List It} {m : Nat} (h : l.findIdx? gn = some m) : m < l.length ∧ kS gn l (m + 1) = m ∧ curS gn l (m + 1) = l := by
  obtain ⟨hm, hg, hb⟩ := List.findIdx?_eq_some_iff_getElem.1 h
  have e : keepS gn (l.take m) = l.take m := by
    unfold keepS
    rw [List.filter_eq_self]
    intro x hx
    obtain ⟨k, hk, rfl⟩ := List.getElem_of_mem hx
    rw [List.length_take] at hk
    rw [List.getElem_take]
    have := hb k (by omega)
    simpa using this
  have e2 : kS gn l m = m ∧ curS gn l m = l := by
    unfold kS curS
    rw [e, List.length_take, Nat.min_eq_left (by omega), List.take_append_drop]
    exact ⟨rfl, rfl⟩
  obtain ⟨k1, k2⟩ := kS_next_gone hm hg
  exact ⟨hm, k1.trans e2.1, k2.trans e2.2⟩
theorem fix_none {gn : It → Bool} {l : List It} (h : l.findIdx? gn = none) : keepS gn l = l := by
  unfold keepS
  rw [List.filter_eq_self]
  intro x hx
  rw [List.findIdx?_eq_none_iff.1 h x hx]; rfl
theorem put_row {h : Heap} {buf : Nat} {o : AObj} (hb : h buf = some o) : h.put buf o = h := by
  funext k
  by_cases e : k = buf
  · subst e; rw [Heap.put_same, hb]
  · rw [Heap.put_ne _ _ e]
theorem keep_lt {gn : It → Bool} {l : List It} {m : Nat} (h : l.findIdx? gn = some m) : (keepS gn l).length < l.length := by
  obtain ⟨hm, hg, hb⟩ := List.findIdx?_eq_some_iff_getElem.1 h
  refine Nat.lt_of_le_of_ne (List.length_filter_le ..) fun e => ?_
  have := (List.length_filter_eq_length_iff.1 e) l[m] (List.getElem_mem hm)
  rw [hg] at this
  cases this
theorem DeleteFunc_ok {gn : It → Bool} {l : List It} {buf cap : Nat} {h : Heap} (hb : h buf = some (rowC cap l)) (hi : ∀ i ∈ l, h i.a = some (itC (gn i) i)) (hl : l.length ≤ maxLen) (hc : l.length ≤ cap) :
    SCalls env 36 [.val (.slice (some ⟨buf, 0, none⟩) l.length cap), goneF] h (Ret (.val (.slice (some ⟨buf, 0, none⟩) (keepS gn l).length cap)) (h.put buf (rowC cap (keepS gn l)))) := by
  refine SCalls.body Try.func36 rfl rfl (by simp [Try.ntmps36]) ?_
  refine SW.seq (SW.run [] _ ?_)
  simp only [wpC, Bool.false_eq_true, ↓reduceIte, wpS, stops, wantedA, okDst, Try.ntmps36, Nat.reduceLT, decide_true, step1, isOwnCall, hxOp, px, AS.eval, ofConst, ofVal, thenQ, AS.put, enumA, Nat.zero_add, goneF, dropKey, reduceCtorEq, Nat.reduceEqDiff, true_and]
  refine SW.seq (SW.run [] _ ?_)
  simp only [wpC, Bool.false_eq_true, ↓reduceIte, wpS, stops, wantedA, okDst, Nat.reduceLT, decide_true, step1, isOwnCall, hxOp, px, AS.eval, AS.get, Lift.look, Nat.succ_ne_zero, Option.getD_some, AS.put, dropKey, Nat.reduceEqDiff, reduceCtorEq, Specs.has, Specs.hasO, Bool.or_false, Specs.hasH, Bool.not_false, true_and]
  refine SWO.callRet (.func 42) #[.tmp 8, .tmp 9] _ 42 #[] #[] rfl rfl rfl rfl rfl rfl (IndexFunc_ok hb hi hl) rfl rfl ?_
  refine SWO.run [] 1000 ?_
  simp only [wpS, stops, Bool.false_eq_true, ↓reduceIte, wantedA, okDst, AS.put, dropKey, Nat.reduceEqDiff, reduceCtorEq, Nat.reduceLT, decide_true, step1, isOwnCall, hxOp, px, AS.eval, AS.get, Lift.look, Option.getD_some, thenQ, true_and]
  unfold fixS
  cases hf : l.findIdx? gn with
  | none =>
    have e1 := fix_none hf
    rw [e1, put_row hb]
    refine SW.run [] _ ?_
    simp only [wpC, mayStop, stops, isFlt, Specs.has, Specs.hasO, Bool.or_false, Specs.hasH, Bool.not_false, List.any_cons, List.any_nil, Bool.false_eq_true, ↓reduceIte, wpS, wantedA, okDst, Nat.reduceLT, decide_true, step1, isOwnCall, hxOp, px, AS.eval, AS.get, Lift.look, Option.getD_some, AS.put, dropKey, Nat.reduceEqDiff, reduceCtorEq, isNilC, pbinP, ofConst, ofVal, pbinI, beq_self_eq_true, thenQ, isB, tmpOf, asB, Nat.succ_ne_zero, RPost, sres, Try.results36, sresL, sres1, Option.some.injEq, Ret_fin, HTo_self, and_true, exists_eq_left', and_self]
  | some m =>
    obtain ⟨hm, hk, hcur⟩ := fix_some hf
    have hw : IntKind.i64.wrap ((m : Int) + 1) = ((m + 1 : Nat) : Int) := by rw [w64 (by omega) (by simp only [maxLen] at hl; omega)]; rfl
    have hne : (((m : Nat) : Int) == -1) = false := by rw [beq_eq_false_iff_ne]; omega
    refine SW.seq (SW.run [] _ ?_)
    simp only [wpC, mayStop, stops, isFlt, Specs.has, Specs.hasO, Bool.or_false, Specs.hasH, Bool.not_false, List.any_cons, List.any_nil, Bool.false_eq_true, ↓reduceIte, wpS, wantedA, okDst, Nat.reduceLT, decide_true, step1, isOwnCall, hxOp, px, AS.eval, AS.get, Lift.look, Option.getD_some, AS.put, dropKey, Nat.reduceEqDiff, reduceCtorEq, isNilC, pbinP, ofConst, ofVal, pbinI, hne, thenQ, isB, tmpOf, asB, true_and]
    refine SW.seq (SW.seq (SW.run [] _ ?_))
    simp only [wpC, Bool.false_eq_true, ↓reduceIte, wpS, stops, wantedA, okDst, Nat.reduceLT, decide_true, step1, isOwnCall, hxOp, px, AS.eval, AS.get, Lift.look, Nat.reduceEqDiff, Option.getD_some, isFlt, ty3, AS.put, dropKey, reduceCtorEq, isNilC, pbinP, ofConst, ofVal, pbinI, hw, thenQ, true_and]
    have hkl := kS_le gn l (m + 1)
    refine SW.block (SW.loopH 42 (fun j : Nat => [(0, .val (.slice (some ⟨buf, 0, none⟩) l.length cap)), (1, goneF), (4, .val (.slice none 0 0)), (5, .int .i64 (kS gn l j : Nat)), (6, .int .i64 (j : Nat))]) (fun j => h.put buf (.cells 61 cap (adrs (curS gn l j)))) (fun j => j ≤ l.length ∧ kS gn l j < j) (fun j => l.length - j) (m + 1) ⟨hm, by omega⟩ ⟨rfl, by rw [hcur]; rw [show AObj.cells 61 cap (adrs l) = rowC cap l from rfl, put_row hb]; exact .refl _ _, ?_⟩ ?_)
    · simp only [hasAll, AS.get, Lift.look, Nat.succ_ne_zero, ↓reduceIte, Option.getD_some, Nat.reduceEqDiff, reduceCtorEq, goneF, hk, and_self]
    · rintro j ⟨hj, hkj⟩
      refine SW.run [] _ ?_
      by_cases hlt : j < l.length
      · have hwj : IntKind.i64.wrap ((j : Int) + 1) = ((j + 1 : Nat) : Int) := by rw [w64 (by omega) (by simp only [maxLen] at hl; omega)]; rfl
        have hra := curS_at (gn := gn) hlt
        have hcl : j + 1 ≤ (curS gn l j).length := by rw [curS_len]; exact hlt
        have hit := hi _ (List.getElem_mem hlt)
        have hib : ¬ l[j].a = buf := by rintro e; rw [e, hb] at hit; cases hit
        have hit2 : (h.put buf (.cells 61 cap (adrs (curS gn l j)))) l[j].a = some (itC (gn l[j]) l[j]) := by rw [Heap.put_ne _ _ hib]; exact hit
        simp only [wpC, mayStop, stops, isFlt, Specs.has, Specs.hasO, Bool.or_false, Specs.hasH, Bool.not_false, List.any_cons, List.any_nil, Bool.false_eq_true, ↓reduceIte, wpS, wantedA, okDst, Nat.reduceLT, decide_true, step1, isOwnCall, hxOp, px, AS.eval, AS.get, Lift.look, reduceCtorEq, Nat.reduceEqDiff, Option.getD_some, AS.put, dropKey, goneF, Nat.succ_ne_zero, pcall, ty59, plen, okLen, and_self, isNilC, pbinP, pbinI, Int.ofNat_lt, hlt, thenQ, isB, tmpOf, asB, Bool.or_true, ty3, pindexAddr, ty61, Int.natCast_nonneg, Int.toNat_natCast, Nat.mul_one, Nat.zero_add, pload, Heap.get_put, okOne, TK.isAgg, beq_self_eq_true, adrs_len, hcl, Lift.valOf, hra, adr, List.getD_cons_zero, hasAll, and_true, true_and]
        refine SWO.callRet (.tmp 26) #[.tmp 27] _ 37 #[] #[] rfl rfl rfl rfl rfl rfl (Gone_ok hit2) rfl rfl ?_
        refine SWO.run [] 1000 ?_
        cases hg : gn l[j] with
        | true =>
          obtain ⟨k1, k2⟩ := kS_next_gone hlt hg
          simp only [wpS, stops, Bool.false_eq_true, ↓reduceIte, wantedA, okDst, AS.put, dropKey, Nat.reduceEqDiff, reduceCtorEq, Nat.reduceLT, decide_true, step1, isOwnCall, hxOp, px, pun, AS.eval, AS.get, Lift.look, Option.getD_some, Bool.not_true, thenQ, true_and]
          refine SW.run [] _ ?_
          simp only [wpC, isB, AS.get, Lift.look, tmpOf, ↓reduceIte, Option.getD_some, asB, Bool.false_eq_true, inQ, thenQ, true_and]
          refine SW.run [] _ ?_
          simp only [wpC, Bool.false_eq_true, ↓reduceIte, wpS, stops, wantedA, okDst, Nat.reduceLT, decide_true, step1, isOwnCall, hxOp, px, AS.eval, AS.get, Lift.look, Nat.reduceEqDiff, reduceCtorEq, Option.getD_some, isFlt, ty3, AS.put, dropKey, isNilC, pbinP, ofConst, ofVal, pbinI, hwj, thenQ, Nat.succ_ne_zero, true_and]
          exact ⟨j + 1, ⟨hlt, by omega⟩, by omega, by rw [k2]; exact .refl _ _, by rw [k1], rfl⟩
        | false =>
          obtain ⟨k1, k2⟩ := kS_next_kept hlt hg
          have hk2 : kS gn l j < l.length := by omega
          have hk3 : kS gn l j + 1 ≤ (curS gn l j).length := by rw [curS_len]; omega
          have hwk : IntKind.i64.wrap ((kS gn l j : Int) + 1) = ((kS gn l j + 1 : Nat) : Int) := by rw [w64 (by omega) (by simp only [maxLen] at hl; omega)]; rfl
          simp only [wpS, stops, Bool.false_eq_true, ↓reduceIte, wantedA, okDst, AS.put, dropKey, Nat.reduceEqDiff, reduceCtorEq, Nat.reduceLT, decide_true, step1, isOwnCall, hxOp, px, pun, AS.eval, AS.get, Lift.look, Option.getD_some, Bool.not_false, thenQ, true_and]
          refine SW.run [] _ ?_
          simp only [wpC, isB, AS.get, Lift.look, tmpOf, ↓reduceIte, Option.getD_some, asB, mayStop, stops, isFlt, Specs.has, Specs.hasO, Bool.or_false, Specs.hasH, Bool.not_false, List.any_cons, List.any_nil, Bool.false_eq_true, wpS, wantedA, okDst, Nat.reduceLT, decide_true, step1, isOwnCall, hxOp, px, AS.eval, Nat.succ_ne_zero, AS.put, dropKey, Nat.reduceEqDiff, reduceCtorEq, pindexAddr, ty59, ty61, Int.natCast_nonneg, Int.ofNat_lt, hk2, and_self, Int.toNat_natCast, Nat.mul_one, Nat.zero_add, hx, Heap.get_put, known1, PV.cells, List.length_cons, List.length_nil, adrs_len, hk3, splice, thenQ, ty3, isNilC, pbinP, ofConst, ofVal, pbinI, hwk, inQ, true_and]
          refine SW.run [] _ ?_
          simp only [wpC, Bool.false_eq_true, ↓reduceIte, wpS, stops, wantedA, okDst, Nat.reduceLT, decide_true, step1, isOwnCall, hxOp, px, AS.eval, AS.get, Lift.look, Nat.reduceEqDiff, reduceCtorEq, Option.getD_some, isFlt, ty3, AS.put, dropKey, isNilC, pbinP, ofConst, ofVal, pbinI, hwj, thenQ, Nat.succ_ne_zero, true_and]
          refine ⟨j + 1, ⟨hlt, by omega⟩, by omega, ?_, by rw [k1], rfl⟩
          rw [Heap.put_put, ← k2]
          exact .refl _ _
      · obtain rfl : j = l.length := by omega
        have hks : kS gn l l.length = (keepS gn l).length := by unfold kS; rw [List.take_length]
        have hkl2 := keep_lt hf
        have hce := clear_end gn l
        simp only [wpC, mayStop, stops, isFlt, Specs.has, Specs.hasO, Bool.or_false, Specs.hasH, Bool.not_false, List.any_cons, List.any_nil, Bool.false_eq_true, ↓reduceIte, wpS, wantedA, okDst, Nat.reduceLT, decide_true, step1, isOwnCall, hxOp, px, AS.eval, AS.get, Lift.look, reduceCtorEq, Nat.reduceEqDiff, Option.getD_some, AS.put, dropKey, Nat.succ_ne_zero, pcall, ty59, plen, okLen, and_self, isNilC, pbinP, pbinI, Int.ofNat_lt, Nat.lt_irrefl, decide_false, thenQ, isB, tmpOf, asB, inQ, true_and]
        refine SW.run [] _ ?_
        have hcn : ¬ cap = (keepS gn l).length := by omega
        simp only [wpC, mayStop, stops, isFlt, Specs.has, Specs.hasO, Bool.or_false, Specs.hasH, Bool.not_false, List.any_cons, List.any_nil, Bool.or_true, ↓reduceIte, Bool.false_eq_true, wpS, wantedA, okDst, Nat.reduceLT, decide_true, step1, isOwnCall, hxOp, px, AS.eval, AS.get, Lift.look, Nat.succ_ne_zero, Option.getD_some, AS.put, dropKey, Nat.reduceEqDiff, reduceCtorEq, hks, pslice, ty59, ty61, pB, Int.natCast_nonneg, true_and, Int.toNat_natCast, hcn, Nat.mul_one, Nat.zero_add]
        refine ⟨⟨by omega, by omega⟩, ?_⟩
        refine SWO.clear (.tmp 38) 59 rfl ty59 rfl ty61 rfl rfl (r0 := buf) (o0 := (keepS gn l).length) (n := l.length - (keepS gn l).length) rfl (Heap.put_same _ _ _) (by rw [adrs_len, curS_len]; show _ + _ * 1 ≤ _; omega) rfl rfl ?_
        rw [nils, hce, Heap.put_put]
        refine SWO.run [] 1000 ?_
        simp only [wpS, thenQ, AS.put]
        refine SW.turnTo shrink ?_
        refine SW.run [] _ ?_
        simp only [wpC, mayStop, stops, isFlt, Specs.has, Specs.hasO, Bool.or_false, Specs.hasH, Bool.not_false, List.any_cons, List.any_nil, Bool.false_eq_true, ↓reduceIte, wpS, wantedA, okDst, Nat.reduceLT, decide_true, step1, isOwnCall, hxOp, px, AS.eval, AS.get, Lift.look, Nat.succ_ne_zero, Option.getD_some, AS.put, dropKey, Nat.reduceEqDiff, reduceCtorEq, pslice, ty59, ty61, pB, Int.cast_ofNat_Int, Int.reduceLE, Int.natCast_nonneg, true_and, Int.reduceToNat, Nat.reduceMul, Nat.zero_add, Int.toNat_natCast, thenQ, RPost, sres, Try.results36, sresL, sres1, Option.some.injEq, Ret_fin, exists_eq_left']
        exact ⟨by omega, by simp, .refl _ _⟩
/-- queue.tidy -/
theorem Tidy_ok {gn : It → Bool} {l : List It} {qa buf cap : Nat} {h : Heap} (hq : h qa = some (quC buf l.length cap)) (hb : h buf = some (rowC cap l)) (hi : ∀ i ∈ l, h i.a = some (itC (gn i) i)) (hl : l.length ≤ maxLen) (hc : l.length ≤ cap) :
    SCalls env 22 [adr qa] h (Ret (.tuple []) ((h.put buf (rowC cap (keepS gn l))).put qa (quC buf (keepS gn l).length cap))) := by
  have hqb : ¬ qa = buf := by rintro rfl; rw [hq] at hb; cases hb
  refine SCalls.body Try.func22 rfl rfl (by simp [Try.ntmps22]) (SW.run [] _ ?_)
  simp only [wpC, Bool.false_eq_true, ↓reduceIte, wpS, stops, wantedA, okDst, Try.ntmps22, Nat.reduceLT, decide_true, step1, isOwnCall, hxOp, px, AS.eval, AS.get, enumA, adr, Lift.look, Option.getD_some, AS.put, dropKey, reduceCtorEq, Nat.succ_ne_zero, Nat.reduceEqDiff, pfieldAddr, fieldOf, ty67, fieldIn, List.getElem?_cons_zero, ty59, Option.map_some, ne_eq, not_false_eq_true, Nat.add_zero, pload, hq, quC, okOne, TK.isAgg, beq_self_eq_true, Bool.or_true, Nat.zero_add, List.length_cons, List.length_nil, Nat.le_refl, and_self, Lift.valOf, List.drop_zero, List.take_succ_cons, List.take_nil, List.getD_cons_zero, Specs.has, Specs.hasO, Bool.or_false, Specs.hasH, Bool.not_false, true_and]
  refine SWO.callRet (.func 36) #[.tmp 6, .func 37] _ 36 #[] #[] rfl rfl rfl rfl rfl rfl (DeleteFunc_ok hb hi hl hc) rfl rfl ?_
  refine SWO.run [] 1000 ?_
  simp only [wpS, stops, Bool.false_eq_true, ↓reduceIte, wantedA, okDst, AS.put, dropKey, Nat.reduceEqDiff, reduceCtorEq, Nat.reduceLT, decide_true, step1, isOwnCall, hxOp, px, AS.eval, AS.get, Lift.look, Option.getD_some, pfieldAddr, fieldOf, ty67, fieldIn, List.getElem?_cons_zero, ty59, Option.map_some, ne_eq, Nat.succ_ne_zero, not_false_eq_true, Nat.add_zero, hx, Heap.get_put, hqb, hq, quC, known1, PV.cells, List.length_cons, List.length_nil, Nat.zero_add, Nat.le_refl, and_self, splice, List.take_zero, List.nil_append, List.drop_succ_cons, List.drop_nil, List.append_nil, RPost, sres, Try.results22, sresL, Option.some.injEq, Ret_fin, HTo_self, and_true, exists_eq_left']
  trace_state
end Go.Proofs.Ytekgfneapofgpaa
