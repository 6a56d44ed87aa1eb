/- Contracts of functions that the law reaches. -/
import Derived.Test.YthlibdhjcjangaaDoorTt
set_option linter.unusedSimpArgs false
set_option linter.unusedVariables false
namespace Go.Proofs.YthlibdhjcjangaaDoor
open Go Go.RowKit Go.Proofs.YthlibdhjcjangaaDoor Go.Proofs.YthlibdhjcjangaaDoor.Lift
set_option maxRecDepth 100000

/-! text.Join -/
def elS (ps : List (List UInt8 × Bool)) : List (List PV) := ps.map fun p => [.str p.1, .bool p.2]
def sumS : List (List UInt8 × Bool) → Nat
  | [] => 0
  | p :: ps => lenS p.1 p.2 + sumS ps
def anyS (ps : List (List UInt8 × Bool)) : Bool := ps.any fun p => p.2
def partS (any : Bool) (p : List UInt8 × Bool) : List UInt8 := if any = true ∧ p.2 = false then (charsS p.1 p.2).flatMap be4 else p.1
def joinL (ps : List (List UInt8 × Bool)) : List UInt8 := ps.flatMap (partS (anyS ps))
theorem elS_len (ps : List (List UInt8 × Bool)) : (elS ps).length = ps.length := by simp [elS]
theorem elS_getD {ps : List (List UInt8 × Bool)} {i : Nat} (h : i < ps.length) : (elS ps).getD i [] = [.str (ps.getD i ([], false)).1, .bool (ps.getD i ([], false)).2] := by
  simp [elS, List.getD_eq_getElem?_getD, h]
theorem sumS_append (a b : List (List UInt8 × Bool)) : sumS (a ++ b) = sumS a + sumS b := by
  induction a with
  | nil => simp [sumS]
  | cons p a ih => simp only [List.cons_append, sumS, ih]; omega
theorem sumS_next {ps : List (List UInt8 × Bool)} {i : Nat} (h : i < ps.length) : sumS (ps.take (i + 1)) = sumS (ps.take i) + lenS (ps.getD i ([], false)).1 (ps.getD i ([], false)).2 := by
  rw [take_next h ([], false), sumS_append]
  simp [sumS]
theorem sumS_take (ps : List (List UInt8 × Bool)) (i : Nat) : sumS (ps.take i) ≤ sumS ps := by
  have := sumS_append (ps.take i) (ps.drop i)
  rw [List.take_append_drop] at this
  omega
theorem flat_pre {α β : Type} (f : α → List β) (ps : List α) (i : Nat) : ((ps.take i).flatMap f).length ≤ (ps.flatMap f).length := by
  conv => rhs; rw [← List.take_append_drop i ps]
  rw [List.flatMap_append, List.length_append]
  omega
theorem anyS_next {ps : List (List UInt8 × Bool)} {i : Nat} (h : i < ps.length) : anyS (ps.take (i + 1)) = (anyS (ps.take i) || (ps.getD i ([], false)).2) := by
  rw [take_next h ([], false)]
  simp [anyS]
theorem HTo_mid {X : Heap} {q p : Nat} {B c c' B' : AObj} (hpq : ¬ p = q) (hp : X p = none) : HTo env ((((X.put q B).put p c).put p c').put q B') (X.put q B') := HSub.to fun k => by
  by_cases e : k = q
  · subst e; exact .inr (by rw [Heap.put_same, Heap.put_same])
  · rw [Heap.put_ne _ _ e, Heap.put_ne _ _ e]
    by_cases e2 : k = p
    · subst e2; exact .inl hp
    · exact .inr (by rw [Heap.put_ne _ _ e2, Heap.put_ne _ _ e2, Heap.put_ne _ _ e])
theorem HTo_new {X : Heap} {p : Nat} {c c' : AObj} (hp : X p = none) : HTo env ((X.put p c).put p c') X := by
  rw [Heap.put_put]
  exact (HTo.refl env X).put hp _
set_option maxRecDepth 100000 in
theorem Join_ok (ps : List (List UInt8 × Bool)) (h : Heap) (h1 : sumS ps ≤ 65536) (h2 : ∀ p ∈ ps, p.1.length ≤ 1000000000) (h3 : (joinL ps).length ≤ 1000000000) (h4 : ps.length ≤ 1000000000) :
    SCalls env 15 [.list 2 (elS ps)] h (Ret (.tuple [.agg [.str (joinL ps), .bool (anyS ps)], .int .i64 0]) h) := by
  refine SCalls.body Tryd.func15 rfl rfl (by simp [Tryd.ntmps15]) ?_
  refine SW.seq (SW.run [] _ ?_)
  simp only [wpC, Bool.false_eq_true, ↓reduceIte, wpS, stops, wantedA, okDst, Tryd.ntmps15, Nat.reduceLT, decide_true, step1, okAlloc, ty24, okZero, List.all_cons, Value.oneCell', List.all_nil, Bool.and_true, AS.put, enumA, dropKey, reduceCtorEq, isOwnCall, hxOp, px, AS.eval, ofConst, ofVal, thenQ, Nat.reduceEqDiff, zeroOf, List.map_cons, List.map_nil, List.length_cons, List.length_nil, Nat.zero_add, Nat.reduceAdd, true_and]
  intro r hr
  refine SW.seq (SW.run [] _ ?_)
  simp only [wpC, Bool.false_eq_true, ↓reduceIte, wpS, stops, wantedA, okDst, Nat.reduceLT, decide_true, step1, isOwnCall, hxOp, px, AS.eval, ofConst, ofVal, AS.put, dropKey, Nat.reduceEqDiff, reduceCtorEq, thenQ, true_and]
  refine SW.seq (SW.seq (SW.run [] _ ?_))
  simp only [wpC, Bool.false_eq_true, ↓reduceIte, wpS, stops, wantedA, okDst, Nat.reduceLT, decide_true, step1, isOwnCall, hxOp, px, AS.eval, AS.get, Lift.look, Nat.succ_ne_zero, Option.getD_some, AS.put, dropKey, Nat.reduceEqDiff, reduceCtorEq, pcall, ty68, plen, elS_len, okLen, and_self, ofConst, ofVal, thenQ, true_and]
  refine SW.block (SW.loopH 53 (fun i : Nat => [(0, .list 2 (elS ps)), (2, .val (.pointer (some ⟨r, 0, none⟩))), (4, .int .i64 (sumS (ps.take i))), (5, .bool (anyS (ps.take i))), (11, .list 2 (elS ps)), (12, .int .i64 ps.length), (13, .int .i64 (i : Nat))]) (fun _ => h.put r (.cells 24 2 [.str [], .bool false])) (fun i => i ≤ ps.length) (fun i => ps.length - i) 0 (Nat.zero_le _) ?_ ?_)
  · simp only [HTo_self, hasAll, AS.get, Lift.look, Nat.succ_ne_zero, ↓reduceIte, Option.getD_some, Nat.reduceEqDiff, List.take_zero, Int.cast_ofNat_Int, and_self, and_true, true_and]
    exact ⟨rfl, rfl⟩
  · intro i hi
    by_cases hlt : i < ps.length
    · have hs := sumS_next hlt
      have hle := sumS_take ps (i + 1)
      have hpl : (ps.getD i ([], false)).1.length ≤ 1000000000 := by
        rw [List.getD_eq_getElem?_getD, List.getElem?_eq_getElem hlt]
        exact h2 _ (List.getElem_mem hlt)
      have hng : ¬ (65536 : Int) < (sumS (ps.take i) : Int) + (lenS (ps.getD i ([], false)).1 (ps.getD i ([], false)).2 : Int) := by omega
      have hw : IntKind.i64.wrap ((sumS (ps.take i) : Int) + (lenS (ps.getD i ([], false)).1 (ps.getD i ([], false)).2 : Int)) = ((sumS (ps.take (i + 1)) : Nat) : Int) := by rw [w64 (by omega) (by omega)]; omega
      have hng2 : ¬ (65536 : Int) < ((sumS (ps.take (i + 1)) : Nat) : Int) := by omega
      have han := anyS_next hlt
      refine SW.run [eLen] _ ?_
      cases he : anyS (ps.take i)
      · simp only [wpC, mayStop, stops, isFlt, Specs.has, eLen, Specs.hasO, Bool.or_false, Specs.hasH, List.any_cons, List.any_nil, Bool.false_eq_true, ↓reduceIte, wpS, wantedA, okDst, Nat.reduceLT, decide_true, step1, isOwnCall, hxOp, px, isNilC, pbinP, AS.eval, AS.get, Lift.look, reduceCtorEq, Nat.reduceEqDiff, Option.getD_some, pbinI, Int.ofNat_lt, hlt, thenQ, isB, AS.put, dropKey, tmpOf, asB, Bool.not_true, ty3, pindexAddr, ty68, ty24, ne_eq, Nat.succ_ne_zero, not_false_eq_true, Int.natCast_nonneg, Int.toNat_natCast, elS_len, and_self, elS_getD hlt, pload, okOne, TK.isAgg, Nat.reduceBEq, List.length_cons, List.length_nil, Nat.zero_add, Nat.reduceAdd, Nat.le_refl, Lift.valOf, List.take_succ_cons, List.take_nil, okAlloc, okZero, List.all_cons, Value.oneCell', List.all_nil, Bool.and_true, Heap.get_put, some_none, hx, zeroOf, List.map_cons, ofVal, List.map_nil, known1, PV.cells, splice, List.take_zero, List.nil_append, List.drop_succ_cons, List.drop_nil, List.append_nil, List.drop_zero, pcall, okArg, ofConst, Specs.at, sLen, hpl, hw, hng2, decide_false, List.getElem?_toArray, List.getElem?_cons_succ, List.getElem?_cons_zero, Option.bind_some, beq_self_eq_true, pfieldAddr, fieldOf, fieldIn, ty4, Option.map_some, Bool.or_true, List.getD_cons_zero, ppick_bool, inQ, hasAll, and_true, true_and]
        rintro q ⟨hqr, hq⟩
        have hrq : ¬ r = q := fun e => hqr e.symm
        refine ⟨i + 1, by omega, by omega, HTo_new (by rw [Heap.put_ne _ _ hqr]; exact hq), ?_, ?_, ?_⟩
        · rfl
        · rw [han, he]; rfl
        · rw [w64 (by omega) (by omega)]; rfl
      · simp only [wpC, mayStop, stops, isFlt, Specs.has, eLen, Specs.hasO, Bool.or_false, Specs.hasH, List.any_cons, List.any_nil, Bool.false_eq_true, ↓reduceIte, wpS, wantedA, okDst, Nat.reduceLT, decide_true, step1, isOwnCall, hxOp, px, isNilC, pbinP, AS.eval, AS.get, Lift.look, reduceCtorEq, Nat.reduceEqDiff, Option.getD_some, pbinI, Int.ofNat_lt, hlt, thenQ, isB, AS.put, dropKey, tmpOf, asB, Bool.not_true, ty3, pindexAddr, ty68, ty24, ne_eq, Nat.succ_ne_zero, not_false_eq_true, Int.natCast_nonneg, Int.toNat_natCast, elS_len, and_self, elS_getD hlt, pload, okOne, TK.isAgg, Nat.reduceBEq, List.length_cons, List.length_nil, Nat.zero_add, Nat.reduceAdd, Nat.le_refl, Lift.valOf, List.take_succ_cons, List.take_nil, okAlloc, okZero, List.all_cons, Value.oneCell', List.all_nil, Bool.and_true, Heap.get_put, some_none, hx, zeroOf, List.map_cons, ofVal, List.map_nil, known1, PV.cells, splice, List.take_zero, List.nil_append, List.drop_succ_cons, List.drop_nil, List.append_nil, List.drop_zero, pcall, okArg, ofConst, Specs.at, sLen, hpl, hw, hng2, decide_false, List.getElem?_toArray, List.getElem?_cons_succ, List.getElem?_cons_zero, Option.bind_some, beq_tf, Option.some.injEq, ppick_true, inQ, hasAll, and_true, true_and]
        rintro q ⟨hqr, hq⟩
        have hrq : ¬ r = q := fun e => hqr e.symm
        refine ⟨i + 1, by omega, by omega, HTo_new (by rw [Heap.put_ne _ _ hqr]; exact hq), ?_, ?_, ?_⟩
        · rfl
        · rw [han, he]; rfl
        · rw [w64 (by omega) (by omega)]; rfl
    · refine SW.run [eLen] _ ?_
      simp only [wpC, mayStop, stops, isFlt, Specs.has, eLen, Specs.hasO, Bool.or_false, Specs.hasH, List.any_cons, List.any_nil, Bool.false_eq_true, ↓reduceIte, wpS, wantedA, okDst, Nat.reduceLT, decide_true, step1, isOwnCall, hxOp, px, isNilC, pbinP, AS.eval, AS.get, Lift.look, reduceCtorEq, Nat.reduceEqDiff, Option.getD_some, pbinI, Int.ofNat_lt, hlt, decide_false, thenQ, isB, AS.put, dropKey, tmpOf, asB, inQ, true_and]
      have hi' : i = ps.length := by omega
      subst hi'
      rw [List.take_length]
      refine SW.seq (SW.run [] _ ?_)
      simp only [wpC, Bool.false_eq_true, ↓reduceIte, wpS, stops, wantedA, okDst, Nat.reduceLT, decide_true, step1, okAlloc, ty71, okZero, List.all_cons, Value.oneCell', List.all_nil, Bool.and_true, Heap.get_put, some_none, thenQ, AS.put, dropKey, Nat.reduceEqDiff, reduceCtorEq, zeroOf, List.map_cons, ofVal, List.map_nil, List.length_cons, List.length_nil, Nat.zero_add, Nat.reduceAdd, true_and]
      rintro q ⟨hqr, hq⟩
      have hrq : ¬ r = q := fun e => hqr e.symm
      refine SW.fold_nil (r := q) (T := 71) (e := 5) (p := none) (.inl rfl) (Heap.put_same _ _ _) ?_
      simp only [Heap.put_put]
      refine SW.seq (SW.seq (SW.run [] _ ?_))
      simp only [wpC, Bool.false_eq_true, ↓reduceIte, wpS, stops, wantedA, okDst, Nat.reduceLT, decide_true, step1, isOwnCall, hxOp, px, AS.eval, AS.get, Lift.look, Nat.succ_ne_zero, Option.getD_some, AS.put, dropKey, Nat.reduceEqDiff, reduceCtorEq, pcall, ty68, plen, elS_len, okLen, and_self, ofConst, ofVal, thenQ, true_and]
      have hwl : ∀ p ∈ ps, p.1.length ≤ 1000000000 := h2
      refine SW.block (SW.loopH 53 (fun i : Nat => [(2, .val (.pointer (some ⟨r, 0, none⟩))), (5, .bool (anyS ps)), (8, .val (.pointer (some ⟨q, 0, none⟩))), (30, .list 2 (elS ps)), (31, .int .i64 ps.length), (32, .int .i64 (i : Nat))]) (fun i => (h.put r (.cells 24 2 [.str [], .bool false])).put q (.bld 71 5 ((ps.take i).flatMap (partS (anyS ps))))) (fun i => i ≤ ps.length) (fun i => ps.length - i) 0 (Nat.zero_le _) ?_ ?_)
      · simp only [List.take_zero, hasAll, AS.get, Lift.look, Nat.reduceEqDiff, ↓reduceIte, reduceCtorEq, Option.getD_some, Int.cast_ofNat_Int, and_self, and_true, true_and]
        exact HTo.refl _ _
      · intro i hi
        by_cases hlt : i < ps.length
        · have hpl : (ps.getD i ([], false)).1.length ≤ 1000000000 := by
            rw [List.getD_eq_getElem?_getD, List.getElem?_eq_getElem hlt]
            exact h2 _ (List.getElem_mem hlt)
          have hcl : (charsS (ps.getD i ([], false)).1 (ps.getD i ([], false)).2).length ≤ 1000000000 := by
            rw [charsS_len]; exact Nat.le_trans (lenS_le _ _) hpl
          have hnx : (ps.take (i + 1)).flatMap (partS (anyS ps)) = (ps.take i).flatMap (partS (anyS ps)) ++ partS (anyS ps) (ps.getD i ([], false)) := by
            rw [take_next hlt ([], false), List.flatMap_append]; simp
          have hpre := flat_pre (partS (anyS ps)) ps (i + 1)
          have hpre' : ((ps.take (i + 1)).flatMap (partS (anyS ps))).length ≤ 1000000000 := Nat.le_trans hpre h3
          rw [hnx, List.length_append] at hpre'
          refine SW.run [eRunes, ePackWide] _ ?_
          by_cases hc : anyS ps = true ∧ (ps.getD i ([], false)).2 = false
          · have hpart : partS (anyS ps) (ps.getD i ([], false)) = (charsS (ps.getD i ([], false)).1 false).flatMap be4 := by unfold partS; rw [if_pos hc, hc.2]
            obtain ⟨hc1, hc2⟩ := hc
            simp only [wpC, mayStop, stops, isFlt, Specs.has, eRunes, ePackWide, Specs.hasO, Bool.or_false, Specs.hasH, List.any_cons, List.any_nil, Bool.false_eq_true, ↓reduceIte, wpS, wantedA, okDst, Nat.reduceLT, decide_true, step1, isOwnCall, hxOp, px, isNilC, pbinP, AS.eval, AS.get, Lift.look, Nat.reduceEqDiff, Option.getD_some, pbinI, Int.ofNat_lt, hlt, thenQ, isB, AS.put, dropKey, hc1, tmpOf, asB, Bool.not_true, Bool.not_false, Bool.or_true, pindexAddr, ty68, ty24, ne_eq, Nat.succ_ne_zero, not_false_eq_true, Int.natCast_nonneg, Int.toNat_natCast, elS_len, and_self, elS_getD hlt, hc2, pload, okOne, TK.isAgg, Nat.reduceBEq, List.length_cons, List.length_nil, Nat.zero_add, Nat.reduceAdd, Nat.le_refl, Lift.valOf, List.take_succ_cons, List.take_nil, okAlloc, okZero, List.all_cons, Value.oneCell', List.all_nil, Bool.and_true, Heap.get_put, some_none, hx, zeroOf, List.map_cons, ofVal, List.map_nil, known1, PV.cells, splice, List.take_zero, List.nil_append, List.drop_succ_cons, List.drop_nil, List.append_nil, List.getElem?_toArray, List.getElem?_cons_succ, List.getElem?_cons_zero, Option.bind_some, beq_self_eq_true, pfieldAddr, fieldOf, fieldIn, ty4, Option.map_some, List.drop_zero, List.getD_cons_zero, pun, ofConst, ppick_bool, pcall, okArg, Specs.at, sRunes, hpl, sPackWide, unR_elR, true_and, hasAll, and_true]
            rintro p ⟨hpq, hpr, hp⟩
            have hqp : ¬ q = p := fun e => hpq e.symm
            have hcl' := hcl
            rw [hc2] at hcl'
            rw [hc1] at hnx hpart hpre'
            rw [hpart] at hpre'
            refine ⟨hcl', ?_⟩
            refine SWO.call (.func 34) _ _ 34 #[] #[] rfl rfl rfl rfl rfl rfl (WriteString_ok (bs := (ps.take i).flatMap (partS true)) (by dsimp only; rw [Heap.put_ne _ _ hqp, Heap.put_ne _ _ hqp, Heap.put_same]) (by omega)) rfl rfl ?_ (by rintro c h' ⟨e1, _⟩; cases e1)
            rintro u h' ⟨e1, rfl⟩
            injection e1 with e1
            subst e1
            refine SWO.run [] 1000 ?_
            simp only [wpS, inQ, thenQ, AS.put, dropKey, Nat.reduceEqDiff, ↓reduceIte]
            refine SW.run [] _ ?_
            simp only [wpC, Bool.false_eq_true, ↓reduceIte, wpS, stops, isFlt, ty3, wantedA, okDst, Nat.reduceLT, decide_true, step1, isOwnCall, hxOp, px, isNilC, pbinP, AS.eval, AS.get, Lift.look, Nat.reduceEqDiff, Option.getD_some, ofConst, ofVal, pbinI, AS.put, dropKey, thenQ, true_and]
            refine ⟨i + 1, by omega, by omega, ?_, by rw [w64 (by omega) (by omega)]; rfl⟩
            rw [hnx, hpart]
            exact HTo_mid hpq (by rw [Heap.put_ne _ _ hpr]; exact hp)
          · have hpart : partS (anyS ps) (ps.getD i ([], false)) = (ps.getD i ([], false)).1 := by unfold partS; rw [if_neg hc]
            rw [hpart] at hpre' hnx
            have hcase : anyS ps = false ∨ (anyS ps = true ∧ (ps.getD i ([], false)).2 = true) := by
              cases ha : anyS ps
              · exact .inl rfl
              · refine .inr ⟨rfl, ?_⟩
                cases hb : (ps.getD i ([], false)).2
                · exact absurd ⟨ha, hb⟩ hc
                · rfl
            rcases hcase with hc1 | ⟨hc1, hc2⟩
            · rw [hc1] at hnx hpre'
              simp only [wpC, mayStop, stops, isFlt, Specs.has, eRunes, ePackWide, Specs.hasO, Bool.or_false, Specs.hasH, List.any_cons, List.any_nil, Bool.false_eq_true, ↓reduceIte, wpS, wantedA, okDst, Nat.reduceLT, decide_true, step1, isOwnCall, hxOp, px, isNilC, pbinP, AS.eval, AS.get, Lift.look, Nat.reduceEqDiff, Option.getD_some, pbinI, Int.ofNat_lt, hlt, thenQ, isB, AS.put, dropKey, hc1, tmpOf, asB, Bool.not_true, Bool.not_false, Bool.or_true, pindexAddr, ty68, ty24, ne_eq, Nat.succ_ne_zero, not_false_eq_true, Int.natCast_nonneg, Int.toNat_natCast, elS_len, and_self, elS_getD hlt, pload, okOne, TK.isAgg, Nat.reduceBEq, List.length_cons, List.length_nil, Nat.zero_add, Nat.reduceAdd, Nat.le_refl, Lift.valOf, List.take_succ_cons, List.take_nil, okAlloc, okZero, List.all_cons, Value.oneCell', List.all_nil, Bool.and_true, Heap.get_put, some_none, hx, zeroOf, List.map_cons, ofVal, List.map_nil, known1, PV.cells, splice, List.take_zero, List.nil_append, List.drop_succ_cons, List.drop_nil, List.append_nil, List.getElem?_toArray, List.getElem?_cons_succ, List.getElem?_cons_zero, Option.bind_some, beq_ft, Option.some.injEq, ofConst, ppick_false, pfieldAddr, fieldOf, fieldIn, ty9, Option.map_some, Nat.add_zero, beq_self_eq_true, Nat.reduceLeDiff, List.drop_zero, List.getD_cons_zero, hasAll, and_true, true_and]
              rintro p ⟨hpq, hpr, hp⟩
              have hqp : ¬ q = p := fun e => hpq e.symm
              refine SWO.call (.func 34) _ _ 34 #[] #[] rfl rfl rfl rfl rfl rfl (WriteString_ok (bs := (ps.take i).flatMap (partS false)) (by dsimp only; rw [Heap.put_ne _ _ hqp, Heap.put_ne _ _ hqp, Heap.put_same]) (by omega)) rfl rfl ?_ (by rintro c h' ⟨e1, _⟩; cases e1)
              rintro u h' ⟨e1, rfl⟩
              injection e1 with e1
              subst e1
              refine SWO.run [] 1000 ?_
              simp only [wpS, inQ, thenQ, AS.put, dropKey, Nat.reduceEqDiff, ↓reduceIte]
              refine SW.run [] _ ?_
              simp only [wpC, Bool.false_eq_true, ↓reduceIte, wpS, stops, isFlt, ty3, wantedA, okDst, Nat.reduceLT, decide_true, step1, isOwnCall, hxOp, px, isNilC, pbinP, AS.eval, AS.get, Lift.look, Nat.reduceEqDiff, Option.getD_some, ofConst, ofVal, pbinI, AS.put, dropKey, thenQ, true_and]
              refine ⟨i + 1, by omega, by omega, ?_, by rw [w64 (by omega) (by omega)]; rfl⟩
              rw [hnx]
              exact HTo_mid hpq (by rw [Heap.put_ne _ _ hpr]; exact hp)
            · rw [hc1] at hnx hpre'
              simp only [wpC, mayStop, stops, isFlt, Specs.has, eRunes, ePackWide, Specs.hasO, Bool.or_false, Specs.hasH, List.any_cons, List.any_nil, Bool.false_eq_true, ↓reduceIte, wpS, wantedA, okDst, Nat.reduceLT, decide_true, step1, isOwnCall, hxOp, px, isNilC, pbinP, AS.eval, AS.get, Lift.look, Nat.reduceEqDiff, Option.getD_some, pbinI, Int.ofNat_lt, hlt, thenQ, isB, AS.put, dropKey, hc1, tmpOf, asB, Bool.not_true, Bool.not_false, Bool.or_true, pindexAddr, ty68, ty24, ne_eq, Nat.succ_ne_zero, not_false_eq_true, Int.natCast_nonneg, Int.toNat_natCast, elS_len, and_self, elS_getD hlt, hc2, pload, okOne, TK.isAgg, Nat.reduceBEq, List.length_cons, List.length_nil, Nat.zero_add, Nat.reduceAdd, Nat.le_refl, Lift.valOf, List.take_succ_cons, List.take_nil, okAlloc, okZero, List.all_cons, Value.oneCell', List.all_nil, Bool.and_true, Heap.get_put, some_none, hx, zeroOf, List.map_cons, ofVal, List.map_nil, known1, PV.cells, splice, List.take_zero, List.nil_append, List.drop_succ_cons, List.drop_nil, List.append_nil, List.getElem?_toArray, List.getElem?_cons_succ, List.getElem?_cons_zero, Option.bind_some, beq_self_eq_true, pfieldAddr, fieldOf, fieldIn, ty4, Option.map_some, List.drop_zero, List.getD_cons_zero, pun, ofConst, ppick_bool, ty9, Nat.add_zero, Nat.reduceLeDiff, hasAll, and_true, true_and]
              rintro p ⟨hpq, hpr, hp⟩
              have hqp : ¬ q = p := fun e => hpq e.symm
              refine SWO.call (.func 34) _ _ 34 #[] #[] rfl rfl rfl rfl rfl rfl (WriteString_ok (bs := (ps.take i).flatMap (partS true)) (by dsimp only; rw [Heap.put_ne _ _ hqp, Heap.put_ne _ _ hqp, Heap.put_same]) (by omega)) rfl rfl ?_ (by rintro c h' ⟨e1, _⟩; cases e1)
              rintro u h' ⟨e1, rfl⟩
              injection e1 with e1
              subst e1
              refine SWO.run [] 1000 ?_
              simp only [wpS, inQ, thenQ, AS.put, dropKey, Nat.reduceEqDiff, ↓reduceIte]
              refine SW.run [] _ ?_
              simp only [wpC, Bool.false_eq_true, ↓reduceIte, wpS, stops, isFlt, ty3, wantedA, okDst, Nat.reduceLT, decide_true, step1, isOwnCall, hxOp, px, isNilC, pbinP, AS.eval, AS.get, Lift.look, Nat.reduceEqDiff, Option.getD_some, ofConst, ofVal, pbinI, AS.put, dropKey, thenQ, true_and]
              refine ⟨i + 1, by omega, by omega, ?_, by rw [w64 (by omega) (by omega)]; rfl⟩
              rw [hnx]
              exact HTo_mid hpq (by rw [Heap.put_ne _ _ hpr]; exact hp)
        · refine SW.run [eRunes, ePackWide] _ ?_
          simp only [wpC, mayStop, stops, isFlt, Specs.has, eRunes, ePackWide, Specs.hasO, Bool.or_false, Specs.hasH, List.any_cons, List.any_nil, Bool.false_eq_true, ↓reduceIte, wpS, wantedA, okDst, Nat.reduceLT, decide_true, step1, isOwnCall, hxOp, px, isNilC, pbinP, AS.eval, AS.get, Lift.look, Nat.reduceEqDiff, Option.getD_some, pbinI, Int.ofNat_lt, hlt, decide_false, thenQ, isB, AS.put, dropKey, tmpOf, asB, inQ, true_and]
          have hi' : i = ps.length := by omega
          subst hi'
          rw [List.take_length]
          refine SW.run [] _ ?_
          simp only [wpC, mayStop, stops, isFlt, Specs.has, Specs.hasO, Bool.or_false, Specs.hasH, Bool.not_false, List.any_cons, List.any_nil, Bool.or_true, ↓reduceIte, Bool.false_eq_true, wpS]
          refine SWO.call (.func 36) _ _ 36 #[] #[] rfl rfl rfl rfl rfl rfl (String_ok (bs := joinL ps) (Heap.put_same _ _ _) (by omega)) rfl rfl ?_ (by rintro c h' ⟨e1, _⟩; cases e1)
          rintro u h' ⟨e1, rfl⟩
          injection e1 with e1
          subst e1
          rw [Heap.del_put _ _ _ (by rw [Heap.put_ne _ _ hqr]; exact hq)]
          refine SWO.run [] 1000 ?_
          simp only [wpS, stops, Bool.false_eq_true, ↓reduceIte, wantedA, okDst, AS.put, dropKey, Nat.reduceEqDiff, Nat.reduceLT, decide_true, step1, isOwnCall, hxOp, px, AS.eval, AS.get, Lift.look, Option.getD_some, pbuild, ty24, List.map_cons, ofVal, List.map_nil, ofConst, pfill, placeOf, List.getElem?_cons_zero, ty9, Option.map_some, PV.cells, List.length_cons, List.length_nil, Nat.zero_add, Nat.reduceAdd, Nat.reduceLeDiff, and_self, List.getElem?_cons_succ, ty4, splice, List.take_zero, List.nil_append, List.drop_succ_cons, List.drop_zero, List.cons_append, Nat.le_refl, List.take_succ_cons, List.drop_nil, List.append_nil, List.all_cons, Option.isSome_some, List.all_nil, Bool.and_true, okZero, Value.oneCell', known, hx, Heap.get_put, known1, thenQ, true_and]
          refine SW.run [] _ ?_
          simp only [wpC, RPost, sres, Tryd.results15, sresL, sres1, AS.get, Lift.look, Nat.reduceEqDiff, ↓reduceIte, Option.getD_some, ty24, Heap.get_put, Nat.zero_add, List.length_cons, List.length_nil, Nat.reduceAdd, Nat.le_refl, okOne, TK.isAgg, Nat.reduceBEq, Bool.or_false, and_self, Lift.valOf, List.drop_zero, List.take_succ_cons, List.take_nil, Option.some.injEq, Ret_fin, exists_eq_left', true_and]
          exact HTo.put2 _ _ hr hr
end Go.Proofs.YthlibdhjcjangaaDoor
