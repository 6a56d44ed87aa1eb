/- Contracts of functions that the law reaches. -/
import Derived.Test.YtincpomenogppaaGreatDoorWe
set_option linter.unusedSimpArgs false
set_option linter.unusedVariables false
namespace Go.Proofs.YtincpomenogppaaGreatDoor
open Go Go.RowKit Go.Proofs.YtincpomenogppaaGreatDoor Go.Proofs.YtincpomenogppaaGreatDoor.Lift
set_option maxRecDepth 100000

def showG (s : UInt8) (l : List UInt8) : List UInt8 := s :: l ++ (if endB l then [] else [10, 92, 10])
def signS (dl i : Nat) : UInt8 := if dl ≤ i then 43 else 45
def showK (dl : Nat) : Nat → List (List UInt8) → List UInt8
  | _, [] => []
  | i, l :: ls => showG (signS dl i) l ++ showK dl (i + 1) ls
theorem showK_append (dl : Nat) : ∀ (i : Nat) (a b : List (List UInt8)), showK dl i (a ++ b) = showK dl i a ++ showK dl (i + a.length) b
  | i, [], b => rfl
  | i, x :: a, b => by
    show showG (signS dl i) x ++ showK dl (i + 1) (a ++ b) = (showG (signS dl i) x ++ showK dl (i + 1) a) ++ showK dl (i + (a.length + 1)) b
    rw [showK_append dl (i + 1) a b, List.append_assoc, show i + 1 + a.length = i + (a.length + 1) by omega]
theorem showK_next {dl k : Nat} {ls : List (List UInt8)} (h : k < ls.length) : showK dl 0 (ls.take (k + 1)) = showK dl 0 (ls.take k) ++ showG (signS dl k) ls[k] := by
  have hl : (ls.take k).length = k := by rw [List.length_take]; omega
  rw [List.take_succ_eq_append_getElem h, showK_append, hl, Nat.zero_add]
  show _ ++ (showG _ _ ++ []) = _
  rw [List.append_nil]
theorem showK_pre (dl k : Nat) (ls : List (List UInt8)) : (showK dl 0 (ls.take k)).length ≤ (showK dl 0 ls).length := by
  have : showK dl 0 ls = showK dl 0 (ls.take k) ++ showK dl (0 + (ls.take k).length) (ls.drop k) := by rw [← showK_append, List.take_append_drop]
  rw [this, List.length_append]; omega
def hdrS (e : Ed) : List UInt8 := 64 :: (Lib.itoa e.a ++ [32] ++ Lib.itoa (e.del.length : Nat) ++ [32] ++ Lib.itoa e.b ++ [32] ++ Lib.itoa (e.ins.length : Nat) ++ [10])
def showT (e : Ed) : List UInt8 := hdrS e ++ showK e.del.length 0 (e.del ++ e.ins)
def showB (es : List Ed) : List UInt8 := (es.map showT).flatten
theorem showB_next {es : List Ed} {i : Nat} (h : i < es.length) : showB (es.take (i + 1)) = showB (es.take i) ++ showT es[i] := by
  unfold showB
  rw [List.take_succ_eq_append_getElem h, List.map_append, List.flatten_append]
  simp
theorem showB_pre (es : List Ed) (i : Nat) : (showB (es.take i)).length ≤ (showB es).length := by
  have : showB es = showB (es.take i) ++ showB (es.drop i) := by
    unfold showB; rw [← List.flatten_append, ← List.map_append, List.take_append_drop]
  rw [this, List.length_append]; omega
theorem unLL_el : ∀ ls : List (List (List UInt8)), unLL (llV ls) = some ls
  | [] => rfl
  | x :: ls => by
    show (match unS (strL x) with | some z => (match unLL (llV ls) with | some r => some (z :: r) | none => none) | none => none) = _
    rw [unS_el, unLL_el ls]
def okLines (e : Ed) : Bool := (e.del ++ e.ins).all lineB
def showS (es : List Ed) : List UInt8 × Int := if negS es = true then ([], 11) else if es.all okLines = true then (showB es, 0) else ([], 9)
def Ed.fit (e : Ed) : Prop := e.a ≤ 9223372036854775807 ∧ e.b ≤ 9223372036854775807 ∧ e.del.length + e.ins.length ≤ 1000000 ∧ ∀ l ∈ e.del ++ e.ins, l.length ≤ 1000000000
def showR (es : List Ed) : PV := .tuple [.str (showS es).1, .int .i64 (showS es).2]
set_option maxHeartbeats 8000000 in
theorem Show_ok (es : List Ed) (hs : ∀ e ∈ es, e.fit) (hl : es.length ≤ 1000000) (hb : (showB es).length ≤ 100000000000000) (h : Heap) : SCalls env 9 [.list 4 (edL es)] h (Ret (showR es) h) := by
  refine SCalls.body Tryz.func9 rfl rfl (by simp [Tryz.ntmps9]) ?_
  refine SW.seq (SW.run [] _ ?_)
  simp only [wpC, Bool.false_eq_true, ↓reduceIte, wpS, stops, wantedA, okDst, Tryz.ntmps9, Nat.reduceLT, decide_true, step1, isOwnCall, hxOp, px, AS.eval, ofConst, ofVal, AS.put, enumA, dropKey, reduceCtorEq, thenQ, Nat.reduceEqDiff, true_and]
  refine SW.seq (SW.run [eContNeg] _ ?_)
  cases hng : negS es
  case true =>
    simp only [wpC, mayStop, stops, isFlt, Specs.has, eContNeg, Specs.hasO, Bool.or_false, Specs.hasH, List.any_cons, ↓reduceIte, Bool.not_true, List.any_nil, Bool.false_eq_true, wpS, wantedA, okDst, Nat.reduceLT, decide_true, step1, isOwnCall, hxOp, px, AS.eval, AS.get, Lift.look, Nat.succ_ne_zero, Option.getD_some, AS.put, dropKey, Nat.reduceEqDiff, reduceCtorEq, pcall, okArg, ofConst, ofVal, List.all_cons, List.all_nil, Bool.and_true, Specs.at, List.map_cons, List.map_nil, sContNeg, unE_el, hl, and_self, hng, thenQ, isB, tmpOf, asB, RPost, sres, Ret_fin, HTo_self, and_true, true_and]
    have he : showR es = .tuple [.str [], .int .i64 11] := by unfold showR showS; rw [if_pos hng]
    rw [he]
    refine ⟨_, rfl, rfl⟩
  simp only [wpC, mayStop, stops, isFlt, Specs.has, eContNeg, Specs.hasO, Bool.or_false, Specs.hasH, List.any_cons, ↓reduceIte, Bool.not_true, List.any_nil, Bool.false_eq_true, wpS, wantedA, okDst, Nat.reduceLT, decide_true, step1, isOwnCall, hxOp, px, AS.eval, AS.get, Lift.look, Nat.succ_ne_zero, Option.getD_some, AS.put, dropKey, Nat.reduceEqDiff, reduceCtorEq, pcall, okArg, ofConst, ofVal, List.all_cons, List.all_nil, Bool.and_true, Specs.at, List.map_cons, List.map_nil, sContNeg, unE_el, hl, and_self, hng, thenQ, isB, tmpOf, asB, true_and]
  refine SW.seq (SW.run [] _ ?_)
  simp only [wpC, Bool.false_eq_true, ↓reduceIte, wpS, stops, wantedA, okDst, Nat.reduceLT, decide_true, step1, okAlloc, ty83, okZero, List.all_cons, Value.oneCell', List.all_nil, Bool.and_true, thenQ, AS.put, dropKey, Nat.reduceEqDiff, reduceCtorEq, zeroOf, List.map_cons, ofVal, List.map_nil, List.length_cons, List.length_nil, Nat.zero_add, Nat.reduceAdd, true_and]
  intro rb hrb
  refine SW.fold_nil (r := rb) (T := 83) (e := 5) (p := none) (.inl rfl) (Heap.put_same _ _ _) ?_
  simp only [Heap.put_put]
  refine SW.seq (SW.seq (SW.run [] _ ?_))
  simp only [wpC, Bool.false_eq_true, ↓reduceIte, wpS, stops, wantedA, okDst, Nat.reduceLT, decide_true, step1, isOwnCall, hxOp, px, AS.eval, AS.get, Lift.look, Nat.succ_ne_zero, Option.getD_some, AS.put, dropKey, Nat.reduceEqDiff, reduceCtorEq, pcall, ty28, plen, edL_len, okLen, and_self, ofConst, ofVal, thenQ, true_and]
  refine SW.block (SW.loop (fun bb st => ∃ i : Nat, i ≤ es.length ∧ es.length - i = bb ∧ (es.take i).all okLines = true ∧ st.h rb = some (.bld 83 5 (showB (es.take i))) ∧ Lift.Inc h st.h ∧ st.n = 72 ∧ hasAll st [(4, .val (.pointer (some ⟨rb, 0, none⟩))), (12, .list 4 (edL es)), (13, .int .i64 (es.length : Nat)), (14, .int .i64 (i : Nat))]) es.length ⟨0, Nat.zero_le _, rfl, rfl, Heap.put_same _ _ _, Inc.over (incSelf h) hrb _, rfl, ?_⟩ ?_)
  · simp only [hasAll, AS.get, Lift.look, Nat.reduceEqDiff, ↓reduceIte, Option.getD_some, Int.cast_ofNat_Int, and_self]
  rintro bb st ⟨i, hi, hbb, htk, hbl, inc, hn, hs'⟩
  refine SW.norm ⟨hn, rfl, hs'⟩ ?_
  generalize st.h = H at inc hbl
  clear hn hs'
  refine SW.seq (SW.run [] _ ?_)
  by_cases hlt : i < es.length
  · have hw : IntKind.i64.wrap ((i : Int) + 1) = ((i + 1 : Nat) : Int) := by rw [w64 (by omega) (by omega)]; rfl
    have hg := edL_at hlt
    obtain ⟨ha, hb1, hc, hd⟩ := hs _ (List.getElem_mem hlt)
    have hna : negB es[i] = false := by
      unfold negS at hng
      rw [List.any_eq_false] at hng
      simpa using hng _ (List.getElem_mem hlt)
    have hna1 : 0 ≤ es[i].a ∧ 0 ≤ es[i].b := by
      unfold negB at hna
      simp at hna
      omega
    have ha0 : -9223372036854775808 ≤ es[i].a := by omega
    have hb0 : -9223372036854775808 ≤ es[i].b := by omega
    have hl1 : -9223372036854775808 ≤ ((es[i].del.length : Nat) : Int) := by omega
    have hl2 : ((es[i].del.length : Nat) : Int) ≤ 9223372036854775807 := by omega
    have hl3 : -9223372036854775808 ≤ ((es[i].ins.length : Nat) : Int) := by omega
    have hl4 : ((es[i].ins.length : Nat) : Int) ≤ 9223372036854775807 := by omega
    simp only [wpC, Bool.false_eq_true, ↓reduceIte, wpS, stops, wantedA, okDst, Nat.reduceLT, decide_true, step1, isOwnCall, hxOp, px, isNilC, pbinP, AS.eval, AS.get, Lift.look, Nat.reduceEqDiff, Option.getD_some, pbinI, Int.ofNat_lt, hlt, thenQ, hasAll, and_true, AS.put, dropKey, true_and]
    refine SW.seq (SW.run [] _ ?_)
    simp only [wpC, isB, AS.get, Lift.look, tmpOf, ↓reduceIte, Option.getD_some, asB, thenQ, true_and]
    refine SW.seq (SW.block (SW.seq (SW.run [] _ ?_)))
    simp only [wpC, Bool.false_eq_true, ↓reduceIte, wpS, stops, wantedA, okDst, Nat.reduceLT, decide_true, step1, isOwnCall, hxOp, px, pindexAddr, ty28, ty79, AS.eval, AS.get, Lift.look, Nat.reduceEqDiff, Option.getD_some, ne_eq, Nat.succ_ne_zero, not_false_eq_true, Int.natCast_nonneg, Int.toNat_natCast, edL_len, hlt, and_self, hg, edV, AS.put, dropKey, pload, okOne, TK.isAgg, Nat.reduceBEq, Bool.or_false, List.length_cons, List.length_nil, Nat.zero_add, Nat.reduceAdd, Nat.le_refl, Lift.valOf, List.take_succ_cons, List.take_nil, okAlloc, okZero, List.all_cons, Value.oneCell', List.all_nil, Bool.and_true, hx, zeroOf, List.map_cons, ofVal, List.map_nil, Heap.get_put, known1, PV.cells, splice, List.take_zero, List.nil_append, List.drop_succ_cons, List.drop_nil, List.append_nil, thenQ, true_and]
    intro q hq
    rw [Heap.put_put]
    have hqb : ¬ q = rb := fun e => by subst e; rw [hbl] at hq; cases hq
    have hbq : ¬ rb = q := fun e => hqb e.symm
    refine SW.seq (SW.regionAny [eItoa, eWS] [[0, 1, 2, 3, 4, 5, 6, 7, 8, 9, 10, 11, 12, 13, 14, 15, 16, 17, 18, 19, 20, 21, 22]] rfl (by rfl) (by kernel_rfl) ?_)
    simp only [wpOL, wpO, LOp, List.getElem?_toArray, List.getElem?_cons_zero, okDst, Nat.reduceLT, decide_true, wantedA, ↓reduceIte, step1, isOwnCall, Bool.false_eq_true, hxOp, px, pfieldAddr, fieldOf, ty79, fieldIn, ty3, Option.map_some, AS.eval, AS.get, Lift.look, Option.getD_some, ne_eq, Nat.succ_ne_zero, not_false_eq_true, Nat.add_zero, List.getElem?_cons_succ, AS.put, dropKey, Nat.reduceEqDiff, pload, Heap.get_put, okOne, TK.isAgg, beq_self_eq_true, Bool.or_true, Nat.zero_add, List.length_cons, List.length_nil, Nat.reduceAdd, Nat.reduceLeDiff, and_self, Lift.valOf, List.drop_zero, List.take_succ_cons, List.take_zero, List.getD_cons_zero, Specs.hasO, Specs.hasH, eWS, pcall, okArg, ofConst, ofVal, List.all_cons, List.all_nil, Bool.and_true, Specs.at, eItoa, List.map_cons, List.map_nil, sItoa, ha0, ha, isNilC, pbinP, pbinS, List.cons_append, List.nil_append, ty43, List.drop_succ_cons, plen, strL_len, okLen, hl1, hl2, hb0, hb1, Nat.le_refl, List.take_nil, hl3, hl4, hx, Specs.atH, sWS, hbq, hbl, true_and, thenQ]
    have hpre := showB_pre es (i + 1)
    rw [showB_next hlt, List.length_append] at hpre
    have hh : (hdrS es[i]).length + (showK es[i].del.length 0 (es[i].del ++ es[i].ins)).length = (showT es[i]).length := by unfold showT; rw [List.length_append]
    have hL : (hdrS es[i]).length = (Lib.itoa es[i].a).length + (Lib.itoa es[i].b).length + (Lib.itoa ((es[i].del.length : Nat) : Int)).length + (Lib.itoa ((es[i].ins.length : Nat) : Int)).length + 5 := by
      unfold hdrS
      simp only [List.length_append, List.length_cons, List.length_nil]
      omega
    have hcat := @List.length_append UInt8
    refine ⟨by omega, by omega, by simp only [List.length_append, List.length_cons, List.length_nil]; omega, by simp only [List.length_append, List.length_cons, List.length_nil]; omega, by simp only [List.length_append, List.length_cons, List.length_nil]; omega, by simp only [List.length_append, List.length_cons, List.length_nil]; omega, by simp only [List.length_append, List.length_cons, List.length_nil]; omega, by simp only [List.length_append, List.length_cons, List.length_nil]; omega, by simp only [List.length_append, List.length_cons, List.length_nil]; omega, ?_⟩
    rw [show (64 :: (Lib.itoa es[i].a ++ [32] ++ Lib.itoa ((es[i].del.length : Nat) : Int) ++ [32] ++ Lib.itoa es[i].b ++ [32] ++ Lib.itoa ((es[i].ins.length : Nat) : Int) ++ [10])) = hdrS es[i] from rfl]
    have g1 : ((H.put q (.cells 79 4 [.int .i64 es[i].a, .int .i64 es[i].b, .list 1 (strL es[i].del), .list 1 (strL es[i].ins)])).put rb (.bld 83 5 (showB (es.take i) ++ hdrS es[i]))) rb = some (.bld 83 5 (showB (es.take i) ++ hdrS es[i])) := Heap.put_same _ _ _
    have gq : ((H.put q (.cells 79 4 [.int .i64 es[i].a, .int .i64 es[i].b, .list 1 (strL es[i].del), .list 1 (strL es[i].ins)])).put rb (.bld 83 5 (showB (es.take i) ++ hdrS es[i]))) q = some (.cells 79 4 [.int .i64 es[i].a, .int .i64 es[i].b, .list 1 (strL es[i].del), .list 1 (strL es[i].ins)]) := by rw [Heap.put_ne _ _ hqb, Heap.put_same]
    have inc1 : Lift.Inc h ((H.put q (.cells 79 4 [.int .i64 es[i].a, .int .i64 es[i].b, .list 1 (strL es[i].del), .list 1 (strL es[i].ins)])).put rb (.bld 83 5 (showB (es.take i) ++ hdrS es[i]))) := Inc.over (Inc.over inc (incFresh inc hq) _) hrb _
    generalize (H.put q (.cells 79 4 [.int .i64 es[i].a, .int .i64 es[i].b, .list 1 (strL es[i].del), .list 1 (strL es[i].ins)])).put rb (.bld 83 5 (showB (es.take i) ++ hdrS es[i])) = H1 at g1 gq inc1 ⊢
    clear hbl
    have hcl : (es[i].del ++ es[i].ins).length = es[i].del.length + es[i].ins.length := List.length_append
    have hdd : ∀ l ∈ es[i].del ++ es[i].ins, l.length ≤ 1000000000 := hd
    have hfl : [es[i].del, es[i].ins].flatten = es[i].del ++ es[i].ins := by simp
    have hf2 : ([es[i].del, es[i].ins] : List (List (List UInt8))).length ≤ 1000000 := by show 2 ≤ _; omega
    have hll : ([[.list 1 (strL es[i].del)], [.list 1 (strL es[i].ins)]] : List (List PV)) = llV [es[i].del, es[i].ins] := rfl
    have hul : unLL [[.list 1 (strL es[i].del)], [.list 1 (strL es[i].ins)]] = some [es[i].del, es[i].ins] := by rw [hll, unLL_el]
    refine SW.seq (SW.run [eConcat] _ ?_)
    simp only [wpC, Bool.false_eq_true, ↓reduceIte, wpS, stops, wantedA, okDst, Nat.reduceLT, decide_true, step1, isOwnCall, hxOp, px, pfieldAddr, fieldOf, ty79, fieldIn, List.getElem?_cons_succ, List.getElem?_cons_zero, ty43, Option.map_some, AS.eval, AS.get, Lift.look, Nat.reduceEqDiff, Option.getD_some, ne_eq, Nat.succ_ne_zero, not_false_eq_true, Nat.zero_add, AS.put, dropKey, pload, gq, okOne, TK.isAgg, beq_self_eq_true, Bool.or_true, Nat.reduceAdd, List.length_cons, List.length_nil, Nat.reduceLeDiff, and_self, Lift.valOf, List.drop_succ_cons, List.drop_zero, List.take_succ_cons, List.take_zero, List.getD_cons_zero, Nat.le_refl, List.take_nil, pbuildSlice, ty139, List.replicate, List.map_cons, ofVal, List.map_nil, List.flatten_cons, List.flatten_nil, List.append_nil, List.cons_append, List.nil_append, ofConst, pfill, PV.cells, Nat.reduceMul, splice, List.drop_nil, okZero, List.all_cons, Value.oneCell', List.all_nil, Bool.and_true, known, chunk, Specs.has, eConcat, Specs.hasO, Bool.or_false, Specs.hasH, Bool.not_true, pcall, okArg, Specs.at, sConcat, hul, hfl, hcl, hc, plen, strL_len, okLen, thenQ, true_and]
    obtain ⟨ls, hls⟩ : ∃ ls, ls = es[i].del ++ es[i].ins := ⟨_, rfl⟩
    rw [← hls] at hcl hdd hh ⊢
    have hsT : showT es[i] = hdrS es[i] ++ showK es[i].del.length 0 ls := by rw [hls]; rfl
    have hokl : okLines es[i] = ls.all lineB := by rw [hls]; rfl
    refine SW.block (SW.loop (fun bb st => ∃ k : Nat, k ≤ ls.length ∧ ls.length - k = bb ∧ (ls.take k).all lineB = true ∧ st.h rb = some (.bld 83 5 (showB (es.take i) ++ hdrS es[i] ++ showK es[i].del.length 0 (ls.take k))) ∧ st.h q = some (.cells 79 4 [.int .i64 es[i].a, .int .i64 es[i].b, .list 1 (strL es[i].del), .list 1 (strL es[i].ins)]) ∧ Lift.Inc h st.h ∧ st.n = 72 ∧ hasAll st [(4, .val (.pointer (some ⟨rb, 0, none⟩))), (6, .val (.pointer (some ⟨q, 0, none⟩))), (12, .list 4 (edL es)), (13, .int .i64 (es.length : Nat)), (14, .int .i64 (i : Nat)), (46, .list 1 (strL ls)), (47, .int .i64 (ls.length : Nat)), (48, .int .i64 (k : Nat))]) ls.length ⟨0, Nat.zero_le _, rfl, rfl, by refine g1.trans ?_; show _ = some (AObj.bld _ _ (_ ++ [])); rw [List.append_nil], gq, inc1, rfl, ?_⟩ ?_)
    · simp only [hasAll, AS.get, Lift.look, Nat.reduceEqDiff, ↓reduceIte, Option.getD_some, Int.cast_ofNat_Int, and_self, and_true, true_and]
      rw [hcl]
    clear g1 gq inc1
    rintro bb2 st ⟨k, hk, hbb2, htk2, g1, gq, inc1, hn, hs'⟩
    refine SW.norm ⟨hn, rfl, hs'⟩ ?_
    generalize st.h = H2 at inc1 g1 gq
    clear hn hs'
    refine SW.seq (SW.run [] _ ?_)
    by_cases hlt2 : k < ls.length
    · have hw2 : IntKind.i64.wrap ((k : Int) + 1) = ((k + 1 : Nat) : Int) := by rw [w64 (by omega) (by omega)]; rfl
      have hg2 := strL_at hlt2
      have hle := hdd _ (List.getElem_mem hlt2)
      have hle9 : ls[k].length ≤ 9000000000000000000 := by omega
      have hnx := showK_next (dl := es[i].del.length) hlt2
      have hpk := showK_pre es[i].del.length (k + 1) ls
      rw [hnx, List.length_append] at hpk
      simp only [wpC, Bool.false_eq_true, ↓reduceIte, wpS, stops, wantedA, okDst, Nat.reduceLT, decide_true, step1, isOwnCall, hxOp, px, isNilC, pbinP, AS.eval, AS.get, Lift.look, Nat.reduceEqDiff, Option.getD_some, pbinI, Int.ofNat_lt, hlt2, thenQ, hasAll, and_true, AS.put, dropKey, true_and]
      refine SW.seq (SW.run [] _ ?_)
      simp only [wpC, isB, AS.get, Lift.look, tmpOf, ↓reduceIte, Option.getD_some, asB, thenQ, true_and]
      refine SW.seq (SW.block (SW.seq (SW.run [] _ ?_)))
      simp only [wpC, Bool.false_eq_true, ↓reduceIte, wpS, stops, wantedA, okDst, Nat.reduceLT, decide_true, step1, isOwnCall, hxOp, px, AS.eval, AS.get, Lift.look, Nat.reduceEqDiff, Option.getD_some, AS.put, dropKey, pindexAddr, ty43, ty9, ne_eq, Nat.succ_ne_zero, not_false_eq_true, Int.natCast_nonneg, Int.toNat_natCast, strL_len, hlt2, and_self, hg2, pload, okOne, TK.isAgg, beq_self_eq_true, Bool.or_true, List.length_cons, List.length_nil, Nat.zero_add, Nat.le_refl, Lift.valOf, List.take_succ_cons, List.take_nil, List.getD_cons_zero, thenQ, true_and]
      refine SW.seq (SW.run [eWholeB] _ ?_)
      cases hwb : lineB ls[k]
      case false =>
        have hno : es.all okLines = false := by
          rw [Bool.eq_false_iff]
          intro hc1
          have h1 := List.all_eq_true.1 hc1 _ (List.getElem_mem hlt)
          rw [hokl] at h1
          have h2 := List.all_eq_true.1 h1 _ (List.getElem_mem hlt2)
          rw [hwb] at h2; cases h2
        simp only [wpC, mayStop, stops, isFlt, Specs.has, eWholeB, Specs.hasO, Bool.or_false, Specs.hasH, List.any_cons, ↓reduceIte, Bool.not_true, List.any_nil, Bool.false_eq_true, wpS, wantedA, okDst, Nat.reduceLT, decide_true, step1, isOwnCall, hxOp, px, AS.eval, AS.get, Lift.look, Option.getD_some, AS.put, dropKey, Nat.reduceEqDiff, pcall, okArg, ofConst, ofVal, List.all_cons, List.all_nil, Bool.and_true, Specs.at, List.map_cons, List.map_nil, sLB, hle, hwb, and_self, pun, Bool.not_false, thenQ, isB, tmpOf, asB, inQ, RPost, sres, Ret_fin, true_and]
        refine ⟨_, rfl, ?_, Inc.to inc1⟩
        unfold showR showS
        rw [if_neg (by rw [hng]; decide), if_neg (by rw [hno]; decide)]
        rfl
      simp only [wpC, mayStop, stops, isFlt, Specs.has, eWholeB, Specs.hasO, Bool.or_false, Specs.hasH, List.any_cons, ↓reduceIte, Bool.not_true, List.any_nil, Bool.false_eq_true, wpS, wantedA, okDst, Nat.reduceLT, decide_true, step1, isOwnCall, hxOp, px, AS.eval, AS.get, Lift.look, Option.getD_some, AS.put, dropKey, Nat.reduceEqDiff, pcall, okArg, ofConst, ofVal, List.all_cons, List.all_nil, Bool.and_true, Specs.at, List.map_cons, List.map_nil, sLB, hle, hwb, and_self, pun, thenQ, isB, tmpOf, asB, true_and]
      refine SW.seq (SW.run [] _ ?_)
      simp only [wpC, Bool.false_eq_true, ↓reduceIte, wpS, stops, wantedA, okDst, Nat.reduceLT, decide_true, step1, isOwnCall, hxOp, px, AS.eval, ofConst, ofVal, thenQ, AS.put, dropKey, Nat.reduceEqDiff, true_and]
      have hcat2 : showG (signS es[i].del.length k) ls[k] = (signS es[i].del.length k :: ls[k]) ++ (if endB ls[k] = true then [] else [10, 92, 10]) := by unfold showG; rfl
      have htk3 : (ls.take (k + 1)).all lineB = true := by rw [List.take_succ_eq_append_getElem hlt2, List.all_append, htk2]; simp [hwb]
      have hpk2 : (signS es[i].del.length k :: ls[k]).length = ls[k].length + 1 := rfl
      refine SW.seq (SW.run [] _ ?_)
      by_cases hsg : es[i].del.length ≤ k
      · have hsv : signS es[i].del.length k = 43 := if_pos hsg
        simp only [wpC, mayStop, stops, isFlt, Specs.has, Specs.hasO, Bool.or_false, Specs.hasH, Bool.not_false, List.any_cons, List.any_nil, Bool.false_eq_true, ↓reduceIte, wpS, wantedA, okDst, Nat.reduceLT, decide_true, step1, isOwnCall, hxOp, px, AS.eval, AS.get, Lift.look, Nat.reduceEqDiff, Option.getD_some, AS.put, dropKey, pfieldAddr, fieldOf, ty79, fieldIn, List.getElem?_cons_succ, List.getElem?_cons_zero, ty43, Option.map_some, ne_eq, Nat.succ_ne_zero, not_false_eq_true, Nat.zero_add, pload, gq, okOne, TK.isAgg, beq_self_eq_true, Bool.or_true, Nat.reduceAdd, List.length_cons, List.length_nil, Nat.reduceLeDiff, and_self, Lift.valOf, List.drop_succ_cons, List.drop_zero, List.take_succ_cons, List.take_zero, List.getD_cons_zero, pcall, plen, strL_len, okLen, isNilC, pbinP, pbinI, Int.ofNat_le, hsg, thenQ, isB, tmpOf, asB, ofConst, ofVal, true_and]
        rw [hsv] at hcat2 hnx
        have hlenG : (showG (signS es[i].del.length k) ls[k]).length = ls[k].length + 1 + (if endB ls[k] = true then ([] : List UInt8) else [10, 92, 10]).length := by unfold showG; rw [List.length_append]; rfl
        have hbd : (showB (es.take i)).length + (hdrS es[i]).length + (showK es[i].del.length 0 (ls.take k)).length + (ls[k].length + 1) + (if endB ls[k] = true then ([] : List UInt8) else [10, 92, 10]).length ≤ 100000000000000 := by
          rw [hlenG] at hpk
          omega
        refine SW.seq (SW.run [eWS] _ ?_)
        simp only [wpC, Bool.false_eq_true, ↓reduceIte, wpS, stops, wantedA, okDst, Nat.reduceLT, decide_true, step1, isOwnCall, hxOp, px, AS.eval, AS.get, Lift.look, Option.getD_some, AS.put, dropKey, Nat.reduceEqDiff, isFlt, ty9, isNilC, pbinP, pbinS, List.length_cons, List.length_nil, Nat.zero_add, List.cons_append, List.nil_append, Specs.has, Specs.hasO, Bool.or_false, Specs.hasH, eWS, Bool.or_true, Bool.not_true, hx, okArg, ofConst, ofVal, List.all_cons, List.all_nil, Bool.and_true, Specs.atH, List.map_cons, List.map_nil, sWS, g1, true_and, thenQ]
        refine ⟨by omega, by simp only [List.length_append]; omega, ?_⟩
        refine SW.run [eHasSuffix, eWS] _ ?_
        cases hen : endB ls[k]
        · rw [hen] at hbd hcat2
          simp only [wpC, mayStop, stops, isFlt, Specs.has, eHasSuffix, Specs.hasO, Bool.or_false, Specs.hasH, eWS, List.any_cons, ↓reduceIte, Nat.reduceEqDiff, Bool.not_true, List.any_nil, Bool.false_eq_true, wpS, wantedA, okDst, Nat.reduceLT, decide_true, step1, isOwnCall, hxOp, px, AS.eval, AS.get, Lift.look, Option.getD_some, AS.put, dropKey, pcall, okArg, ofConst, ofVal, List.all_cons, List.all_nil, Bool.and_true, Specs.at, List.map_cons, List.map_nil, sSuffix, hle9, suffix_10, hen, and_self, pun, Bool.not_false, thenQ, isB, tmpOf, asB, Bool.or_true, hx, Specs.atH, sWS, Heap.get_put, List.length_cons, List.length_nil, Nat.zero_add, Nat.reduceAdd, Nat.reduceLeDiff, true_and, Int.cast_ofNat_Int, inQ]
          have hbd : (showB (es.take i)).length + (hdrS es[i]).length + (showK es[i].del.length 0 (ls.take k)).length + (ls[k].length + 1) + 3 ≤ 100000000000000 := hbd
          refine ⟨by simp only [List.length_append, List.length_cons]; omega, ?_⟩
          rw [Heap.put_put]
          refine SW.run [] _ ?_
          simp only [wpC, Bool.false_eq_true, ↓reduceIte, wpS, stops, isFlt, ty3, wantedA, okDst, Nat.reduceLT, decide_true, step1, isOwnCall, hxOp, px, isNilC, pbinP, AS.eval, AS.get, Lift.look, Nat.reduceEqDiff, Option.getD_some, ofConst, ofVal, pbinI, hw2, AS.put, dropKey, thenQ, Heap.get_put, Option.some.injEq, true_and]
          refine ⟨ls.length - (k + 1), by omega, k + 1, by omega, rfl, htk3, ?_, by rw [if_neg hqb]; exact gq, Inc.over inc1 hrb _, rfl⟩
          rw [hnx, hcat2, if_neg (by decide)]
          simp only [List.append_assoc]
        · rw [hen] at hbd hcat2
          simp only [wpC, mayStop, stops, isFlt, Specs.has, eHasSuffix, Specs.hasO, Bool.or_false, Specs.hasH, eWS, List.any_cons, ↓reduceIte, Nat.reduceEqDiff, Bool.not_true, List.any_nil, Bool.false_eq_true, wpS, wantedA, okDst, Nat.reduceLT, decide_true, step1, isOwnCall, hxOp, px, AS.eval, AS.get, Lift.look, Option.getD_some, AS.put, dropKey, pcall, okArg, ofConst, ofVal, List.all_cons, List.all_nil, Bool.and_true, Specs.at, List.map_cons, List.map_nil, sSuffix, hle9, suffix_10, hen, and_self, pun, thenQ, isB, tmpOf, asB, inQ, true_and]
          refine SW.run [] _ ?_
          simp only [wpC, Bool.false_eq_true, ↓reduceIte, wpS, stops, isFlt, ty3, wantedA, okDst, Nat.reduceLT, decide_true, step1, isOwnCall, hxOp, px, isNilC, pbinP, AS.eval, AS.get, Lift.look, Nat.reduceEqDiff, Option.getD_some, ofConst, ofVal, pbinI, hw2, AS.put, dropKey, thenQ, Heap.get_put, Option.some.injEq, true_and]
          refine ⟨ls.length - (k + 1), by omega, k + 1, by omega, rfl, htk3, ?_, by rw [if_neg hqb]; exact gq, Inc.over inc1 hrb _, rfl⟩
          rw [hnx, hcat2, if_pos rfl]
          simp only [List.append_assoc, List.append_nil]
      · have hsv : signS es[i].del.length k = 45 := if_neg hsg
        simp only [wpC, mayStop, stops, isFlt, Specs.has, Specs.hasO, Bool.or_false, Specs.hasH, Bool.not_false, List.any_cons, List.any_nil, Bool.false_eq_true, ↓reduceIte, wpS, wantedA, okDst, Nat.reduceLT, decide_true, step1, isOwnCall, hxOp, px, AS.eval, AS.get, Lift.look, Nat.reduceEqDiff, Option.getD_some, AS.put, dropKey, pfieldAddr, fieldOf, ty79, fieldIn, List.getElem?_cons_succ, List.getElem?_cons_zero, ty43, Option.map_some, ne_eq, Nat.succ_ne_zero, not_false_eq_true, Nat.zero_add, pload, gq, okOne, TK.isAgg, beq_self_eq_true, Bool.or_true, Nat.reduceAdd, List.length_cons, List.length_nil, Nat.reduceLeDiff, and_self, Lift.valOf, List.drop_succ_cons, List.drop_zero, List.take_succ_cons, List.take_zero, List.getD_cons_zero, pcall, plen, strL_len, okLen, isNilC, pbinP, pbinI, Int.ofNat_le, hsg, decide_false, thenQ, isB, tmpOf, asB, true_and]
        rw [hsv] at hcat2 hnx
        have hlenG : (showG (signS es[i].del.length k) ls[k]).length = ls[k].length + 1 + (if endB ls[k] = true then ([] : List UInt8) else [10, 92, 10]).length := by unfold showG; rw [List.length_append]; rfl
        have hbd : (showB (es.take i)).length + (hdrS es[i]).length + (showK es[i].del.length 0 (ls.take k)).length + (ls[k].length + 1) + (if endB ls[k] = true then ([] : List UInt8) else [10, 92, 10]).length ≤ 100000000000000 := by
          rw [hlenG] at hpk
          omega
        refine SW.seq (SW.run [eWS] _ ?_)
        simp only [wpC, Bool.false_eq_true, ↓reduceIte, wpS, stops, wantedA, okDst, Nat.reduceLT, decide_true, step1, isOwnCall, hxOp, px, AS.eval, AS.get, Lift.look, Nat.reduceEqDiff, Option.getD_some, AS.put, dropKey, isFlt, ty9, isNilC, pbinP, pbinS, List.length_cons, List.length_nil, Nat.zero_add, List.cons_append, List.nil_append, Specs.has, Specs.hasO, Bool.or_false, Specs.hasH, eWS, Bool.or_true, Bool.not_true, hx, okArg, ofConst, ofVal, List.all_cons, List.all_nil, Bool.and_true, Specs.atH, List.map_cons, List.map_nil, sWS, g1, true_and, thenQ]
        refine ⟨by omega, by simp only [List.length_append]; omega, ?_⟩
        refine SW.run [eHasSuffix, eWS] _ ?_
        cases hen : endB ls[k]
        · rw [hen] at hbd hcat2
          simp only [wpC, mayStop, stops, isFlt, Specs.has, eHasSuffix, Specs.hasO, Bool.or_false, Specs.hasH, eWS, List.any_cons, ↓reduceIte, Nat.reduceEqDiff, Bool.not_true, List.any_nil, Bool.false_eq_true, wpS, wantedA, okDst, Nat.reduceLT, decide_true, step1, isOwnCall, hxOp, px, AS.eval, AS.get, Lift.look, Option.getD_some, AS.put, dropKey, pcall, okArg, ofConst, ofVal, List.all_cons, List.all_nil, Bool.and_true, Specs.at, List.map_cons, List.map_nil, sSuffix, hle9, suffix_10, hen, and_self, pun, Bool.not_false, thenQ, isB, tmpOf, asB, Bool.or_true, hx, Specs.atH, sWS, Heap.get_put, List.length_cons, List.length_nil, Nat.zero_add, Nat.reduceAdd, Nat.reduceLeDiff, true_and, Int.cast_ofNat_Int, inQ]
          have hbd : (showB (es.take i)).length + (hdrS es[i]).length + (showK es[i].del.length 0 (ls.take k)).length + (ls[k].length + 1) + 3 ≤ 100000000000000 := hbd
          refine ⟨by simp only [List.length_append, List.length_cons]; omega, ?_⟩
          rw [Heap.put_put]
          refine SW.run [] _ ?_
          simp only [wpC, Bool.false_eq_true, ↓reduceIte, wpS, stops, isFlt, ty3, wantedA, okDst, Nat.reduceLT, decide_true, step1, isOwnCall, hxOp, px, isNilC, pbinP, AS.eval, AS.get, Lift.look, Nat.reduceEqDiff, Option.getD_some, ofConst, ofVal, pbinI, hw2, AS.put, dropKey, thenQ, Heap.get_put, Option.some.injEq, true_and]
          refine ⟨ls.length - (k + 1), by omega, k + 1, by omega, rfl, htk3, ?_, by rw [if_neg hqb]; exact gq, Inc.over inc1 hrb _, rfl⟩
          rw [hnx, hcat2, if_neg (by decide)]
          simp only [List.append_assoc]
        · rw [hen] at hbd hcat2
          simp only [wpC, mayStop, stops, isFlt, Specs.has, eHasSuffix, Specs.hasO, Bool.or_false, Specs.hasH, eWS, List.any_cons, ↓reduceIte, Nat.reduceEqDiff, Bool.not_true, List.any_nil, Bool.false_eq_true, wpS, wantedA, okDst, Nat.reduceLT, decide_true, step1, isOwnCall, hxOp, px, AS.eval, AS.get, Lift.look, Option.getD_some, AS.put, dropKey, pcall, okArg, ofConst, ofVal, List.all_cons, List.all_nil, Bool.and_true, Specs.at, List.map_cons, List.map_nil, sSuffix, hle9, suffix_10, hen, and_self, pun, thenQ, isB, tmpOf, asB, inQ, true_and]
          refine SW.run [] _ ?_
          simp only [wpC, Bool.false_eq_true, ↓reduceIte, wpS, stops, isFlt, ty3, wantedA, okDst, Nat.reduceLT, decide_true, step1, isOwnCall, hxOp, px, isNilC, pbinP, AS.eval, AS.get, Lift.look, Nat.reduceEqDiff, Option.getD_some, ofConst, ofVal, pbinI, hw2, AS.put, dropKey, thenQ, Heap.get_put, Option.some.injEq, true_and]
          refine ⟨ls.length - (k + 1), by omega, k + 1, by omega, rfl, htk3, ?_, by rw [if_neg hqb]; exact gq, Inc.over inc1 hrb _, rfl⟩
          rw [hnx, hcat2, if_pos rfl]
          simp only [List.append_assoc, List.append_nil]
    · simp only [wpC, Bool.false_eq_true, ↓reduceIte, wpS, stops, wantedA, okDst, Nat.reduceLT, decide_true, step1, isOwnCall, hxOp, px, isNilC, pbinP, AS.eval, AS.get, Lift.look, Nat.reduceEqDiff, Option.getD_some, pbinI, Int.ofNat_lt, hlt2, decide_false, thenQ, hasAll, and_true, AS.put, dropKey, true_and]
      refine SW.seq (SW.run [] _ ?_)
      simp only [wpC, isB, AS.get, Lift.look, tmpOf, ↓reduceIte, Option.getD_some, asB, Bool.false_eq_true, thenQ, inQ, true_and]
      have hkl : ls.length ≤ k := by omega
      rw [List.take_of_length_le hkl] at g1 htk2
      refine SW.run [] _ ?_
      simp only [wpC, Bool.false_eq_true, ↓reduceIte, wpS, stops, isFlt, ty3, wantedA, okDst, Nat.reduceLT, decide_true, step1, isOwnCall, hxOp, px, isNilC, pbinP, AS.eval, AS.get, Lift.look, Nat.reduceEqDiff, Option.getD_some, ofConst, ofVal, pbinI, hw, AS.put, dropKey, thenQ, true_and]
      refine ⟨es.length - (i + 1), by omega, i + 1, by omega, rfl, by rw [List.take_succ_eq_append_getElem hlt, List.all_append, htk]; simp [hokl, htk2], ?_, inc1, rfl⟩
      rw [g1, showB_next hlt, hsT, List.append_assoc]
  · simp only [wpC, Bool.false_eq_true, ↓reduceIte, wpS, stops, wantedA, okDst, Nat.reduceLT, decide_true, step1, isOwnCall, hxOp, px, isNilC, pbinP, AS.eval, AS.get, Lift.look, Nat.reduceEqDiff, Option.getD_some, pbinI, Int.ofNat_lt, hlt, decide_false, thenQ, hasAll, and_true, AS.put, dropKey, true_and]
    refine SW.seq (SW.run [] _ ?_)
    simp only [wpC, isB, AS.get, Lift.look, tmpOf, ↓reduceIte, Option.getD_some, asB, Bool.false_eq_true, thenQ, inQ, true_and]
    have hei : i = es.length := by omega
    subst hei
    rw [List.take_length] at hbl htk
    have hbl2 : (showB es).length ≤ 140737488355328 := by omega
    refine SW.run [eBS] _ ?_
    simp only [wpC, mayStop, stops, isFlt, Specs.has, Specs.hasO, Bool.or_false, Specs.hasH, eBS, Bool.false_or, List.any_cons, ↓reduceIte, Bool.not_true, List.any_nil, Bool.false_eq_true, wpS, Bool.or_true, wantedA, okDst, Nat.reduceLT, decide_true, step1, isOwnCall, hxOp, hx, okArg, AS.eval, AS.get, Lift.look, ofConst, ofVal, List.all_cons, Nat.reduceEqDiff, Option.getD_some, List.all_nil, Bool.and_true, Specs.atH, List.map_cons, List.map_nil, sBS, hbl, hbl2, and_self, AS.put, dropKey, px, thenQ, RPost, sres, Tryz.results9, sresL, sres1, Option.some.injEq, Ret_fin, exists_eq_left', true_and]
    refine ⟨?_, Inc.to (Inc.gone inc hrb)⟩
    unfold showR showS
    rw [if_neg (by rw [hng]; decide), if_pos htk]
def sShow : List PV → Prop × PV
  | [.list 4 xs] => match unE xs with
    | some es => ((∀ e ∈ es, e.fit) ∧ es.length ≤ 1000000 ∧ (showB es).length ≤ 100000000000000, showR es)
    | none => PBad
  | _ => PBad
noncomputable def eShow : SpecE env := ⟨9, sShow, fun args h hc => by
  unfold sShow at hc ⊢
  split at hc
  · split at hc
    · rename_i es hes; rw [unE_spec hes]; exact .inl (Show_ok es hc.1 hc.2.1 hc.2.2 h)
    · exact hc.elim
  · exact hc.elim⟩
end Go.Proofs.YtincpomenogppaaGreatDoor
