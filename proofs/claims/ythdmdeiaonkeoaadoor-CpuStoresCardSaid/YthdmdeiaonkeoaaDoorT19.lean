/- Contracts of functions that the law reaches. -/
import Derived.Test.YthdmdeiaonkeoaaDoorT18w
import Derived.Test.YthdmdeiaonkeoaaDoorT12
set_option linter.unusedSimpArgs false
set_option linter.unusedVariables false
namespace Go.Proofs.YthdmdeiaonkeoaaDoor
open Go Go.RowKit Go.Proofs.YthdmdeiaonkeoaaDoor Go.Proofs.YthdmdeiaonkeoaaDoor.Lift

/-! A state as a value -/
section
variable {s : Mach} {v : Int} (hr : s.rg.length = 16)
include hr
theorem stV_len : (stV s).length = 20 := stC_len hr
omit hr in
theorem stV_pc : List.take 1 (stV s) = [.int .i64 s.pc] := rfl
theorem stV_fr : List.take 1 (List.drop 17 (stV s)) = [.list 1 (el64 s.fr)] := stC_fr hr
theorem stV_da : List.take 1 (List.drop 18 (stV s)) = [.list 1 (el64 s.da)] := stC_da hr
theorem stV_st : List.take 1 (List.drop 19 (stV s)) = [.int .i64 s.st] := stC_st hr
theorem stV_all : List.take 20 (stV s) = stV s := stC_all hr
theorem stV_none : List.drop 20 (stV s) = [] := stC_none hr
theorem stV_setst : List.take 19 (stV s) ++ [PV.int .i64 v] = stV ⟨s.pc, s.rg, s.fr, s.da, v⟩ := stC_setst hr
theorem stV_rg : List.take 16 (List.drop 1 (stV s)) = s.rg.map (PV.int .i64) := by
  have e : List.drop 1 (stV s) = s.rg.map (PV.int .i64) ++ [.list 1 (el64 s.fr), .list 1 (el64 s.da), .int .i64 s.st] := rfl
  rw [e, List.take_left' (by rw [List.length_map, hr])]
end
/-- How great a state may be. -/
structure Mach.fit (s : Mach) : Prop where
  rg : s.rg.length = 16
  st : s.st < 9223372036854775808
  fr : s.fr.length ≤ 1000000000
  da : s.da.length ≤ 1000000000
def unI : List PV → Option (List Int)
  | [] => some []
  | .int .i64 n :: r => match unI r with
    | some l => some (n :: l)
    | none => none
  | _ => none
theorem unI_spec : ∀ {cs : List PV} {l : List Int}, unI cs = some l → cs = l.map (PV.int .i64)
  | [], l, h => by simp only [unI, Option.some.injEq] at h; subst h; rfl
  | c :: cs, l, h => by
    unfold unI at h
    split at h
    · rename_i e; cases e
    · rename_i n r e
      injection e with e1 e2
      subst e1; subst e2
      split at h
      · rename_i l' hl
        injection h with h
        subst h
        rw [unI_spec hl]
        rfl
      · cases h
    · cases h
theorem unI_map : ∀ l : List Int, unI (l.map (PV.int .i64)) = some l
  | [] => rfl
  | n :: l => by
    show (match unI (l.map (PV.int .i64)) with | some l => some (n :: l) | none => none) = _
    rw [unI_map l]
def unSt (cs : List PV) : Option Mach :=
  match cs with
  | .int .i64 pc :: rest => match unI (rest.take 16) with
    | some rg => match rest.drop 16 with
      | [.list 1 f, .list 1 d, .int .i64 st] => match un64 f with
        | some fr => match un64 d with
          | some da => some ⟨pc, rg, fr, da, st⟩
          | none => none
        | none => none
      | _ => none
    | none => none
  | _ => none
theorem unSt_spec {cs : List PV} {s : Mach} (h : unSt cs = some s) : cs = stV s := by
  unfold unSt at h
  split at h
  · rename_i pc rest
    split at h
    · rename_i rg hrg
      split at h
      · rename_i f d st hd
        split at h
        · rename_i fr hf
          split at h
          · rename_i da hda
            injection h with h
            subst h
            rw [un64_spec hf, un64_spec hda] at hd
            show PV.int .i64 pc :: rest = PV.int .i64 pc :: (rg.map _ ++ [_, _, _])
            rw [← unI_spec hrg, ← hd, List.take_append_drop]
          · cases h
        · cases h
      · cases h
    · cases h
  · cases h
theorem unSt_stV {s : Mach} (hr : s.rg.length = 16) : unSt (stV s) = some s := by
  show (match unI ((s.rg.map (PV.int .i64) ++ [PV.list 1 (el64 s.fr), .list 1 (el64 s.da), .int .i64 s.st]).take 16) with | some rg => _ | none => _) = _
  rw [List.take_left' (by rw [List.length_map, hr]), unI_map]
  show (match (s.rg.map (PV.int .i64) ++ [PV.list 1 (el64 s.fr), .list 1 (el64 s.da), .int .i64 s.st]).drop 16 with | [.list 1 f, .list 1 d, .int .i64 st] => _ | _ => _) = _
  rw [List.drop_left' (by rw [List.length_map, hr])]
  show (match un64 (el64 s.fr) with | some fr => _ | none => _) = _
  rw [un64_el64]
  show (match un64 (el64 s.da) with | some fr => _ | none => _) = _
  rw [un64_el64]
/-! cpu.Run -/
def ansV (x : Mach × Int × Int) : PV := .tuple [.agg (stV x.1), .int .i64 x.2.1, .int .i64 x.2.2]
theorem Run_ok (code : List Int) (s : Mach) (h : Heap) (hs : s.fit) (hcl : code.length ≤ 1000000000) : SCalls env 20 [.list 1 (el64 code), .agg (stV s)] h (Ret (ansV (runAll code s)) h) :=
  RunQ_letGo (RunQ_ok code s h hs.rg hs.st hcl hs.fr hs.da)
def sRun : List PV → Prop × PV
  | [.list 1 xs, .agg cs] => match un64 xs, unSt cs with
    | some code, some s => (s.fit ∧ code.length ≤ 1000000000, ansV (runAll code s))
    | _, _ => PBad
  | _ => PBad
theorem sRun_st {code : List Int} {s : Mach} (hr : s.rg.length = 16) : sRun [.list 1 (el64 code), .agg (stV s)] = (s.fit ∧ code.length ≤ 1000000000, ansV (runAll code s)) := by
  show (match un64 (el64 code), unSt (stV s) with | some code, some s => (s.fit ∧ code.length ≤ 1000000000, ansV (runAll code s)) | _, _ => PBad) = _
  rw [un64_el64, unSt_stV hr]
noncomputable def eRun : SpecE env := ⟨20, sRun, fun args h hc => by
  unfold sRun at hc ⊢
  split at hc
  · split at hc
    · rename_i code s h1 h2
      rw [un64_spec h1, unSt_spec h2]
      exact .inl (Run_ok code s h hc.1 hc.2)
    · exact hc.elim
  · exact hc.elim⟩
/-! small, equal -/
def smallS (code : List Int) (s : Mach) : Bool := decide (code.length ≤ 100) && decide (s.fr.length ≤ 50) && decide (s.da.length ≤ 50) && decide (s.st ≤ 500)
theorem small_ok (code : List Int) (s : Mach) (h : Heap) (hr : s.rg.length = 16) : SCalls env 18 [.list 1 (el64 code), .agg (stV s)] h (Ret (.bool (smallS code s)) h) := by
  refine SCalls.body Tryd.func18 rfl rfl (by simp [Tryd.ntmps18]) ?_
  refine SW.seq (SW.run [] _ ?_)
  simp only [wpC, Bool.false_eq_true, ↓reduceIte, wpS, stops, wantedA, okDst, Tryd.ntmps18, Nat.reduceLT, decide_true, step1, known1, AS.eval, AS.get, enumA, Nat.zero_add, Lift.look, reduceCtorEq, Option.getD_some, AS.put, dropKey, Nat.reduceEqDiff, isOwnCall, hxOp, px, ofConst, ofVal, thenQ, PV.cells, stV_len hr, true_and]
  intro r h0
  have c1 : ((code.length : Nat) : Int) ≤ 100 ↔ code.length ≤ 100 := by omega
  have c2 : ((s.fr.length : Nat) : Int) ≤ 50 ↔ s.fr.length ≤ 50 := by omega
  have c3 : ((s.da.length : Nat) : Int) ≤ 50 ↔ s.da.length ≤ 50 := by omega
  unfold smallS
  by_cases k1 : code.length ≤ 100
  · by_cases k2 : s.fr.length ≤ 50
    · by_cases k3 : s.da.length ≤ 50
      · by_cases k4 : s.st ≤ 500
        · refine SW.run [] _ ?_
          simp only [wpC, mayStop, stops, isFlt, Specs.has, Specs.hasO, Bool.or_false, Bool.not_false, List.any_cons, List.any_nil, Bool.false_eq_true, ↓reduceIte, wpS, wantedA, okDst, Nat.reduceLT, decide_true, step1, isOwnCall, hxOp, px, AS.eval, AS.get, Lift.look, Nat.succ_ne_zero, Option.getD_some, AS.put, dropKey, Nat.reduceEqDiff, reduceCtorEq, pcall, ty41, plen, el64_len, okLen, and_self, pbinP, ofConst, ofVal, pbinI, c1, k1, List.getElem?_toArray, List.getElem?_cons_succ, List.getElem?_cons_zero, Option.bind_some, beq_self_eq_true, pfieldAddr, fieldOf, ty45, fieldIn, ty43, Option.map_some, ne_eq, not_false_eq_true, Nat.zero_add, pload, Heap.get_put, okOne, TK.isAgg, Bool.or_true, Nat.reduceAdd, stV_len hr, Nat.reduceLeDiff, Lift.valOf, stV_fr hr, List.getD_cons_zero, c2, k2, ppick_bool, stV_da hr, c3, k3, ty3, Nat.le_refl, stV_st hr, k4, thenQ, RPost, sres, Tryd.results18, sresL, sres1, Option.some.injEq, Bool.and_true, Ret_fin, exists_eq_left', true_and]
          exact HTo.put (.refl _ _) h0 _
        · refine SW.run [] _ ?_
          simp only [wpC, mayStop, stops, isFlt, Specs.has, Specs.hasO, Bool.or_false, Bool.not_false, List.any_cons, List.any_nil, Bool.false_eq_true, ↓reduceIte, wpS, wantedA, okDst, Nat.reduceLT, decide_true, step1, isOwnCall, hxOp, px, AS.eval, AS.get, Lift.look, Nat.succ_ne_zero, Option.getD_some, AS.put, dropKey, Nat.reduceEqDiff, reduceCtorEq, pcall, ty41, plen, el64_len, okLen, and_self, pbinP, ofConst, ofVal, pbinI, c1, k1, List.getElem?_toArray, List.getElem?_cons_succ, List.getElem?_cons_zero, Option.bind_some, beq_self_eq_true, pfieldAddr, fieldOf, ty45, fieldIn, ty43, Option.map_some, ne_eq, not_false_eq_true, Nat.zero_add, pload, Heap.get_put, okOne, TK.isAgg, Bool.or_true, Nat.reduceAdd, stV_len hr, Nat.reduceLeDiff, Lift.valOf, stV_fr hr, List.getD_cons_zero, c2, k2, ppick_bool, stV_da hr, c3, k3, ty3, Nat.le_refl, stV_st hr, k4, decide_false, thenQ, RPost, sres, Tryd.results18, sresL, sres1, Option.some.injEq, Bool.and_true, Bool.true_and, Ret_fin, exists_eq_left', true_and]
          exact HTo.put (.refl _ _) h0 _
      · refine SW.run [] _ ?_
        simp only [wpC, mayStop, stops, isFlt, Specs.has, Specs.hasO, Bool.or_false, Bool.not_false, List.any_cons, List.any_nil, Bool.false_eq_true, ↓reduceIte, wpS, wantedA, okDst, Nat.reduceLT, decide_true, step1, isOwnCall, hxOp, px, AS.eval, AS.get, Lift.look, Nat.succ_ne_zero, Option.getD_some, AS.put, dropKey, Nat.reduceEqDiff, reduceCtorEq, pcall, ty41, plen, el64_len, okLen, and_self, pbinP, ofConst, ofVal, pbinI, c1, k1, List.getElem?_toArray, List.getElem?_cons_succ, List.getElem?_cons_zero, Option.bind_some, beq_self_eq_true, pfieldAddr, fieldOf, ty45, fieldIn, ty43, Option.map_some, ne_eq, not_false_eq_true, Nat.zero_add, pload, Heap.get_put, okOne, TK.isAgg, Bool.or_true, Nat.reduceAdd, stV_len hr, Nat.reduceLeDiff, Lift.valOf, stV_fr hr, List.getD_cons_zero, c2, k2, ppick_bool, stV_da hr, c3, k3, decide_false, beq_ft, Option.some.injEq, ppick_false, thenQ, RPost, sres, Tryd.results18, sresL, sres1, Bool.and_true, Bool.and_false, Bool.false_and, Ret_fin, exists_eq_left', true_and]
        exact HTo.put (.refl _ _) h0 _
    · refine SW.run [] _ ?_
      simp only [wpC, mayStop, stops, isFlt, Specs.has, Specs.hasO, Bool.or_false, Bool.not_false, List.any_cons, List.any_nil, Bool.false_eq_true, ↓reduceIte, wpS, wantedA, okDst, Nat.reduceLT, decide_true, step1, isOwnCall, hxOp, px, AS.eval, AS.get, Lift.look, Nat.succ_ne_zero, Option.getD_some, AS.put, dropKey, Nat.reduceEqDiff, reduceCtorEq, pcall, ty41, plen, el64_len, okLen, and_self, pbinP, ofConst, ofVal, pbinI, c1, k1, List.getElem?_toArray, List.getElem?_cons_succ, List.getElem?_cons_zero, Option.bind_some, beq_self_eq_true, pfieldAddr, fieldOf, ty45, fieldIn, ty43, Option.map_some, ne_eq, not_false_eq_true, Nat.zero_add, pload, Heap.get_put, okOne, TK.isAgg, Bool.or_true, Nat.reduceAdd, stV_len hr, Nat.reduceLeDiff, Lift.valOf, stV_fr hr, List.getD_cons_zero, c2, k2, decide_false, ppick_bool, beq_ft, Option.some.injEq, ppick_false, thenQ, RPost, sres, Tryd.results18, sresL, sres1, Bool.and_false, Bool.false_and, Ret_fin, exists_eq_left', true_and]
      exact HTo.put (.refl _ _) h0 _
  · refine SW.run [] _ ?_
    simp only [wpC, mayStop, stops, isFlt, Specs.has, Specs.hasO, Bool.or_false, Bool.not_false, List.any_cons, List.any_nil, Bool.false_eq_true, ↓reduceIte, wpS, wantedA, okDst, Nat.reduceLT, decide_true, step1, isOwnCall, hxOp, px, AS.eval, AS.get, Lift.look, Nat.succ_ne_zero, Option.getD_some, AS.put, dropKey, Nat.reduceEqDiff, reduceCtorEq, pcall, ty41, plen, el64_len, okLen, and_self, pbinP, ofConst, ofVal, pbinI, c1, k1, decide_false, List.getElem?_toArray, List.getElem?_cons_succ, List.getElem?_cons_zero, Option.bind_some, beq_ft, Option.some.injEq, ppick_false, thenQ, RPost, sres, Tryd.results18, sresL, sres1, Bool.false_and, Ret_fin, exists_eq_left', true_and]
    exact HTo.put (.refl _ _) h0 _
def sSmall : List PV → Prop × PV
  | [.list 1 xs, .agg cs] => match un64 xs, unSt cs with
    | some code, some s => (s.rg.length = 16, .bool (smallS code s))
    | _, _ => PBad
  | _ => PBad
theorem sSmall_st {code : List Int} {s : Mach} (hr : s.rg.length = 16) : sSmall [.list 1 (el64 code), .agg (stV s)] = (s.rg.length = 16, .bool (smallS code s)) := by
  show (match un64 (el64 code), unSt (stV s) with | some code, some s => (s.rg.length = 16, PV.bool (smallS code s)) | _, _ => PBad) = _
  rw [un64_el64, unSt_stV hr]
noncomputable def eSmall : SpecE env := ⟨18, sSmall, fun args h hc => by
  unfold sSmall at hc ⊢
  split at hc
  · split at hc
    · rename_i code s h1 h2
      rw [un64_spec h1, unSt_spec h2]
      exact .inl (small_ok code s h hc)
    · exact hc.elim
  · exact hc.elim⟩
theorem eqk42 : eqKinds env 42 = some [.int .i64, .int .i64, .int .i64, .int .i64, .int .i64, .int .i64, .int .i64, .int .i64, .int .i64, .int .i64, .int .i64, .int .i64, .int .i64, .int .i64, .int .i64, .int .i64] := by kernel_rfl
theorem fits_ints : ∀ (l : List Int), fits (List.replicate l.length (.int .i64)) (l.map (PV.int .i64)) = true
  | [] => rfl
  | n :: l => by
    show (decide (IntKind.i64 = IntKind.i64) && fits (List.replicate l.length (.int .i64)) (l.map (PV.int .i64))) = true
    rw [fits_ints l]
    rfl
theorem fits16 {l : List Int} (h : l.length = 16) : fits [.int .i64, .int .i64, .int .i64, .int .i64, .int .i64, .int .i64, .int .i64, .int .i64, .int .i64, .int .i64, .int .i64, .int .i64, .int .i64, .int .i64, .int .i64, .int .i64] (l.map (PV.int .i64)) = true := by
  have := fits_ints l
  rw [h] at this
  exact this
theorem eqCells_same : ∀ l : List Int, eqCells (l.map (PV.int .i64)) (l.map (PV.int .i64)) = true
  | [] => rfl
  | n :: l => by
    show ((n == n) && eqCells (l.map (PV.int .i64)) (l.map (PV.int .i64))) = true
    rw [eqCells_same l, beq_self_eq_true]
    rfl
set_option maxRecDepth 100000 in
theorem equal_ok (s : Mach) (h : Heap) (hs : s.fit) : SCalls env 23 [.agg (stV s), .agg (stV s)] h (Ret (.bool true) h) := by
  have hr := hs.rg
  have hf := hs.fr
  have hd := hs.da
  refine SCalls.body Tryd.func23 rfl rfl (by simp [Tryd.ntmps23]) ?_
  refine SW.seq (SW.run [] _ ?_)
  simp only [wpC, Bool.false_eq_true, ↓reduceIte, wpS, stops, wantedA, okDst, Tryd.ntmps23, Nat.reduceLT, decide_true, step1, known1, AS.eval, AS.get, enumA, Nat.zero_add, Lift.look, Option.getD_some, AS.put, dropKey, reduceCtorEq, Nat.reduceEqDiff, PV.cells, stV_len hr, Heap.get_put, some_none, isOwnCall, hxOp, px, ofConst, ofVal, thenQ, true_and]
  rintro r h0 q ⟨hqr, h1⟩
  have hrq : ¬ r = q := fun e => hqr e.symm
  refine SW.run [eEqual] _ ?_
  simp only [wpC, mayStop, stops, isFlt, Specs.has, eEqual, Specs.hasO, Nat.reduceLeDiff, Nat.reduceSub, false_and, ↓reduceIte, Bool.or_false, List.any_cons, Bool.not_true, List.any_nil, Bool.false_eq_true, wpS, wantedA, okDst, Nat.reduceLT, decide_true, step1, isOwnCall, hxOp, px, pfieldAddr, fieldOf, ty45, fieldIn, List.getElem?_cons_zero, ty3, Option.map_some, AS.eval, AS.get, Lift.look, Nat.reduceEqDiff, Option.getD_some, ne_eq, Nat.succ_ne_zero, not_false_eq_true, Nat.add_zero, AS.put, dropKey, reduceCtorEq, pload, Heap.get_put, hrq, okOne, TK.isAgg, beq_self_eq_true, Bool.or_true, Nat.zero_add, stV_len hr, and_self, Lift.valOf, List.drop_zero, stV_pc, List.getD_cons_zero, pbinP, pbinI, List.getElem?_toArray, List.getElem?_cons_succ, Option.bind_some, ty42, Nat.reduceBEq, Nat.reduceAdd, stV_rg hr, pflt, peq, eqk42, fits16 hr, eqCells_same, ofConst, ofVal, ppick_bool, ty43, stV_fr hr, pcall, okArg, List.all_cons, List.all_nil, Bool.and_true, Specs.at, List.map_cons, List.map_nil, sEqual, un64_el64, hf, stV_da hr, hd, Nat.le_refl, stV_st hr, thenQ, RPost, sres, Tryd.results23, sresL, sres1, Option.some.injEq, Ret_fin, exists_eq_left', true_and]
  exact HTo.put2 _ _ h0 h1
def sEqualM : List PV → Prop × PV
  | [.agg cs, .agg ds] => match unSt cs, unSt ds with
    | some s, some t => (s = t ∧ s.fit, .bool true)
    | _, _ => PBad
  | _ => PBad
theorem sEqualM_st {s t : Mach} (hr : s.rg.length = 16) (hq : t.rg.length = 16) : sEqualM [.agg (stV s), .agg (stV t)] = (s = t ∧ s.fit, .bool true) := by
  show (match unSt (stV s), unSt (stV t) with | some s, some t => (s = t ∧ s.fit, PV.bool true) | _, _ => PBad) = _
  rw [unSt_stV hr, unSt_stV hq]
noncomputable def eEqualM : SpecE env := ⟨23, sEqualM, fun args h hc => by
  unfold sEqualM at hc ⊢
  split at hc
  · split at hc
    · rename_i s t h1 h2
      rw [unSt_spec h1, unSt_spec h2]
      obtain ⟨rfl, hf⟩ := hc
      exact .inl (equal_ok s h hf)
    · exact hc.elim
  · exact hc.elim⟩
end Go.Proofs.YthdmdeiaonkeoaaDoor
