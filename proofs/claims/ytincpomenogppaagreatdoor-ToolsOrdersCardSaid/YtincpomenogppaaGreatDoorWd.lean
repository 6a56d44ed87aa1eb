/- Contracts of functions that the law reaches. -/
import Derived.Test.YtincpomenogppaaGreatDoorWb
import Derived.Test.YtincpomenogppaaGreatDoorLiftH
set_option linter.unusedSimpArgs false
set_option linter.unusedVariables false
namespace Go.Proofs.YtincpomenogppaaGreatDoor
open Go Go.RowKit Go.Proofs.YtincpomenogppaaGreatDoor Go.Proofs.YtincpomenogppaaGreatDoor.Lift
set_option maxRecDepth 100000

theorem Grow_ok (n : Nat) (hn : n ≤ 1000000) (h : Heap) : SCalls env 106 [.val (.slice none 0 0), .int .i64 (n : Nat)] h (fun e h' => ∃ v, e = .ret v ∧ Own h 9 1 [] v h') := by
  refine SCalls.body Tryz.func106 rfl rfl (by simp [Tryz.ntmps106]) ?_
  have k0 : ¬ ((n : Nat) : Int) < 0 := by omega
  have hw : IntKind.i64.wrap ((n : Nat) : Int) = ((n : Nat) : Int) := w64 (by omega) (by omega)
  have hw0 : IntKind.i64.wrap 0 = 0 := rfl
  refine SW.seq (SW.run [] _ ?_)
  simp only [wpC, Bool.false_eq_true, ↓reduceIte, wpS, stops, wantedA, okDst, Tryz.ntmps106, Nat.reduceLT, decide_true, step1, isOwnCall, hxOp, px, AS.eval, ofConst, ofVal, thenQ, AS.put, enumA, Nat.zero_add, dropKey, reduceCtorEq, Nat.reduceEqDiff, true_and]
  refine SW.seq (SW.run [] _ ?_)
  simp only [wpC, mayStop, stops, isFlt, Specs.has, Specs.hasO, Bool.or_false, Specs.hasH, Bool.not_false, List.any_cons, List.any_nil, Bool.false_eq_true, ↓reduceIte, wpS, wantedA, okDst, Nat.reduceLT, decide_true, step1, isOwnCall, hxOp, px, AS.eval, AS.get, Lift.look, Nat.reduceEqDiff, reduceCtorEq, Option.getD_some, AS.put, dropKey, isNilC, pbinP, ofConst, ofVal, pbinI, k0, decide_false, thenQ, isB, tmpOf, asB, true_and]
  refine SW.seq (SW.run [] _ ?_)
  cases n with
  | zero =>
    simp only [wpC, mayStop, stops, isFlt, Specs.has, Specs.hasO, Bool.or_false, Specs.hasH, Bool.not_false, List.any_cons, ty3, List.any_nil, Bool.false_eq_true, ↓reduceIte, wpS, wantedA, okDst, Nat.reduceLT, decide_true, step1, isOwnCall, hxOp, px, AS.eval, AS.get, Lift.look, Nat.reduceEqDiff, reduceCtorEq, Int.cast_ofNat_Int, Option.getD_some, AS.put, dropKey, Nat.succ_ne_zero, pcall, ty43, and_self, plen, okLen, isNilC, pbinP, pbinI, Int.sub_zero, hw0, thenQ, ofConst, ofVal, Int.reduceLT, decide_false, isB, tmpOf, asB, true_and]
    refine SW.run [] _ ?_
    simp only [wpC, mayStop, stops, isFlt, Specs.has, Specs.hasO, Bool.or_false, Specs.hasH, Bool.not_false, List.any_cons, List.any_nil, Bool.false_eq_true, ↓reduceIte, wpS, wantedA, okDst, Nat.reduceLT, decide_true, step1, isOwnCall, hxOp, px, AS.eval, AS.get, Lift.look, Nat.succ_ne_zero, Option.getD_some, AS.put, dropKey, Nat.reduceEqDiff, reduceCtorEq, thenQ, RPost, sres, Tryz.results106, sresL, sres1, Option.some.injEq, exists_eq_left', true_and]
    exact ⟨h, .refl _ _, _, rfl, Own.nil _ _ _⟩
  | succ n =>
    have k1 : (0 : Int) < ((n + 1 : Nat) : Int) := by omega
    simp only [wpC, mayStop, stops, isFlt, Specs.has, Specs.hasO, Bool.or_false, Specs.hasH, Bool.not_false, List.any_cons, ty3, List.any_nil, Bool.false_eq_true, ↓reduceIte, wpS, wantedA, okDst, Nat.reduceLT, decide_true, step1, isOwnCall, hxOp, px, AS.eval, AS.get, Lift.look, Nat.reduceEqDiff, reduceCtorEq, Option.getD_some, AS.put, dropKey, Nat.succ_ne_zero, pcall, ty43, and_self, Int.cast_ofNat_Int, plen, okLen, isNilC, pbinP, pbinI, Int.sub_zero, hw0, hw, thenQ, ofConst, ofVal, k1, isB, tmpOf, asB, pslice, ty9, pB, Int.reduceLE, true_and]
    refine SWO.appendZ (.tmp 20) (.tmp 21) 43 3 rfl ty43 rfl ty9 (by decide) rfl ty3 rfl (n := n + 1) rfl rfl (by omega) (by show (n + 1) * 16 ≤ _; omega) (by simp [maxLen]; omega) rfl rfl fun r cap hr hc1 hc2 => ?_
    replace hr : h r = none := hr
    refine SWO.run [] 1000 ?_
    simp only [wpS, stops, Bool.false_eq_true, ↓reduceIte, wantedA, okDst, AS.put, dropKey, Nat.reduceEqDiff, reduceCtorEq, Nat.reduceLT, decide_true, step1, isOwnCall, hxOp, px, AS.eval, AS.get, Lift.look, Nat.succ_ne_zero, Option.getD_some, pcall, ty43, plen, okLen, and_self, Int.cast_ofNat_Int, pslice, ty9, pB, Int.reduceLE, Int.natCast_nonneg, Int.reduceToNat, Nat.reduceMul, Nat.zero_add, Nat.reduceSub, thenQ, true_and]
    refine SW.run [] _ ?_
    simp only [wpC, mayStop, stops, isFlt, Specs.has, Specs.hasO, Bool.or_false, Specs.hasH, Bool.not_false, List.any_cons, List.any_nil, Bool.false_eq_true, ↓reduceIte, wpS, wantedA, okDst, Nat.reduceLT, decide_true, step1, isOwnCall, hxOp, px, AS.eval, AS.get, Lift.look, Option.getD_some, AS.put, dropKey, reduceCtorEq, Nat.reduceEqDiff, thenQ, RPost, sres, Tryz.results106, sresL, sres1, Option.some.injEq, exists_eq_left', true_and]
    simp only [ite_self, Nat.sub_zero]
    exact ⟨_, .refl _ _, _, rfl, .inr ⟨r, cap, rfl, Nat.zero_le _, hc2, hr, rfl, fun x hx => by cases hx⟩⟩
def llV (ls : List (List (List UInt8))) : List (List PV) := ls.map fun l => [.list 1 (strL l)]
theorem llV_len (ls : List (List (List UInt8))) : (llV ls).length = ls.length := List.length_map _
theorem llV_at {ls : List (List (List UInt8))} {i : Nat} (h : i < ls.length) : (llV ls).getD i [] = [.list 1 (strL ls[i])] := by
  unfold llV
  rw [List.getD_eq_getElem?_getD, List.getElem?_eq_getElem (by rw [List.length_map]; exact h)]
  simp
set_option maxHeartbeats 2000000 in
theorem Concat_ok (ls : List (List (List UInt8))) (hl : ls.length ≤ 1000000) (hf : ls.flatten.length ≤ 1000000) (h : Heap) : SCalls env 55 [.list 1 (llV ls)] h (Ret (.list 1 (strL ls.flatten)) h) := by
  refine SCalls.body Tryz.func55 rfl rfl (by simp [Tryz.ntmps55]) ?_
  have hpart : ∀ i, ((ls.take i).flatten).length ≤ 1000000 := fun i => by
    have := congrArg List.length (congrArg List.flatten (List.take_append_drop i ls))
    rw [List.flatten_append, List.length_append] at this
    omega
  refine SW.seq (SW.run [] _ ?_)
  simp only [wpC, Bool.false_eq_true, ↓reduceIte, wpS, stops, wantedA, okDst, Tryz.ntmps55, Nat.reduceLT, decide_true, step1, isOwnCall, hxOp, px, AS.eval, ofConst, ofVal, thenQ, AS.put, enumA, dropKey, reduceCtorEq, true_and]
  refine SW.seq (SW.run [] _ ?_)
  simp only [wpC, Bool.false_eq_true, ↓reduceIte, wpS, stops, wantedA, okDst, Nat.reduceLT, decide_true, step1, isOwnCall, hxOp, px, AS.eval, ofConst, ofVal, thenQ, AS.put, dropKey, Nat.reduceEqDiff, reduceCtorEq, true_and]
  refine SW.seq (SW.seq (SW.run [] _ ?_))
  simp only [wpC, Bool.false_eq_true, ↓reduceIte, wpS, stops, wantedA, okDst, Nat.reduceLT, decide_true, step1, isOwnCall, hxOp, px, AS.eval, AS.get, Lift.look, Nat.succ_ne_zero, Option.getD_some, AS.put, dropKey, Nat.reduceEqDiff, reduceCtorEq, pcall, ty139, plen, llV_len, okLen, and_self, ofConst, ofVal, thenQ, true_and]
  refine SW.block (SW.loopK 36 (fun i : Nat => [(0, .list 1 (llV ls)), (3, .int .i64 ((ls.take i).flatten.length : Nat)), (9, .list 1 (llV ls)), (10, .int .i64 (ls.length : Nat)), (11, .int .i64 (i : Nat))]) (fun _ => h) (fun i => i ≤ ls.length) (fun i => ls.length - i) 0 (Nat.zero_le _) ?_ ?_)
  · simp only [Has, hasAll, AS.get, Lift.look, Nat.succ_ne_zero, ↓reduceIte, Option.getD_some, Nat.reduceEqDiff, List.take_zero, List.flatten_nil, List.length_nil, Int.cast_ofNat_Int, and_self]
  rintro i hi
  refine SW.seq (SW.run [] _ ?_)
  by_cases hlt : i < ls.length
  · have hw : IntKind.i64.wrap ((i : Int) + 1) = ((i + 1 : Nat) : Int) := by rw [w64 (by omega) (by omega)]; rfl
    have hg := llV_at hlt
    have hnx : (ls.take (i + 1)).flatten.length = (ls.take i).flatten.length + ls[i].length := by rw [List.take_succ_eq_append_getElem hlt, List.flatten_append, List.length_append]; simp
    have hp := hpart (i + 1)
    rw [hnx] at hp
    have hws : IntKind.i64.wrap ((((ls.take i).flatten.length : Nat) : Int) + ((ls[i].length : Nat) : Int)) = (((ls.take i).flatten.length + ls[i].length : Nat) : Int) := by rw [w64 (by omega) (by omega)]; rfl
    have k0 : ¬ (((ls.take i).flatten.length + ls[i].length : Nat) : Int) < 0 := by omega
    simp only [wpC, Bool.false_eq_true, ↓reduceIte, wpS, stops, wantedA, okDst, Nat.reduceLT, decide_true, step1, isOwnCall, hxOp, px, isNilC, pbinP, AS.eval, AS.get, Lift.look, reduceCtorEq, Nat.reduceEqDiff, Option.getD_some, pbinI, Int.ofNat_lt, hlt, thenQ, Has, hasAll, and_true, AS.put, dropKey, true_and]
    refine SW.seq (SW.run [] _ ?_)
    simp only [wpC, isB, AS.get, Lift.look, tmpOf, ↓reduceIte, Option.getD_some, asB, thenQ, true_and]
    refine SW.seq (SW.block (SW.seq (SW.run [] _ ?_)))
    simp only [wpC, Bool.false_eq_true, ↓reduceIte, wpS, stops, wantedA, okDst, Nat.reduceLT, decide_true, step1, isOwnCall, hxOp, px, pindexAddr, ty139, ty43, AS.eval, AS.get, Lift.look, Nat.reduceEqDiff, reduceCtorEq, Option.getD_some, ne_eq, Nat.succ_ne_zero, not_false_eq_true, Int.natCast_nonneg, Int.toNat_natCast, llV_len, hlt, and_self, hg, AS.put, dropKey, pload, okOne, TK.isAgg, beq_self_eq_true, Bool.or_true, List.length_cons, List.length_nil, Nat.zero_add, Nat.le_refl, Lift.valOf, List.take_succ_cons, List.take_nil, List.getD_cons_zero, thenQ, true_and]
    refine SW.seq (SW.run [] _ ?_)
    simp only [wpC, Bool.false_eq_true, ↓reduceIte, wpS, stops, wantedA, okDst, Nat.reduceLT, decide_true, step1, isOwnCall, hxOp, px, AS.eval, AS.get, Lift.look, Nat.reduceEqDiff, reduceCtorEq, Option.getD_some, AS.put, dropKey, pcall, ty43, plen, strL_len, okLen, and_self, isFlt, ty3, isNilC, pbinP, pbinI, hws, thenQ, true_and]
    refine SW.run [] _ ?_
    simp only [wpC, mayStop, stops, isFlt, Specs.has, Specs.hasO, Bool.or_false, Specs.hasH, Bool.not_false, List.any_cons, List.any_nil, Bool.false_eq_true, ↓reduceIte, wpS, wantedA, okDst, Nat.reduceLT, decide_true, step1, isOwnCall, hxOp, px, AS.eval, AS.get, Lift.look, Option.getD_some, AS.put, dropKey, Nat.reduceEqDiff, reduceCtorEq, isNilC, pbinP, ofConst, ofVal, pbinI, k0, decide_false, thenQ, isB, tmpOf, asB, inQ, true_and]
    refine SW.run [] _ ?_
    simp only [wpC, Bool.false_eq_true, ↓reduceIte, wpS, stops, isFlt, ty3, wantedA, okDst, Nat.reduceLT, decide_true, step1, isOwnCall, hxOp, px, isNilC, pbinP, AS.eval, AS.get, Lift.look, Nat.reduceEqDiff, reduceCtorEq, Option.getD_some, ofConst, ofVal, pbinI, hw, AS.put, dropKey, thenQ, Nat.succ_ne_zero, true_and]
    exact ⟨i + 1, hlt, by omega, by rw [hnx], rfl⟩
  · obtain rfl : i = ls.length := by omega
    rw [List.take_length]
    simp only [wpC, Bool.false_eq_true, ↓reduceIte, wpS, stops, wantedA, okDst, Nat.reduceLT, decide_true, step1, isOwnCall, hxOp, px, isNilC, pbinP, AS.eval, AS.get, Lift.look, reduceCtorEq, Nat.reduceEqDiff, Option.getD_some, pbinI, Int.ofNat_lt, hlt, decide_false, thenQ, Has, hasAll, and_true, AS.put, dropKey, true_and]
    refine SW.seq (SW.run [] _ ?_)
    simp only [wpC, isB, AS.get, Lift.look, tmpOf, ↓reduceIte, Option.getD_some, asB, Bool.false_eq_true, thenQ, inQ, true_and]
    refine SW.seq (SW.run [] _ ?_)
    simp only [wpC, Bool.false_eq_true, ↓reduceIte, wpS, stops, wantedA, okDst, Nat.reduceLT, decide_true, step1, isOwnCall, hxOp, px, AS.eval, AS.get, Lift.look, Nat.reduceEqDiff, reduceCtorEq, Option.getD_some, Specs.has, Specs.hasO, Bool.or_false, Specs.hasH, Bool.not_false, AS.put, dropKey, true_and]
    refine SWO.call (.func 106) #[.const (.slice none 0 0), .tmp 23] _ 106 #[] #[] rfl rfl rfl rfl rfl rfl (Grow_ok ls.flatten.length hf h) rfl rfl ?_ (fun c h' hc => by obtain ⟨_, hc, _⟩ := hc; cases hc)
    rintro p' h' ⟨v, hp', ow⟩
    injection hp' with hp'
    subst hp'
    refine SWO.run [] 1000 ?_
    simp only [wpS, stops, Bool.false_eq_true, ↓reduceIte, wantedA, okDst, AS.put, dropKey, Nat.reduceEqDiff, reduceCtorEq, Nat.reduceLT, decide_true, step1, isOwnCall, hxOp, px, AS.eval, AS.get, Lift.look, Option.getD_some, thenQ, true_and]
    refine SW.seq (SW.seq (SW.run [] _ ?_))
    simp only [wpC, Bool.false_eq_true, ↓reduceIte, wpS, stops, wantedA, okDst, Nat.reduceLT, decide_true, step1, isOwnCall, hxOp, px, AS.eval, AS.get, Lift.look, Nat.succ_ne_zero, Option.getD_some, AS.put, dropKey, Nat.reduceEqDiff, reduceCtorEq, pcall, ty139, plen, llV_len, okLen, and_self, ofConst, ofVal, thenQ, true_and]
    refine SW.block (SW.loop (fun bb st => ∃ (i : Nat) (v : PV), i ≤ ls.length ∧ ls.length - i = bb ∧ Own h 9 1 (strL (ls.take i).flatten) v st.h ∧ st.n = 36 ∧ hasAll st [(6, v), (25, .list 1 (llV ls)), (26, .int .i64 (ls.length : Nat)), (27, .int .i64 (i : Nat))]) ls.length ⟨0, p', Nat.zero_le _, rfl, ow, rfl, ?_⟩ ?_)
    · simp only [hasAll, AS.get, Lift.look, Nat.reduceEqDiff, ↓reduceIte, Option.getD_some, Int.cast_ofNat_Int, and_self]
    rintro bb st ⟨i, v, hi, hbb, ow, hn, hs'⟩
    refine SW.norm ⟨hn, rfl, hs'⟩ ?_
    generalize st.h = H at ow
    clear hn hs'
    refine SW.seq (SW.run [] _ ?_)
    by_cases hlt : i < ls.length
    · have hw : IntKind.i64.wrap ((i : Int) + 1) = ((i + 1 : Nat) : Int) := by rw [w64 (by omega) (by omega)]; rfl
      have hg := llV_at hlt
      have hnx : strL (ls.take (i + 1)).flatten = strL (ls.take i).flatten ++ strL ls[i] := by rw [List.take_succ_eq_append_getElem hlt, List.flatten_append, strL_append]; simp
      have hp := hpart (i + 1)
      rw [← strL_len, hnx, List.length_append] at hp
      simp only [wpC, Bool.false_eq_true, ↓reduceIte, wpS, stops, wantedA, okDst, Nat.reduceLT, decide_true, step1, isOwnCall, hxOp, px, isNilC, pbinP, AS.eval, AS.get, Lift.look, Nat.reduceEqDiff, Option.getD_some, pbinI, Int.ofNat_lt, hlt, thenQ, hasAll, and_true, AS.put, dropKey, true_and]
      refine SW.seq (SW.run [] _ ?_)
      simp only [wpC, isB, AS.get, Lift.look, tmpOf, ↓reduceIte, Option.getD_some, asB, thenQ, true_and]
      refine SW.seq (SW.block (SW.seq (SW.run [] _ ?_)))
      simp only [wpC, Bool.false_eq_true, ↓reduceIte, wpS, stops, wantedA, okDst, Nat.reduceLT, decide_true, step1, isOwnCall, hxOp, px, pindexAddr, ty139, ty43, AS.eval, AS.get, Lift.look, Nat.reduceEqDiff, Option.getD_some, ne_eq, Nat.succ_ne_zero, not_false_eq_true, Int.natCast_nonneg, Int.toNat_natCast, llV_len, hlt, and_self, hg, AS.put, dropKey, pload, okOne, TK.isAgg, beq_self_eq_true, Bool.or_true, List.length_cons, List.length_nil, Nat.zero_add, Nat.le_refl, Lift.valOf, List.take_succ_cons, List.take_nil, List.getD_cons_zero, thenQ, true_and]
      refine SW.run [] _ ?_
      simp only [wpC, Bool.false_eq_true, ↓reduceIte, wpS, stops, wantedA, okDst, Nat.reduceLT, decide_true, step1, isOwnCall, hxOp, px, AS.eval, AS.get, Lift.look, Nat.reduceEqDiff, Option.getD_some, AS.put, dropKey, true_and]
      refine SWO.append (.tmp 31) (.tmp 32) 43 43 rfl ty43 rfl ty9 (by decide) rfl ty43 rfl ow (ys := strL ls[i]) rfl (by show _ * 16 ≤ _; omega) (by simp [maxLen] at hp ⊢; omega) rfl rfl ?_
      intro v' h2 ow' _ _
      refine SWO.run [] 1000 ?_
      simp only [wpS, stops, Bool.false_eq_true, ↓reduceIte, wantedA, okDst, AS.put, dropKey, Nat.reduceEqDiff, Nat.reduceLT, decide_true, step1, isOwnCall, hxOp, px, AS.eval, AS.get, Lift.look, Option.getD_some, inQ, thenQ, true_and]
      refine SW.run [] _ ?_
      simp only [wpC, Bool.false_eq_true, ↓reduceIte, wpS, stops, isFlt, ty3, wantedA, okDst, Nat.reduceLT, decide_true, step1, isOwnCall, hxOp, px, isNilC, pbinP, AS.eval, AS.get, Lift.look, Nat.reduceEqDiff, Option.getD_some, ofConst, ofVal, pbinI, hw, AS.put, dropKey, thenQ, true_and]
      exact ⟨ls.length - (i + 1), by omega, i + 1, v', by omega, rfl, by rw [hnx]; exact ow', rfl, rfl⟩
    · obtain rfl : i = ls.length := by omega
      rw [List.take_length] at ow
      simp only [wpC, Bool.false_eq_true, ↓reduceIte, wpS, stops, wantedA, okDst, Nat.reduceLT, decide_true, step1, isOwnCall, hxOp, px, isNilC, pbinP, AS.eval, AS.get, Lift.look, Nat.reduceEqDiff, Option.getD_some, pbinI, Int.ofNat_lt, hlt, decide_false, thenQ, hasAll, and_true, AS.put, dropKey, true_and]
      refine SW.seq (SW.run [] _ ?_)
      simp only [wpC, isB, AS.get, Lift.look, tmpOf, ↓reduceIte, Option.getD_some, asB, Bool.false_eq_true, thenQ, inQ, true_and]
      refine SW.own_let 6 rfl ow ?_
      refine SW.run [] _ ?_
      simp only [wpC, mayStop, stops, isFlt, Specs.has, Specs.hasO, Bool.or_false, Specs.hasH, Bool.not_false, List.any_cons, List.any_nil, Bool.false_eq_true, ↓reduceIte, wpS, wantedA, okDst, AS.put, dropKey, Nat.reduceEqDiff, Nat.reduceLT, decide_true, step1, isOwnCall, hxOp, px, AS.eval, AS.get, Lift.look, Option.getD_some, thenQ, RPost, sres, Tryz.results55, sresL, sres1, Option.some.injEq, Ret_fin, HTo_self, and_true, exists_eq_left', and_self]
def unLL : List (List PV) → Option (List (List (List UInt8)))
  | [] => some []
  | [.list 1 x] :: l => match unS x with
    | some x => match unLL l with | some r => some (x :: r) | none => none
    | none => none
  | _ => none
theorem unLL_spec : ∀ {xs : List (List PV)} {l : List (List (List UInt8))}, unLL xs = some l → xs = llV l
  | [], l, h => by
    have : [] = l := Option.some.inj h
    subst this; rfl
  | x :: xs, l, h => by
    unfold unLL at h
    split at h
    · rename_i e; cases e
    · rename_i y l' e
      injection e with e1 e2
      subst e1 e2
      split at h
      · rename_i z hz
        split at h
        · rename_i r hr
          have := Option.some.inj h
          subst this
          rw [unLL_spec hr, unS_spec hz]
          rfl
        · cases h
      · cases h
    · cases h
def sConcat : List PV → Prop × PV
  | [.list 1 xs] => match unLL xs with
    | some ls => (ls.length ≤ 1000000 ∧ ls.flatten.length ≤ 1000000, .list 1 (strL ls.flatten))
    | none => PBad
  | _ => PBad
noncomputable def eConcat : SpecE env := ⟨55, sConcat, fun args h hc => by
  unfold sConcat at hc ⊢
  split at hc
  · split at hc
    · rename_i ls hls; rw [unLL_spec hls]; exact .inl (Concat_ok ls hc.1 hc.2 h)
    · exact hc.elim
  · exact hc.elim⟩
end Go.Proofs.YtincpomenogppaaGreatDoor
