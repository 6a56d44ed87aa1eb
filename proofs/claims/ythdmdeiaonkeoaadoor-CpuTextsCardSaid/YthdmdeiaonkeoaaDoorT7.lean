/- Contracts of functions that the law reaches. -/
import Derived.Test.YthdmdeiaonkeoaaDoorT6
set_option linter.unusedSimpArgs false
set_option linter.unusedVariables false
namespace Go.Proofs.YthdmdeiaonkeoaaDoor
open Go Go.RowKit Go.Proofs.YthdmdeiaonkeoaaDoor Go.Proofs.YthdmdeiaonkeoaaDoor.Lift

/-! slices.Clone of numbers -/
def el64 (ns : List Int) : List (List PV) := ns.map fun n => [.int .i64 n]
theorem el64_len (ns : List Int) : (el64 ns).length = ns.length := by simp [el64]
theorem el64_flat (ns : List Int) : (el64 ns).flatten = ns.map (PV.int .i64) := by
  induction ns with
  | nil => rfl
  | cons n ns ih => simp [el64] at ih ⊢; exact ih
theorem own_slice {h0 H : Heap} {e : TypeId} {sz : Nat} {xs : List (List PV)} {v : PV} (o : Own h0 e sz xs v H) : ∃ A cap, v = .val (.slice A xs.length cap) := by
  rcases o with ⟨rfl, rfl, _⟩ | ⟨r, cap, rfl, _⟩
  · exact ⟨none, 0, rfl⟩
  · exact ⟨_, cap, rfl⟩
theorem Clone_ok (xs : List Int) (h : Heap) (hx : xs.length ≤ 1000000000) : SCalls env 19 [.list 1 (el64 xs)] h (fun e h' => ∃ u, e = .ret u ∧ Own h 2 1 (el64 xs) u h') := by
  refine SCalls.body Tryd.func19 rfl rfl (by simp [Tryd.ntmps19]) ?_
  refine SW.seq (SW.run [] _ ?_)
  simp only [wpC, Bool.false_eq_true, ↓reduceIte, wpS, stops, wantedA, okDst, Tryd.ntmps19, Nat.reduceLT, decide_true, step1, isOwnCall, hxOp, px, AS.eval, ofConst, ofVal, thenQ, AS.put, enumA, dropKey, reduceCtorEq, true_and]
  refine SW.seq (SW.seq (SW.region ?_))
  refine SWO.run [] 1 ?_
  simp only [wpS, stops, Bool.false_eq_true, ↓reduceIte, wantedA, okDst, Nat.reduceLT, decide_true, step1, isOwnCall, hxOp, px, AS.eval, AS.get, Lift.look, Nat.succ_ne_zero, Option.getD_some, AS.put, dropKey, Nat.reduceEqDiff, reduceCtorEq, true_and]
  refine SWO.nilSplit 3 rfl (by decide) (fun hn c => ?_) (fun ad c => ?_)
  · refine SWO.run [] 1000 ?_
    simp only [wpS, stops, Bool.false_eq_true, ↓reduceIte, wantedA, okDst, AS.put, dropKey, Nat.reduceEqDiff, reduceCtorEq, Nat.reduceLT, decide_true, step1, isOwnCall, hxOp, px, pbinP, AS.eval, AS.get, Lift.look, Option.getD_some, pflt, peq, ty43, peqK, ofConst, ofVal, Option.isNone_none, thenQ, true_and]
    refine SW.run [] _ ?_
    simp only [wpC, isB, AS.get, Lift.look, tmpOf, ↓reduceIte, Option.getD_some, asB, mayStop, stops, isFlt, Specs.has, Specs.hasO, Bool.or_false, Bool.not_false, List.any_cons, List.any_nil, Bool.false_eq_true, wpS, wantedA, okDst, Nat.reduceLT, decide_true, step1, isOwnCall, hxOp, px, AS.eval, ofConst, ofVal, thenQ, RPost, sres, AS.put, dropKey, Nat.reduceEqDiff, reduceCtorEq, Tryd.results19, sresL, sres1, Option.some.injEq, exists_eq_left', true_and]
    exact ⟨h, .refl _ _, _, rfl, .inl ⟨rfl, hn, rfl⟩⟩
  · refine SWO.run [] 1000 ?_
    simp only [wpS, stops, Bool.false_eq_true, ↓reduceIte, wantedA, okDst, AS.put, dropKey, Nat.reduceEqDiff, reduceCtorEq, Nat.reduceLT, decide_true, step1, isOwnCall, hxOp, px, pbinP, AS.eval, AS.get, Lift.look, Option.getD_some, pflt, peq, ty43, peqK, ofConst, ofVal, thenQ, true_and]
    refine SW.run [] _ ?_
    simp only [wpC, isB, AS.get, Lift.look, tmpOf, ↓reduceIte, Option.getD_some, asB, Bool.false_eq_true, thenQ, true_and]
    refine SW.seq (SW.region ?_)
    refine SWO.buildOwn 43 0 #[] rfl (xs := el64 []) ty43 rfl ty2 (by decide) (by decide) rfl rfl rfl rfl (by simp [el64]) rfl rfl rfl ?_
    intro v0 H0 own0
    have own0 : Own h 2 1 (el64 []) v0 H0 := own0
    refine SWO.run [] 1000 ?_
    simp only [wpS, stops, Bool.false_eq_true, ↓reduceIte, wantedA, okDst, AS.put, dropKey, Nat.reduceEqDiff, reduceCtorEq, Nat.reduceLT, decide_true, step1, isOwnCall, hxOp, px, AS.eval, AS.get, Lift.look, Nat.succ_ne_zero, Option.getD_some, true_and]
    refine SWO.append (.tmp 5) (.tmp 6) 43 43 rfl ty43 rfl ty2 (by decide) rfl ty43 rfl (h0 := h) (xs := el64 []) own0 (ys := el64 xs) rfl (by rw [el64_len, el64_len]; show (0 + _) * 8 ≤ _; omega) (by rw [el64_len, el64_len]; show 0 + _ ≤ _; unfold maxLen; omega) rfl rfl ?_
    intro v1 H1 own1 _ _
    have own1 : Own h 2 1 (el64 xs) v1 H1 := own1
    refine SWO.run [] 1000 ?_
    simp only [wpS, stops, Bool.false_eq_true, ↓reduceIte, wantedA, okDst, AS.put, dropKey, Nat.reduceEqDiff, reduceCtorEq, Nat.reduceLT, decide_true, step1, isOwnCall, hxOp, px, AS.eval, AS.get, Lift.look, Option.getD_some, thenQ, true_and]
    refine SW.run [] _ ?_
    simp only [wpC, RPost, sres, Tryd.results19, sresL, sres1, AS.get, Lift.look, ↓reduceIte, Option.getD_some]
    obtain ⟨A, cap, rfl⟩ := own_slice own1
    exact ⟨_, rfl, H1, .refl _ _, _, rfl, own1⟩
def un64 : List (List PV) → Option (List Int)
  | [] => some []
  | [.int .i64 n] :: xs => match un64 xs with
    | some ns => some (n :: ns)
    | none => none
  | _ => none
theorem un64_el64 (ns : List Int) : un64 (el64 ns) = some ns := by
  induction ns with
  | nil => rfl
  | cons n ns ih => show un64 ([.int .i64 n] :: el64 ns) = _; rw [un64, ih]
theorem un64_spec : ∀ {xs : List (List PV)} {ns : List Int}, un64 xs = some ns → xs = el64 ns
  | [], ns, h => by rw [un64] at h; injection h with h; subst h; rfl
  | x :: xs, ns, h => by
    unfold un64 at h
    split at h
    · rename_i heq; cases heq
    · rename_i n ys heq
      injection heq with e1 e2
      subst e1; subst e2
      split at h
      · rename_i ms hm
        injection h with h
        subst h
        rw [un64_spec hm]
        rfl
      · cases h
    · cases h
def sClone : List PV → Prop × PV
  | [.list 1 xs] => match un64 xs with
    | some ns => (ns.length ≤ 1000000000, .tuple [.int .i64 2, .list 1 (el64 ns)])
    | none => PBad
  | [.val (.slice none 0 0)] => (True, .tuple [.int .i64 2, .list 1 []])
  | _ => PBad
theorem CloneNil_ok (h : Heap) : SCalls env 19 [.val (.slice none 0 0)] h (fun e h' => ∃ u, e = .ret u ∧ Own h 2 1 [] u h') := by
  refine SCalls.body Tryd.func19 rfl rfl (by simp [Tryd.ntmps19]) (SW.run [] _ ?_)
  simp only [wpC, mayStop, stops, isFlt, Specs.has, Specs.hasO, Bool.or_false, Bool.not_false, List.any_cons, List.any_nil, Bool.false_eq_true, ↓reduceIte, wpS, wantedA, okDst, Tryd.ntmps19, Nat.reduceLT, decide_true, step1, isOwnCall, hxOp, px, AS.eval, ofConst, ofVal, thenQ, AS.put, enumA, dropKey, reduceCtorEq, AS.get, Lift.look, Nat.succ_ne_zero, Option.getD_some, Nat.reduceEqDiff, pbinP, pflt, peq, ty43, peqK, Option.isNone_none, isB, tmpOf, asB, RPost, sres, Tryd.results19, sresL, sres1, Option.some.injEq, exists_eq_left', true_and]
  exact ⟨h, .refl _ _, _, rfl, .nil _ _ _⟩
/-- The clone is owned. -/
noncomputable def oClone : SpecE env := ⟨1000000019, sClone, fun args h hc => by
  refine (show OCalls env 19 args h (sClone args).2 → FCalls env 1000000019 args h (sClone args).2 from fun x => x) ?_
  unfold OCalls
  unfold sClone at hc ⊢
  split at hc
  · split at hc
    · rename_i ns hns
      rw [un64_spec hns]
      exact Clone_ok ns h hc
    · exact hc.elim
  · exact CloneNil_ok h
  · exact hc.elim⟩
end Go.Proofs.YthdmdeiaonkeoaaDoor
