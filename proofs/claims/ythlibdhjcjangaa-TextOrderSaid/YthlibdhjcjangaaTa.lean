/- Contracts of functions that the law reaches. -/
import Derived.Test.YthlibdhjcjangaaT9
set_option linter.unusedSimpArgs false
set_option linter.unusedVariables false
namespace Go.Proofs.Ythlibdhjcjangaa
open Go Go.RowKit Go.Proofs.Ythlibdhjcjangaa Go.Proofs.Ythlibdhjcjangaa.Lift

/-! acheronref01.Decode -/
/-- Elements that are numbers. -/
def elI (ns : List Int) : List (List PV) := ns.map fun n => [.int .i64 n]
theorem elI_len (ns : List Int) : (elI ns).length = ns.length := by simp [elI]
def decodeS : Nat → List UInt8 → List Int
  | 0, _ => []
  | n + 1, l => if 0 < l.length then (firstS l).1 :: decodeS n (l.drop (firstS l).2) else []
theorem tailS_le (l : List UInt8) (n : Nat) (c0 : Int) (h1 : 1 ≤ n) (h0 : 0 < l.length) : 1 ≤ (tailS l n c0).2 ∧ (tailS l n c0).2 ≤ l.length := by
  unfold tailS
  split
  · exact ⟨Nat.le_refl _, h0⟩
  · split
    · split
      · exact ⟨h1, by omega⟩
      · exact ⟨Nat.le_refl _, h0⟩
    · exact ⟨Nat.le_refl _, h0⟩
theorem firstS_le (l : List UInt8) (h0 : 0 < l.length) : 1 ≤ (firstS l).2 ∧ (firstS l).2 ≤ l.length := by
  unfold firstS
  dsimp only
  split
  · exact tailS_le _ _ _ (by omega) h0
  · split
    · exact tailS_le _ _ _ (by omega) h0
    · split
      · exact tailS_le _ _ _ (by omega) h0
      · split
        · exact ⟨Nat.le_refl _, h0⟩
        · exact tailS_le _ _ _ (by omega) h0
theorem decodeS_len : ∀ (n : Nat) (l : List UInt8), (decodeS n l).length ≤ n
  | 0, _ => Nat.le_refl _
  | n + 1, l => by
    unfold decodeS
    split
    · simp only [List.length_cons]
      exact Nat.succ_le_succ (decodeS_len n _)
    · exact Nat.zero_le _
def sDecode : List PV → Prop × PV
  | [.str l] => (l.length ≤ 1000000000, .list 1 (elI (decodeS l.length l)))
  | _ => PBad
theorem Decode_ok (l : List UInt8) (h : Heap) (hl : l.length ≤ 1000000000) : SCalls env 10 [.str l] h (Ret (.list 1 (elI (decodeS l.length l))) h) := by
  refine SCalls.body Try.func10 rfl rfl (by simp [Try.ntmps10]) ?_
  refine SW.seq (SW.run [] _ ?_)
  simp only [wpC, Bool.false_eq_true, ↓reduceIte, wpS, stops, wantedA, okDst, Try.ntmps10, Nat.reduceLT, decide_true, step1, hxOp, px, AS.eval, ofConst, ofVal, thenQ, AS.put, enumA, dropKey, reduceCtorEq, true_and]
  refine SW.seq (SW.run [] _ ?_)
  simp only [wpC, Bool.false_eq_true, ↓reduceIte, wpS, stops, wantedA, okDst, Nat.reduceLT, decide_true, step1, hxOp, px, AS.eval, ofConst, ofVal, thenQ, AS.put, dropKey, Nat.reduceEqDiff, reduceCtorEq, true_and]
  refine SW.seq (SW.block ?_)
  refine SW.loop (fun m a => ∃ (done : List Int) (rest : List UInt8) (v : PV), rest.length ≤ m ∧ done.length + m ≤ l.length ∧ done ++ decodeS m rest = decodeS l.length l ∧ Own h 3 1 (elI done) v a.h ∧ a.n = 22 ∧ hasAll a [(0, .str rest), (3, v)]) l.length ⟨[], l, .val (.slice none 0 0), Nat.le_refl _, by simp, rfl, Own.nil _ _ _, ?_⟩ ?_
  · simp only [hasAll, AS.get, Lift.look, Nat.succ_ne_zero, ↓reduceIte, Option.getD_some, and_self]
  rintro m a ⟨done, rest, v, h1, h2, h3, hown, hn, hs⟩
  refine SW.norm ⟨hn, rfl, hs⟩ ?_
  by_cases hr : 0 < rest.length
  · refine SW.run [eFirst] _ ?_
    simp only [wpC, mayStop, stops, Specs.has, eFirst, List.any_cons, List.any_nil, Bool.or_false, Bool.false_eq_true, ↓reduceIte, wpS, wantedA, okDst, Nat.reduceLT, decide_true, step1, hxOp, px, AS.eval, AS.get, Lift.look, Option.getD_some, AS.put, dropKey, reduceCtorEq, Nat.reduceEqDiff, pcall, ty9, plen, okLen, and_self, pbinP, ofConst, ofVal, pbinI, Int.natCast_pos, hr, thenQ, isB, tmpOf, asB, Bool.not_true, Nat.succ_ne_zero, okArg, List.all_cons, List.all_nil, Bool.and_true, Specs.at, List.map_cons, List.map_nil, sFirst, true_and, resF, List.getElem?_cons_zero, List.getElem?_cons_succ, Bool.or_true, pbuildSlice, ty28, ty3, List.replicate, List.flatten_cons, List.flatten_nil, List.append_nil, pfill, PV.cells, List.length_cons, List.length_nil, Nat.zero_add, Nat.reduceMul, Nat.le_refl, splice, List.take_zero, List.nil_append, List.drop_succ_cons, List.drop_nil, Nat.reduceLeDiff, okZero, Value.oneCell', known, chunk, List.take_succ_cons, List.take_nil, hasAll, and_true]
    refine ⟨by omega, ?_⟩
    refine SWO.append (.tmp 14) (.tmp 16) 28 28 rfl ty28 rfl ty3 (by decide) rfl ty28 rfl hown (ys := elI [(firstS rest).1]) rfl (by rw [elI_len, elI_len]; simp; omega) (by rw [elI_len, elI_len]; simp [maxLen]; omega) rfl rfl ?_
    intro v' h' hown' _ _
    have hfl := firstS_le rest hr
    refine SWO.run [] 1000 ?_
    simp only [wpS, stops, Bool.false_eq_true, ↓reduceIte, wantedA, okDst, AS.put, dropKey, Nat.reduceEqDiff, reduceCtorEq, Nat.reduceLT, decide_true, step1, hxOp, px, AS.eval, AS.get, Lift.look, Option.getD_some, thenQ, true_and]
    refine SW.run [] _ ?_
    simp only [wpC, Bool.false_eq_true, ↓reduceIte, wpS, stops, wantedA, okDst, Nat.reduceLT, decide_true, step1, hxOp, px, AS.eval, AS.get, Lift.look, Nat.succ_ne_zero, Option.getD_some, AS.put, dropKey, Nat.reduceEqDiff, reduceCtorEq, pslice, ty9, pB, Int.natCast_nonneg, true_and, Int.toNat_natCast, List.take_length, inQ, thenQ]
    obtain ⟨m', rfl⟩ := Nat.exists_eq_succ_of_ne_zero (show m ≠ 0 by omega)
    refine ⟨by omega, m', by omega, done ++ [(firstS rest).1], rest.drop (firstS rest).2, v', ?_, ?_, ?_, ?_, rfl, rfl⟩
    · rw [List.length_drop]; omega
    · simp; omega
    · rw [← h3, decodeS, if_pos hr]; simp
    · simpa [elI] using hown'
  · refine SW.run [eFirst] _ ?_
    simp only [wpC, mayStop, stops, Specs.has, eFirst, List.any_cons, List.any_nil, Bool.or_false, Bool.false_eq_true, ↓reduceIte, wpS, wantedA, okDst, Nat.reduceLT, decide_true, step1, hxOp, px, AS.eval, AS.get, Lift.look, Option.getD_some, AS.put, dropKey, reduceCtorEq, Nat.reduceEqDiff, pcall, ty9, plen, okLen, and_self, pbinP, ofConst, ofVal, pbinI, Int.natCast_pos, hr, decide_false, thenQ, isB, tmpOf, asB, inQ, true_and]
    refine SW.own_let 3 rfl hown ?_
    refine SW.run [] _ ?_
    simp only [wpC, mayStop, stops, Specs.has, Bool.not_false, List.any_cons, List.any_nil, Bool.or_false, Bool.false_eq_true, ↓reduceIte, wpS, wantedA, okDst, AS.put, dropKey, Nat.reduceEqDiff, reduceCtorEq, Nat.reduceLT, decide_true, step1, hxOp, px, AS.eval, AS.get, Lift.look, Option.getD_some, thenQ, RPost, sres, Try.results10, sresL, sres1, Option.some.injEq, Ret_fin, HTo_self, and_true, exists_eq_left', true_and]
    have h4 : decodeS m rest = [] := by
      cases m with
      | zero => rfl
      | succ m => rw [decodeS, if_neg hr]
    rw [h4, List.append_nil] at h3
    rw [h3]
noncomputable def eDecode : SpecE env := ⟨10, sDecode, fun args h hc => by
  unfold sDecode at hc ⊢
  split at hc
  · rename_i l; exact .inl (Decode_ok l h hc)
  · exact hc.elim⟩
end Go.Proofs.Ythlibdhjcjangaa
