/- Contracts of functions that the law reaches. -/
import Derived.Test.YthlibdhjcjangaaTx
import Derived.Test.YthlibdhjcjangaaLiftQ
set_option linter.unusedSimpArgs false
set_option linter.unusedVariables false
namespace Go.Proofs.Ythlibdhjcjangaa
open Go Go.RowKit Go.Proofs.Ythlibdhjcjangaa Go.Proofs.Ythlibdhjcjangaa.Lift

theorem okW {ns : List Int} (hv : okChars ns) : ∀ c ∈ ns, rngW c := fun c hc => by
  have := isC_iff.1 (hv c hc)
  exact ⟨this.1, by omega⟩
theorem okN {ns : List Int} (hv : okChars ns) (hn : anyWide ns = false) : ∀ c ∈ ns, rngN c := fun c hc => by
  have := isC_iff.1 (hv c hc)
  have h2 : ¬ 255 < c := by
    intro h
    have : anyWide ns = true := by unfold anyWide; rw [List.any_eq_true]; exact ⟨c, hc, by simpa using h⟩
    rw [hn] at this
    cases this
  exact ⟨this.1, by omega⟩
theorem map_flat (ns : List Int) : ns.map u8of = ns.flatMap fun c => [u8of c] := by
  induction ns with
  | nil => rfl
  | cons a ns ih => rw [List.map_cons, List.flatMap_cons, ih]; rfl
/-- The order of packed strings is that of their characters. -/
theorem cmpS_packed (ns ms : List Int) (h1 : okChars ns) (h2 : okChars ms) : cmpS (packL ns) (anyWide ns) (packL ms) (anyWide ms) = cmpI ns ms := by
  unfold cmpS
  split
  · rename_i he
    cases hw : anyWide ns with
    | true =>
      rw [packL_wide hw, packL_wide (by rw [← he, hw])]
      exact cmpB_flat be4 4 be4_len rngW be4_cmp (by omega) _ _ (okW h1) (okW h2)
    | false =>
      have hw2 : anyWide ms = false := by rw [← he, hw]
      rw [packL_narrow hw, packL_narrow hw2, map_flat, map_flat]
      exact cmpB_flat (fun c => [u8of c]) 1 (fun _ => rfl) rngN u1_cmp (by omega) _ _ (okN h1 hw) (okN h2 hw2)
  · rw [packed_chars ns h1, packed_chars ms h2]
/-! acheronref01.Find -/
theorem elI_part2 (ns : List Int) (a b : Nat) : ((elI ns).take b).drop a = elI ((ns.take b).drop a) := by simp [elI]
def sFindR : List PV → Prop × PV
  | [.list 1 xs, .list 1 ys] => match unI xs, unI ys with
    | some a, some b => (a.length ≤ 1000000000 ∧ b.length ≤ 1000000000, .int .i64 (findI a b))
    | _, _ => PBad
  | _ => PBad
theorem part_is {a b : List Int} {i : Nat} (hi : i + b.length ≤ a.length) : (a.take (i + b.length)).drop i = b ↔ b <+: a.drop i := by
  rw [List.drop_take, show i + b.length - i = b.length by omega]
  constructor
  · intro h
    exact ⟨(a.drop i).drop b.length, by
      conv => rhs; rw [← List.take_append_drop b.length (a.drop i)]
      rw [h]⟩
  · rintro ⟨t, ht⟩
    rw [← ht, List.take_left]
theorem FindR_ok (a b : List Int) (h : Heap) (ha : a.length ≤ 1000000000) (hb : b.length ≤ 1000000000) : SCalls env 27 [.list 1 (elI a), .list 1 (elI b)] h (Ret (.int .i64 (findI a b)) h) := by
  refine SCalls.body Try.func27 rfl rfl (by simp [Try.ntmps27]) ?_
  refine SW.seq (SW.run [] _ ?_)
  simp only [wpC, Bool.false_eq_true, ↓reduceIte, wpS, stops, wantedA, okDst, Try.ntmps27, Nat.reduceLT, decide_true, step1, hxOp, px, AS.eval, ofConst, ofVal, thenQ, AS.put, enumA, Nat.zero_add, dropKey, reduceCtorEq, Nat.reduceEqDiff, true_and]
  refine SW.seq (SW.seq (SW.run [] _ ?_))
  simp only [wpC, Bool.false_eq_true, ↓reduceIte, wpS, stops, wantedA, okDst, Nat.reduceLT, decide_true, step1, hxOp, px, AS.eval, ofConst, ofVal, thenQ, AS.put, dropKey, Nat.reduceEqDiff, reduceCtorEq, true_and]
  refine SW.block (SW.loopK 26 (fun i : Nat => [(0, .list 1 (elI a)), (1, .list 1 (elI b)), (5, .int .i64 (i : Nat))]) (fun _ => h) (fun i => i ≤ a.length + 1 ∧ ∀ j, j < i → ¬ b <+: a.drop j) (fun i => a.length + 1 - i) 0 ⟨Nat.zero_le _, fun j hj => absurd hj (Nat.not_lt_zero j)⟩ ?_ ?_)
  · simp only [Has, hasAll, AS.get, Lift.look, Nat.succ_ne_zero, ↓reduceIte, Option.getD_some, Nat.reduceEqDiff, reduceCtorEq, Int.cast_ofNat_Int, and_self]
  rintro i ⟨hi, hno⟩
  have hw : IntKind.i64.wrap ((i : Int) + (b.length : Int)) = (i : Int) + (b.length : Int) := w64 (by omega) (by omega)
  have hw1 : IntKind.i64.wrap ((i : Int) + 1) = (i : Int) + 1 := w64 (by omega) (by omega)
  refine SW.run [eCompareR] _ ?_
  by_cases k1 : (i : Int) + (b.length : Int) ≤ (a.length : Int)
  · have k2 : (i : Int) ≤ (i : Int) + (b.length : Int) := by omega
    have k3 : ((i : Int) + (b.length : Int)).toNat = i + b.length := by omega
    have k4 : ((a.take (i + b.length)).drop i).length ≤ 1000000000 := by rw [List.length_drop, List.length_take]; omega
    by_cases hz : cmpI ((a.take (i + b.length)).drop i) b = 0
    · simp only [wpC, mayStop, stops, Specs.has, eCompareR, List.any_cons, List.any_nil, Bool.or_false, Bool.false_eq_true, ↓reduceIte, wpS, wantedA, okDst, Nat.reduceLT, decide_true, step1, hxOp, px, AS.eval, AS.get, Lift.look, reduceCtorEq, Nat.reduceEqDiff, Option.getD_some, AS.put, dropKey, pcall, ty28, plen, elI_len, okLen, and_self, pbinP, pbinI, hw, Nat.succ_ne_zero, k1, thenQ, isB, tmpOf, asB, Bool.not_true, pslice, ty3, pB, Int.natCast_nonneg, k2, Int.toNat_natCast, k3, elI_part2, okArg, ofConst, ofVal, List.all_cons, List.all_nil, Bool.and_true, Specs.at, List.map_cons, List.map_nil, sCompareR, unI_elI, List.length_drop, List.length_take, hb, and_true, hz, true_and, beq_self_eq_true, inQ, RPost, sres, Try.results27, sresL, sres1, Option.some.injEq, Ret_fin, HTo_self, exists_eq_left']
      have hp := (part_is (by omega)).1 ((cmpI_zero _ _).1 hz)
      have := (findI_spec a b).same (.inr ⟨i, rfl, by omega, hp, hno⟩)
      exact ⟨by omega, by rw [this]⟩
    · have hz' : (cmpI ((a.take (i + b.length)).drop i) b == 0) = false := by simpa using hz
      simp only [wpC, mayStop, stops, Specs.has, eCompareR, List.any_cons, List.any_nil, Bool.or_false, Bool.false_eq_true, ↓reduceIte, wpS, wantedA, okDst, Nat.reduceLT, decide_true, step1, hxOp, px, AS.eval, AS.get, Lift.look, reduceCtorEq, Nat.reduceEqDiff, Option.getD_some, AS.put, dropKey, pcall, ty28, plen, elI_len, okLen, and_self, pbinP, pbinI, hw, Nat.succ_ne_zero, k1, thenQ, isB, tmpOf, asB, Bool.not_true, pslice, ty3, pB, Int.natCast_nonneg, k2, Int.toNat_natCast, k3, elI_part2, okArg, ofConst, ofVal, List.all_cons, List.all_nil, Bool.and_true, Specs.at, List.map_cons, List.map_nil, sCompareR, unI_elI, List.length_drop, List.length_take, hb, and_true, true_and, hz', inQ, hw1, Has, hasAll]
      refine ⟨by omega, i + 1, ⟨by omega, fun j hj hp => ?_⟩, by omega, rfl⟩
      by_cases e : j = i
      · subst e; exact hz ((cmpI_zero _ _).2 ((part_is (by omega)).2 hp))
      · exact hno j (by omega) hp
  · simp only [wpC, mayStop, stops, Specs.has, eCompareR, List.any_cons, List.any_nil, Bool.or_false, Bool.false_eq_true, ↓reduceIte, wpS, wantedA, okDst, Nat.reduceLT, decide_true, step1, hxOp, px, AS.eval, AS.get, Lift.look, reduceCtorEq, Nat.reduceEqDiff, Option.getD_some, AS.put, dropKey, pcall, ty28, plen, elI_len, okLen, and_self, pbinP, pbinI, hw, Nat.succ_ne_zero, k1, decide_false, thenQ, isB, tmpOf, asB, inQ, true_and]
    refine SW.run [] _ ?_
    simp only [wpC, mayStop, stops, Specs.has, Bool.not_false, List.any_cons, List.any_nil, Bool.or_false, Bool.false_eq_true, ↓reduceIte, wpS, wantedA, okDst, Nat.reduceLT, decide_true, step1, hxOp, px, AS.eval, ofConst, ofVal, thenQ, RPost, sres, AS.put, dropKey, Nat.reduceEqDiff, reduceCtorEq, Try.results27, sresL, sres1, AS.get, Lift.look, Option.getD_some, Option.some.injEq, Ret_fin, HTo_self, and_true, exists_eq_left', true_and]
    have := (findI_spec a b).same (.inl ⟨rfl, fun j hj hp => ?_⟩)
    · rw [this]
    · by_cases e : j < i
      · exact hno j e hp
      · have := hp.length_le
        rw [List.length_drop] at this
        omega
noncomputable def eFindR : SpecE env := ⟨27, sFindR, fun args h hc => by
  unfold sFindR at hc ⊢
  split at hc
  · rename_i xs ys
    split at hc
    · rename_i a b h1 h2
      rw [unI_spec h1, unI_spec h2]
      exact .inl (FindR_ok a b h hc.1 hc.2)
    · exact hc.elim
  · exact hc.elim⟩
end Go.Proofs.Ythlibdhjcjangaa
