/- Contracts of functions that the law reaches. -/
import Derived.Test.YthlibdhjcjangaaDoorTc
import Derived.Test.YthlibdhjcjangaaDoorLiftQ
set_option linter.unusedSimpArgs false
set_option linter.unusedVariables false
namespace Go.Proofs.YthlibdhjcjangaaDoor
open Go Go.RowKit Go.Proofs.YthlibdhjcjangaaDoor Go.Proofs.YthlibdhjcjangaaDoor.Lift
set_option maxRecDepth 100000

/-! acheronref01.Wide -/
theorem elI_getD {ns : List Int} {i : Nat} (h : i < ns.length) : (elI ns).getD i [] = [.int .i64 (ns.getD i 0)] := by
  simp [elI, List.getD_eq_getElem?_getD, h]
def unI : List (List PV) → Option (List Int)
  | [] => some []
  | [.int .i64 n] :: xs => match unI xs with
    | some l => some (n :: l)
    | none => none
  | _ => none
theorem unI_spec : ∀ {xs : List (List PV)} {l : List Int}, unI xs = some l → xs = elI l
  | [], l, h => by simp only [unI, Option.some.injEq] at h; subst h; rfl
  | x :: xs, l, h => by
    unfold unI at h
    split at h
    · rename_i he; cases he
    · rename_i n xs' he
      injection he with he1 he2
      subst he1; subst he2
      split at h
      · rename_i l' hl
        injection h with h
        subst h
        rw [unI_spec hl]
        rfl
      · cases h
    · cases h
theorem unI_elI (l : List Int) : unI (elI l) = some l := by
  induction l with
  | nil => rfl
  | cons b l ih => simp only [elI, List.map_cons, unI] at ih ⊢; rw [ih]
def sWideR : List PV → Prop × PV
  | [.list 1 xs] => match unI xs with
    | some ns => (ns.length ≤ 1000000000, .bool (anyWide ns))
    | none => PBad
  | _ => PBad
theorem WideR_ok (ns : List Int) (h : Heap) (hn : ns.length ≤ 1000000000) : SCalls env 31 [.list 1 (elI ns)] h (Ret (.bool (anyWide ns)) h) := by
  refine SCalls.body Tryd.func31 rfl rfl (by simp [Tryd.ntmps31]) ?_
  refine SW.seq (SW.run [] _ ?_)
  simp only [wpC, Bool.false_eq_true, ↓reduceIte, wpS, stops, wantedA, okDst, Tryd.ntmps31, Nat.reduceLT, decide_true, step1, isOwnCall, hxOp, px, AS.eval, ofConst, ofVal, thenQ, AS.put, enumA, dropKey, reduceCtorEq, true_and]
  refine SW.seq (SW.seq (SW.run [] _ ?_))
  simp only [wpC, Bool.false_eq_true, ↓reduceIte, wpS, stops, wantedA, okDst, Nat.reduceLT, decide_true, step1, isOwnCall, hxOp, px, AS.eval, ofConst, ofVal, thenQ, AS.put, dropKey, Nat.reduceEqDiff, reduceCtorEq, true_and]
  refine SW.block (SW.loopK 15 (fun i : Nat => [(0, .list 1 (elI ns)), (3, .int .i64 (i : Nat))]) (fun _ => h) (fun i => i ≤ ns.length ∧ anyWide (ns.take i) = false) (fun i => ns.length - i) 0 ⟨Nat.zero_le _, rfl⟩ ?_ ?_)
  · simp only [Has, hasAll, AS.get, Lift.look, Nat.succ_ne_zero, ↓reduceIte, Option.getD_some, Int.cast_ofNat_Int, and_self]
  rintro i ⟨hi, hno⟩
  refine SW.run [] _ ?_
  by_cases hlt : i < ns.length
  · by_cases hw : 255 < ns.getD i 0
    · have hany : anyWide ns = true := by
        unfold anyWide
        rw [List.any_eq_true]
        refine ⟨ns.getD i 0, ?_, by simpa using hw⟩
        rw [List.getD_eq_getElem?_getD, List.getElem?_eq_getElem hlt]
        exact List.getElem_mem hlt
      simp only [wpC, mayStop, stops, isFlt, Specs.has, Specs.hasO, Bool.or_false, Specs.hasH, Bool.not_false, List.any_cons, List.any_nil, Bool.false_eq_true, ↓reduceIte, wpS, wantedA, okDst, Nat.reduceLT, decide_true, step1, isOwnCall, hxOp, px, AS.eval, AS.get, Lift.look, reduceCtorEq, Option.getD_some, AS.put, dropKey, Nat.reduceEqDiff, Nat.succ_ne_zero, pcall, ty28, plen, elI_len, okLen, and_self, isNilC, pbinP, pbinI, Int.ofNat_lt, hlt, thenQ, isB, tmpOf, asB, pindexAddr, ty3, ne_eq, not_false_eq_true, Int.natCast_nonneg, Int.toNat_natCast, elI_getD hlt, pload, okOne, TK.isAgg, beq_self_eq_true, Bool.or_true, List.length_cons, List.length_nil, Nat.zero_add, Nat.le_refl, Lift.valOf, List.take_succ_cons, List.take_nil, List.getD_cons_zero, ofConst, ofVal, hw, inQ, RPost, sres, Tryd.results31, sresL, sres1, Option.some.injEq, hany, Ret_fin, HTo_self, and_true, exists_eq_left']
    · simp only [wpC, mayStop, stops, isFlt, Specs.has, Specs.hasO, Bool.or_false, Specs.hasH, Bool.not_false, List.any_cons, List.any_nil, Bool.false_eq_true, ↓reduceIte, wpS, wantedA, okDst, Nat.reduceLT, decide_true, step1, isOwnCall, hxOp, px, AS.eval, AS.get, Lift.look, reduceCtorEq, Option.getD_some, AS.put, dropKey, Nat.reduceEqDiff, Nat.succ_ne_zero, pcall, ty28, plen, elI_len, okLen, and_self, isNilC, pbinP, pbinI, Int.ofNat_lt, hlt, thenQ, isB, tmpOf, asB, pindexAddr, ty3, ne_eq, not_false_eq_true, Int.natCast_nonneg, Int.toNat_natCast, elI_getD hlt, pload, okOne, TK.isAgg, beq_self_eq_true, Bool.or_true, List.length_cons, List.length_nil, Nat.zero_add, Nat.le_refl, Lift.valOf, List.take_succ_cons, List.take_nil, List.getD_cons_zero, ofConst, ofVal, hw, decide_false, inQ, Has, hasAll, and_true, true_and]
      refine ⟨i + 1, ⟨hlt, ?_⟩, by omega, by rw [w64 (by omega) (by omega)]; rfl⟩
      unfold anyWide at hno ⊢
      rw [take_next hlt 0, List.any_append, hno]
      simpa using hw
  · simp only [wpC, mayStop, stops, isFlt, Specs.has, Specs.hasO, Bool.or_false, Specs.hasH, Bool.not_false, List.any_cons, List.any_nil, Bool.false_eq_true, ↓reduceIte, wpS, wantedA, okDst, Nat.reduceLT, decide_true, step1, isOwnCall, hxOp, px, AS.eval, AS.get, Lift.look, reduceCtorEq, Option.getD_some, AS.put, dropKey, Nat.reduceEqDiff, Nat.succ_ne_zero, pcall, ty28, plen, elI_len, okLen, and_self, isNilC, pbinP, pbinI, Int.ofNat_lt, hlt, decide_false, thenQ, isB, tmpOf, asB, inQ, true_and]
    have hi' : i = ns.length := by omega
    subst hi'
    rw [List.take_length] at hno
    refine SW.run [] _ ?_
    simp only [wpC, mayStop, stops, isFlt, Specs.has, Specs.hasO, Bool.or_false, Specs.hasH, Bool.not_false, List.any_cons, List.any_nil, Bool.false_eq_true, ↓reduceIte, wpS, wantedA, okDst, Nat.reduceLT, decide_true, step1, isOwnCall, hxOp, px, AS.eval, ofConst, ofVal, thenQ, RPost, sres, AS.put, dropKey, Nat.reduceEqDiff, reduceCtorEq, Tryd.results31, sresL, sres1, AS.get, Lift.look, Option.getD_some, Option.some.injEq, hno, Ret_fin, HTo_self, and_true, exists_eq_left', and_self]
noncomputable def eWideR : SpecE env := ⟨31, sWideR, fun args h hc => by
  unfold sWideR at hc ⊢
  split at hc
  · rename_i xs
    split at hc
    · rename_i ns hns
      rw [unI_spec hns]
      exact .inl (WideR_ok ns h hc)
    · exact hc.elim
  · exact hc.elim⟩
/-! acheronref01.Text -/
def sTextR : List PV → Prop × PV
  | [.list 1 xs] => match unI xs with
    | some ns => (ns.length ≤ 1000000000 ∧ ∀ c ∈ ns, 0 ≤ c ∧ c ≤ 2147483647, .str (ns.flatMap encR))
    | none => PBad
  | _ => PBad
theorem encR_len (c : Int) : (encR c).length ≤ 4 := by
  unfold encR
  split <;> (try split) <;> (try split) <;> simp
theorem flat_le (ns : List Int) : (ns.flatMap encR).length ≤ 4 * ns.length := by
  induction ns with
  | nil => simp
  | cons c ns ih =>
    have := encR_len c
    simp only [List.flatMap_cons, List.length_append, List.length_cons]
    omega
theorem TextR_ok (ns : List Int) (h : Heap) (hn : ns.length ≤ 1000000000) (hv : ∀ c ∈ ns, 0 ≤ c ∧ c ≤ 2147483647) : SCalls env 30 [.list 1 (elI ns)] h (Ret (.str (ns.flatMap encR)) h) := by
  refine SCalls.body Tryd.func30 rfl rfl (by simp [Tryd.ntmps30]) ?_
  refine SW.seq (SW.run [] _ ?_)
  simp only [wpC, Bool.false_eq_true, ↓reduceIte, wpS, stops, wantedA, okDst, Tryd.ntmps30, Nat.reduceLT, decide_true, step1, isOwnCall, hxOp, px, AS.eval, ofConst, ofVal, thenQ, AS.put, enumA, dropKey, reduceCtorEq, true_and]
  refine SW.seq (SW.region ?_)
  refine SWO.buildOwn 34 0 _ rfl ty34 rfl ty5 (by decide) (by decide) rfl rfl rfl (xs := []) rfl (by simp) rfl rfl rfl ?_
  intro v h1 hown
  refine SWO.run [] 1000 ?_
  simp only [wpS, stops, Bool.false_eq_true, ↓reduceIte, wantedA, okDst, AS.put, dropKey, Nat.reduceEqDiff, reduceCtorEq, Nat.reduceLT, decide_true, step1, isOwnCall, hxOp, px, AS.eval, AS.get, Lift.look, Option.getD_some, thenQ, true_and]
  refine SW.seq (SW.seq (SW.run [] _ ?_))
  simp only [wpC, Bool.false_eq_true, ↓reduceIte, wpS, stops, wantedA, okDst, Nat.reduceLT, decide_true, step1, isOwnCall, hxOp, px, AS.eval, ofConst, ofVal, thenQ, AS.put, dropKey, Nat.reduceEqDiff, reduceCtorEq, true_and]
  refine SW.block ?_
  refine SW.loop (fun m a => ∃ (i : Nat) (v : PV), i ≤ ns.length ∧ ns.length - i = m ∧ Own h 5 1 (elB ((ns.take i).flatMap encR)) v a.h ∧ a.n = 21 ∧ hasAll a [(0, .list 1 (elI ns)), (3, v), (4, .int .i64 (i : Nat))]) ns.length ⟨0, v, Nat.zero_le _, rfl, hown, ?_⟩ ?_
  · simp only [hasAll, AS.get, Lift.look, Nat.succ_ne_zero, ↓reduceIte, Option.getD_some, Nat.reduceEqDiff, Int.cast_ofNat_Int, and_self]
  rintro m a ⟨i, v, hi, hm, hown, hn', hs⟩
  refine SW.norm ⟨hn', rfl, hs⟩ ?_
  refine SW.run [eEncode] _ ?_
  by_cases hlt : i < ns.length
  · have hci := hv (ns.getD i 0) (by rw [List.getD_eq_getElem?_getD, List.getElem?_eq_getElem hlt]; exact List.getElem_mem hlt)
    simp only [wpC, mayStop, stops, isFlt, Specs.has, eEncode, Specs.hasO, Bool.or_false, Specs.hasH, List.any_cons, List.any_nil, Bool.false_eq_true, ↓reduceIte, wpS, wantedA, okDst, Nat.reduceLT, decide_true, step1, isOwnCall, hxOp, px, AS.eval, AS.get, Lift.look, reduceCtorEq, Nat.reduceEqDiff, Option.getD_some, AS.put, dropKey, Nat.succ_ne_zero, pcall, ty28, plen, elI_len, okLen, and_self, isNilC, pbinP, pbinI, Int.ofNat_lt, hlt, thenQ, isB, tmpOf, asB, Bool.not_true, Bool.or_true, pindexAddr, ty3, ne_eq, not_false_eq_true, Int.natCast_nonneg, Int.toNat_natCast, elI_getD hlt, pload, okOne, TK.isAgg, beq_self_eq_true, List.length_cons, List.length_nil, Nat.zero_add, Nat.le_refl, Lift.valOf, List.take_succ_cons, List.take_nil, List.getD_cons_zero, okArg, ofConst, ofVal, List.all_cons, List.all_nil, Bool.and_true, Specs.at, List.map_cons, List.map_nil, sEncode, hci.1, hci.2, hasAll, and_true, true_and]
    have hle := flat_le (ns.take i)
    have hle2 := encR_len (ns.getD i 0)
    have hle3 : (ns.take i).length ≤ ns.length := by rw [List.length_take]; omega
    refine SWO.append (.tmp 12) (.tmp 17) 34 9 rfl ty34 rfl ty5 (by decide) rfl ty9 rfl hown (ys := elB (encR (ns.getD i 0))) rfl (by rw [elB_len, elB_len]; show (_ + _) * 1 ≤ _; omega) (by rw [elB_len, elB_len]; unfold maxLen; omega) rfl rfl ?_
    intro v' h' hown' _ _
    rw [elB_append, ← flat_next encR hlt 0] at hown'
    refine SWO.run [] 1000 ?_
    simp only [wpS, stops, Bool.false_eq_true, ↓reduceIte, wantedA, okDst, AS.put, dropKey, Nat.reduceEqDiff, reduceCtorEq, Nat.reduceLT, decide_true, step1, isOwnCall, hxOp, px, AS.eval, AS.get, Lift.look, Option.getD_some, inQ, thenQ, true_and]
    refine SW.run [] _ ?_
    simp only [wpC, Bool.false_eq_true, ↓reduceIte, wpS, stops, wantedA, okDst, Nat.reduceLT, decide_true, step1, isOwnCall, hxOp, px, AS.eval, AS.get, Lift.look, Nat.reduceEqDiff, reduceCtorEq, Option.getD_some, isFlt, ty3, AS.put, dropKey, isNilC, pbinP, ofConst, ofVal, pbinI, thenQ, Nat.succ_ne_zero, true_and]
    exact ⟨m - 1, by omega, i + 1, v', hlt, by omega, hown', rfl, by rw [w64 (by omega) (by omega)]; rfl⟩
  · simp only [wpC, mayStop, stops, isFlt, Specs.has, Specs.hasO, Bool.or_false, Specs.hasH, List.any_cons, List.any_nil, Bool.false_eq_true, ↓reduceIte, wpS, wantedA, okDst, Nat.reduceLT, decide_true, step1, isOwnCall, hxOp, px, AS.eval, AS.get, Lift.look, reduceCtorEq, Nat.reduceEqDiff, Option.getD_some, AS.put, dropKey, Nat.succ_ne_zero, pcall, ty28, plen, elI_len, okLen, and_self, isNilC, pbinP, pbinI, Int.ofNat_lt, hlt, decide_false, thenQ, isB, tmpOf, asB, inQ, true_and]
    have hi' : i = ns.length := by omega
    subst hi'
    rw [List.take_length] at hown
    refine SW.own_let 3 rfl hown ?_
    refine SW.run [] _ ?_
    simp only [wpC, mayStop, stops, isFlt, Specs.has, Specs.hasO, Bool.or_false, Specs.hasH, Bool.not_false, List.any_cons, List.any_nil, Bool.false_eq_true, ↓reduceIte, wpS, wantedA, okDst, AS.put, dropKey, Nat.reduceEqDiff, reduceCtorEq, Nat.reduceLT, decide_true, step1, isOwnCall, hxOp, px, AS.eval, AS.get, Lift.look, Option.getD_some, ty34, ty9, pconvH, pconv, ty5, unB_el, thenQ, RPost, sres, Tryd.results30, sresL, sres1, Option.some.injEq, Ret_fin, HTo_self, and_true, exists_eq_left', and_self]
noncomputable def eTextR : SpecE env := ⟨30, sTextR, fun args h hc => by
  unfold sTextR at hc ⊢
  split at hc
  · rename_i xs
    split at hc
    · rename_i ns hns
      rw [unI_spec hns]
      exact .inl (TextR_ok ns h hc.1 hc.2)
    · exact hc.elim
  · exact hc.elim⟩
end Go.Proofs.YthlibdhjcjangaaDoor
