/- Contracts of functions that the law reaches. -/
import Derived.Test.YthlibdhjcjangaaTh
set_option linter.unusedSimpArgs false
set_option linter.unusedVariables false
namespace Go.Proofs.Ythlibdhjcjangaa
open Go Go.RowKit Go.Proofs.Ythlibdhjcjangaa Go.Proofs.Ythlibdhjcjangaa.Lift

/-! strings.Compare -/
theorem cmpString_ok (a b : List UInt8) (h : Heap) : XCalls env 56 [.str a, .str b] h (.int .i64 (Lib.compareBytes a b)) := by
  intro w I G vs g r
  obtain ⟨u, us, rfl, h1, u2, us2, rfl, h2, h3⟩ := r
  have h3 : us2 = [] := h3
  subst h3
  have h1 : u = .string ⟨a.toArray⟩ := h1
  have h2 : u2 = .string ⟨b.toArray⟩ := h2
  subst h1; subst h2
  refine ⟨_, ?_, rfl⟩
  refine (run_callFunc_extern (P := env.P) Try.func56 (by kernel_rfl) (by kernel_rfl) (by kernel_rfl) (e := Extern.BytealgCompare.compare) (by kernel_rfl) _ _).trans ?_
  rw [show ([Value.string ⟨a.toArray⟩, .string ⟨b.toArray⟩] : List Value).toArray = #[.string ⟨a.toArray⟩, .string ⟨b.toArray⟩] from rfl, Lib.run_compareString]
  rfl
def sCmp : List PV → Prop × PV
  | [.str a, .str b] => (True, .int .i64 (Lib.compareBytes a b))
  | _ => PBad
noncomputable def eCmpX : SpecE env := ⟨56, sCmp, fun args h hc => by
  unfold sCmp at hc ⊢
  split at hc
  · rename_i a b; exact .inr (cmpString_ok a b h)
  · exact hc.elim⟩
theorem CompareString_ok (a b : List UInt8) (h : Heap) : SCalls env 49 [.str a, .str b] h (Ret (.int .i64 (Lib.compareBytes a b)) h) := by
  refine SCalls.body Try.func49 rfl rfl (by simp [Try.ntmps49]) (SW.run [eCmpX] _ ?_)
  simp only [wpC, mayStop, stops, Specs.has, eCmpX, List.any_cons, List.any_nil, Bool.or_false, Bool.false_eq_true, ↓reduceIte, wpS, wantedA, okDst, Try.ntmps49, Nat.reduceLT, decide_true, step1, hxOp, px, AS.eval, ofConst, ofVal, thenQ, Bool.not_true, AS.put, enumA, Nat.zero_add, dropKey, reduceCtorEq, Nat.reduceEqDiff, AS.get, Lift.look, Nat.succ_ne_zero, Option.getD_some, pcall, okArg, List.all_cons, List.all_nil, Bool.and_true, Specs.at, List.map_cons, List.map_nil, sCmp, and_self, RPost, sres, Try.results49, sresL, sres1, Option.some.injEq, Ret_fin, HTo_self, and_true, exists_eq_left']
noncomputable def eCmpS : SpecE env := ⟨49, sCmp, fun args h hc => by
  unfold sCmp at hc ⊢
  split at hc
  · rename_i a b; exact .inl (CompareString_ok a b h)
  · exact hc.elim⟩
theorem StrCompare_ok (a b : List UInt8) (h : Heap) : SCalls env 37 [.str a, .str b] h (Ret (.int .i64 (Lib.compareBytes a b)) h) := by
  refine SCalls.body Try.func37 rfl rfl (by simp [Try.ntmps37]) (SW.run [eCmpS] _ ?_)
  simp only [wpC, mayStop, stops, Specs.has, eCmpS, List.any_cons, List.any_nil, Bool.or_false, Bool.false_eq_true, ↓reduceIte, wpS, wantedA, okDst, Try.ntmps37, Nat.reduceLT, decide_true, step1, hxOp, px, AS.eval, ofConst, ofVal, thenQ, Bool.not_true, AS.put, enumA, Nat.zero_add, dropKey, reduceCtorEq, Nat.reduceEqDiff, AS.get, Lift.look, Nat.succ_ne_zero, Option.getD_some, pcall, okArg, List.all_cons, List.all_nil, Bool.and_true, Specs.at, List.map_cons, List.map_nil, sCmp, and_self, RPost, sres, Try.results37, sresL, sres1, Option.some.injEq, Ret_fin, HTo_self, and_true, exists_eq_left']
noncomputable def eStrCmp : SpecE env := ⟨37, sCmp, fun args h hc => by
  unfold sCmp at hc ⊢
  split at hc
  · rename_i a b; exact .inl (StrCompare_ok a b h)
  · exact hc.elim⟩
/-! text.Latin -/
def sLatin : List PV → Prop × PV
  | [.list 1 xs] => match unB xs with
    | some l => (l.length ≤ 65536, .tuple [.agg [.str l, .bool false], .int .i64 0])
    | none => PBad
  | _ => PBad
theorem Latin_ok (l : List UInt8) (h : Heap) (hl : l.length ≤ 65536) : SCalls env 19 [.list 1 (elB l)] h (Ret (.tuple [.agg [.str l, .bool false], .int .i64 0]) h) := by
  refine SCalls.body Try.func19 rfl rfl (by simp [Try.ntmps19]) (SW.run [] _ ?_)
  have hng : ¬ (65536 : Int) < (l.length : Int) := by omega
  simp only [wpC, mayStop, stops, Specs.has, Bool.not_false, List.any_cons, List.any_nil, Bool.or_false, Bool.false_eq_true, ↓reduceIte, wpS, wantedA, okDst, Try.ntmps19, Nat.reduceLT, decide_true, step1, okAlloc, ty24, okZero, List.all_cons, Value.oneCell', List.all_nil, Bool.and_true, AS.put, enumA, dropKey, reduceCtorEq, hxOp, px, AS.eval, ofConst, ofVal, thenQ, Nat.reduceEqDiff, zeroOf, List.map_cons, List.map_nil, List.length_cons, List.length_nil, Nat.zero_add, Nat.reduceAdd, AS.get, Lift.look, Nat.succ_ne_zero, Option.getD_some, pcall, ty39, plen, elB_len, okLen, and_self, pbinP, pbinI, hng, decide_false, isB, tmpOf, asB, ty9, pconvH, pconv, ty5, unB_el, pbuild, pfill, placeOf, List.getElem?_cons_zero, Option.map_some, PV.cells, Nat.reduceLeDiff, splice, List.take_zero, List.nil_append, List.drop_succ_cons, List.drop_zero, List.cons_append, Option.isSome_some, ty4, known, hx, Heap.get_put, known1, Nat.le_refl, List.drop_nil, List.append_nil, RPost, sres, Try.results19, sresL, sres1, okOne, TK.isAgg, Nat.reduceBEq, Lift.valOf, List.take_succ_cons, List.take_nil, Option.some.injEq, Ret_fin, exists_eq_left', true_and]
  intro r hr
  exact HTo.put2 _ _ hr hr
noncomputable def eLatin : SpecE env := ⟨19, sLatin, fun args h hc => by
  unfold sLatin at hc ⊢
  split at hc
  · rename_i xs
    split at hc
    · rename_i l hl
      rw [show xs = elB l from unB_spec hl]
      exact .inl (Latin_ok l h hc)
    · exact hc.elim
  · exact hc.elim⟩
/-! acheronlaw01.of -/
def sOfL : List PV → Prop × PV
  | [.str s] => (s.length ≤ 70368744177664 ∧ (runesOf s).length ≤ 65536, strV (runesOf s))
  | _ => PBad
theorem OfL_ok (s : List UInt8) (h : Heap) (h1 : s.length ≤ 70368744177664) (h2 : (runesOf s).length ≤ 65536) : SCalls env 15 [.str s] h (Ret (strV (runesOf s)) h) := by
  refine SCalls.body Try.func15 rfl rfl (by simp [Try.ntmps15]) ?_
  refine SW.seq (SW.run [] _ ?_)
  simp only [wpC, Bool.false_eq_true, ↓reduceIte, wpS, stops, wantedA, okDst, Try.ntmps15, Nat.reduceLT, decide_true, step1, okAlloc, ty24, okZero, List.all_cons, Value.oneCell', List.all_nil, Bool.and_true, thenQ, AS.put, enumA, dropKey, reduceCtorEq, zeroOf, List.map_cons, ofVal, List.map_nil, List.length_cons, List.length_nil, Nat.zero_add, Nat.reduceAdd, true_and]
  intro r hr
  refine SW.seq (SW.run [eOf] _ ?_)
  simp only [wpC, Bool.false_eq_true, ↓reduceIte, wpS, stops, wantedA, okDst, Nat.reduceLT, decide_true, step1, hxOp, px, AS.eval, AS.get, Lift.look, Nat.succ_ne_zero, Option.getD_some, Specs.has, eOf, Bool.not_true, AS.put, dropKey, Nat.reduceEqDiff, reduceCtorEq, pcall, okArg, ofConst, ofVal, List.all_cons, List.all_nil, Bool.and_true, Specs.at, List.map_cons, List.map_nil, sOf, h1, h2, and_self, strV, List.getElem?_cons_zero, List.getElem?_cons_succ, okAlloc, ty24, okZero, Value.oneCell', Heap.get_put, some_none, hx, zeroOf, List.length_cons, List.length_nil, Nat.zero_add, Nat.reduceAdd, known1, PV.cells, Nat.le_refl, splice, List.take_zero, List.nil_append, List.drop_succ_cons, List.drop_nil, List.append_nil, Heap.put_put, thenQ, true_and]
  rintro q ⟨hqr, hq⟩
  have hrq : ¬ r = q := fun e => hqr e.symm
  refine SW.run [] _ ?_
  simp only [wpC, mayStop, stops, Specs.has, Bool.not_false, List.any_cons, List.any_nil, Bool.or_false, Bool.false_eq_true, ↓reduceIte, wpS, wantedA, okDst, Nat.reduceLT, decide_true, step1, hxOp, px, pload, ty24, AS.eval, AS.get, Lift.look, Nat.reduceEqDiff, Option.getD_some, Heap.get_put, okOne, TK.isAgg, Nat.reduceBEq, Nat.zero_add, List.length_cons, List.length_nil, Nat.reduceAdd, Nat.le_refl, and_self, Lift.valOf, List.drop_zero, List.take_succ_cons, List.take_nil, hx, AS.put, dropKey, reduceCtorEq, hrq, known1, PV.cells, splice, List.take_zero, List.nil_append, List.drop_succ_cons, List.drop_nil, List.append_nil, thenQ, RPost, sres, Try.results15, sresL, sres1, Option.some.injEq, Ret_fin, exists_eq_left', true_and]
  exact HTo.put3 _ _ _ hr hq hr
noncomputable def eOfL : SpecE env := ⟨15, sOfL, fun args h hc => by
  unfold sOfL at hc ⊢
  split at hc
  · rename_i s; exact .inl (OfL_ok s h hc.1 hc.2)
  · exact hc.elim⟩
end Go.Proofs.Ythlibdhjcjangaa
