/- Contracts of functions that the law reaches. -/
import Derived.Test.YthlibdhjcjangaaDoorTh
set_option linter.unusedSimpArgs false
set_option linter.unusedVariables false
namespace Go.Proofs.YthlibdhjcjangaaDoor
open Go Go.RowKit Go.Proofs.YthlibdhjcjangaaDoor Go.Proofs.YthlibdhjcjangaaDoor.Lift
set_option maxRecDepth 100000

/-! strings.Compare -/
theorem cmpString_ok (a b : List UInt8) (h : Heap) : XCalls env 59 [.str a, .str b] h (.int .i64 (Lib.compareBytes a b)) := by
  intro w I G vs g r
  obtain ⟨u, us, rfl, h1, u2, us2, rfl, h2, h3⟩ := r
  have h3 : us2 = [] := h3
  subst h3
  have h1 : u = .string ⟨a.toArray⟩ := h1
  have h2 : u2 = .string ⟨b.toArray⟩ := h2
  subst h1; subst h2
  refine ⟨_, ?_, rfl⟩
  refine (run_callFunc_extern (P := env.P) Tryd.func59 (by kernel_rfl) (by kernel_rfl) (by kernel_rfl) (e := Extern.BytealgCompare.compare) (by kernel_rfl) _ _).trans ?_
  rw [show ([Value.string ⟨a.toArray⟩, .string ⟨b.toArray⟩] : List Value).toArray = #[.string ⟨a.toArray⟩, .string ⟨b.toArray⟩] from rfl, Lib.run_compareString]
  rfl
def sCmp : List PV → Prop × PV
  | [.str a, .str b] => (True, .int .i64 (Lib.compareBytes a b))
  | _ => PBad
noncomputable def eCmpX : SpecE env := ⟨59, sCmp, fun args h hc => by
  unfold sCmp at hc ⊢
  split at hc
  · rename_i a b; exact .inr (cmpString_ok a b h)
  · exact hc.elim⟩
theorem CompareString_ok (a b : List UInt8) (h : Heap) : SCalls env 51 [.str a, .str b] h (Ret (.int .i64 (Lib.compareBytes a b)) h) := by
  refine SCalls.body Tryd.func51 rfl rfl (by simp [Tryd.ntmps51]) (SW.run [eCmpX] _ ?_)
  simp only [wpC, mayStop, stops, isFlt, Specs.has, eCmpX, Specs.hasO, Bool.or_false, Specs.hasH, List.any_cons, List.any_nil, Bool.false_eq_true, ↓reduceIte, wpS, wantedA, okDst, Tryd.ntmps51, Nat.reduceLT, decide_true, step1, isOwnCall, hxOp, px, AS.eval, ofConst, ofVal, thenQ, Bool.not_true, AS.put, enumA, Nat.zero_add, dropKey, reduceCtorEq, Nat.reduceEqDiff, AS.get, Lift.look, Nat.succ_ne_zero, Option.getD_some, pcall, okArg, List.all_cons, List.all_nil, Bool.and_true, Specs.at, List.map_cons, List.map_nil, sCmp, and_self, RPost, sres, Tryd.results51, sresL, sres1, Option.some.injEq, Ret_fin, HTo_self, and_true, exists_eq_left']
noncomputable def eCmpS : SpecE env := ⟨51, sCmp, fun args h hc => by
  unfold sCmp at hc ⊢
  split at hc
  · rename_i a b; exact .inl (CompareString_ok a b h)
  · exact hc.elim⟩
theorem StrCompare_ok (a b : List UInt8) (h : Heap) : SCalls env 37 [.str a, .str b] h (Ret (.int .i64 (Lib.compareBytes a b)) h) := by
  refine SCalls.body Tryd.func37 rfl rfl (by simp [Tryd.ntmps37]) (SW.run [eCmpS] _ ?_)
  simp only [wpC, mayStop, stops, isFlt, Specs.has, eCmpS, Specs.hasO, Bool.or_false, Specs.hasH, List.any_cons, List.any_nil, Bool.false_eq_true, ↓reduceIte, wpS, wantedA, okDst, Tryd.ntmps37, Nat.reduceLT, decide_true, step1, isOwnCall, hxOp, px, AS.eval, ofConst, ofVal, thenQ, Bool.not_true, AS.put, enumA, Nat.zero_add, dropKey, reduceCtorEq, Nat.reduceEqDiff, AS.get, Lift.look, Nat.succ_ne_zero, Option.getD_some, pcall, okArg, List.all_cons, List.all_nil, Bool.and_true, Specs.at, List.map_cons, List.map_nil, sCmp, and_self, RPost, sres, Tryd.results37, sresL, sres1, Option.some.injEq, Ret_fin, HTo_self, and_true, exists_eq_left']
noncomputable def eStrCmp : SpecE env := ⟨37, sCmp, fun args h hc => by
  unfold sCmp at hc ⊢
  split at hc
  · rename_i a b; exact .inl (StrCompare_ok a b h)
  · exact hc.elim⟩
/-! text.Latin -/
def sLatin : List PV → Prop × PV
  | [.list 1 xs] => match unB xs with
    | some l => (l.length ≤ 65536, .tuple [.agg [.str l, .bool false], .int .i64 0])
    | none => PBad
  | _ => PBad
theorem Latin_ok (l : List UInt8) (h : Heap) (hl : l.length ≤ 65536) : SCalls env 10 [.list 1 (elB l)] h (Ret (.tuple [.agg [.str l, .bool false], .int .i64 0]) h) := by
  refine SCalls.body Tryd.func10 rfl rfl (by simp [Tryd.ntmps10]) (SW.run [] _ ?_)
  have hng : ¬ (65536 : Int) < (l.length : Int) := by omega
  simp only [wpC, mayStop, stops, isFlt, Specs.has, Specs.hasO, Bool.or_false, Specs.hasH, Bool.not_false, List.any_cons, List.any_nil, Bool.false_eq_true, ↓reduceIte, wpS, wantedA, okDst, Tryd.ntmps10, Nat.reduceLT, decide_true, step1, okAlloc, ty24, okZero, List.all_cons, Value.oneCell', List.all_nil, Bool.and_true, AS.put, enumA, dropKey, reduceCtorEq, isOwnCall, hxOp, px, AS.eval, ofConst, ofVal, thenQ, Nat.reduceEqDiff, zeroOf, List.map_cons, List.map_nil, List.length_cons, List.length_nil, Nat.zero_add, Nat.reduceAdd, AS.get, Lift.look, Nat.succ_ne_zero, Option.getD_some, pcall, ty34, plen, elB_len, okLen, and_self, isNilC, pbinP, pbinI, hng, decide_false, isB, tmpOf, asB, ty9, pconvH, pconv, ty5, unB_el, pbuild, pfill, placeOf, List.getElem?_cons_zero, Option.map_some, PV.cells, Nat.reduceLeDiff, splice, List.take_zero, List.nil_append, List.drop_succ_cons, List.drop_zero, List.cons_append, Option.isSome_some, ty4, known, hx, Heap.get_put, known1, Nat.le_refl, List.drop_nil, List.append_nil, RPost, sres, Tryd.results10, sresL, sres1, okOne, TK.isAgg, Nat.reduceBEq, Lift.valOf, List.take_succ_cons, List.take_nil, Option.some.injEq, Ret_fin, exists_eq_left', true_and]
  intro r hr
  exact HTo.put2 _ _ hr hr
noncomputable def eLatin : SpecE env := ⟨10, sLatin, fun args h hc => by
  unfold sLatin at hc ⊢
  split at hc
  · rename_i xs
    split at hc
    · rename_i l hl
      rw [show xs = elB l from unB_spec hl]
      exact .inl (Latin_ok l h hc)
    · exact hc.elim
  · exact hc.elim⟩
/-! acheronlaw01.of -/
def sOfL : List PV → Prop × PV
  | [.str s] => (s.length ≤ 70368744177664 ∧ (runesOf s).length ≤ 65536, strV (runesOf s))
  | _ => PBad
end Go.Proofs.YthlibdhjcjangaaDoor
