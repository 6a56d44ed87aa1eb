/- Contracts of functions that the law reaches. -/
import Derived.Test.YthlibdhjcjangaaDoorTv
import Derived.Test.YthlibdhjcjangaaDoorShelf
set_option linter.unusedSimpArgs false
set_option linter.unusedVariables false
namespace Go.Proofs.YthlibdhjcjangaaDoor
open Go Go.RowKit Go.Proofs.YthlibdhjcjangaaDoor Go.Proofs.YthlibdhjcjangaaDoor.Lift
set_option maxRecDepth 100000

/-! strings.HasPrefix -/
def prefixS (l p : List UInt8) : Bool := decide (p.length ≤ l.length) && (l.take p.length == p)
def sHasPrefix : List PV → Prop × PV
  | [.str l, .str p] => (True, .bool (prefixS l p))
  | _ => PBad
theorem HasPrefix0_ok (l p : List UInt8) (h : Heap) : SCalls env 44 [.str l, .str p] h (Ret (.bool (prefixS l p)) h) := by
  refine SCalls.body Tryd.func44 rfl rfl (by simp [Tryd.ntmps44]) (SW.run [] _ ?_)
  by_cases h1 : p.length ≤ l.length
  · simp only [wpC, mayStop, stops, isFlt, Specs.has, Specs.hasO, Bool.or_false, Specs.hasH, Bool.not_false, List.any_cons, List.any_nil, Bool.false_eq_true, ↓reduceIte, wpS, wantedA, okDst, Tryd.ntmps44, Nat.reduceLT, decide_true, step1, isOwnCall, hxOp, px, AS.eval, ofConst, ofVal, thenQ, AS.put, enumA, Nat.zero_add, dropKey, reduceCtorEq, Nat.reduceEqDiff, AS.get, Lift.look, Nat.succ_ne_zero, Option.getD_some, pcall, ty9, plen, okLen, and_self, isNilC, pbinP, pbinI, Int.ofNat_le, h1, List.getElem?_toArray, List.getElem?_cons_succ, List.getElem?_cons_zero, Option.bind_some, beq_self_eq_true, pslice, pB, Int.cast_ofNat_Int, Int.reduceLE, Int.natCast_nonneg, Int.reduceToNat, Int.toNat_natCast, List.drop_zero, pbinS, ppick_bool, RPost, sres, Tryd.results44, sresL, sres1, Option.some.injEq, prefixS, Bool.true_and, Ret_fin, HTo_self, and_true, exists_eq_left']
    try simp [h1]
  · simp only [wpC, mayStop, stops, isFlt, Specs.has, Specs.hasO, Bool.or_false, Specs.hasH, Bool.not_false, List.any_cons, List.any_nil, Bool.false_eq_true, ↓reduceIte, wpS, wantedA, okDst, Tryd.ntmps44, Nat.reduceLT, decide_true, step1, isOwnCall, hxOp, px, AS.eval, ofConst, ofVal, thenQ, AS.put, enumA, Nat.zero_add, dropKey, reduceCtorEq, Nat.reduceEqDiff, AS.get, Lift.look, Nat.succ_ne_zero, Option.getD_some, pcall, ty9, plen, okLen, and_self, isNilC, pbinP, pbinI, Int.ofNat_le, h1, decide_false, List.getElem?_toArray, List.getElem?_cons_succ, List.getElem?_cons_zero, Option.bind_some, beq_ft, Option.some.injEq, ppick_false, RPost, sres, Tryd.results44, sresL, sres1, prefixS, Bool.false_and, Ret_fin, HTo_self, and_true, exists_eq_left']
noncomputable def eHasPrefix0 : SpecE env := ⟨44, sHasPrefix, fun args h hc => by
  unfold sHasPrefix at hc ⊢
  split at hc
  · rename_i l p; exact .inl (HasPrefix0_ok l p h)
  · exact hc.elim⟩
theorem HasPrefix_ok (l p : List UInt8) (h : Heap) : SCalls env 22 [.str l, .str p] h (Ret (.bool (prefixS l p)) h) := by
  refine SCalls.body Tryd.func22 rfl rfl (by simp [Tryd.ntmps22]) (SW.run [eHasPrefix0] _ ?_)
  simp only [wpC, mayStop, stops, isFlt, Specs.has, eHasPrefix0, Specs.hasO, Bool.or_false, Specs.hasH, List.any_cons, List.any_nil, Bool.false_eq_true, ↓reduceIte, wpS, wantedA, okDst, Tryd.ntmps22, Nat.reduceLT, decide_true, step1, isOwnCall, hxOp, px, AS.eval, ofConst, ofVal, thenQ, Bool.not_true, AS.put, enumA, Nat.zero_add, dropKey, reduceCtorEq, Nat.reduceEqDiff, AS.get, Lift.look, Nat.succ_ne_zero, Option.getD_some, pcall, okArg, List.all_cons, List.all_nil, Bool.and_true, Specs.at, List.map_cons, List.map_nil, sHasPrefix, and_self, RPost, sres, Tryd.results22, sresL, sres1, Option.some.injEq, Ret_fin, HTo_self, and_true, exists_eq_left']
noncomputable def eHasPrefix : SpecE env := ⟨22, sHasPrefix, fun args h hc => by
  unfold sHasPrefix at hc ⊢
  split at hc
  · rename_i l p; exact .inl (HasPrefix_ok l p h)
  · exact hc.elim⟩
/-! strings.IndexByte -/
def sIndexByte : List PV → Prop × PV
  | [.str l, .int .u8 c] => (True, .int .i64 (Lib.indexByte l c.toNat.toUInt8))
  | _ => PBad
theorem IndexByte_ok (l : List UInt8) (c : Int) (h : Heap) : SCalls env 46 [.str l, .int .u8 c] h (Ret (.int .i64 (Lib.indexByte l c.toNat.toUInt8)) h) :=
  SCalls.ofRead Tryd.func46 rfl rfl fun w I G vs g r => by
    obtain ⟨u, us, rfl, h1, u2, us2, rfl, h2, h3⟩ := r
    have h3 : us2 = [] := h3
    subst h3
    obtain rfl : u = .string ⟨l.toArray⟩ := h1
    obtain rfl : u2 = .int .u8 c := h2
    exact ⟨_, rfl, Tryd.strings_IndexByte ⟨l.toArray⟩ c w⟩
noncomputable def eIndexByte : SpecE env := ⟨46, sIndexByte, fun args h hc => by
  unfold sIndexByte at hc ⊢
  split at hc
  · rename_i l c; exact .inl (IndexByte_ok l c h)
  · exact hc.elim⟩
/-! utf8.DecodeRuneInString -/
def sDecodeRune : List PV → Prop × PV
  | [.str l] => (0 < l.length, .tuple [.int .i32 (firstS l).1, .int .i64 ((firstS l).2 : Nat)])
  | _ => PBad
theorem DecodeRune_ok (l : List UInt8) (h : Heap) (hl : 0 < l.length) : SCalls env 26 [.str l] h (Ret (.tuple [.int .i32 (firstS l).1, .int .i64 ((firstS l).2 : Nat)]) h) := by
  refine SCalls.ofBelow Tryd.func26 rfl rfl fun w I G vs g r => ?_
  obtain ⟨u, us, rfl, h1, h3⟩ := r
  have h3 : us = [] := h3
  subst h3
  obtain rfl : u = .string ⟨l.toArray⟩ := h1
  have ht : Lib.Utf8Tabs 0 1 w := (g.inv : gwinv w I).2.2
  have hd : Lib.decodeGo ⟨l.toArray⟩ = Utf8.decode ⟨l.toArray⟩ 0 := by
    unfold Lib.decodeGo
    rw [if_neg (by rw [size_mk]; omega)]
  have := Tryd.utf8_DecodeRuneInString ⟨l.toArray⟩ w ht
  rw [hd] at this
  refine ⟨_, fun w' => ?_, this⟩
  rw [first_law l hl]
  exact ⟨_, rfl, _, _, rfl, rfl, _, _, rfl, rfl, rfl⟩
noncomputable def eDecodeRune : SpecE env := ⟨26, sDecodeRune, fun args h hc => by
  unfold sDecodeRune at hc ⊢
  split at hc
  · rename_i l; exact .inl (DecodeRune_ok l h hc)
  · exact hc.elim⟩
end Go.Proofs.YthlibdhjcjangaaDoor
