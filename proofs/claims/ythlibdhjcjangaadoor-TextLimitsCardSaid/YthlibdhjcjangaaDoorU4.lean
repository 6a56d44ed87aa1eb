/- Contracts of functions that the law reaches. -/
import Derived.Test.YthlibdhjcjangaaDoorU3
set_option linter.unusedSimpArgs false
set_option linter.unusedVariables false
namespace Go.Proofs.YthlibdhjcjangaaDoor
open Go Go.RowKit Go.Proofs.YthlibdhjcjangaaDoor Go.Proofs.YthlibdhjcjangaaDoor.Lift
set_option maxRecDepth 100000

/-! The reader of a literal -/
/-- A fault at a place. -/
def stopV (n : Nat) (e : Int) : Value := .iface 50 (.agg #[.int .i64 n, .int .i64 e])
def stopQ (n : Nat) (e : Int) (h : Heap) : SEnd → Heap → Prop := fun x h' => x = .panicked [{ v := stopV n e, recovered := false }] ∧ h' = h
theorem Byte_ok (s : List UInt8) (p : PV) (r i : Nat) (h : Heap) (hs : s.length ≤ 1000000000) (hr : h r = some (.cells 55 2 [.str s, p])) (hi : i < s.length) :
    SCalls env 23 [.val (.pointer (some ⟨r, 0, none⟩)), .int .i64 (i : Nat)] h (Ret (.int .u8 ((s.getD i 0).toNat : Nat)) h) := by
  refine SCalls.body Tryd.func23 rfl rfl (by simp [Tryd.ntmps23]) ?_
  have hle : ¬ s.length ≤ i := by omega
  refine SW.run [] _ ?_
  simp only [wpC, mayStop, stops, isFlt, Specs.has, Specs.hasO, Bool.or_false, Specs.hasH, Bool.not_false, List.any_cons, List.any_nil, Bool.false_eq_true, ↓reduceIte, wpS, wantedA, okDst, Tryd.ntmps23, Nat.reduceLT, decide_true, step1, isOwnCall, hxOp, px, AS.eval, ofConst, ofVal, thenQ, Bool.or_true, AS.put, enumA, Nat.zero_add, dropKey, reduceCtorEq, Nat.reduceEqDiff, AS.get, Lift.look, Option.getD_some, Nat.succ_ne_zero, pfieldAddr, fieldOf, ty55, fieldIn, List.getElem?_cons_zero, ty9, Option.map_some, ne_eq, not_false_eq_true, Nat.add_zero, pload, hr, okOne, TK.isAgg, beq_self_eq_true, List.length_cons, List.length_nil, Nat.reduceAdd, Nat.reduceLeDiff, and_self, Lift.valOf, List.drop_zero, List.take_succ_cons, List.take_zero, List.getD_cons_zero, pcall, plen, okLen, isNilC, pbinP, pbinI, Int.ofNat_le, hle, decide_false, isB, tmpOf, asB, true_and]
  refine SW.run [] _ ?_
  simp only [wpC, mayStop, stops, isFlt, Specs.has, Specs.hasO, Bool.or_false, Specs.hasH, Bool.not_false, List.any_cons, List.any_nil, Bool.false_eq_true, ↓reduceIte, wpS, wantedA, okDst, Nat.reduceLT, decide_true, step1, isOwnCall, hxOp, px, AS.eval, AS.get, Lift.look, Nat.succ_ne_zero, Option.getD_some, AS.put, dropKey, Nat.reduceEqDiff, reduceCtorEq, pfieldAddr, fieldOf, ty55, fieldIn, List.getElem?_cons_zero, ty9, Option.map_some, ne_eq, not_false_eq_true, Nat.add_zero, pload, hr, okOne, TK.isAgg, beq_self_eq_true, Bool.or_true, Nat.zero_add, List.length_cons, List.length_nil, Nat.reduceAdd, Nat.reduceLeDiff, and_self, Lift.valOf, List.drop_zero, List.take_succ_cons, List.take_zero, List.getD_cons_zero, pindex, Int.natCast_nonneg, Int.toNat_natCast, hi, thenQ, RPost, sres, Tryd.results23, sresL, sres1, Option.some.injEq, Ret_fin, HTo_self, and_true, exists_eq_left']
theorem Byte_end (s : List UInt8) (p : PV) (r i : Nat) (h : Heap) (hs : s.length ≤ 1000000000) (hr : h r = some (.cells 55 2 [.str s, p])) (hi : s.length ≤ i) :
    SCalls env 23 [.val (.pointer (some ⟨r, 0, none⟩)), .int .i64 (i : Nat)] h (stopQ s.length 16 h) := by
  refine SCalls.body Tryd.func23 rfl rfl (by simp [Tryd.ntmps23]) ?_
  refine SW.run [] _ ?_
  simp only [wpC, mayStop, stops, isFlt, Specs.has, Specs.hasO, Bool.or_false, Specs.hasH, Bool.not_false, List.any_cons, List.any_nil, Bool.false_eq_true, ↓reduceIte, wpS, wantedA, okDst, Tryd.ntmps23, Nat.reduceLT, decide_true, step1, isOwnCall, hxOp, px, AS.eval, ofConst, ofVal, thenQ, Bool.or_true, AS.put, enumA, Nat.zero_add, dropKey, reduceCtorEq, Nat.reduceEqDiff, AS.get, Lift.look, Option.getD_some, Nat.succ_ne_zero, pfieldAddr, fieldOf, ty55, fieldIn, List.getElem?_cons_zero, ty9, Option.map_some, ne_eq, not_false_eq_true, Nat.add_zero, pload, hr, okOne, TK.isAgg, beq_self_eq_true, List.length_cons, List.length_nil, Nat.reduceAdd, Nat.reduceLeDiff, and_self, Lift.valOf, List.drop_zero, List.take_succ_cons, List.take_zero, List.getD_cons_zero, pcall, plen, okLen, isNilC, pbinP, pbinI, Int.ofNat_le, hi, isB, tmpOf, asB, pbuild, ty50, List.map_cons, List.map_nil, pfill, placeOf, ty3, PV.cells, List.getElem?_cons_succ, ty25, splice, List.nil_append, List.drop_succ_cons, List.cons_append, Nat.le_refl, List.drop_nil, List.append_nil, List.all_cons, Option.isSome_some, List.all_nil, Bool.and_true, okZero, Value.oneCell', known, pmakeIface, true_and]
  refine SWO.panic2 (.tmp 18) rfl rfl rfl ?_
  exact ⟨h, .refl _ _, rfl, rfl⟩
def sByteH (args : List PV) (h : Heap) : Prop × PV × Heap :=
  match args with
  | [.val (.pointer (some ⟨r, 0, none⟩)), .int .i64 i] => match h r with
    | some (.cells T 2 [.str s, _]) => (T = 55 ∧ s.length ≤ 1000000000 ∧ 0 ≤ i ∧ i.toNat < s.length, .int .u8 ((s.getD i.toNat 0).toNat : Nat), h)
    | _ => HBad h
  | _ => HBad h
noncomputable def eByteH : SpecH env := ⟨23, sByteH, fun args h hc => by
  unfold sByteH at hc ⊢
  split at hc
  · rename_i r i
    split at hc
    · rename_i T s p hr
      obtain ⟨rfl, h1, h2, h3⟩ := hc
      have e : i = (i.toNat : Int) := by omega
      have := Byte_ok s p r i.toNat h h1 hr h3
      rw [← e] at this
      simp only [hr]
      exact this
    · exact hc.elim
  · exact hc.elim⟩
/-- A hexadecimal digit, in small letters. -/
def lowS (b : UInt8) : UInt8 := if 65 ≤ b.toNat ∧ b.toNat ≤ 70 then b + 32 else b
def hexDs : List UInt8 := [48, 49, 50, 51, 52, 53, 54, 55, 56, 57, 97, 98, 99, 100, 101, 102]
theorem low_dig (b : UInt8) : Lib.indexByte hexDs (lowS b) = digS b := by
  have key : ∀ n : Fin 256, Lib.indexByte hexDs (lowS (UInt8.ofNat n.val)) = digS (UInt8.ofNat n.val) := by decide +kernel
  have := key ⟨b.toNat, b.toNat_lt⟩
  simpa using this
theorem esc_index (b : UInt8) : (Lib.indexByte escFrom b < 0 ↔ escS b < 0) ∧ (0 ≤ Lib.indexByte escFrom b → Lib.indexByte escFrom b < 11 ∧ (((escTo.map u8of).getD (Lib.indexByte escFrom b).toNat 0).toNat : Int) = escS b) := by
  have key : ∀ n : Fin 256, (decide (Lib.indexByte escFrom (UInt8.ofNat n.val) < 0) == decide (escS (UInt8.ofNat n.val) < 0)) && (decide (Lib.indexByte escFrom (UInt8.ofNat n.val) < 0) || (decide (Lib.indexByte escFrom (UInt8.ofNat n.val) < 11) && decide ((((escTo.map u8of).getD (Lib.indexByte escFrom (UInt8.ofNat n.val)).toNat 0).toNat : Int) = escS (UInt8.ofNat n.val)))) = true := by decide +kernel
  have := key ⟨b.toNat, b.toNat_lt⟩
  have e : UInt8.ofNat b.toNat = b := by simp
  simp only [e, Bool.and_eq_true, Bool.or_eq_true, beq_iff_eq, decide_eq_true_eq] at this
  obtain ⟨h1, h2⟩ := this
  refine ⟨by rw [decide_eq_decide] at h1; exact h1, fun h3 => ?_⟩
  rcases h2 with h2 | h2
  · omega
  · exact h2
theorem or64 (y i a : Nat) (hy : y < 2 ^ i) (h : 2 ^ i * a + y < 9223372036854775808) : bitsOp .or .i64 ((2 ^ i * a : Nat) : Int) (y : Int) = ((2 ^ i * a + y : Nat) : Int) := by
  show IntKind.i64.wrap ((BitVec.ofInt 64 ((2 ^ i * a : Nat) : Int) ||| BitVec.ofInt 64 (y : Int)).toNat : Int) = _
  rw [BitVec.toNat_or, BitVec.toNat_ofInt, BitVec.toNat_ofInt]
  generalize hx : 2 ^ i * a = x at *
  have e1 : ((x : Int) % ((2 ^ 64 : Nat) : Int)).toNat = x := by omega
  have e2 : ((y : Int) % ((2 ^ 64 : Nat) : Int)).toNat = y := by omega
  rw [e1, e2, ← hx, ← Nat.two_pow_add_eq_or_of_lt hy a, hx, w64 (by omega) (by omega)]
/-- What the reader comes to behind a backslash. -/
def escQ (s : List UInt8) (r at0 : Nat) (h : Heap) (x : US) : SEnd → Heap → Prop := match x with
  | .char c n => Ret (.int .i32 c) (h.put r (.cells 55 2 [.str s, .int .i64 (n : Nat)]))
  | .bad n e => stopQ n e h
  | .done _ => fun _ _ => False
theorem Escape_ok (s : List UInt8) (r i : Nat) (h : Heap) (hs : s.length ≤ 1000000000) (hi : i < s.length) (hr : h r = some (.cells 55 2 [.str s, .int .i64 (i : Nat)])) :
    SCalls env 25 [.val (.pointer (some ⟨r, 0, none⟩))] h (escQ s r i h (uesc s (i + 1))) := by
  have hw1 : IntKind.i64.wrap ((i : Int) + 1) = ((i + 1 : Nat) : Int) := by rw [w64 (by omega) (by omega)]; rfl
  have hw2 : IntKind.i64.wrap ((i : Int) + 2) = ((i + 2 : Nat) : Int) := by rw [w64 (by omega) (by omega)]; rfl
  refine SCalls.body Tryd.func25 rfl rfl (by simp [Tryd.ntmps25]) ?_
  by_cases hlt1 : i + 1 < s.length
  case neg =>
    have hb : uesc s (i + 1) = .bad s.length 16 := by unfold uesc; rw [if_neg hlt1]
    rw [hb]
    refine SW.run [] _ ?_
    simp only [wpC, mayStop, stops, isFlt, Specs.has, Specs.hasO, Bool.or_false, Specs.hasH, Bool.not_false, List.any_cons, List.any_nil, Bool.false_eq_true, ↓reduceIte, wpS, wantedA, okDst, Tryd.ntmps25, Nat.reduceLT, decide_true, step1, isOwnCall, hxOp, px, AS.eval, ofConst, ofVal, thenQ, ty3, Bool.or_true, AS.put, enumA, dropKey, reduceCtorEq, AS.get, Lift.look, Nat.succ_ne_zero, Option.getD_some, Nat.reduceEqDiff, pfieldAddr, fieldOf, ty55, fieldIn, List.getElem?_cons_succ, List.getElem?_cons_zero, Option.map_some, ne_eq, not_false_eq_true, Nat.zero_add, pload, hr, okOne, TK.isAgg, beq_self_eq_true, Nat.reduceAdd, List.length_cons, List.length_nil, Nat.le_refl, and_self, Lift.valOf, List.drop_succ_cons, List.drop_zero, List.take_succ_cons, List.take_nil, List.getD_cons_zero, isNilC, pbinP, pbinI, hw1, true_and]
    refine SWO.call (.func 23) _ _ 23 #[] #[] rfl rfl rfl rfl rfl rfl (Byte_end s _ r (i + 1) h hs hr (by omega)) rfl rfl ?_ ?_
    · rintro q h' ⟨e1, _⟩; cases e1
    · rintro c h' ⟨e1, rfl⟩
      injection e1 with e1
      subst e1
      exact ⟨h', .refl _ _, rfl, rfl⟩
  refine SW.cutK [eByteH] 4 (fun a => ∃ D : Nat, (D = 4 ∨ D = 6) ∧ uesc s (i + 1) = uhex s (i + 1) D (i + 2) 0 ∧ Meet env 104 [(0, .val (.pointer (some ⟨r, 0, none⟩))), (4, .int .i64 (D : Nat))] h a) ?_ ?_
  case refine_1 =>
    simp only [seqW, wpC, Bool.false_eq_true, ↓reduceIte, wpS, stops, wantedA, okDst, Tryd.ntmps25, Nat.reduceLT, decide_true, step1, isOwnCall, hxOp, px, AS.eval, ofConst, ofVal, thenQ, AS.put, enumA, dropKey, reduceCtorEq, AS.get, Lift.look, Nat.succ_ne_zero, Option.getD_some, Nat.reduceEqDiff, pfieldAddr, fieldOf, ty55, fieldIn, List.getElem?_cons_succ, List.getElem?_cons_zero, ty3, Option.map_some, ne_eq, not_false_eq_true, Nat.zero_add, pload, hr, okOne, TK.isAgg, beq_self_eq_true, Bool.or_true, Nat.reduceAdd, List.length_cons, List.length_nil, Nat.le_refl, and_self, Lift.valOf, List.drop_succ_cons, List.drop_zero, List.take_succ_cons, List.take_nil, List.getD_cons_zero, isFlt, isNilC, pbinP, pbinI, hw1, Specs.has, Specs.hasO, Bool.or_false, Specs.hasH, eByteH, Bool.not_true, hx, okArg, List.all_cons, List.all_nil, Bool.and_true, Specs.atH, List.map_cons, List.map_nil, sByteH, Int.natCast_nonneg, Int.toNat_natCast, hlt1, and_true, true_and, mayStop, Bool.false_or, List.any_cons, List.any_nil, decide_eq_true_eq, PBad, pflt, peq, peqK, psame, isB, tmpOf, asB, Bool.not_false]
    refine ⟨by omega, ?_⟩
    generalize hb : s.getD (i + 1) 0 = b
    have b117 : ((117 : UInt8).toNat : Int) = 117 := rfl
    have b85 : ((85 : UInt8).toNat : Int) = 85 := rfl
    have k117 := byte_is b 117
    have k85 := byte_is b 85
    rw [b117] at k117; rw [b85] at k85
    refine SWO.makeMapG 84 false false rfl rfl rfl fun q hq => ?_
    refine SWO.mapSet 84 (.tmp 17) (.const (.int .u8 117)) (.const (.int .i64 4)) (.inr rfl) ty84 rfl kk5 (kv := .int .u8 117) (vv := .int .i64 4) (es := []) rfl rfl rfl rfl rfl rfl rfl (Heap.put_same _ _ _) rfl rfl rfl ?_
    refine SWO.mapSet 84 (.tmp 17) (.const (.int .u8 85)) (.const (.int .i64 6)) (.inr rfl) ty84 rfl kk5 (kv := .int .u8 85) (vv := .int .i64 6) rfl rfl rfl rfl rfl rfl rfl (Heap.put_same _ _ _) rfl rfl rfl ?_
    simp only [Heap.put_put]
    refine SWO.run [] 1000 ?_
    have hq : h q = none := hq
    have hrq : r ≠ q := fun e => by rw [← e, hr] at hq; cases hq
    have idx : Lib.indexByte [110, 116, 114, 98, 97, 118, 102, 48, 34, 39, 92] b = Lib.indexByte escFrom b := rfl
    have mean : ∀ k : Nat, (([10, 9, 13, 8, 7, 11, 12, 0, 34, 39, 92] : List UInt8).getD k 0) = (escTo.map u8of).getD k 0 := fun _ => rfl
    have bt : ((b.toNat : Nat) : Int).toNat.toUInt8 = b := ofNat_u8 b
    by_cases c117 : b = 117
    · rw [decide_eq_true c117] at k117
      simp only [wpS, stops, Bool.false_eq_true, ↓reduceIte, wantedA, okDst, AS.put, dropKey, Nat.reduceEqDiff, reduceCtorEq, isAggV, mset, PV.cells, mclock, mfind, Option.isSome_none, Nat.zero_add, Nat.reduceLT, decide_true, step1, isOwnCall, hxOp, px, AS.eval, AS.get, Lift.look, Option.getD_some, eqCells, Int.reduceBEq, Bool.and_true, Nat.reduceAdd, plookup, ty84, ty3, Heap.get_put, glook, kk5, List.all_cons, fits, List.all_nil, TK.isAgg, okZero, Value.oneCell', okOne, beq_self_eq_true, Bool.or_true, List.length_cons, List.length_nil, and_self, Lift.valOf, k117, List.map_cons, ofVal, List.map_nil, List.getD_cons_zero, thenQ, Meet, hasAll, Nat.succ_ne_zero, and_true, true_and]
      exact ⟨4, .inl rfl, by unfold uesc; rw [if_pos hlt1, hb, if_pos c117], HTo.put (.refl _ _) hq _, rfl⟩
    rw [decide_eq_false c117] at k117
    by_cases c85 : b = 85
    · rw [decide_eq_true c85] at k85
      simp only [wpS, stops, Bool.false_eq_true, ↓reduceIte, wantedA, okDst, AS.put, dropKey, Nat.reduceEqDiff, reduceCtorEq, isAggV, mset, PV.cells, mclock, mfind, Option.isSome_none, Nat.zero_add, Nat.reduceLT, decide_true, step1, isOwnCall, hxOp, px, AS.eval, AS.get, Lift.look, Option.getD_some, eqCells, Int.reduceBEq, Bool.and_true, Nat.reduceAdd, plookup, ty84, ty3, Heap.get_put, glook, kk5, List.all_cons, fits, List.all_nil, TK.isAgg, okZero, Value.oneCell', okOne, beq_self_eq_true, Bool.or_true, List.length_cons, List.length_nil, and_self, Lift.valOf, k117, k85, List.map_cons, ofVal, List.map_nil, List.getD_cons_zero, thenQ, Meet, hasAll, Nat.succ_ne_zero, and_true, true_and]
      exact ⟨6, .inr rfl, by unfold uesc; rw [if_pos hlt1, hb, if_neg c117, if_pos c85], HTo.put (.refl _ _) hq _, rfl⟩
    rw [decide_eq_false c85] at k85
    have hu : uesc s (i + 1) = if escS b < 0 then .bad (i + 1) 8 else .char (escS b) (i + 2) := by
      unfold uesc
      rw [if_pos hlt1, hb, if_neg c117, if_neg c85]
    simp only [wpS, stops, Bool.false_eq_true, ↓reduceIte, wantedA, okDst, AS.put, dropKey, Nat.reduceEqDiff, reduceCtorEq, isAggV, mset, PV.cells, mclock, mfind, Option.isSome_none, Nat.zero_add, Nat.reduceLT, decide_true, step1, isOwnCall, hxOp, px, AS.eval, AS.get, Lift.look, Option.getD_some, eqCells, Int.reduceBEq, Bool.and_true, Nat.reduceAdd, plookup, ty84, ty3, Heap.get_put, glook, kk5, List.all_cons, fits, List.all_nil, TK.isAgg, okZero, Value.oneCell', okOne, beq_self_eq_true, Bool.or_true, List.length_cons, List.length_nil, and_self, Lift.valOf, k117, k85, List.map_cons, ofVal, List.map_nil, Option.getD_none, List.getD_cons_zero, thenQ, true_and]
    refine SWO.enter (n := 104) (l := [(0, .val (.pointer (some ⟨r, 0, none⟩))), (23, .int .u8 (b.toNat : Nat))]) (H := h) ⟨rfl, HTo.put (.refl _ _) hq _, rfl, rfl, trivial⟩ ?_
    refine SWO.run [eIndexByte] 1000 ?_
    obtain ⟨x1, x2⟩ := esc_index b
    by_cases hneg : Lib.indexByte escFrom b < 0
    · rw [if_pos (x1.1 hneg)] at hu
      rw [hu]
      simp only [wpS, stops, Specs.has, eIndexByte, ↓reduceIte, Specs.hasO, Bool.or_false, Specs.hasH, Bool.not_true, Bool.false_eq_true, wantedA, okDst, Nat.reduceLT, decide_true, step1, isOwnCall, hxOp, px, pcall, okArg, AS.eval, AS.get, Lift.look, ofConst, ofVal, List.all_cons, reduceCtorEq, Option.getD_some, List.all_nil, Bool.and_true, Specs.at, List.map_cons, List.map_nil, sIndexByte, Int.toNat_natCast, UInt8.ofNat_toNat, idx, and_self, AS.put, dropKey, Nat.reduceEqDiff, thenQ, true_and]
      refine SW.run [] _ ?_
      simp only [wpC, mayStop, stops, isFlt, Specs.has, Specs.hasO, Bool.or_false, Specs.hasH, Bool.not_false, List.any_cons, List.any_nil, ty3, Bool.or_true, ↓reduceIte, Bool.false_eq_true, wpS, wantedA, okDst, Nat.reduceLT, decide_true, step1, isOwnCall, hxOp, px, AS.eval, AS.get, Lift.look, Option.getD_some, AS.put, dropKey, Nat.reduceEqDiff, reduceCtorEq, isNilC, pbinP, ofConst, ofVal, pbinI, hneg, thenQ, isB, tmpOf, asB, Nat.succ_ne_zero, pfieldAddr, fieldOf, ty55, fieldIn, List.getElem?_cons_succ, List.getElem?_cons_zero, Option.map_some, ne_eq, not_false_eq_true, Nat.zero_add, pload, hr, okOne, TK.isAgg, beq_self_eq_true, Nat.reduceAdd, List.length_cons, List.length_nil, Nat.le_refl, and_self, Lift.valOf, List.drop_succ_cons, List.drop_zero, List.take_succ_cons, List.take_nil, List.getD_cons_zero, hw1, pbuild, ty50, List.map_cons, List.map_nil, pfill, placeOf, PV.cells, Nat.reduceLeDiff, ty25, splice, List.take_zero, List.nil_append, List.cons_append, List.drop_nil, List.append_nil, List.all_cons, Option.isSome_some, List.all_nil, Bool.and_true, okZero, Value.oneCell', known, pmakeIface, true_and]
      refine SWO.panic2 (.tmp 33) rfl rfl rfl ?_
      exact ⟨h, .refl _ _, rfl, rfl⟩
    · obtain ⟨x3, x4⟩ := x2 (by omega)
      rw [if_neg (fun e => hneg (x1.2 e))] at hu
      rw [hu]
      obtain ⟨kx, hkx⟩ : ∃ kx, Lib.indexByte escFrom b = kx := ⟨_, rfl⟩
      rw [hkx] at hneg x3 x4 idx
      simp only [wpS, stops, Specs.has, eIndexByte, ↓reduceIte, Specs.hasO, Bool.or_false, Specs.hasH, Bool.not_true, Bool.false_eq_true, wantedA, okDst, Nat.reduceLT, decide_true, step1, isOwnCall, hxOp, px, pcall, okArg, AS.eval, AS.get, Lift.look, ofConst, ofVal, List.all_cons, reduceCtorEq, Option.getD_some, List.all_nil, Bool.and_true, Specs.at, List.map_cons, List.map_nil, sIndexByte, Int.toNat_natCast, UInt8.ofNat_toNat, idx, and_self, AS.put, dropKey, Nat.reduceEqDiff, thenQ, true_and]
      refine SW.run [] _ ?_
      simp only [wpC, mayStop, stops, isFlt, Specs.has, Specs.hasO, Bool.or_false, Specs.hasH, Bool.not_false, List.any_cons, List.any_nil, ty3, Bool.or_true, ↓reduceIte, Bool.false_eq_true, wpS, wantedA, okDst, Nat.reduceLT, decide_true, step1, isOwnCall, hxOp, px, AS.eval, AS.get, Lift.look, Option.getD_some, AS.put, dropKey, Nat.reduceEqDiff, reduceCtorEq, isNilC, pbinP, ofConst, ofVal, pbinI, hneg, decide_false, thenQ, isB, tmpOf, asB, true_and]
      refine SW.run [] _ ?_
      simp only [wpC, mayStop, stops, isFlt, Specs.has, Specs.hasO, Bool.or_false, Specs.hasH, Bool.not_false, List.any_cons, ty3, List.any_nil, Bool.false_eq_true, ↓reduceIte, wpS, wantedA, okDst, Nat.reduceLT, decide_true, step1, isOwnCall, hxOp, px, AS.eval, AS.get, Lift.look, Nat.succ_ne_zero, Option.getD_some, AS.put, dropKey, Nat.reduceEqDiff, reduceCtorEq, pfieldAddr, fieldOf, ty55, fieldIn, List.getElem?_cons_succ, List.getElem?_cons_zero, Option.map_some, ne_eq, not_false_eq_true, Nat.zero_add, pload, hr, okOne, TK.isAgg, beq_self_eq_true, Bool.or_true, Nat.reduceAdd, List.length_cons, List.length_nil, Nat.le_refl, and_self, Lift.valOf, List.drop_succ_cons, List.drop_zero, List.take_succ_cons, List.take_nil, List.getD_cons_zero, isNilC, pbinP, ofConst, ofVal, pbinI, hw2, hx, known1, PV.cells, splice, List.take_zero, List.cons_append, List.nil_append, List.drop_nil, List.append_nil, thenQ, pindex, ty9, ty5, ty21, pconvH, pconv, w32_byte, RPost, sres, Tryd.results25, sresL, sres1, Option.some.injEq, exists_eq_left', true_and]
      refine ⟨by omega, _, .refl _ _, ?_, rfl⟩
      rw [mean, x4]
  case refine_2 =>
    rintro a ⟨D, hD, hu, hm⟩
    refine SW.enter hm.1 hm.2.1 hm.2.2 ?_
    have hD6 : D ≤ 6 := by omega
    refine SW.seq (SW.run [] _ ?_)
    simp only [wpC, Bool.false_eq_true, ↓reduceIte, wpS, stops, wantedA, okDst, Nat.reduceLT, decide_true, step1, isOwnCall, hxOp, px, AS.eval, ofConst, ofVal, thenQ, AS.put, dropKey, reduceCtorEq, Nat.reduceEqDiff, true_and]
    refine SW.seq (SW.run [] _ ?_)
    simp only [wpC, mayStop, stops, isFlt, Specs.has, Specs.hasO, Bool.or_false, Specs.hasH, Bool.not_false, List.any_cons, List.any_nil, Bool.false_eq_true, ↓reduceIte, wpS, wantedA, okDst, Nat.reduceLT, decide_true, step1, isOwnCall, hxOp, px, AS.eval, AS.get, Lift.look, Nat.reduceEqDiff, reduceCtorEq, Option.getD_some, AS.put, dropKey, ofConst, ofVal, thenQ, true_and]
    refine SW.loopK 104 (fun b : Nat × Nat => [(0, .val (.pointer (some ⟨r, 0, none⟩))), (4, .int .i64 (D : Nat)), (6, .int .i64 (b.2 : Nat)), (44, .int .i64 (D : Nat)), (45, .int .i64 (b.1 : Nat))]) (fun _ => h) (fun b => b.1 ≤ D ∧ b.2 < 16 ^ b.1 ∧ i + 2 + b.1 ≤ s.length ∧ b.2 ≤ 268435456 ∧ uesc s (i + 1) = uhex s (i + 1) (D - b.1) (i + 2 + b.1) (b.2 : Nat)) (fun b => D - b.1) (0, 0) ⟨by omega, by decide, by omega, by omega, hu⟩ ?_ ?_
    · simp only [Has, hasAll, AS.get, Lift.look, Nat.succ_ne_zero, ↓reduceIte, Option.getD_some, Nat.reduceEqDiff, reduceCtorEq, Int.cast_ofNat_Int, and_self]
    rintro ⟨j, c⟩ ⟨hj, hcp, hjl, hcb, huj⟩
    dsimp only at hj hcp hjl hcb huj ⊢
    have hwi : IntKind.i64.wrap (IntKind.i64.wrap ((i : Int) + 2) + (j : Int)) = ((i + 2 + j : Nat) : Int) := by rw [hw2, w64 (by omega) (by omega)]; omega
    by_cases hjk : j < D
    case neg =>
      obtain rfl : j = D := by omega
      rw [Nat.sub_self] at huj
      simp only [uhex] at huj
      refine SW.run [] _ ?_
      simp only [wpC, mayStop, stops, isFlt, Specs.has, Specs.hasO, Bool.or_false, Specs.hasH, Bool.not_false, List.any_cons, List.any_nil, Bool.false_eq_true, ↓reduceIte, wpS, wantedA, okDst, Nat.reduceLT, decide_true, step1, isOwnCall, hxOp, px, isNilC, pbinP, AS.eval, AS.get, Lift.look, reduceCtorEq, Nat.reduceEqDiff, Option.getD_some, pbinI, Int.ofNat_lt, hjk, decide_false, thenQ, isB, AS.put, dropKey, tmpOf, asB, inQ, true_and]
      refine SW.run [eCharacter] _ ?_
      cases hic : isC (c : Int) with
      | true =>
        rw [hic] at huj
        rw [huj]
        simp only [wpC, mayStop, stops, isFlt, Specs.has, eCharacter, Specs.hasO, Bool.or_false, Specs.hasH, List.any_cons, ↓reduceIte, Bool.not_true, List.any_nil, ty3, Bool.or_true, Bool.false_eq_true, wpS, wantedA, okDst, Nat.reduceLT, decide_true, step1, isOwnCall, hxOp, px, AS.eval, AS.get, Lift.look, Nat.reduceEqDiff, reduceCtorEq, Option.getD_some, AS.put, dropKey, pcall, okArg, ofConst, ofVal, List.all_cons, List.all_nil, Bool.and_true, Specs.at, List.map_cons, List.map_nil, sCharacter, hic, and_self, pun, thenQ, isB, tmpOf, asB, true_and]
        refine SW.run [] _ ?_
        simp only [wpC, mayStop, stops, isFlt, Specs.has, Specs.hasO, Bool.or_false, Specs.hasH, Bool.not_false, List.any_cons, ty3, List.any_nil, Bool.false_eq_true, ↓reduceIte, wpS, wantedA, okDst, Nat.reduceLT, decide_true, step1, isOwnCall, hxOp, px, AS.eval, AS.get, Lift.look, Nat.succ_ne_zero, Option.getD_some, AS.put, dropKey, Nat.reduceEqDiff, reduceCtorEq, pfieldAddr, fieldOf, ty55, fieldIn, List.getElem?_cons_succ, List.getElem?_cons_zero, Option.map_some, ne_eq, not_false_eq_true, Nat.zero_add, pload, hr, okOne, TK.isAgg, beq_self_eq_true, Bool.or_true, Nat.reduceAdd, List.length_cons, List.length_nil, Nat.le_refl, and_self, Lift.valOf, List.drop_succ_cons, List.drop_zero, List.take_succ_cons, List.take_nil, List.getD_cons_zero, isNilC, pbinP, ofConst, ofVal, pbinI, hx, known1, PV.cells, splice, List.take_zero, List.cons_append, List.nil_append, List.drop_nil, List.append_nil, thenQ, ty21, pconvH, pconv, RPost, sres, Tryd.results25, sresL, sres1, Option.some.injEq, exists_eq_left', true_and]
        have hisc := isC_iff.1 hic
        rw [w64 (n := 2 + (j : Int)) (by omega) (by omega), w64 (by omega) (by omega), w32 (by omega) (by omega)]
        rw [show (i : Int) + (2 + (j : Int)) = ((i + 2 + j : Nat) : Int) by omega]
        exact ⟨_, .refl _ _, rfl, rfl⟩
      | false =>
        rw [hic] at huj
        rw [huj]
        simp only [wpC, mayStop, stops, isFlt, Specs.has, eCharacter, Specs.hasO, Bool.or_false, Specs.hasH, List.any_cons, ↓reduceIte, Bool.not_true, List.any_nil, ty3, Bool.or_true, Bool.false_eq_true, wpS, wantedA, okDst, Nat.reduceLT, decide_true, step1, isOwnCall, hxOp, px, AS.eval, AS.get, Lift.look, Nat.reduceEqDiff, reduceCtorEq, Option.getD_some, AS.put, dropKey, pcall, okArg, ofConst, ofVal, List.all_cons, List.all_nil, Bool.and_true, Specs.at, List.map_cons, List.map_nil, sCharacter, hic, and_self, pun, Bool.not_false, thenQ, isB, tmpOf, asB, Nat.succ_ne_zero, pfieldAddr, fieldOf, ty55, fieldIn, List.getElem?_cons_succ, List.getElem?_cons_zero, Option.map_some, ne_eq, not_false_eq_true, Nat.zero_add, pload, hr, okOne, TK.isAgg, beq_self_eq_true, Nat.reduceAdd, List.length_cons, List.length_nil, Nat.le_refl, Lift.valOf, List.drop_succ_cons, List.drop_zero, List.take_succ_cons, List.take_nil, List.getD_cons_zero, isNilC, pbinP, pbinI, hw1, pbuild, ty50, pfill, placeOf, PV.cells, Nat.reduceLeDiff, ty25, splice, List.take_zero, List.nil_append, List.cons_append, List.drop_nil, List.append_nil, Option.isSome_some, okZero, Value.oneCell', known, pmakeIface, true_and]
        refine SWO.panic2 (.tmp 92) rfl rfl rfl ?_
        exact ⟨h, .refl _ _, rfl, rfl⟩
    have hpw := pow16 j (by omega)
    obtain ⟨q, hq2⟩ : ∃ q, D - j = q + 1 := ⟨D - j - 1, by omega⟩
    rw [hq2] at huj
    by_cases hjs : i + 2 + j < s.length
    case neg =>
      have hb : uesc s (i + 1) = .bad s.length 16 := by rw [huj]; simp only [uhex]; rw [if_neg hjs]
      rw [hb]
      refine SW.run [] _ ?_
      simp only [wpC, mayStop, stops, isFlt, Specs.has, Specs.hasO, Bool.or_false, Specs.hasH, Bool.not_false, List.any_cons, List.any_nil, Bool.false_eq_true, ↓reduceIte, wpS, wantedA, okDst, Nat.reduceLT, decide_true, step1, isOwnCall, hxOp, px, isNilC, pbinP, AS.eval, AS.get, Lift.look, reduceCtorEq, Nat.reduceEqDiff, Option.getD_some, pbinI, Int.ofNat_lt, hjk, thenQ, isB, AS.put, dropKey, tmpOf, asB, ty3, Bool.or_true, ty5, Nat.succ_ne_zero, pfieldAddr, fieldOf, ty55, fieldIn, List.getElem?_cons_succ, List.getElem?_cons_zero, Option.map_some, ne_eq, not_false_eq_true, Nat.zero_add, pload, hr, okOne, TK.isAgg, beq_self_eq_true, Nat.reduceAdd, List.length_cons, List.length_nil, Nat.le_refl, and_self, Lift.valOf, List.drop_succ_cons, List.drop_zero, List.take_succ_cons, List.take_nil, List.getD_cons_zero, ofConst, ofVal, hwi, Has, hasAll, and_true, true_and]
      refine SWO.call (.func 23) _ _ 23 #[] #[] rfl rfl rfl rfl rfl rfl (Byte_end s _ r (i + 2 + j) h hs hr (by omega)) rfl rfl ?_ ?_
      · rintro q h' ⟨e1, _⟩; cases e1
      · rintro c h' ⟨e1, rfl⟩
        injection e1 with e1
        subst e1
        exact ⟨h', .refl _ _, rfl, rfl⟩
    simp only [uhex] at huj
    rw [if_pos hjs] at huj
    generalize hb : s.getD (i + 2 + j) 0 = b at huj
    have hbt := b.toNat_lt
    have hdl := digS_le b
    have hld := low_dig b
    have key : ∀ d : UInt8, d = lowS b → Lib.indexByte [48, 49, 50, 51, 52, 53, 54, 55, 56, 57, 97, 98, 99, 100, 101, 102] d = digS b := fun d e => by rw [e]; exact hld
    have neg : digS b < 0 → uesc s (i + 1) = .bad (i + 2 + j) 9 := fun e => by rw [huj, if_pos e]
    have pos : ¬ digS b < 0 → uesc s (i + 1) = uhex s (i + 1) q (i + 2 + j + 1) (16 * c + digS b) := fun e => by rw [huj, if_neg e]
    have fin : ¬ digS b < 0 → ∃ b' : Nat × Nat,
        (b'.1 ≤ D ∧ b'.2 < 16 ^ b'.1 ∧ i + 2 + b'.1 ≤ s.length ∧ b'.2 ≤ 268435456 ∧ uesc s (i + 1) = uhex s (i + 1) (D - b'.1) (i + 2 + b'.1) (b'.2 : Nat)) ∧ D - b'.1 < D - j ∧
          PV.int .i64 (bitsOp .or .i64 (IntKind.i64.wrap ((c : Int) * 2 ^ min 4 IntKind.i64.bits)) (digS b)) = PV.int .i64 (b'.2 : Nat) ∧ PV.int .i64 (IntKind.i64.wrap ((j : Int) + 1)) = PV.int .i64 (b'.1 : Nat) := by
      intro hdg
      obtain ⟨d, hd⟩ : ∃ d : Nat, digS b = (d : Int) := ⟨(digS b).toNat, by omega⟩
      have e16 : 16 ^ (j + 1) = 16 ^ j * 16 := Nat.pow_succ ..
      have hpn : (16 : Nat) ^ j ≤ 16777216 := by
        have e : (((16 : Nat) ^ j : Nat) : Int) = (16 : Int) ^ j := by rw [Int.natCast_pow]; rfl
        omega
      have e2 : (c : Int) * 2 ^ min 4 IntKind.i64.bits = ((2 ^ 4 * c : Nat) : Int) := by
        rw [show min 4 IntKind.i64.bits = 4 from rfl]
        show (c : Int) * 16 = _
        omega
      refine ⟨(j + 1, 2 ^ 4 * c + d), ⟨by omega, ?_, by omega, by omega, ?_⟩, by omega, ?_, by rw [w64 (by omega) (by omega)]; rfl⟩
      · show 2 ^ 4 * c + d < 16 ^ (j + 1)
        rw [e16]; omega
      · rw [pos hdg, show D - (j + 1) = q by omega, hd]
        congr 1
      · rw [e2, w64 (by omega) (by omega), hd, or64 d 4 c (by omega) (by omega)]
    by_cases h65 : (65 : Int) ≤ b.toNat
    · by_cases h70 : (b.toNat : Int) ≤ 70
      · have k := key (u8of ((b.toNat : Int) + 32)) (by
          unfold lowS
          rw [if_pos ⟨by omega, by omega⟩]
          apply UInt8.toNat_inj.1
          have := u8of_nat ((b.toNat : Int) + 32)
          rw [UInt8.toNat_add]
          show _ = (b.toNat + 32) % 256
          omega)
        by_cases hdg : digS b < 0
        · rw [neg hdg]
          refine SW.run [eByteH, eIndexByte] _ ?_
          simp only [wpC, mayStop, stops, isFlt, Specs.has, eIndexByte, Specs.hasO, Bool.or_false, Specs.hasH, eByteH, List.any_cons, List.any_nil, Bool.false_eq_true, ↓reduceIte, wpS, wantedA, okDst, Nat.reduceLT, decide_true, step1, isOwnCall, hxOp, px, isNilC, pbinP, AS.eval, AS.get, Lift.look, reduceCtorEq, Nat.reduceEqDiff, Option.getD_some, pbinI, Int.ofNat_lt, hjk, thenQ, isB, AS.put, dropKey, tmpOf, asB, ty3, Bool.or_true, Bool.not_true, ty5, Nat.succ_ne_zero, pfieldAddr, fieldOf, ty55, fieldIn, List.getElem?_cons_succ, List.getElem?_cons_zero, Option.map_some, ne_eq, not_false_eq_true, Nat.zero_add, pload, hr, okOne, TK.isAgg, beq_self_eq_true, Nat.reduceAdd, List.length_cons, List.length_nil, Nat.le_refl, and_self, Lift.valOf, List.drop_succ_cons, List.drop_zero, List.take_succ_cons, List.take_nil, List.getD_cons_zero, ofConst, ofVal, hwi, hx, okArg, List.all_cons, List.all_nil, Bool.and_true, Specs.atH, List.map_cons, List.map_nil, sByteH, Int.natCast_nonneg, Int.toNat_natCast, hjs, and_true, true_and, hb, h65, List.getElem?_toArray, Option.bind_some, h70, ppick_bool, wrap_byte, pcall, Specs.at, sIndexByte, UInt8.ofNat_toNat, k, hdg, pbuild, ty50, pfill, placeOf, PV.cells, Nat.reduceLeDiff, ty25, splice, List.take_zero, List.nil_append, List.cons_append, List.drop_nil, List.append_nil, Option.isSome_some, okZero, Value.oneCell', known, pmakeIface, Has, hasAll]
          refine ⟨hs, ?_⟩
          refine SWO.panic2 (.tmp 77) rfl rfl rfl ?_
          exact ⟨h, .refl _ _, rfl, rfl⟩
        · refine SW.run [eByteH, eIndexByte] _ ?_
          simp only [wpC, mayStop, stops, isFlt, Specs.has, eIndexByte, Specs.hasO, Bool.or_false, Specs.hasH, eByteH, List.any_cons, List.any_nil, Bool.false_eq_true, ↓reduceIte, wpS, wantedA, okDst, Nat.reduceLT, decide_true, step1, isOwnCall, hxOp, px, isNilC, pbinP, AS.eval, AS.get, Lift.look, reduceCtorEq, Nat.reduceEqDiff, Option.getD_some, pbinI, Int.ofNat_lt, hjk, thenQ, isB, AS.put, dropKey, tmpOf, asB, ty3, Bool.or_true, Bool.not_true, ty5, Nat.succ_ne_zero, pfieldAddr, fieldOf, ty55, fieldIn, List.getElem?_cons_succ, List.getElem?_cons_zero, Option.map_some, ne_eq, not_false_eq_true, Nat.zero_add, pload, hr, okOne, TK.isAgg, beq_self_eq_true, Nat.reduceAdd, List.length_cons, List.length_nil, Nat.le_refl, and_self, Lift.valOf, List.drop_succ_cons, List.drop_zero, List.take_succ_cons, List.take_nil, List.getD_cons_zero, ofConst, ofVal, hwi, hx, okArg, List.all_cons, List.all_nil, Bool.and_true, Specs.atH, List.map_cons, List.map_nil, sByteH, Int.natCast_nonneg, Int.toNat_natCast, hjs, and_true, true_and, hb, h65, List.getElem?_toArray, Option.bind_some, h70, ppick_bool, wrap_byte, pcall, Specs.at, sIndexByte, UInt8.ofNat_toNat, k, hdg, decide_false, Has, hasAll]
          refine ⟨hs, ?_⟩
          refine SW.run [] _ ?_
          simp only [wpC, Bool.false_eq_true, ↓reduceIte, wpS, stops, wantedA, okDst, Nat.reduceLT, decide_true, step1, isOwnCall, hxOp, px, AS.eval, AS.get, Lift.look, Nat.reduceEqDiff, reduceCtorEq, Option.getD_some, AS.put, dropKey, isNilC, pbinP, ofConst, ofVal, pbinI, Int.reduceLE, Int.reduceToNat, inQ, thenQ, true_and]
          refine SW.run [] _ ?_
          simp only [wpC, Bool.false_eq_true, ↓reduceIte, wpS, stops, isFlt, ty3, wantedA, okDst, Nat.reduceLT, decide_true, step1, isOwnCall, hxOp, px, isNilC, pbinP, AS.eval, AS.get, Lift.look, Nat.reduceEqDiff, reduceCtorEq, Option.getD_some, ofConst, ofVal, pbinI, AS.put, dropKey, thenQ, Nat.succ_ne_zero, true_and]
          exact fin hdg
      · have k := key b (by unfold lowS; rw [if_neg (by omega)])
        by_cases hdg : digS b < 0
        · rw [neg hdg]
          refine SW.run [eByteH, eIndexByte] _ ?_
          simp only [wpC, mayStop, stops, isFlt, Specs.has, eIndexByte, Specs.hasO, Bool.or_false, Specs.hasH, eByteH, List.any_cons, List.any_nil, Bool.false_eq_true, ↓reduceIte, wpS, wantedA, okDst, Nat.reduceLT, decide_true, step1, isOwnCall, hxOp, px, isNilC, pbinP, AS.eval, AS.get, Lift.look, reduceCtorEq, Nat.reduceEqDiff, Option.getD_some, pbinI, Int.ofNat_lt, hjk, thenQ, isB, AS.put, dropKey, tmpOf, asB, ty3, Bool.or_true, Bool.not_true, ty5, Nat.succ_ne_zero, pfieldAddr, fieldOf, ty55, fieldIn, List.getElem?_cons_succ, List.getElem?_cons_zero, Option.map_some, ne_eq, not_false_eq_true, Nat.zero_add, pload, hr, okOne, TK.isAgg, beq_self_eq_true, Nat.reduceAdd, List.length_cons, List.length_nil, Nat.le_refl, and_self, Lift.valOf, List.drop_succ_cons, List.drop_zero, List.take_succ_cons, List.take_nil, List.getD_cons_zero, ofConst, ofVal, hwi, hx, okArg, List.all_cons, List.all_nil, Bool.and_true, Specs.atH, List.map_cons, List.map_nil, sByteH, Int.natCast_nonneg, Int.toNat_natCast, hjs, and_true, true_and, hb, h65, List.getElem?_toArray, Option.bind_some, h70, decide_false, ppick_bool, pcall, Specs.at, sIndexByte, UInt8.ofNat_toNat, k, hdg, pbuild, ty50, pfill, placeOf, PV.cells, Nat.reduceLeDiff, ty25, splice, List.take_zero, List.nil_append, List.cons_append, List.drop_nil, List.append_nil, Option.isSome_some, okZero, Value.oneCell', known, pmakeIface, Has, hasAll]
          refine ⟨hs, ?_⟩
          refine SWO.panic2 (.tmp 77) rfl rfl rfl ?_
          exact ⟨h, .refl _ _, rfl, rfl⟩
        · refine SW.run [eByteH, eIndexByte] _ ?_
          simp only [wpC, mayStop, stops, isFlt, Specs.has, eIndexByte, Specs.hasO, Bool.or_false, Specs.hasH, eByteH, List.any_cons, List.any_nil, Bool.false_eq_true, ↓reduceIte, wpS, wantedA, okDst, Nat.reduceLT, decide_true, step1, isOwnCall, hxOp, px, isNilC, pbinP, AS.eval, AS.get, Lift.look, reduceCtorEq, Nat.reduceEqDiff, Option.getD_some, pbinI, Int.ofNat_lt, hjk, thenQ, isB, AS.put, dropKey, tmpOf, asB, ty3, Bool.or_true, Bool.not_true, ty5, Nat.succ_ne_zero, pfieldAddr, fieldOf, ty55, fieldIn, List.getElem?_cons_succ, List.getElem?_cons_zero, Option.map_some, ne_eq, not_false_eq_true, Nat.zero_add, pload, hr, okOne, TK.isAgg, beq_self_eq_true, Nat.reduceAdd, List.length_cons, List.length_nil, Nat.le_refl, and_self, Lift.valOf, List.drop_succ_cons, List.drop_zero, List.take_succ_cons, List.take_nil, List.getD_cons_zero, ofConst, ofVal, hwi, hx, okArg, List.all_cons, List.all_nil, Bool.and_true, Specs.atH, List.map_cons, List.map_nil, sByteH, Int.natCast_nonneg, Int.toNat_natCast, hjs, and_true, true_and, hb, h65, List.getElem?_toArray, Option.bind_some, h70, decide_false, ppick_bool, pcall, Specs.at, sIndexByte, UInt8.ofNat_toNat, k, hdg, Has, hasAll]
          refine ⟨hs, ?_⟩
          refine SW.run [] _ ?_
          simp only [wpC, Bool.false_eq_true, ↓reduceIte, wpS, stops, wantedA, okDst, Nat.reduceLT, decide_true, step1, isOwnCall, hxOp, px, AS.eval, AS.get, Lift.look, Nat.reduceEqDiff, reduceCtorEq, Option.getD_some, AS.put, dropKey, isNilC, pbinP, ofConst, ofVal, pbinI, Int.reduceLE, Int.reduceToNat, inQ, thenQ, true_and]
          refine SW.run [] _ ?_
          simp only [wpC, Bool.false_eq_true, ↓reduceIte, wpS, stops, isFlt, ty3, wantedA, okDst, Nat.reduceLT, decide_true, step1, isOwnCall, hxOp, px, isNilC, pbinP, AS.eval, AS.get, Lift.look, Nat.reduceEqDiff, reduceCtorEq, Option.getD_some, ofConst, ofVal, pbinI, AS.put, dropKey, thenQ, Nat.succ_ne_zero, true_and]
          exact fin hdg
    · have k := key b (by unfold lowS; rw [if_neg (by omega)])
      by_cases hdg : digS b < 0
      · rw [neg hdg]
        refine SW.run [eByteH, eIndexByte] _ ?_
        simp only [wpC, mayStop, stops, isFlt, Specs.has, eIndexByte, Specs.hasO, Bool.or_false, Specs.hasH, eByteH, List.any_cons, List.any_nil, Bool.false_eq_true, ↓reduceIte, wpS, wantedA, okDst, Nat.reduceLT, decide_true, step1, isOwnCall, hxOp, px, isNilC, pbinP, AS.eval, AS.get, Lift.look, reduceCtorEq, Nat.reduceEqDiff, Option.getD_some, pbinI, Int.ofNat_lt, hjk, thenQ, isB, AS.put, dropKey, tmpOf, asB, ty3, Bool.or_true, Bool.not_true, ty5, Nat.succ_ne_zero, pfieldAddr, fieldOf, ty55, fieldIn, List.getElem?_cons_succ, List.getElem?_cons_zero, Option.map_some, ne_eq, not_false_eq_true, Nat.zero_add, pload, hr, okOne, TK.isAgg, beq_self_eq_true, Nat.reduceAdd, List.length_cons, List.length_nil, Nat.le_refl, and_self, Lift.valOf, List.drop_succ_cons, List.drop_zero, List.take_succ_cons, List.take_nil, List.getD_cons_zero, ofConst, ofVal, hwi, hx, okArg, List.all_cons, List.all_nil, Bool.and_true, Specs.atH, List.map_cons, List.map_nil, sByteH, Int.natCast_nonneg, Int.toNat_natCast, hjs, and_true, true_and, hb, h65, decide_false, List.getElem?_toArray, Option.bind_some, beq_ft, Option.some.injEq, ppick_false, pcall, Specs.at, sIndexByte, UInt8.ofNat_toNat, k, hdg, pbuild, ty50, pfill, placeOf, PV.cells, Nat.reduceLeDiff, ty25, splice, List.take_zero, List.nil_append, List.cons_append, List.drop_nil, List.append_nil, Option.isSome_some, okZero, Value.oneCell', known, pmakeIface, Has, hasAll]
        refine ⟨hs, ?_⟩
        refine SWO.panic2 (.tmp 77) rfl rfl rfl ?_
        exact ⟨h, .refl _ _, rfl, rfl⟩
      · refine SW.run [eByteH, eIndexByte] _ ?_
        simp only [wpC, mayStop, stops, isFlt, Specs.has, eIndexByte, Specs.hasO, Bool.or_false, Specs.hasH, eByteH, List.any_cons, List.any_nil, Bool.false_eq_true, ↓reduceIte, wpS, wantedA, okDst, Nat.reduceLT, decide_true, step1, isOwnCall, hxOp, px, isNilC, pbinP, AS.eval, AS.get, Lift.look, reduceCtorEq, Nat.reduceEqDiff, Option.getD_some, pbinI, Int.ofNat_lt, hjk, thenQ, isB, AS.put, dropKey, tmpOf, asB, ty3, Bool.or_true, Bool.not_true, ty5, Nat.succ_ne_zero, pfieldAddr, fieldOf, ty55, fieldIn, List.getElem?_cons_succ, List.getElem?_cons_zero, Option.map_some, ne_eq, not_false_eq_true, Nat.zero_add, pload, hr, okOne, TK.isAgg, beq_self_eq_true, Nat.reduceAdd, List.length_cons, List.length_nil, Nat.le_refl, and_self, Lift.valOf, List.drop_succ_cons, List.drop_zero, List.take_succ_cons, List.take_nil, List.getD_cons_zero, ofConst, ofVal, hwi, hx, okArg, List.all_cons, List.all_nil, Bool.and_true, Specs.atH, List.map_cons, List.map_nil, sByteH, Int.natCast_nonneg, Int.toNat_natCast, hjs, and_true, true_and, hb, h65, decide_false, List.getElem?_toArray, Option.bind_some, beq_ft, Option.some.injEq, ppick_false, pcall, Specs.at, sIndexByte, UInt8.ofNat_toNat, k, hdg, Has, hasAll]
        refine ⟨hs, ?_⟩
        refine SW.run [] _ ?_
        simp only [wpC, Bool.false_eq_true, ↓reduceIte, wpS, stops, wantedA, okDst, Nat.reduceLT, decide_true, step1, isOwnCall, hxOp, px, AS.eval, AS.get, Lift.look, Nat.reduceEqDiff, reduceCtorEq, Option.getD_some, AS.put, dropKey, isNilC, pbinP, ofConst, ofVal, pbinI, Int.reduceLE, Int.reduceToNat, inQ, thenQ, true_and]
        refine SW.run [] _ ?_
        simp only [wpC, Bool.false_eq_true, ↓reduceIte, wpS, stops, isFlt, ty3, wantedA, okDst, Nat.reduceLT, decide_true, step1, isOwnCall, hxOp, px, isNilC, pbinP, AS.eval, AS.get, Lift.look, Nat.reduceEqDiff, reduceCtorEq, Option.getD_some, ofConst, ofVal, pbinI, AS.put, dropKey, thenQ, Nat.succ_ne_zero, true_and]
        exact fin hdg
end Go.Proofs.YthlibdhjcjangaaDoor
