/- Contracts of functions that the law reaches. -/
import Derived.Test.YthlibdhjcjangaaDoorT7
import Derived.Lib.Bytealg
set_option linter.unusedSimpArgs false
set_option linter.unusedVariables false
namespace Go.Proofs.YthlibdhjcjangaaDoor
open Go Go.RowKit Go.Proofs.YthlibdhjcjangaaDoor Go.Proofs.YthlibdhjcjangaaDoor.Lift
set_option maxRecDepth 100000

theorem width_pos (s : ByteArray) (pos : Nat) : 1 ≤ (Utf8.decode s pos).2 := by
  unfold Utf8.decode
  dsimp only
  repeat' split
  all_goals simp
theorem ofNat_u8 (b : UInt8) : ((b.toNat : Int)).toNat.toUInt8 = b := by simp
/-! internal/bytealg.CountString, strings.Count with one byte -/
theorem countString_ok (l : List UInt8) (c : UInt8) (h : Heap) : XCalls env 54 [.str l, .int .u8 c.toNat] h (.int .i64 (l.count c : Nat)) := by
  intro w I G vs g r
  obtain ⟨u, us, rfl, h1, u2, us2, rfl, h2, h3⟩ := r
  have h3 : us2 = [] := h3
  subst h3
  have h1 : u = .string ⟨l.toArray⟩ := h1
  have h2 : u2 = .int .u8 c.toNat := h2
  subst h1; subst h2
  refine ⟨_, ?_, rfl⟩
  refine (run_callFunc_extern (P := env.P) Tryd.func54 (by kernel_rfl) (by kernel_rfl) (by kernel_rfl) (e := Extern.BytealgCount.count) (by kernel_rfl) _ _).trans ?_
  rw [show ([Value.string ⟨l.toArray⟩, .int .u8 c.toNat] : List Value).toArray = #[.string ⟨l.toArray⟩, .int .u8 c.toNat] from rfl, Lib.run_countString]
  simp only [Result.andThen_ok, Lib.countByte, ofNat_u8]
def sCountString : List PV → Prop × PV
  | [.str l, .int .u8 n] => (0 ≤ n ∧ n < 256, .int .i64 (l.count (UInt8.ofNat n.toNat) : Nat))
  | _ => PBad
noncomputable def eCountString : SpecE env := ⟨54, sCountString, fun args h hc => by
  unfold sCountString at hc ⊢
  split at hc
  · rename_i l n
    have e : n = ((UInt8.ofNat n.toNat).toNat : Int) := by
      rw [UInt8.toNat_ofNat']; have := hc.1; have := hc.2; omega
    have := countString_ok l (UInt8.ofNat n.toNat) h
    rw [← e] at this
    exact .inr this
  · exact hc.elim⟩
def sCount : List PV → Prop × PV
  | [.str l, .str [c]] => (True, .int .i64 (l.count c : Nat))
  | _ => PBad
theorem Count_ok (l : List UInt8) (c : UInt8) (h : Heap) : SCalls env 41 [.str l, .str [c]] h (Ret (.int .i64 (l.count c : Nat)) h) := by
  refine SCalls.body Tryd.func41 rfl rfl (by simp [Tryd.ntmps41]) (SW.run [eCountString] _ ?_)
  simp only [wpC, mayStop, stops, isFlt, Specs.has, eCountString, Specs.hasO, Bool.or_false, Specs.hasH, List.any_cons, List.any_nil, Bool.false_eq_true, ↓reduceIte, wpS, wantedA, okDst, Tryd.ntmps41, Nat.reduceLT, decide_true, step1, isOwnCall, hxOp, px, AS.eval, ofConst, ofVal, thenQ, Nat.reduceEqDiff, Bool.not_false, ty3, Bool.or_true, AS.put, enumA, Nat.zero_add, dropKey, reduceCtorEq, AS.get, Lift.look, Option.getD_some, pcall, ty9, plen, List.length_cons, List.length_nil, okLen, and_self, Int.cast_ofNat_Int, isNilC, pbinP, pbinI, Int.reduceBEq, isB, tmpOf, asB, Tryd.results41, true_and]
  refine SW.run [eCountString] _ ?_
  simp only [wpC, mayStop, stops, isFlt, Specs.has, eCountString, Specs.hasO, Bool.or_false, Specs.hasH, List.any_cons, List.any_nil, ↓reduceIte, Bool.not_true, Bool.false_eq_true, wpS, wantedA, okDst, Nat.reduceLT, decide_true, step1, isOwnCall, hxOp, px, AS.eval, AS.get, Lift.look, Nat.reduceEqDiff, reduceCtorEq, Option.getD_some, AS.put, dropKey, pcall, ty9, plen, List.length_cons, List.length_nil, Nat.zero_add, okLen, and_self, Int.cast_ofNat_Int, isNilC, pbinP, ofConst, ofVal, pbinI, beq_self_eq_true, thenQ, isB, tmpOf, asB, Nat.succ_ne_zero, pindex, Int.reduceLE, Int.reduceToNat, List.getD_cons_zero, okArg, List.all_cons, List.all_nil, Bool.and_true, Specs.at, List.map_cons, List.map_nil, sCountString, Int.natCast_nonneg, byte_lt_T, Int.toNat_natCast, UInt8.ofNat_toNat, RPost, sres, sresL, sres1, Option.some.injEq, Ret_fin, HTo_self, and_true, exists_eq_left']
noncomputable def eCount : SpecE env := ⟨41, sCount, fun args h hc => by
  unfold sCount at hc ⊢
  split at hc
  · rename_i l c; exact .inl (Count_ok l c h)
  · exact hc.elim⟩
/-! utf8.RuneCountInString -/
def sRuneCount : List PV → Prop × PV
  | [.str l] => (l.length ≤ 1000000000, .int .i64 (runesOf l).length)
  | _ => PBad
theorem RuneCount_ok (l : List UInt8) (h : Heap) (hl : l.length ≤ 1000000000) : SCalls env 42 [.str l] h (Ret (.int .i64 (runesOf l).length) h) := by
  refine SCalls.body Tryd.func42 rfl rfl (by simp [Tryd.ntmps42]) ?_
  refine SW.seq (SW.run [] _ ?_)
  simp only [wpC, Bool.false_eq_true, ↓reduceIte, wpS, stops, wantedA, okDst, Tryd.ntmps42, Nat.reduceLT, decide_true, step1, isOwnCall, hxOp, px, AS.eval, ofConst, ofVal, thenQ, AS.put, enumA, dropKey, reduceCtorEq, true_and]
  refine SW.seq (SW.seq (SW.run [] _ ?_))
  simp only [wpC, Bool.false_eq_true, ↓reduceIte, wpS, stops, wantedA, okDst, Nat.reduceLT, decide_true, step1, isOwnCall, hxOp, px, AS.eval, AS.get, Lift.look, Nat.succ_ne_zero, Option.getD_some, AS.put, dropKey, Nat.reduceEqDiff, reduceCtorEq, true_and]
  refine SWO.range_str 9 (.tmp 3) rfl ty9 rfl rfl rfl rfl fun r hr => ?_
  refine SWO.run [] 1000 ?_
  simp only [wpS, thenQ, AS.put, dropKey, Nat.reduceEqDiff, ↓reduceIte, reduceCtorEq]
  refine SW.block (SW.loopK 10 (fun b : Nat × Nat × Nat => [(2, .int .i64 b.1), (4, .val (.pointer (some ⟨r, 0, none⟩)))]) (fun b => h.put r (.iter l b.2.1)) (fun b => l.length ≤ b.2.1 + b.2.2 ∧ b.1 + (runesAt ⟨l.toArray⟩ b.2.2 b.2.1).length = (runesOf l).length) (fun b => b.2.2) (0, 0, l.length) ⟨by simp, by simp [runesOf]⟩ ?_ ?_)
  · simp only [Has, hasAll, AS.get, Lift.look, Nat.reduceEqDiff, ↓reduceIte, Option.getD_some, Int.cast_ofNat_Int, and_self]
  rintro ⟨c, pos, n⟩ ⟨h1, h2⟩
  have h1 : l.length ≤ pos + n := h1
  have h2 : c + (runesAt ⟨l.toArray⟩ n pos).length = (runesOf l).length := h2
  have hrl := runesOf_len l
  refine SW.seq (SW.run [] _ ?_)
  simp only [wpC, Bool.false_eq_true, ↓reduceIte, wpS, stops, Has, hasAll, AS.get, and_true]
  by_cases hlt : pos < l.length
  · refine SWO.next_more (.tmp 4) rfl rfl (Heap.put_same _ _ _) hlt rfl rfl ?_
    refine SWO.run [] 1000 ?_
    simp only [wpS, stops, Bool.false_eq_true, ↓reduceIte, wantedA, okDst, AS.put, dropKey, Nat.reduceEqDiff, Nat.reduceLT, decide_true, step1, isOwnCall, hxOp, px, AS.eval, AS.get, Lift.look, Option.getD_some, List.getElem?_cons_zero, thenQ, true_and]
    refine SW.run [] _ ?_
    simp only [wpC, mayStop, Bool.or_false, Bool.false_eq_true, ↓reduceIte, isB, AS.get, Lift.look, tmpOf, Option.getD_some, asB, thenQ, wpS, stops, wantedA, okDst, Nat.reduceLT, decide_true, step1, isOwnCall, hxOp, px, AS.eval, Nat.reduceEqDiff, isFlt, ty3, AS.put, dropKey, isNilC, pbinP, ofConst, ofVal, pbinI, inQ, and_true, true_and]
    have hn : n ≠ 0 := by omega
    obtain ⟨m, rfl⟩ := Nat.exists_eq_succ_of_ne_zero hn
    have hw : 1 ≤ (decAt l pos).2 := width_pos _ _
    have hr1 : runesAt ⟨l.toArray⟩ (m + 1) pos = (decAt l pos).1 :: runesAt ⟨l.toArray⟩ m (pos + (decAt l pos).2) := by
      rw [runesAt, if_pos (by rw [size_mk]; exact hlt)]
      rfl
    have h2 : c + (runesAt ⟨l.toArray⟩ (m + 1) pos).length = (runesOf l).length := h2
    rw [hr1, List.length_cons] at h2
    have h1 : l.length ≤ pos + (m + 1) := h1
    refine ⟨(c + 1, pos + (decAt l pos).2, m), ⟨by dsimp only; omega, by dsimp only; omega⟩, by dsimp only; omega, ?_, ?_⟩
    · rw [Heap.put_put]
    · rw [w64 (by omega) (by omega)]; rfl
  · refine SWO.next_end (.tmp 4) rfl rfl (Heap.put_same _ _ _) hlt rfl rfl ?_
    refine SWO.run [] 1000 ?_
    simp only [wpS, stops, Bool.false_eq_true, ↓reduceIte, wantedA, okDst, AS.put, dropKey, Nat.reduceEqDiff, Nat.reduceLT, decide_true, step1, isOwnCall, hxOp, px, AS.eval, AS.get, Lift.look, Option.getD_some, List.getElem?_cons_zero, thenQ, true_and]
    refine SW.run [] _ ?_
    simp only [wpC, mayStop, Bool.or_false, Bool.false_eq_true, ↓reduceIte, isB, AS.get, Lift.look, tmpOf, Option.getD_some, asB, thenQ, inQ, true_and]
    refine SW.run [] _ ?_
    simp only [wpC, mayStop, stops, isFlt, Specs.has, Specs.hasO, Bool.or_false, Specs.hasH, Bool.not_false, List.any_cons, List.any_nil, Bool.false_eq_true, ↓reduceIte, wpS, wantedA, okDst, Nat.reduceLT, decide_true, step1, isOwnCall, hxOp, px, AS.eval, AS.get, Lift.look, Nat.reduceEqDiff, Option.getD_some, AS.put, dropKey, thenQ, RPost, sres, Tryd.results42, sresL, sres1, Option.some.injEq, Ret_fin, exists_eq_left', true_and]
    have h3 : (runesAt ⟨l.toArray⟩ n pos).length = 0 := by
      cases n with
      | zero => rfl
      | succ n => rw [runesAt, if_neg (by rw [size_mk]; exact hlt)]; rfl
    have h2 : c + (runesAt ⟨l.toArray⟩ n pos).length = (runesOf l).length := h2
    exact ⟨by rw [← h2, h3]; rfl, HTo.put (.refl _ _) hr _⟩
noncomputable def eRuneCount : SpecE env := ⟨42, sRuneCount, fun args h hc => by
  unfold sRuneCount at hc ⊢
  split at hc
  · rename_i l; exact .inl (RuneCount_ok l h hc)
  · exact hc.elim⟩
/-! The last place of a byte -/
def lastN (l : List UInt8) (c : UInt8) : Nat → Int
  | 0 => -1
  | n + 1 => if l.getD n 0 = c then n else lastN l c n
theorem lastN_lt (l : List UInt8) (c : UInt8) : ∀ n, -1 ≤ lastN l c n ∧ lastN l c n < n
  | 0 => by simp [lastN]
  | n + 1 => by
    have := lastN_lt l c n
    unfold lastN
    split <;> omega
theorem byte_eq (a b : UInt8) : (((a.toNat : Nat) : Int) == ((b.toNat : Nat) : Int)) = decide (a = b) := by
  rw [Bool.eq_iff_iff, beq_iff_eq, decide_eq_true_eq]
  constructor
  · intro h; exact UInt8.toNat_inj.1 (by omega)
  · intro h; rw [h]
def sLast : List PV → Prop × PV
  | [.str l, .int .u8 n] => (l.length ≤ 1000000000 ∧ 0 ≤ n ∧ n < 256, .int .i64 (lastN l (UInt8.ofNat n.toNat) l.length))
  | _ => PBad
theorem LastString_ok (l : List UInt8) (c : UInt8) (h : Heap) (hl : l.length ≤ 1000000000) : SCalls env 56 [.str l, .int .u8 c.toNat] h (Ret (.int .i64 (lastN l c l.length)) h) := by
  refine SCalls.body Tryd.func56 rfl rfl (by simp [Tryd.ntmps56]) ?_
  refine SW.seq (SW.run [] _ ?_)
  simp only [wpC, Bool.false_eq_true, ↓reduceIte, wpS, stops, wantedA, okDst, Tryd.ntmps56, Nat.reduceLT, decide_true, step1, isOwnCall, hxOp, px, AS.eval, ofConst, ofVal, thenQ, AS.put, enumA, Nat.zero_add, dropKey, reduceCtorEq, Nat.reduceEqDiff, true_and]
  refine SW.seq (SW.seq (SW.run [] _ ?_))
  simp only [wpC, Bool.false_eq_true, ↓reduceIte, wpS, stops, wantedA, okDst, Nat.reduceLT, decide_true, step1, isOwnCall, hxOp, px, AS.eval, AS.get, Lift.look, Nat.succ_ne_zero, Option.getD_some, AS.put, dropKey, Nat.reduceEqDiff, reduceCtorEq, pcall, ty9, plen, okLen, and_self, isFlt, ty3, isNilC, pbinP, ofConst, ofVal, pbinI, thenQ, true_and]
  refine SW.block (SW.loopK 19 (fun k : Nat => [(0, .str l), (1, .int .u8 c.toNat), (5, .int .i64 ((k : Int) - 1))]) (fun _ => h) (fun k => k ≤ l.length ∧ lastN l c l.length = lastN l c k) (fun k => k) l.length ⟨Nat.le_refl _, rfl⟩ ?_ ?_)
  · simp only [Has, hasAll, AS.get, Lift.look, Nat.succ_ne_zero, ↓reduceIte, Option.getD_some, Nat.reduceEqDiff, reduceCtorEq, and_true, true_and]
    rw [w64 (by omega) (by omega)]
  rintro k ⟨h1, h2⟩
  refine SW.run [] _ ?_
  cases k with
  | zero =>
    simp only [wpC, mayStop, stops, isFlt, Specs.has, Specs.hasO, Bool.or_false, Specs.hasH, Bool.not_false, List.any_cons, List.any_nil, Bool.false_eq_true, ↓reduceIte, wpS, wantedA, okDst, Nat.reduceLT, decide_true, step1, isOwnCall, hxOp, px, AS.eval, AS.get, Lift.look, reduceCtorEq, Nat.reduceEqDiff, Int.cast_ofNat_Int, Int.reduceSub, Option.getD_some, AS.put, dropKey, isNilC, pbinP, ofConst, ofVal, pbinI, Int.reduceLE, decide_false, thenQ, isB, tmpOf, asB, inQ, true_and]
    refine SW.run [] _ ?_
    simp only [wpC, mayStop, stops, isFlt, Specs.has, Specs.hasO, Bool.or_false, Specs.hasH, Bool.not_false, List.any_cons, List.any_nil, Bool.false_eq_true, ↓reduceIte, wpS, wantedA, okDst, Nat.reduceLT, decide_true, step1, isOwnCall, hxOp, px, AS.eval, ofConst, ofVal, thenQ, RPost, sres, AS.put, dropKey, Nat.reduceEqDiff, reduceCtorEq, Tryd.results56, sresL, sres1, AS.get, Lift.look, Option.getD_some, Option.some.injEq, h2, lastN, Ret_fin, HTo_self, and_true, exists_eq_left', and_self]
  | succ k =>
    have e1 : ((k + 1 : Nat) : Int) - 1 = k := by omega
    have e2 : (0 : Int) ≤ k := by omega
    by_cases hc : l.getD k 0 = c
    · simp only [wpC, mayStop, stops, isFlt, Specs.has, Specs.hasO, Bool.or_false, Specs.hasH, Bool.not_false, List.any_cons, List.any_nil, Bool.false_eq_true, ↓reduceIte, wpS, wantedA, okDst, Nat.reduceLT, decide_true, step1, isOwnCall, hxOp, px, AS.eval, AS.get, Lift.look, reduceCtorEq, Nat.reduceEqDiff, e1, Option.getD_some, AS.put, dropKey, isNilC, pbinP, ofConst, ofVal, pbinI, e2, thenQ, isB, tmpOf, asB, Nat.succ_ne_zero, pindex, ty9, Int.toNat_natCast, true_and, hc, beq_self_eq_true, inQ, RPost, sres, Tryd.results56, sresL, sres1, Option.some.injEq, Ret_fin, HTo_self, and_true, exists_eq_left']
      refine ⟨h1, ?_⟩
      rw [h2, lastN, if_pos hc]
    · simp only [wpC, mayStop, stops, isFlt, Specs.has, Specs.hasO, Bool.or_false, Specs.hasH, Bool.not_false, List.any_cons, List.any_nil, Bool.false_eq_true, ↓reduceIte, wpS, wantedA, okDst, Nat.reduceLT, decide_true, step1, isOwnCall, hxOp, px, AS.eval, AS.get, Lift.look, reduceCtorEq, Nat.reduceEqDiff, e1, Option.getD_some, AS.put, dropKey, isNilC, pbinP, ofConst, ofVal, pbinI, e2, thenQ, isB, tmpOf, asB, Nat.succ_ne_zero, pindex, ty9, Int.toNat_natCast, true_and, byte_eq, hc, decide_false, inQ, ty3, Has, hasAll, and_true]
      refine ⟨h1, k, ⟨by omega, ?_⟩, by omega, ?_⟩
      · rw [h2, lastN, if_neg hc]
      · rw [w64 (by omega) (by omega)]
noncomputable def eLastString : SpecE env := ⟨56, sLast, fun args h hc => by
  unfold sLast at hc ⊢
  split at hc
  · rename_i l n
    have e : n = ((UInt8.ofNat n.toNat).toNat : Int) := by
      rw [UInt8.toNat_ofNat']; have := hc.2.1; have := hc.2.2; omega
    have := LastString_ok l (UInt8.ofNat n.toNat) h hc.1
    rw [← e] at this
    exact .inl this
  · exact hc.elim⟩
theorem Last_ok (l : List UInt8) (n : Int) (h : Heap) (hl : l.length ≤ 1000000000) (h0 : 0 ≤ n) (h1 : n < 256) : SCalls env 43 [.str l, .int .u8 n] h (Ret (.int .i64 (lastN l (UInt8.ofNat n.toNat) l.length)) h) := by
  refine SCalls.body Tryd.func43 rfl rfl (by simp [Tryd.ntmps43]) (SW.run [eLastString] _ ?_)
  simp only [wpC, mayStop, stops, isFlt, Specs.has, eLastString, Specs.hasO, Bool.or_false, Specs.hasH, List.any_cons, List.any_nil, Bool.false_eq_true, ↓reduceIte, wpS, wantedA, okDst, Tryd.ntmps43, Nat.reduceLT, decide_true, step1, isOwnCall, hxOp, px, AS.eval, ofConst, ofVal, thenQ, Bool.not_true, AS.put, enumA, Nat.zero_add, dropKey, reduceCtorEq, Nat.reduceEqDiff, AS.get, Lift.look, Nat.succ_ne_zero, Option.getD_some, pcall, okArg, List.all_cons, List.all_nil, Bool.and_true, Specs.at, List.map_cons, List.map_nil, sLast, hl, h0, h1, and_self, RPost, sres, Tryd.results43, sresL, sres1, Option.some.injEq, Ret_fin, HTo_self, and_true, exists_eq_left']
noncomputable def eLast : SpecE env := ⟨43, sLast, fun args h hc => by
  unfold sLast at hc ⊢
  split at hc
  · rename_i l n; exact .inl (Last_ok l n h hc.1 hc.2.1 hc.2.2)
  · exact hc.elim⟩
/-! text.Place -/
def colOf (l : List UInt8) : Nat := (runesOf (l.drop (lastN l 10 l.length + 1).toNat)).length
def placeS (s : List UInt8) (at_ : Int) : PV :=
  if at_ < 0 ∨ (s.length : Int) < at_ then .tuple [.int .i64 0, .int .i64 0, .int .i64 11]
  else .tuple [.int .i64 (1 + ((s.take at_.toNat).count 10 : Nat)), .int .i64 (1 + (colOf (s.take at_.toNat) : Nat)), .int .i64 0]
def sPlace : List PV → Prop × PV
  | [.str s, .int .i64 n] => (s.length ≤ 1000000000, placeS s n)
  | _ => PBad
theorem Place_ok (s : List UInt8) (n : Int) (h : Heap) (hs : s.length ≤ 1000000000) : SCalls env 20 [.str s, .int .i64 n] h (Ret (placeS s n) h) := by
  refine SCalls.body Tryd.func20 rfl rfl (by simp [Tryd.ntmps20]) (SW.run [eCount, eLast, eRuneCount] _ ?_)
  by_cases h0 : n < 0
  · simp only [wpC, mayStop, stops, isFlt, Specs.has, eCount, eLast, eRuneCount, Specs.hasO, Bool.or_false, Specs.hasH, List.any_cons, List.any_nil, Bool.false_eq_true, ↓reduceIte, wpS, wantedA, okDst, Tryd.ntmps20, Nat.reduceLT, decide_true, step1, isOwnCall, hxOp, px, AS.eval, ofConst, ofVal, AS.put, enumA, Nat.zero_add, dropKey, reduceCtorEq, Nat.reduceEqDiff, thenQ, AS.get, Lift.look, Option.getD_some, isNilC, pbinP, pbinI, h0, List.getElem?_toArray, List.getElem?_cons_succ, List.getElem?_cons_zero, Option.bind_some, beq_tf, Option.some.injEq, ppick_true, isB, tmpOf, asB, RPost, sres, Tryd.results20, sresL, sres1, placeS, true_or, Ret_fin, HTo_self, and_true, exists_eq_left', and_self]
  · by_cases h1 : (s.length : Int) < n
    · simp only [wpC, mayStop, stops, isFlt, Specs.has, eCount, eLast, eRuneCount, Specs.hasO, Bool.or_false, Specs.hasH, List.any_cons, List.any_nil, Bool.false_eq_true, ↓reduceIte, wpS, wantedA, okDst, Tryd.ntmps20, Nat.reduceLT, decide_true, step1, isOwnCall, hxOp, px, AS.eval, ofConst, ofVal, AS.put, enumA, Nat.zero_add, dropKey, reduceCtorEq, Nat.reduceEqDiff, thenQ, AS.get, Lift.look, Option.getD_some, isNilC, pbinP, pbinI, h0, decide_false, List.getElem?_toArray, List.getElem?_cons_succ, List.getElem?_cons_zero, Option.bind_some, beq_self_eq_true, Nat.succ_ne_zero, pcall, ty9, plen, okLen, and_self, h1, ppick_bool, isB, tmpOf, asB, RPost, sres, Tryd.results20, sresL, sres1, Option.some.injEq, placeS, or_true, Ret_fin, HTo_self, and_true, exists_eq_left']
    · simp only [wpC, mayStop, stops, isFlt, Specs.has, eCount, eLast, eRuneCount, Specs.hasO, Bool.or_false, Specs.hasH, List.any_cons, List.any_nil, Bool.false_eq_true, ↓reduceIte, wpS, wantedA, okDst, Tryd.ntmps20, Nat.reduceLT, decide_true, step1, isOwnCall, hxOp, px, AS.eval, ofConst, ofVal, AS.put, enumA, Nat.zero_add, dropKey, reduceCtorEq, Nat.reduceEqDiff, thenQ, AS.get, Lift.look, Option.getD_some, isNilC, pbinP, pbinI, h0, decide_false, List.getElem?_toArray, List.getElem?_cons_succ, List.getElem?_cons_zero, Option.bind_some, beq_self_eq_true, Nat.succ_ne_zero, pcall, ty9, plen, okLen, and_self, h1, ppick_bool, isB, tmpOf, asB, pslice, pB, Int.cast_ofNat_Int, Int.reduceLE, true_and, Int.reduceToNat, List.drop_zero, Bool.not_true, ty3, okArg, List.all_cons, List.all_nil, Bool.and_true, Specs.at, List.map_cons, List.map_nil, sCount, sLast, List.length_take, Int.reduceLT, and_true, Int.toNat_natCast, sRuneCount, List.length_drop, RPost, sres, Tryd.results20, sresL, sres1, Option.some.injEq, placeS, or_self, Ret_fin, HTo_self, exists_eq_left']
      have hp : min n.toNat s.length = (s.take n.toNat).length := by rw [List.length_take]
      have hc : (s.take n.toNat).count 10 ≤ (s.take n.toNat).length := List.count_le_length
      have hr : colOf (s.take n.toNat) ≤ (s.take n.toNat).length := by
        unfold colOf
        have := runesOf_len ((s.take n.toNat).drop (lastN (s.take n.toNat) 10 (s.take n.toNat).length + 1).toNat)
        rw [List.length_drop] at this
        omega
      have hlen : (s.take n.toNat).length ≤ s.length := by rw [List.length_take]; omega
      rw [hp]
      generalize s.take n.toNat = q at *
      have hl := lastN_lt q 10 q.length
      have e10 : UInt8.ofNat 10 = 10 := rfl
      rw [e10, w64 (n := lastN q 10 q.length + 1) (by omega) (by omega), List.take_length, w64 (by omega) (by omega)]
      unfold colOf at hr ⊢
      rw [w64 (by omega) (by omega)]
      exact ⟨⟨by omega, by omega⟩, by omega, ⟨by omega, by omega, by omega⟩, by omega, rfl⟩
noncomputable def ePlace : SpecE env := ⟨20, sPlace, fun args h hc => by
  unfold sPlace at hc ⊢
  split at hc
  · rename_i s n; exact .inl (Place_ok s n h hc)
  · exact hc.elim⟩
end Go.Proofs.YthlibdhjcjangaaDoor
