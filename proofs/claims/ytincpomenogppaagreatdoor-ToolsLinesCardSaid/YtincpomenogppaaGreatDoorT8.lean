/- Contracts of functions that the law reaches. -/
import Derived.Test.YtincpomenogppaaGreatDoorT6
import Derived.Lib.Bytealg
set_option linter.unusedSimpArgs false
set_option linter.unusedVariables false
namespace Go.Proofs.YtincpomenogppaaGreatDoor
open Go Go.RowKit Go.Proofs.YtincpomenogppaaGreatDoor Go.Proofs.YtincpomenogppaaGreatDoor.Lift
set_option maxRecDepth 100000

theorem width_pos (s : ByteArray) (pos : Nat) : 1 ≤ (Utf8.decode s pos).2 := by
  unfold Utf8.decode
  dsimp only
  repeat' split
  all_goals simp
theorem ofNat_u8 (b : UInt8) : ((b.toNat : Int)).toNat.toUInt8 = b := by simp
theorem countString_ok (l : List UInt8) (c : UInt8) (h : Heap) : XCalls env 114 [.str l, .int .u8 c.toNat] h (.int .i64 (l.count c : Nat)) := by
  intro w I G vs g r
  obtain ⟨u, us, rfl, h1, u2, us2, rfl, h2, h3⟩ := r
  have h3 : us2 = [] := h3
  subst h3
  have h1 : u = .string ⟨l.toArray⟩ := h1
  have h2 : u2 = .int .u8 c.toNat := h2
  subst h1; subst h2
  refine ⟨_, ?_, rfl⟩
  refine (run_callFunc_extern (P := env.P) Tryz.func114 (by kernel_rfl) (by kernel_rfl) (by kernel_rfl) (e := Extern.BytealgCount.count) (by kernel_rfl) _ _).trans ?_
  rw [show ([Value.string ⟨l.toArray⟩, .int .u8 c.toNat] : List Value).toArray = #[.string ⟨l.toArray⟩, .int .u8 c.toNat] from rfl, Lib.run_countString]
  simp only [Result.andThen_ok, Lib.countByte, ofNat_u8]
def sCountString : List PV → Prop × PV
  | [.str l, .int .u8 n] => (0 ≤ n ∧ n < 256, .int .i64 (l.count (UInt8.ofNat n.toNat) : Nat))
  | _ => PBad
noncomputable def eCountString : SpecE env := ⟨114, sCountString, fun args h hc => by
  unfold sCountString at hc ⊢
  split at hc
  · rename_i l n
    have e : n = ((UInt8.ofNat n.toNat).toNat : Int) := by
      rw [UInt8.toNat_ofNat']; have := hc.1; have := hc.2; omega
    have := countString_ok l (UInt8.ofNat n.toNat) h
    rw [← e] at this
    exact .inr this
  · exact hc.elim⟩
def sCount : List PV → Prop × PV
  | [.str l, .str [c]] => (True, .int .i64 (l.count c : Nat))
  | _ => PBad
theorem Count_ok (l : List UInt8) (c : UInt8) (h : Heap) : SCalls env 71 [.str l, .str [c]] h (Ret (.int .i64 (l.count c : Nat)) h) := by
  refine SCalls.body Tryz.func71 rfl rfl (by simp [Tryz.ntmps71]) (SW.run [eCountString] _ ?_)
  simp only [wpC, mayStop, stops, isFlt, Specs.has, eCountString, Specs.hasO, Bool.or_false, Specs.hasH, List.any_cons, List.any_nil, Bool.false_eq_true, ↓reduceIte, wpS, wantedA, okDst, Tryz.ntmps71, Nat.reduceLT, decide_true, step1, isOwnCall, hxOp, px, AS.eval, ofConst, ofVal, thenQ, Nat.reduceEqDiff, Bool.not_false, ty3, Bool.or_true, AS.put, enumA, Nat.zero_add, dropKey, reduceCtorEq, AS.get, Lift.look, Option.getD_some, pcall, ty9, plen, List.length_cons, List.length_nil, okLen, and_self, Int.cast_ofNat_Int, isNilC, pbinP, pbinI, Int.reduceBEq, isB, tmpOf, asB, Tryz.results71, true_and]
  refine SW.run [eCountString] _ ?_
  simp only [wpC, mayStop, stops, isFlt, Specs.has, eCountString, Specs.hasO, Bool.or_false, Specs.hasH, List.any_cons, List.any_nil, ↓reduceIte, Bool.not_true, Bool.false_eq_true, wpS, wantedA, okDst, Nat.reduceLT, decide_true, step1, isOwnCall, hxOp, px, AS.eval, AS.get, Lift.look, Nat.reduceEqDiff, reduceCtorEq, Option.getD_some, AS.put, dropKey, pcall, ty9, plen, List.length_cons, List.length_nil, Nat.zero_add, okLen, and_self, Int.cast_ofNat_Int, isNilC, pbinP, ofConst, ofVal, pbinI, beq_self_eq_true, thenQ, isB, tmpOf, asB, Nat.succ_ne_zero, pindex, Int.reduceLE, Int.reduceToNat, List.getD_cons_zero, okArg, List.all_cons, List.all_nil, Bool.and_true, Specs.at, List.map_cons, List.map_nil, sCountString, Int.natCast_nonneg, byte_lt_T, Int.toNat_natCast, UInt8.ofNat_toNat, RPost, sres, sresL, sres1, Option.some.injEq, Ret_fin, HTo_self, and_true, exists_eq_left']
noncomputable def eCount : SpecE env := ⟨71, sCount, fun args h hc => by
  unfold sCount at hc ⊢
  split at hc
  · rename_i l c; exact .inl (Count_ok l c h)
  · exact hc.elim⟩
def sRuneCount : List PV → Prop × PV
  | [.str l] => (l.length ≤ 1000000000, .int .i64 (runesOf l).length)
  | _ => PBad
theorem RuneCount_ok (l : List UInt8) (h : Heap) (hl : l.length ≤ 1000000000) : SCalls env 113 [.str l] h (Ret (.int .i64 (runesOf l).length) h) := by
  refine SCalls.body Tryz.func113 rfl rfl (by simp [Tryz.ntmps113]) ?_
  refine SW.seq (SW.run [] _ ?_)
  simp only [wpC, Bool.false_eq_true, ↓reduceIte, wpS, stops, wantedA, okDst, Tryz.ntmps113, Nat.reduceLT, decide_true, step1, isOwnCall, hxOp, px, AS.eval, ofConst, ofVal, thenQ, AS.put, enumA, dropKey, reduceCtorEq, true_and]
  refine SW.seq (SW.seq (SW.run [] _ ?_))
  simp only [wpC, Bool.false_eq_true, ↓reduceIte, wpS, stops, wantedA, okDst, Nat.reduceLT, decide_true, step1, isOwnCall, hxOp, px, AS.eval, AS.get, Lift.look, Nat.succ_ne_zero, Option.getD_some, AS.put, dropKey, Nat.reduceEqDiff, reduceCtorEq, true_and]
  refine SWO.range_str 9 (.tmp 3) rfl ty9 rfl rfl rfl rfl fun r hr => ?_
  refine SWO.run [] 1000 ?_
  simp only [wpS, thenQ, AS.put, dropKey, Nat.reduceEqDiff, ↓reduceIte, reduceCtorEq]
  refine SW.block (SW.loopK 10 (fun b : Nat × Nat × Nat => [(2, .int .i64 b.1), (4, .val (.pointer (some ⟨r, 0, none⟩)))]) (fun b => h.put r (.iter l b.2.1)) (fun b => l.length ≤ b.2.1 + b.2.2 ∧ b.1 + (runesAt ⟨l.toArray⟩ b.2.2 b.2.1).length = (runesOf l).length) (fun b => b.2.2) (0, 0, l.length) ⟨by simp, by simp [runesOf]⟩ ?_ ?_)
  · simp only [Has, hasAll, AS.get, Lift.look, Nat.reduceEqDiff, ↓reduceIte, Option.getD_some, Int.cast_ofNat_Int, and_self]
  rintro ⟨c, pos, n⟩ ⟨h1, h2⟩
  have h1 : l.length ≤ pos + n := h1
  have h2 : c + (runesAt ⟨l.toArray⟩ n pos).length = (runesOf l).length := h2
  have hrl := runesOf_len l
  refine SW.seq (SW.run [] _ ?_)
  simp only [wpC, Bool.false_eq_true, ↓reduceIte, wpS, stops, Has, hasAll, AS.get, and_true]
  by_cases hlt : pos < l.length
  · refine SWO.next_more (.tmp 4) rfl rfl (Heap.put_same _ _ _) hlt rfl rfl ?_
    refine SWO.run [] 1000 ?_
    simp only [wpS, stops, Bool.false_eq_true, ↓reduceIte, wantedA, okDst, AS.put, dropKey, Nat.reduceEqDiff, Nat.reduceLT, decide_true, step1, isOwnCall, hxOp, px, AS.eval, AS.get, Lift.look, Option.getD_some, List.getElem?_cons_zero, thenQ, true_and]
    refine SW.run [] _ ?_
    simp only [wpC, mayStop, Bool.or_false, Bool.false_eq_true, ↓reduceIte, isB, AS.get, Lift.look, tmpOf, Option.getD_some, asB, thenQ, wpS, stops, wantedA, okDst, Nat.reduceLT, decide_true, step1, isOwnCall, hxOp, px, AS.eval, Nat.reduceEqDiff, isFlt, ty3, AS.put, dropKey, isNilC, pbinP, ofConst, ofVal, pbinI, inQ, and_true, true_and]
    have hn : n ≠ 0 := by omega
    obtain ⟨m, rfl⟩ := Nat.exists_eq_succ_of_ne_zero hn
    have hw : 1 ≤ (decAt l pos).2 := width_pos _ _
    have hr1 : runesAt ⟨l.toArray⟩ (m + 1) pos = (decAt l pos).1 :: runesAt ⟨l.toArray⟩ m (pos + (decAt l pos).2) := by
      rw [runesAt, if_pos (by rw [size_mk]; exact hlt)]
      rfl
    have h2 : c + (runesAt ⟨l.toArray⟩ (m + 1) pos).length = (runesOf l).length := h2
    rw [hr1, List.length_cons] at h2
    have h1 : l.length ≤ pos + (m + 1) := h1
    refine ⟨(c + 1, pos + (decAt l pos).2, m), ⟨by dsimp only; omega, by dsimp only; omega⟩, by dsimp only; omega, ?_, ?_⟩
    · rw [Heap.put_put]
    · rw [w64 (by omega) (by omega)]; rfl
  · refine SWO.next_end (.tmp 4) rfl rfl (Heap.put_same _ _ _) hlt rfl rfl ?_
    refine SWO.run [] 1000 ?_
    simp only [wpS, stops, Bool.false_eq_true, ↓reduceIte, wantedA, okDst, AS.put, dropKey, Nat.reduceEqDiff, Nat.reduceLT, decide_true, step1, isOwnCall, hxOp, px, AS.eval, AS.get, Lift.look, Option.getD_some, List.getElem?_cons_zero, thenQ, true_and]
    refine SW.run [] _ ?_
    simp only [wpC, mayStop, Bool.or_false, Bool.false_eq_true, ↓reduceIte, isB, AS.get, Lift.look, tmpOf, Option.getD_some, asB, thenQ, inQ, true_and]
    refine SW.run [] _ ?_
    simp only [wpC, mayStop, stops, isFlt, Specs.has, Specs.hasO, Bool.or_false, Specs.hasH, Bool.not_false, List.any_cons, List.any_nil, Bool.false_eq_true, ↓reduceIte, wpS, wantedA, okDst, Nat.reduceLT, decide_true, step1, isOwnCall, hxOp, px, AS.eval, AS.get, Lift.look, Nat.reduceEqDiff, Option.getD_some, AS.put, dropKey, thenQ, RPost, sres, Tryz.results113, sresL, sres1, Option.some.injEq, Ret_fin, exists_eq_left', true_and]
    have h3 : (runesAt ⟨l.toArray⟩ n pos).length = 0 := by
      cases n with
      | zero => rfl
      | succ n => rw [runesAt, if_neg (by rw [size_mk]; exact hlt)]; rfl
    have h2 : c + (runesAt ⟨l.toArray⟩ n pos).length = (runesOf l).length := h2
    exact ⟨by rw [← h2, h3]; rfl, HTo.put (.refl _ _) hr _⟩
noncomputable def eRuneCount : SpecE env := ⟨113, sRuneCount, fun args h hc => by
  unfold sRuneCount at hc ⊢
  split at hc
  · rename_i l; exact .inl (RuneCount_ok l h hc)
  · exact hc.elim⟩
def lastN (l : List UInt8) (c : UInt8) : Nat → Int
  | 0 => -1
  | n + 1 => if l.getD n 0 = c then n else lastN l c n
theorem byte_eq (a b : UInt8) : (((a.toNat : Nat) : Int) == ((b.toNat : Nat) : Int)) = decide (a = b) := by
  rw [Bool.eq_iff_iff, beq_iff_eq, decide_eq_true_eq]
  constructor
  · intro h; exact UInt8.toNat_inj.1 (by omega)
  · intro h; rw [h]
def sLast : List PV → Prop × PV
  | [.str l, .int .u8 n] => (l.length ≤ 1000000000 ∧ 0 ≤ n ∧ n < 256, .int .i64 (lastN l (UInt8.ofNat n.toNat) l.length))
  | _ => PBad
def colOf (l : List UInt8) : Nat := (runesOf (l.drop (lastN l 10 l.length + 1).toNat)).length
def placeS (s : List UInt8) (at_ : Int) : PV :=
  if at_ < 0 ∨ (s.length : Int) < at_ then .tuple [.int .i64 0, .int .i64 0, .int .i64 11]
  else .tuple [.int .i64 (1 + ((s.take at_.toNat).count 10 : Nat)), .int .i64 (1 + (colOf (s.take at_.toNat) : Nat)), .int .i64 0]
def sPlace : List PV → Prop × PV
  | [.str s, .int .i64 n] => (s.length ≤ 1000000000, placeS s n)
  | _ => PBad
end Go.Proofs.YtincpomenogppaaGreatDoor
