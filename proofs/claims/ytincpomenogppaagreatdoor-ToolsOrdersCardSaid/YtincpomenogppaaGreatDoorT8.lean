/- Contracts of functions that the law reaches. -/
import Derived.Test.YtincpomenogppaaGreatDoorT2
import Derived.Lib.Bytealg
set_option linter.unusedSimpArgs false
set_option linter.unusedVariables false
namespace Go.Proofs.YtincpomenogppaaGreatDoor
open Go Go.RowKit Go.Proofs.YtincpomenogppaaGreatDoor Go.Proofs.YtincpomenogppaaGreatDoor.Lift
set_option maxRecDepth 100000

theorem ofNat_u8 (b : UInt8) : ((b.toNat : Int)).toNat.toUInt8 = b := by simp
theorem countString_ok (l : List UInt8) (c : UInt8) (h : Heap) : XCalls env 114 [.str l, .int .u8 c.toNat] h (.int .i64 (l.count c : Nat)) := by
  intro w I G vs g r
  obtain ⟨u, us, rfl, h1, u2, us2, rfl, h2, h3⟩ := r
  have h3 : us2 = [] := h3
  subst h3
  have h1 : u = .string ⟨l.toArray⟩ := h1
  have h2 : u2 = .int .u8 c.toNat := h2
  subst h1; subst h2
  refine ⟨_, ?_, rfl⟩
  refine (run_callFunc_extern (P := env.P) Tryz.func114 (by kernel_rfl) (by kernel_rfl) (by kernel_rfl) (e := Extern.BytealgCount.count) (by kernel_rfl) _ _).trans ?_
  rw [show ([Value.string ⟨l.toArray⟩, .int .u8 c.toNat] : List Value).toArray = #[.string ⟨l.toArray⟩, .int .u8 c.toNat] from rfl, Lib.run_countString]
  simp only [Result.andThen_ok, Lib.countByte, ofNat_u8]
def sCountString : List PV → Prop × PV
  | [.str l, .int .u8 n] => (0 ≤ n ∧ n < 256, .int .i64 (l.count (UInt8.ofNat n.toNat) : Nat))
  | _ => PBad
noncomputable def eCountString : SpecE env := ⟨114, sCountString, fun args h hc => by
  unfold sCountString at hc ⊢
  split at hc
  · rename_i l n
    have e : n = ((UInt8.ofNat n.toNat).toNat : Int) := by
      rw [UInt8.toNat_ofNat']; have := hc.1; have := hc.2; omega
    have := countString_ok l (UInt8.ofNat n.toNat) h
    rw [← e] at this
    exact .inr this
  · exact hc.elim⟩
def sCount : List PV → Prop × PV
  | [.str l, .str [c]] => (True, .int .i64 (l.count c : Nat))
  | _ => PBad
theorem Count_ok (l : List UInt8) (c : UInt8) (h : Heap) : SCalls env 71 [.str l, .str [c]] h (Ret (.int .i64 (l.count c : Nat)) h) := by
  refine SCalls.body Tryz.func71 rfl rfl (by simp [Tryz.ntmps71]) (SW.run [eCountString] _ ?_)
  simp only [wpC, mayStop, stops, isFlt, Specs.has, eCountString, Specs.hasO, Bool.or_false, Specs.hasH, List.any_cons, List.any_nil, Bool.false_eq_true, ↓reduceIte, wpS, wantedA, okDst, Tryz.ntmps71, Nat.reduceLT, decide_true, step1, isOwnCall, hxOp, px, AS.eval, ofConst, ofVal, thenQ, Nat.reduceEqDiff, Bool.not_false, ty3, Bool.or_true, AS.put, enumA, Nat.zero_add, dropKey, reduceCtorEq, AS.get, Lift.look, Option.getD_some, pcall, ty9, plen, List.length_cons, List.length_nil, okLen, and_self, Int.cast_ofNat_Int, isNilC, pbinP, pbinI, Int.reduceBEq, isB, tmpOf, asB, Tryz.results71, true_and]
  refine SW.run [eCountString] _ ?_
  simp only [wpC, mayStop, stops, isFlt, Specs.has, eCountString, Specs.hasO, Bool.or_false, Specs.hasH, List.any_cons, List.any_nil, ↓reduceIte, Bool.not_true, Bool.false_eq_true, wpS, wantedA, okDst, Nat.reduceLT, decide_true, step1, isOwnCall, hxOp, px, AS.eval, AS.get, Lift.look, Nat.reduceEqDiff, reduceCtorEq, Option.getD_some, AS.put, dropKey, pcall, ty9, plen, List.length_cons, List.length_nil, Nat.zero_add, okLen, and_self, Int.cast_ofNat_Int, isNilC, pbinP, ofConst, ofVal, pbinI, beq_self_eq_true, thenQ, isB, tmpOf, asB, Nat.succ_ne_zero, pindex, Int.reduceLE, Int.reduceToNat, List.getD_cons_zero, okArg, List.all_cons, List.all_nil, Bool.and_true, Specs.at, List.map_cons, List.map_nil, sCountString, Int.natCast_nonneg, byte_lt_T, Int.toNat_natCast, UInt8.ofNat_toNat, RPost, sres, sresL, sres1, Option.some.injEq, Ret_fin, HTo_self, and_true, exists_eq_left']
noncomputable def eCount : SpecE env := ⟨71, sCount, fun args h hc => by
  unfold sCount at hc ⊢
  split at hc
  · rename_i l c; exact .inl (Count_ok l c h)
  · exact hc.elim⟩
end Go.Proofs.YtincpomenogppaaGreatDoor
