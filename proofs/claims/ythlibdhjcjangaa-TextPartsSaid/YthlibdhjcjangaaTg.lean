/- Contracts of functions that the law reaches. -/
import Derived.Test.YthlibdhjcjangaaTf
set_option linter.unusedSimpArgs false
set_option linter.unusedVariables false
namespace Go.Proofs.Ythlibdhjcjangaa
open Go Go.RowKit Go.Proofs.Ythlibdhjcjangaa Go.Proofs.Ythlibdhjcjangaa.Lift

theorem u8of_cast {z : Int} {n : Nat} (h : z = (n : Int)) : u8of z = UInt8.ofNat n := by
  apply UInt8.toNat_inj.1
  have := u8of_nat z
  rw [UInt8.toNat_ofNat']
  omega
set_option maxRecDepth 1000000 in
/-- The model's encoding is the reference's. -/
theorem enc_law (c : Int) (hc : isC c = true) : encL c = encR c := by
  have h := isC_iff.1 hc
  obtain ⟨n, rfl⟩ : ∃ n : Nat, c = (n : Int) := ⟨c.toNat, by omega⟩
  have hv : Utf8.valid (n : Int) = true := by
    unfold Utf8.valid
    simp only [Bool.or_eq_true, Bool.and_eq_true, decide_eq_true_eq]
    omega
  unfold encL Utf8.encode encR
  rw [if_pos hv, Int.toNat_natCast]
  dsimp only
  by_cases h1 : n < 128
  · rw [if_pos h1, if_pos (by omega), u8of_cast rfl]
  · by_cases h2 : n < 2048
    · rw [if_neg h1, if_pos h2, if_neg (by omega), if_pos (by omega), Int.tdiv_eq_ediv_of_nonneg (by omega), Int.tmod_eq_emod_of_nonneg (by omega), u8of_cast (n := 0xC0 + n / 64) (by omega), u8of_cast (n := 0x80 + n % 64) (by omega)]
    · by_cases h3 : n < 65536
      · rw [if_neg h1, if_neg h2, if_pos h3, if_neg (by omega), if_neg (by omega), if_pos (by omega), Int.tdiv_eq_ediv_of_nonneg (a := (n : Int)) (by omega), Int.tdiv_eq_ediv_of_nonneg (a := (n : Int)) (by omega), Int.tmod_eq_emod_of_nonneg (by omega), Int.tmod_eq_emod_of_nonneg (by omega), u8of_cast (n := 0xE0 + n / 4096) (by omega), u8of_cast (n := 0x80 + n / 64 % 64) (by omega), u8of_cast (n := 0x80 + n % 64) (by omega)]
      · rw [if_neg h1, if_neg h2, if_neg h3, if_neg (by omega), if_neg (by omega), if_neg (by omega), Int.tdiv_eq_ediv_of_nonneg (a := (n : Int)) (by omega), Int.tdiv_eq_ediv_of_nonneg (a := (n : Int)) (by omega), Int.tdiv_eq_ediv_of_nonneg (a := (n : Int)) (by omega), Int.tmod_eq_emod_of_nonneg (by omega), Int.tmod_eq_emod_of_nonneg (by omega), Int.tmod_eq_emod_of_nonneg (by omega), u8of_cast (n := 0xF0 + n / 262144) (by omega), u8of_cast (n := 0x80 + n / 4096 % 64) (by omega), u8of_cast (n := 0x80 + n / 64 % 64) (by omega), u8of_cast (n := 0x80 + n % 64) (by omega)]
theorem enc_all (ns : List Int) (hv : okChars ns) : ns.flatMap encL = ns.flatMap encR := by
  induction ns with
  | nil => rfl
  | cons c ns ih =>
    rw [List.flatMap_cons, List.flatMap_cons, enc_law c (hv c (List.mem_cons_self ..)), ih (fun x hx => hv x (List.mem_cons_of_mem _ hx))]
theorem packL_le (ns : List Int) : (packL ns).length ≤ 4 * ns.length := by
  unfold packL
  split
  · rw [flat_len be4 4 be4_len]; omega
  · simp; omega
/-! acheronlaw01.is, at a string that is packed -/
def sIsS : List PV → Prop × PV
  | [.agg [.str l, .bool w], .list 1 xs] => match unI xs with
    | some ns => (okChars ns ∧ ns.length ≤ 100000000 ∧ l = packL ns ∧ w = anyWide ns, .bool true)
    | none => PBad
  | _ => PBad
theorem okC_rng {ns : List Int} (hv : okChars ns) : ∀ c ∈ ns, 0 ≤ c ∧ c ≤ 2147483647 := fun c hc => by
  have := isC_iff.1 (hv c hc); omega
set_option maxRecDepth 100000 in
theorem IsS_ok (ns : List Int) (h : Heap) (hv : okChars ns) (hn : ns.length ≤ 100000000) : SCalls env 11 [.agg [.str (packL ns), .bool (anyWide ns)], .list 1 (elI ns)] h (Ret (.bool true) h) := by
  refine SCalls.body Try.func11 rfl rfl (by simp [Try.ntmps11]) ?_
  have h1 : (packL ns).length ≤ 1000000000 := by have := packL_le ns; omega
  have h2 : ns.length ≤ 1000000000 := by omega
  refine SW.run [eLen, eText, eTextR, eWide, eWideR] _ ?_
  simp only [wpC, mayStop, List.any_cons, List.any_nil, wpS, isB, asB, tmpOf, zeroOf, okAlloc, hxOp, Lift.hx, hxUS, HBad, pconvH, psame, stops, step1, wantedA, thenQ, inQ, px, pfieldAddr, pfield, pload, pindexAddr, pindex, pB, pslice, chunk, pbuild, pbuildSlice, pfill, placeOf, Lift.splice, known, unV, unVs, pmakeIface, pcall, plen, okLen, okOne, Lift.valOf, fieldOf, fieldIn, TK.isAgg, pbinP, pbinI, pbinS, pun, peq, peqK, pconv, unB, unR, unBs, enumA, AS.eval, AS.get, AS.put, dropKey, Lift.look, okDst, known1, PV.cells, ofConst, ofVal, okArg, okZero, Value.oneCell', Specs.has, Specs.at, PBad, ppick_bool, ppick_true, ppick_false, RPost, sres, sresL, sres1, Ret_fin, Has, hasAll, wrap_byte, w64_byte, w32_byte, byte_lt_T, UInt8.ofNat_toNat, LOp, wpO, wpOL, HTo_self, List.length_take, List.length_drop, Heap.get_put, some_none, cast0, cast1, Int.cast_ofNat_Int, Int.reduceBEq, Int.reduceBNe, Int.reduceEq, Int.reduceNe, Int.reduceAdd, Int.reduceSub, Int.reduceMul, beq_tf, beq_ft, Nat.reduceEqDiff, Nat.reduceLT, Nat.reduceLeDiff, Nat.reduceAdd, Nat.reduceMul, Nat.reduceSub, Nat.reduceBEq, ↓reduceIte, Option.getD_some, Option.getD_none, Option.map_some, Option.map_none, Option.bind_some, List.map_cons, List.map_nil, List.length_cons, List.length_nil, List.drop_zero, List.drop_succ_cons, List.drop_nil, List.take_zero, List.take_succ_cons, List.take_nil, List.getD_cons_zero, List.getD_cons_succ, List.append_nil, List.nil_append, List.cons_append, List.all_cons, List.all_nil, List.getElem?_cons_zero, List.getElem?_cons_succ, List.getElem?_toArray, List.getElem?_nil, List.replicate, List.flatten_cons, List.flatten_nil, Option.isSome_some, Option.isNone_some, Option.isNone_none, true_and, and_true, and_self, or_false, false_or, or_true, true_or, or_self, false_and, and_false, Bool.true_and, Bool.and_true, Bool.or_false, Bool.false_or, Bool.true_or, Bool.or_true, Bool.true_eq_false, Bool.false_eq_true, Bool.not_true, Bool.not_false, beq_self_eq_true, decide_true, decide_false, decide_eq_true_eq, decide_eq_false_iff_not, Option.some.injEq, exists_eq_left', ne_eq, Nat.succ_ne_zero, not_false_eq_true, not_true_eq_false, forall_const, implies_true, true_implies, false_implies, reduceCtorEq, Nat.zero_le, Nat.le_refl, Nat.zero_add, Nat.add_zero, Int.toNat_natCast, Int.reduceLE, Int.reduceLT, Int.reduceToNat, Int.natCast_nonneg, ty1, ty2, ty3, ty4, ty5, ty6, ty7, ty8, ty9, ty10, ty11, ty12, ty13, ty14, ty15, ty16, ty17, ty18, ty19, ty20, ty21, ty22, ty23, ty24, ty25, ty27, ty28, ty29, ty30, ty32, ty33, ty35, ty37, ty38, ty39, ty40, ty41, ty42, ty43, ty44, ty45, ty46, ty47, ty48, ty49, ty50, ty51, ty52, ty53, ty54, ty55, ty56, ty57, ty58, ty59, ty60, ty61, ty62, ty63, ty64, ty65, ty66, ty67, ty68, ty69, ty70, ty72, ty73, ty74, ty75, ty76, ty77, ty78, ty79, ty80, ty81, ty82, ty83, ty85, ty86, ty87, ty88, ty89, ty90, ty91, ty92, ty93, ty94, ty95, ty96, ty97, Try.ntmps11, Try.results11, eLen, sLen, eText, sText, eTextR, sTextR, eWide, sWide, eWideR, sWideR, unI_elI, elI_len, h1, h2, packL_len, packed_chars ns hv, enc_all ns hv]
  intro r hr
  exact ⟨okC_rng hv, HTo.put (.refl _ _) hr _⟩
noncomputable def eIsS : SpecE env := ⟨11, sIsS, fun args h hc => by
  unfold sIsS at hc ⊢
  split at hc
  · rename_i l w xs
    split at hc
    · rename_i ns hns
      obtain ⟨h1, h2, rfl, rfl⟩ := hc
      rw [unI_spec hns]
      exact .inl (IsS_ok ns h h1 h2)
    · exact hc.elim
  · exact hc.elim⟩
end Go.Proofs.Ythlibdhjcjangaa
