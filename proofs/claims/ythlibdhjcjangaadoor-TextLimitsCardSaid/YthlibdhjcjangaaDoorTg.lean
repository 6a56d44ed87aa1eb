/- Contracts of functions that the law reaches. -/
import Derived.Test.YthlibdhjcjangaaDoorTf
set_option linter.unusedSimpArgs false
set_option linter.unusedVariables false
namespace Go.Proofs.YthlibdhjcjangaaDoor
open Go Go.RowKit Go.Proofs.YthlibdhjcjangaaDoor Go.Proofs.YthlibdhjcjangaaDoor.Lift
set_option maxRecDepth 100000

theorem u8of_cast {z : Int} {n : Nat} (h : z = (n : Int)) : u8of z = UInt8.ofNat n := by
  apply UInt8.toNat_inj.1
  have := u8of_nat z
  rw [UInt8.toNat_ofNat']
  omega
set_option maxRecDepth 1000000 in
/-- The model's encoding is the reference's. -/
theorem enc_law (c : Int) (hc : isC c = true) : encL c = encR c := by
  have h := isC_iff.1 hc
  obtain ⟨n, rfl⟩ : ∃ n : Nat, c = (n : Int) := ⟨c.toNat, by omega⟩
  have hv : Utf8.valid (n : Int) = true := by
    unfold Utf8.valid
    simp only [Bool.or_eq_true, Bool.and_eq_true, decide_eq_true_eq]
    omega
  unfold encL Utf8.encode encR
  rw [if_pos hv, Int.toNat_natCast]
  dsimp only
  by_cases h1 : n < 128
  · rw [if_pos h1, if_pos (by omega), u8of_cast rfl]
  · by_cases h2 : n < 2048
    · rw [if_neg h1, if_pos h2, if_neg (by omega), if_pos (by omega), Int.tdiv_eq_ediv_of_nonneg (by omega), Int.tmod_eq_emod_of_nonneg (by omega), u8of_cast (n := 0xC0 + n / 64) (by omega), u8of_cast (n := 0x80 + n % 64) (by omega)]
    · by_cases h3 : n < 65536
      · rw [if_neg h1, if_neg h2, if_pos h3, if_neg (by omega), if_neg (by omega), if_pos (by omega), Int.tdiv_eq_ediv_of_nonneg (a := (n : Int)) (by omega), Int.tdiv_eq_ediv_of_nonneg (a := (n : Int)) (by omega), Int.tmod_eq_emod_of_nonneg (by omega), Int.tmod_eq_emod_of_nonneg (by omega), u8of_cast (n := 0xE0 + n / 4096) (by omega), u8of_cast (n := 0x80 + n / 64 % 64) (by omega), u8of_cast (n := 0x80 + n % 64) (by omega)]
      · rw [if_neg h1, if_neg h2, if_neg h3, if_neg (by omega), if_neg (by omega), if_neg (by omega), Int.tdiv_eq_ediv_of_nonneg (a := (n : Int)) (by omega), Int.tdiv_eq_ediv_of_nonneg (a := (n : Int)) (by omega), Int.tdiv_eq_ediv_of_nonneg (a := (n : Int)) (by omega), Int.tmod_eq_emod_of_nonneg (by omega), Int.tmod_eq_emod_of_nonneg (by omega), Int.tmod_eq_emod_of_nonneg (by omega), u8of_cast (n := 0xF0 + n / 262144) (by omega), u8of_cast (n := 0x80 + n / 4096 % 64) (by omega), u8of_cast (n := 0x80 + n / 64 % 64) (by omega), u8of_cast (n := 0x80 + n % 64) (by omega)]
theorem enc_all (ns : List Int) (hv : okChars ns) : ns.flatMap encL = ns.flatMap encR := by
  induction ns with
  | nil => rfl
  | cons c ns ih =>
    rw [List.flatMap_cons, List.flatMap_cons, enc_law c (hv c (List.mem_cons_self ..)), ih (fun x hx => hv x (List.mem_cons_of_mem _ hx))]
theorem packL_le (ns : List Int) : (packL ns).length ≤ 4 * ns.length := by
  unfold packL
  split
  · rw [flat_len be4 4 be4_len]; omega
  · simp; omega
/-! acheronlaw01.is, at a string that is packed -/
def sIsS : List PV → Prop × PV
  | [.agg [.str l, .bool w], .list 1 xs] => match unI xs with
    | some ns => (okChars ns ∧ ns.length ≤ 100000000 ∧ l = packL ns ∧ w = anyWide ns, .bool true)
    | none => PBad
  | _ => PBad
theorem okC_rng {ns : List Int} (hv : okChars ns) : ∀ c ∈ ns, 0 ≤ c ∧ c ≤ 2147483647 := fun c hc => by
  have := isC_iff.1 (hv c hc); omega
set_option maxRecDepth 100000 in
theorem IsS_ok (ns : List Int) (h : Heap) (hv : okChars ns) (hn : ns.length ≤ 100000000) : SCalls env 8 [.agg [.str (packL ns), .bool (anyWide ns)], .list 1 (elI ns)] h (Ret (.bool true) h) := by
  refine SCalls.body Tryd.func8 rfl rfl (by simp [Tryd.ntmps8]) ?_
  have h1 : (packL ns).length ≤ 1000000000 := by have := packL_le ns; omega
  have h2 : ns.length ≤ 1000000000 := by omega
  refine SW.run [eLen, eText, eTextR, eWide, eWideR] _ ?_
  simp only [wpC, mayStop, stops, isFlt, Specs.has, eLen, eText, eTextR, eWide, eWideR, Specs.hasO, Bool.or_false, Specs.hasH, List.any_cons, List.any_nil, Bool.false_eq_true, ↓reduceIte, wpS, wantedA, okDst, Tryd.ntmps8, Nat.reduceLT, decide_true, step1, known1, AS.eval, AS.get, enumA, Nat.zero_add, Lift.look, Option.getD_some, AS.put, dropKey, reduceCtorEq, Nat.reduceEqDiff, isOwnCall, hxOp, px, ofConst, ofVal, thenQ, Bool.not_true, PV.cells, List.length_cons, List.length_nil, Nat.reduceAdd, pload, ty24, Heap.get_put, okOne, TK.isAgg, Nat.reduceBEq, Nat.le_refl, and_self, Lift.valOf, List.drop_zero, List.take_succ_cons, List.take_nil, pcall, okArg, List.all_cons, List.all_nil, Bool.and_true, Specs.at, List.map_cons, List.map_nil, sLen, h1, packL_len, ty28, plen, elI_len, okLen, isNilC, pbinP, pbinI, beq_self_eq_true, List.getElem?_toArray, List.getElem?_cons_succ, List.getElem?_cons_zero, Option.bind_some, sText, packed_chars ns hv, enc_all ns hv, sTextR, unI_elI, h2, true_and, pbinS, ppick_bool, sWide, sWideR, pflt, peq, ty4, peqK, RPost, sres, Tryd.results8, sresL, sres1, Option.some.injEq, Ret_fin, exists_eq_left']
  intro r hr
  exact ⟨okC_rng hv, HTo.put (.refl _ _) hr _⟩
noncomputable def eIsS : SpecE env := ⟨8, sIsS, fun args h hc => by
  unfold sIsS at hc ⊢
  split at hc
  · rename_i l w xs
    split at hc
    · rename_i ns hns
      obtain ⟨h1, h2, rfl, rfl⟩ := hc
      rw [unI_spec hns]
      exact .inl (IsS_ok ns h h1 h2)
    · exact hc.elim
  · exact hc.elim⟩
end Go.Proofs.YthlibdhjcjangaaDoor
