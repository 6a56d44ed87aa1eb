/- Contracts of functions that the law reaches. -/
import Derived.Test.YtincpomenogppaaGreatDoorX3
import Derived.Test.YtincpomenogppaaGreatDoorLiftH
import Derived.Test.YtincpomenogppaaGreatDoorShelf
import Derived.Lib.AtoiAll
import Derived.Lib.Atoi
import Derived.Lib.AtoiAllCases
set_option linter.unusedSimpArgs false
set_option linter.unusedVariables false
namespace Go.Proofs.YtincpomenogppaaGreatDoor
open Go Go.RowKit Go.Proofs.YtincpomenogppaaGreatDoor Go.Proofs.YtincpomenogppaaGreatDoor.Lift
set_option maxRecDepth 100000

def atoiR (s : List UInt8) : Int := match Lib.atoiAll s with
  | .ok v => v
  | .range => Lib.atoiSat s
  | _ => 0
def atoiE (s : List UInt8) : PV := match Lib.atoiAll s with
  | .ok _ => .val .nilIface
  | _ => .iface 193 false [.any]
theorem digit_dec (d : Nat) (h : d < 10) : Lib.digitVal (UInt8.ofNat (48 + d)) = some d := by
  have key : ∀ d : Fin 10, Lib.digitVal (UInt8.ofNat (48 + d.val)) = some d.val := by decide
  exact key ⟨d, h⟩
theorem decFrom_snoc (l : List UInt8) (b : UInt8) : ∀ acc : Nat, Lib.decFrom acc (l ++ [b]) = (Lib.decFrom acc l).bind fun n => (Lib.digitVal b).map fun d => n * 10 + d := by
  induction l with
  | nil => intro acc; simp [Lib.decFrom]; cases Lib.digitVal b <;> rfl
  | cons a t ih =>
    intro acc
    simp only [List.cons_append, Lib.decFrom]
    cases Lib.digitVal a with
    | none => rfl
    | some d => exact ih _
theorem dec_dec : ∀ (n : Nat), Lib.decFrom 0 (Lib.decDigits n) = some n
  | n => by
    rw [Lib.decDigits]
    split
    · rename_i h
      simp only [Lib.decFrom, digit_dec _ h, Nat.zero_mul, Nat.zero_add]
    · rw [decFrom_snoc, dec_dec (n / 10), digit_dec _ (Nat.mod_lt _ (by omega))]
      simp
      omega
  termination_by n => n
  decreasing_by omega
theorem dec_ne (n : Nat) : Lib.decDigits n ≠ [] := by
  rw [Lib.decDigits]
  split <;> simp
theorem dec_mem (n : Nat) : ∀ b ∈ Lib.decDigits n, 48 ≤ b.toNat ∧ b.toNat ≤ 57 := by
  have key : ∀ d : Fin 10, 48 ≤ (UInt8.ofNat (48 + d.val)).toNat ∧ (UInt8.ofNat (48 + d.val)).toNat ≤ 57 := by decide
  rw [Lib.decDigits]
  split
  · rename_i h; intro b hb; rw [List.mem_singleton.1 hb]; exact key ⟨n, h⟩
  · intro b hb
    rcases List.mem_append.1 hb with hb | hb
    · exact dec_mem (n / 10) b hb
    · rw [List.mem_singleton.1 hb]; exact key ⟨n % 10, Nat.mod_lt _ (by omega)⟩
  termination_by n
  decreasing_by omega
theorem decFrom_ge : ∀ (l : List UInt8) (acc m : Nat), Lib.decFrom acc l = some m → acc ≤ m
  | [], acc, m, h => by
    unfold Lib.decFrom at h
    injection h with h; omega
  | b :: r, acc, m, h => by
    unfold Lib.decFrom at h
    split at h
    · have := decFrom_ge r _ m h; omega
    · cases h
theorem parse_dec : ∀ (l : List UInt8) (acc m : Nat), Lib.decFrom acc l = some m → m < 18446744073709551616 → Lib.parseUint10 acc l = .ok m
  | [], acc, m, h, _ => by
    unfold Lib.decFrom at h
    injection h with h
    rw [← h]; rfl
  | b :: r, acc, m, h, hm => by
    unfold Lib.decFrom at h
    split at h
    · rename_i d hd
      have hge := decFrom_ge r _ m h
      unfold Lib.digitVal at hd
      split at hd
      · rename_i h48
        injection hd with hd
        subst hd
        unfold Lib.parseUint10
        rw [if_pos h48, if_neg (by omega), if_neg (by omega)]
        exact parse_dec r _ m h hm
      · cases hd
    · cases h
theorem itoa_dec (n : Nat) : Lib.itoa (n : Nat) = Lib.decDigits n := by
  unfold Lib.itoa
  rw [if_neg (by omega), Int.toNat_natCast]
theorem atoi_itoa (n : Nat) (h : n ≤ 9223372036854775807) : Lib.atoiAll (Lib.itoa (n : Nat)) = .ok (n : Int) := by
  rw [itoa_dec]
  have hp := parse_dec (Lib.decDigits n) 0 n (dec_dec n) (by omega)
  have hm := dec_mem n
  have hne := dec_ne n
  cases hd : Lib.decDigits n with
  | nil => exact absurd hd hne
  | cons b r =>
    rw [hd] at hp hm
    have hb := hm b (List.mem_cons_self ..)
    rw [Lib.atoiAll_plain b r (by omega) (by omega)]
    unfold Lib.parseMag
    rw [if_neg (by simp), hp]
    simp [Lib.signless]
    omega
def numB (s : List UInt8) : Bool := decide (0 ≤ atoiR s) && (Lib.itoa (atoiR s) == s)
theorem numB_itoa (n : Nat) (h : n ≤ 9223372036854775807) : atoiR (Lib.itoa (n : Nat)) = (n : Int) ∧ numB (Lib.itoa (n : Nat)) = true := by
  have e : atoiR (Lib.itoa (n : Nat)) = (n : Int) := by unfold atoiR; rw [atoi_itoa n h]
  refine ⟨e, ?_⟩
  unfold numB
  rw [e]
  simp
theorem atoiR_bounds (s : List UInt8) : -9223372036854775808 ≤ atoiR s ∧ atoiR s ≤ 9223372036854775807 := by
  unfold atoiR
  split
  · rename_i v h; exact Lib.atoiAll_bounds h
  · exact Lib.atoiSat_bounds s
  · exact ⟨by decide, by decide⟩
theorem num_err {s : List UInt8} (h : ∀ v, Lib.atoiAll s ≠ .ok v) : numB s = false := by
  rw [Bool.eq_false_iff]
  intro k
  unfold numB at k
  rw [Bool.and_eq_true, decide_eq_true_eq, beq_iff_eq] at k
  obtain ⟨k1, k2⟩ := k
  have hb := atoiR_bounds s
  obtain ⟨n, hn⟩ : ∃ n : Nat, atoiR s = (n : Int) := ⟨(atoiR s).toNat, by omega⟩
  rw [hn] at k2 hb
  have := atoi_itoa n (by omega)
  rw [k2] at this
  exact h _ this
def sAtoi : List PV → Prop × PV
  | [.str s] => (s.length ≤ 281474976710656, .tuple [.int .i64 (atoiR s), atoiE s])
  | _ => PBad
theorem mk_size (s : List UInt8) : (⟨s.toArray⟩ : ByteArray).size = s.length := by
  show s.toArray.size = _
  exact List.size_toArray ..
set_option maxRecDepth 100000 in
theorem Atoi_ok (s : List UInt8) (h : Heap) (h0 : s.length ≤ 281474976710656) : SCalls env 112 [.str s] h (Ret (.tuple [.int .i64 (atoiR s), atoiE s]) h) := by
  refine SCalls.ofBelowW Tryz.func112 rfl rfl fun w I G vs g r => ?_
  obtain ⟨u, us, rfl, hu, hn⟩ := r
  obtain rfl : us = [] := hn
  obtain rfl : u = .string ⟨s.toArray⟩ := hu
  obtain ⟨_, _, ⟨_, v4, hm4, hv4⟩, ⟨_, v5, hm5, hv5⟩⟩ := (g.inv : gwinv w I)
  have hs : (⟨s.toArray⟩ : ByteArray).size ≤ 281474976710656 := by rw [mk_size]; exact h0
  unfold atoiR atoiE
  rcases ha : Lib.atoiAll s with v | _ | _
  · refine (Tryz.strconv_Atoi_ok ⟨s.toArray⟩ (by omega) v ha w).mono ?_
    rintro e w' ⟨rfl, hw⟩
    refine ⟨_, rfl, ⟨_, rfl, _, _, rfl, rfl, _, _, rfl, ⟨rfl, ?_⟩, rfl⟩, ?_⟩
    · rfl
    rcases hw with rfl | ⟨t, rfl⟩
    · exact Below.refl _ _
    · exact Lib.bytesWorld_below _ _ _
  · refine (Tryz.strconv_Atoi_syntax ⟨s.toArray⟩ hs ha v4 w hm4 hv4).mono ?_
    rintro e w' ⟨N, rfl, _, _, hb⟩
    refine ⟨_, rfl, ⟨_, rfl, _, _, rfl, rfl, _, _, rfl, ?_, rfl⟩, hb⟩
    exact ⟨[_], rfl, _, _, rfl, (by simp [R1]; rfl), rfl⟩
  · refine (Tryz.strconv_Atoi_range ⟨s.toArray⟩ hs ha v5 w hm5 hv5).mono ?_
    rintro e w' ⟨N, rfl, _, _, hb⟩
    refine ⟨_, rfl, ⟨_, rfl, _, _, rfl, rfl, _, _, rfl, ?_, rfl⟩, hb⟩
    exact ⟨[_], rfl, _, _, rfl, (by simp [R1]; rfl), rfl⟩
noncomputable def eAtoi : SpecE env := ⟨112, sAtoi, fun args h hc => by
  unfold sAtoi at hc ⊢
  split at hc
  · rename_i s; exact .inl (Atoi_ok s h hc)
  · exact hc.elim⟩
set_option maxHeartbeats 2000000 in
theorem Number_ok (s : List UInt8) (h : Heap) (h0 : s.length ≤ 281474976710656) : SCalls env 64 [.str s] h (Ret (.tuple [.int .i64 (atoiR s), .bool (numB s)]) h) := by
  refine SCalls.body Tryz.func64 rfl rfl (by simp [Tryz.ntmps64]) ?_
  have hab := atoiR_bounds s
  refine SW.seq (SW.run [] _ ?_)
  simp only [wpC, Bool.false_eq_true, ↓reduceIte, wpS, stops, wantedA, okDst, Tryz.ntmps64, Nat.reduceLT, decide_true, step1, isOwnCall, hxOp, px, AS.eval, ofConst, ofVal, AS.put, enumA, dropKey, reduceCtorEq, thenQ, Nat.reduceEqDiff, true_and]
  refine SW.seq (SW.run [eAtoi] _ ?_)
  simp only [wpC, Bool.false_eq_true, ↓reduceIte, wpS, stops, wantedA, okDst, Nat.reduceLT, decide_true, step1, isOwnCall, hxOp, px, AS.eval, AS.get, Lift.look, Nat.succ_ne_zero, Option.getD_some, Specs.has, eAtoi, Specs.hasO, Bool.or_false, Specs.hasH, Bool.not_true, AS.put, dropKey, Nat.reduceEqDiff, reduceCtorEq, pcall, okArg, ofConst, ofVal, List.all_cons, List.all_nil, Bool.and_true, Specs.at, List.map_cons, List.map_nil, sAtoi, h0, and_self, List.getElem?_cons_zero, List.getElem?_cons_succ, thenQ, true_and]
  by_cases hok : ∃ v, Lib.atoiAll s = .ok v
  · obtain ⟨v, hv⟩ := hok
    have hE : atoiE s = .val .nilIface := by unfold atoiE; rw [hv]
    rw [hE]
    obtain ⟨n, hn⟩ : ∃ n, n = atoiR s := ⟨_, rfl⟩
    have hnb : numB s = (decide (0 ≤ n) && (Lib.itoa n == s)) := by unfold numB; rw [hn]
    rw [← hn] at hab ⊢
    rw [hnb]
    obtain ⟨b1, b2⟩ := hab
    refine SW.run [eItoa] _ ?_
    by_cases k0 : 0 ≤ n
    · simp only [wpC, mayStop, stops, isFlt, Specs.has, eItoa, Specs.hasO, Bool.or_false, Specs.hasH, List.any_cons, ↓reduceIte, Bool.not_true, List.any_nil, Bool.false_eq_true, wpS, wantedA, okDst, Nat.reduceLT, decide_true, step1, isOwnCall, hxOp, px, AS.eval, AS.get, Lift.look, Nat.reduceEqDiff, Option.getD_some, AS.put, dropKey, reduceCtorEq, isNilC, pnilI, ty85, List.getElem?_toArray, List.getElem?_cons_succ, List.getElem?_cons_zero, Option.bind_some, beq_self_eq_true, pbinP, ofConst, ofVal, pbinI, k0, ppick_bool, pcall, okArg, List.all_cons, List.all_nil, Bool.and_true, Specs.at, List.map_cons, List.map_nil, sItoa, b1, b2, and_self, Nat.succ_ne_zero, pbinS, thenQ, RPost, sres, Tryz.results64, sresL, sres1, Option.some.injEq, Bool.true_and, Ret_fin, HTo_self, and_true, exists_eq_left']
    · simp only [wpC, mayStop, stops, isFlt, Specs.has, eItoa, Specs.hasO, Bool.or_false, Specs.hasH, List.any_cons, ↓reduceIte, Bool.not_true, List.any_nil, Bool.false_eq_true, wpS, wantedA, okDst, Nat.reduceLT, decide_true, step1, isOwnCall, hxOp, px, AS.eval, AS.get, Lift.look, Nat.reduceEqDiff, Option.getD_some, AS.put, dropKey, reduceCtorEq, isNilC, pnilI, ty85, List.getElem?_toArray, List.getElem?_cons_succ, List.getElem?_cons_zero, Option.bind_some, beq_self_eq_true, pbinP, ofConst, ofVal, pbinI, k0, decide_false, ppick_bool, beq_ft, Option.some.injEq, ppick_false, thenQ, RPost, sres, Tryz.results64, sresL, sres1, Bool.false_and, Ret_fin, HTo_self, and_true, exists_eq_left', and_self]
  · have hE : atoiE s = .iface 193 false [.any] := by
      unfold atoiE
      cases ha : Lib.atoiAll s with
      | ok v => exact absurd ⟨v, ha⟩ hok
      | _ => rfl
    have hnb : numB s = false := num_err fun v k => hok ⟨v, k⟩
    rw [hE, hnb]
    refine SW.seq (SW.region ?_)
    refine SWO.meetAt 2 24 [(0, .str s), (4, .int .i64 (atoiR s)), (11, .int .i64 (atoiR s)), (12, .iface 193 false [.any])] h ?_ ?_
    · refine SWO.run [] 1000 ?_
      simp only [List.take_succ_cons, List.take_zero, wpS, stops, Bool.false_eq_true, ↓reduceIte, wantedA, okDst, Nat.reduceLT, decide_true, step1, isOwnCall, hxOp, px, AS.eval, AS.get, Lift.look, Nat.reduceEqDiff, Option.getD_some, AS.put, dropKey, reduceCtorEq, thenQ, Meet, HTo_self, hasAll, Nat.succ_ne_zero, and_self]
    refine SWO.ifaceNil 85 85 (.tmp 12) rfl rfl ty85 rfl rfl rfl ?_
    refine SWO.run [eItoa] 1000 ?_
    simp only [wpS, stops, Bool.false_eq_true, ↓reduceIte, wantedA, okDst, AS.put, dropKey, reduceCtorEq, Nat.reduceEqDiff, Nat.reduceLT, decide_true, step1, isOwnCall, hxOp, px, AS.eval, AS.get, Lift.look, Option.getD_some, List.getElem?_toArray, List.getElem?_cons_succ, List.getElem?_cons_zero, Option.bind_some, beq_ft, Option.some.injEq, ofConst, ofVal, ppick_false, Specs.has, Specs.hasO, Bool.or_false, Specs.hasH, thenQ, true_and]
    refine SW.run [] _ ?_
    simp only [wpC, RPost, sres, Tryz.results64, sresL, sres1, AS.get, Lift.look, Nat.reduceEqDiff, ↓reduceIte, Option.getD_some, Option.some.injEq, Ret_fin, HTo_self, and_true, exists_eq_left']
def sNumber : List PV → Prop × PV
  | [.str s] => (s.length ≤ 281474976710656, .tuple [.int .i64 (atoiR s), .bool (numB s)])
  | _ => PBad
noncomputable def eNumber : SpecE env := ⟨64, sNumber, fun args h hc => by
  unfold sNumber at hc ⊢
  split at hc
  · rename_i s; exact .inl (Number_ok s h hc)
  · exact hc.elim⟩
end Go.Proofs.YtincpomenogppaaGreatDoor
