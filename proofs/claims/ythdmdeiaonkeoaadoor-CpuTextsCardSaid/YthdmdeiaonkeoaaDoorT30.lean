/- Contracts of functions that the law reaches. -/
import Derived.Test.YthdmdeiaonkeoaaDoorT28
import Derived.Test.YthdmdeiaonkeoaaDoorT29
import Derived.Test.YthdmdeiaonkeoaaDoorShelfB
import Derived.Test.YthdmdeiaonkeoaaDoorLiftW
set_option linter.unusedSimpArgs false
set_option linter.unusedVariables false
namespace Go.Proofs.YthdmdeiaonkeoaaDoor
open Go Go.RowKit Go.Proofs.YthdmdeiaonkeoaaDoor Go.Proofs.YthdmdeiaonkeoaaDoor.Lift

/-! strings.Split -/
def strL (xs : List (List UInt8)) : List (List PV) := xs.map fun x => [PV.str x]
theorem strL_len (xs : List (List UInt8)) : (strL xs).length = xs.length := by simp [strL]
theorem strL_at (xs : List (List UInt8)) {k : Nat} (h : k < xs.length) : (strL xs).getD k [] = [.str (xs.getD k [])] := by
  simp [strL, List.getD_eq_getElem?_getD, List.getElem?_eq_getElem h]
def sSplit : List PV → Prop × PV
  | [.str s, .str sep] => (s.length < 4294967281 ∧ 1 ≤ sep.length, .list 1 (strL (Lib.split s sep)))
  | _ => PBad
theorem data_mk (l : List UInt8) : (⟨l.toArray⟩ : ByteArray).data.toList = l := rfl
theorem mk_size (l : List UInt8) : (⟨l.toArray⟩ : ByteArray).size = l.length := by simp [ByteArray.size]
theorem split_B (s sep : List UInt8) (h1 : 1 ≤ sep.length) : (Lib.splitB ⟨sep.toArray⟩ 0 (Lib.countB ⟨s.toArray⟩ ⟨sep.toArray⟩) ⟨s.toArray⟩).map Value.string = (Lib.split s sep).map (fun x => Value.string ⟨x.toArray⟩) ∧ Lib.countB ⟨s.toArray⟩ ⟨sep.toArray⟩ + 1 = (Lib.split s sep).length ∧ (Lib.split s sep).length ≤ s.length + 1 := by
  have e : (Lib.splitB ⟨sep.toArray⟩ 0 (Lib.countB ⟨s.toArray⟩ ⟨sep.toArray⟩) ⟨s.toArray⟩).map (·.data.toList) = Lib.split s sep := Lib.splitB_data _ _ _ _
  have hl := Lib.splitB_all (⟨sep.toArray⟩ : ByteArray) (by rw [mk_size]; exact h1) 0 _ (⟨s.toArray⟩ : ByteArray) rfl
  have hc := Lib.countB_le (⟨sep.toArray⟩ : ByteArray) (by rw [mk_size]; exact h1) _ (⟨s.toArray⟩ : ByteArray) (Nat.le_refl _)
  rw [mk_size] at hc
  refine ⟨?_, ?_, ?_⟩
  · rw [← e, List.map_map]
    rfl
  · rw [← e, List.length_map, hl]
  · rw [← e, List.length_map, hl]; omega
set_option maxRecDepth 100000 in
theorem Split_ok (s sep : List UInt8) (h : Heap) (h0 : s.length < 4294967281) (h1 : 1 ≤ sep.length) : SCalls env 40 [.str s, .str sep] h (Ret (.list 1 (strL (Lib.split s sep))) h) := by
  obtain ⟨e1, e2, e3⟩ := split_B s sep h1
  refine SCalls.ofAllocStrs (t := 9) Tryd.func40 rfl rfl (by unfold maxLen; omega) fun w I G vs g r => ?_
  obtain ⟨u, us, rfl, hu, u2, us2, rfl, hu2, hn⟩ := r
  obtain rfl : us2 = [] := hn
  obtain rfl : u = .string ⟨s.toArray⟩ := hu
  obtain rfl : u2 = .string ⟨sep.toArray⟩ := hu2
  obtain ⟨_, ⟨_, v, hm, m, rfl⟩, _⟩ := (g.inv : gwinv w I)
  have key : Calls Tryd.prog 40 #[.string ⟨s.toArray⟩, .string ⟨sep.toArray⟩] w fun e w' => _ := Any.strings_Split { Tryd.laysM146 with } Tryd.laysM146.i9 ⟨s.toArray⟩ ⟨sep.toArray⟩ m w (by rw [mk_size]; exact h0) hm (by rw [mk_size]; exact h1)
  refine key.mono ?_
  rintro e w' ⟨rfl, rfl⟩
  rw [e1, e2]
  exact ⟨rfl, rfl⟩
noncomputable def eSplit : SpecE env := ⟨40, sSplit, fun args h hc => by
  unfold sSplit at hc ⊢
  split at hc
  · rename_i s sep; exact .inl (Split_ok s sep h hc.1 hc.2)
  · exact hc.elim⟩
/-! strconv.Atoi -/
def sAtoi : List PV → Prop × PV
  | [.str s] => (s.length ≤ 281474976710656, .tuple [.int .i64 (atoiR s), .any])
  | _ => PBad
set_option maxRecDepth 100000 in
theorem Atoi_ok (s : List UInt8) (h : Heap) (h0 : s.length ≤ 281474976710656) : SCalls env 42 [.str s] h (Ret (.tuple [.int .i64 (atoiR s), .any]) h) := by
  refine SCalls.ofBelowW Tryd.func42 rfl rfl fun w I G vs g r => ?_
  obtain ⟨u, us, rfl, hu, hn⟩ := r
  obtain rfl : us = [] := hn
  obtain rfl : u = .string ⟨s.toArray⟩ := hu
  obtain ⟨_, _, ⟨_, v4, hm4, hv4⟩, ⟨_, v5, hm5, hv5⟩⟩ := (g.inv : gwinv w I)
  have hs : (⟨s.toArray⟩ : ByteArray).size ≤ 281474976710656 := by rw [mk_size]; exact h0
  unfold atoiR
  rcases ha : Lib.atoiAll s with v | _ | _
  · refine (Tryd.strconv_Atoi_ok ⟨s.toArray⟩ (by omega) v ha w).mono ?_
    rintro e w' ⟨rfl, hw⟩
    refine ⟨_, rfl, ⟨_, rfl, _, _, rfl, rfl, _, _, rfl, trivial, rfl⟩, ?_⟩
    rcases hw with rfl | ⟨t, rfl⟩
    · exact Below.refl _ _
    · exact Lib.bytesWorld_below _ _ _
  · refine (Tryd.strconv_Atoi_syntax ⟨s.toArray⟩ hs ha v4 w hm4 hv4).mono ?_
    rintro e w' ⟨N, rfl, _, _, hb⟩
    exact ⟨_, rfl, ⟨_, rfl, _, _, rfl, rfl, _, _, rfl, trivial, rfl⟩, hb⟩
  · refine (Tryd.strconv_Atoi_range ⟨s.toArray⟩ hs ha v5 w hm5 hv5).mono ?_
    rintro e w' ⟨N, rfl, _, _, hb⟩
    exact ⟨_, rfl, ⟨_, rfl, _, _, rfl, rfl, _, _, rfl, trivial, rfl⟩, hb⟩
noncomputable def eAtoi : SpecE env := ⟨42, sAtoi, fun args h hc => by
  unfold sAtoi at hc ⊢
  split at hc
  · rename_i s; exact .inl (Atoi_ok s h hc)
  · exact hc.elim⟩
/-! slices.Index of strings -/
def idxF (w : List UInt8) : Nat → List (List UInt8) → Int
  | _, [] => -1
  | k, x :: xs => if w = x then k else idxF w (k + 1) xs
def idxS (xs : List (List UInt8)) (w : List UInt8) : Int := idxF w 0 xs
def sIndex : List PV → Prop × PV
  | [.list 1 xs, .str w] => (xs = strL (unS xs) ∧ xs.length ≤ 1000000, .int .i64 (idxS (unS xs) w))
  | _ => PBad
where unS : List (List PV) → List (List UInt8)
  | [] => []
  | [.str x] :: r => x :: unS r
  | _ :: r => [] :: unS r
theorem unS_strL : ∀ xs : List (List UInt8), sIndex.unS (strL xs) = xs
  | [] => rfl
  | x :: xs => by
    show x :: sIndex.unS (strL xs) = _
    rw [unS_strL xs]
theorem Index_ok (xs : List (List UInt8)) (w : List UInt8) (h : Heap) (hl : xs.length ≤ 1000000) : SCalls env 41 [.list 1 (strL xs), .str w] h (Ret (.int .i64 (idxS xs w)) h) := by
  refine SCalls.body Tryd.func41 rfl rfl (by simp [Tryd.ntmps41]) ?_
  refine SW.seq (SW.run [] _ ?_)
  simp only [wpC, Bool.false_eq_true, ↓reduceIte, wpS, stops, wantedA, okDst, Tryd.ntmps41, Nat.reduceLT, decide_true, step1, isOwnCall, hxOp, px, AS.eval, ofConst, ofVal, thenQ, AS.put, enumA, Nat.zero_add, dropKey, reduceCtorEq, Nat.reduceEqDiff, true_and]
  refine SW.seq (SW.run [] _ ?_)
  simp only [wpC, mayStop, stops, isFlt, Specs.has, Specs.hasO, Bool.or_false, Bool.not_false, List.any_cons, List.any_nil, Bool.false_eq_true, ↓reduceIte, wpS, wantedA, okDst, Nat.reduceLT, decide_true, step1, isOwnCall, hxOp, px, AS.eval, AS.get, Lift.look, Nat.succ_ne_zero, Option.getD_some, AS.put, dropKey, Nat.reduceEqDiff, reduceCtorEq, pcall, ty80, plen, okLen, and_self, ofConst, ofVal, thenQ, true_and]
  refine SW.loopK 19 (fun k : Nat => [(0, .list 1 (strL xs)), (1, .str w), (7, .int .i64 (xs.length : Nat)), (8, .int .i64 (k : Nat))]) (fun _ => h) (fun k => k ≤ xs.length ∧ idxF w k (xs.drop k) = idxS xs w) (fun k => xs.length - k) 0 ⟨Nat.zero_le _, rfl⟩ ?_ ?_
  · simp only [Has, hasAll, AS.get, Lift.look, Nat.succ_ne_zero, ↓reduceIte, Option.getD_some, Nat.reduceEqDiff, reduceCtorEq, strL_len, Int.cast_ofNat_Int, and_self]
  rintro k ⟨hk, ht⟩
  by_cases he : k < xs.length
  rotate_left
  · have hlt : ¬ (k : Int) < (xs.length : Int) := by omega
    have hkk : k = xs.length := by omega
    subst hkk
    rw [List.drop_length] at ht
    have hm : (-1 : Int) = idxS xs w := ht
    refine SW.run [] _ ?_
    simp only [wpC, mayStop, stops, isFlt, Specs.has, Specs.hasO, Bool.or_false, Bool.not_false, List.any_cons, List.any_nil, Bool.false_eq_true, ↓reduceIte, wpS, wantedA, okDst, Nat.reduceLT, decide_true, step1, isOwnCall, hxOp, px, pbinP, AS.eval, AS.get, Lift.look, reduceCtorEq, Nat.reduceEqDiff, Option.getD_some, pbinI, hlt, decide_false, thenQ, isB, AS.put, dropKey, tmpOf, asB, inQ, Tryd.results41, ← hm, true_and]
    refine SW.run [] _ ?_
    simp only [wpC, mayStop, stops, isFlt, Specs.has, Specs.hasO, Bool.or_false, Bool.not_false, List.any_cons, List.any_nil, Bool.false_eq_true, ↓reduceIte, wpS, wantedA, okDst, Nat.reduceLT, decide_true, step1, isOwnCall, hxOp, px, AS.eval, ofConst, ofVal, thenQ, RPost, sres, sresL, sres1, AS.get, AS.put, dropKey, Nat.reduceEqDiff, reduceCtorEq, Lift.look, Option.getD_some, Option.some.injEq, Ret_fin, HTo_self, and_true, exists_eq_left', and_self]
  · have hlt : (k : Int) < (xs.length : Int) := by omega
    have hk0 : (0 : Int) ≤ (k : Int) := by omega
    have hkc : ((k : Int)).toNat = k := rfl
    have hd : xs.drop k = xs.getD k [] :: xs.drop (k + 1) := by rw [List.drop_eq_getElem_cons he, List.getD_eq_getElem?_getD, List.getElem?_eq_getElem he]; rfl
    rw [hd, idxF] at ht
    have hk1 : IntKind.i64.wrap ((k : Int) + 1) = ((k + 1 : Nat) : Int) := by
      rw [w64 (by omega) (by omega)]
      omega
    by_cases hx : w = xs.getD k []
    · have hb : (w == xs.getD k []) = true := beq_iff_eq.2 hx
      rw [if_pos hx] at ht
      refine SW.run [] _ ?_
      simp only [wpC, mayStop, stops, isFlt, Specs.has, Specs.hasO, Bool.or_false, Bool.not_false, List.any_cons, List.any_nil, Bool.false_eq_true, ↓reduceIte, wpS, wantedA, okDst, Nat.reduceLT, decide_true, step1, isOwnCall, hxOp, px, pbinP, AS.eval, AS.get, Lift.look, reduceCtorEq, Nat.reduceEqDiff, Option.getD_some, pbinI, hlt, thenQ, isB, AS.put, dropKey, tmpOf, asB, Nat.succ_ne_zero, pindexAddr, ty80, ty9, ne_eq, not_false_eq_true, hk0, hkc, strL_len, he, and_self, strL_at xs he, pload, okOne, TK.isAgg, beq_self_eq_true, Bool.or_true, List.length_cons, List.length_nil, Nat.zero_add, Nat.le_refl, Lift.valOf, List.take_succ_cons, List.take_nil, List.getD_cons_zero, pbinS, hb, inQ, RPost, sres, Tryd.results41, sresL, sres1, Option.some.injEq, ← ht, Ret_fin, HTo_self, and_true, exists_eq_left']
    · have hb : (w == xs.getD k []) = false := beq_eq_false_iff_ne.2 hx
      rw [if_neg hx] at ht
      refine SW.run [] _ ?_
      simp only [wpC, mayStop, stops, isFlt, Specs.has, Specs.hasO, Bool.or_false, Bool.not_false, List.any_cons, List.any_nil, Bool.false_eq_true, ↓reduceIte, wpS, wantedA, okDst, Nat.reduceLT, decide_true, step1, isOwnCall, hxOp, px, pbinP, AS.eval, AS.get, Lift.look, reduceCtorEq, Nat.reduceEqDiff, Option.getD_some, pbinI, hlt, thenQ, isB, AS.put, dropKey, tmpOf, asB, Nat.succ_ne_zero, pindexAddr, ty80, ty9, ne_eq, not_false_eq_true, hk0, hkc, strL_len, he, and_self, strL_at xs he, pload, okOne, TK.isAgg, beq_self_eq_true, Bool.or_true, List.length_cons, List.length_nil, Nat.zero_add, Nat.le_refl, Lift.valOf, List.take_succ_cons, List.take_nil, List.getD_cons_zero, pbinS, hb, inQ, ty3, ofConst, ofVal, Has, hasAll, and_true, true_and]
      exact ⟨k + 1, ⟨by omega, ht⟩, by omega, by rw [hk1]⟩
noncomputable def eIndex : SpecE env := ⟨41, sIndex, fun args h hc => by
  unfold sIndex at hc ⊢
  split at hc
  · rename_i xs w
    obtain ⟨e, hl⟩ := hc
    refine .inl ?_
    show SCalls env 41 [PV.list 1 xs, PV.str w] h (Ret (PV.int .i64 (idxS (sIndex.unS xs) w)) h)
    generalize sIndex.unS xs = ys at e ⊢
    subst e
    exact Index_ok ys w h (by rw [strL_len] at hl; exact hl)
  · exact hc.elim⟩
end Go.Proofs.YthdmdeiaonkeoaaDoor
