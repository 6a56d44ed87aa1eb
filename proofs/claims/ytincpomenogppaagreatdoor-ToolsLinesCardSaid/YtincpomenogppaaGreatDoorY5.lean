/- Contracts of functions that the law reaches. -/
import Derived.Test.YtincpomenogppaaGreatDoorY4
set_option linter.unusedSimpArgs false
set_option linter.unusedVariables false
namespace Go.Proofs.YtincpomenogppaaGreatDoor
open Go Go.RowKit Go.Proofs.YtincpomenogppaaGreatDoor Go.Proofs.YtincpomenogppaaGreatDoor.Lift
set_option maxRecDepth 100000

theorem RE_strInv {w : World} {I : Nat → Prop} : ∀ {xs : List (List UInt8)} {us : List Value}, RE w I 1 (strL xs) us → us = xs.map fun x => Value.string ⟨x.toArray⟩
  | [], us, h => h
  | x :: xs, us, h => by
    obtain ⟨u1, u2, rfl, _, ⟨u, us', rfl, hu, hn⟩, h⟩ := h
    have hn : us' = [] := hn
    have hu : u = .string ⟨x.toArray⟩ := hu
    subst hn hu
    rw [RE_strInv h]
    rfl
theorem JoinL_ok (xs : List (List UInt8)) (h : Heap) (hl : xs.flatten.length ≤ 140737488355328) (hn : xs.length ≤ 140737488355328) : SCalls env 40 [.list 1 (strL xs), .str []] h (Ret (.str xs.flatten) h) := by
  refine SCalls.ofBelow Tryz.func40 rfl rfl fun w I G vs g r => ?_
  obtain ⟨u, us, rfl, hu, u2, us2, rfl, hu2, h3⟩ := r
  have h3 : us2 = [] := h3
  subst h3
  obtain rfl : u2 = .string ⟨#[]⟩ := hu2
  refine ⟨.string ⟨xs.flatten.toArray⟩, fun _ => rfl, ?_⟩
  obtain ⟨A, c, ucs, rfl, k1, k2, k3, k4⟩ : ∃ A c us, u = .slice A (strL xs).length c ∧ (strL xs).length ≤ c ∧ c ≤ maxLen ∧ RE w I 1 (strL xs) us ∧ RowAt w I A us := hu
  have k3 := RE_strInv k3
  subst k3
  rw [strL_len] at k1 ⊢
  cases xs with
  | nil =>
    refine (Tryz.strings_Join_none A c ⟨#[]⟩ w).mono ?_
    rintro e w' ⟨he, rfl⟩
    exact ⟨he, Below.refl _ _⟩
  | cons x0 xs0 =>
    obtain ⟨ad, rfl, hI, hcells⟩ := k4 (by simp)
    obtain ⟨bk, o, sp⟩ := ad
    have hsp : sp = none := by
      have := hcells 0 _ rfl
      cases sp with
      | none => rfl
      | some q =>
        exfalso
        unfold World.cell? at this
        have hs : ((⟨bk, o, some q⟩ : Addr).add 0).spot.isSome = true := by unfold Addr.add; split <;> simp_all
        split at this
        · rw [hs, if_pos rfl] at this; cases this
        · cases this
    subst hsp
    have hj := Tryz.strings_Join bk o c ((x0 :: xs0).map fun x => (⟨x.toArray⟩ : ByteArray)) ⟨#[]⟩ w (fun j x hx => by
      rw [List.getElem?_map] at hx
      cases e : (x0 :: xs0)[j]? with
      | none => rw [e] at hx; cases hx
      | some y =>
        rw [e] at hx
        have hx : (⟨y.toArray⟩ : ByteArray) = x := Option.some.inj hx
        subst hx
        have h1 := hcells j (.string ⟨y.toArray⟩) (by rw [List.getElem?_map, e]; rfl)
        have h2 : (⟨bk, o, none⟩ : Addr).add j = ⟨bk, o + j, none⟩ := by
          unfold Addr.add
          by_cases e0 : j = 0
          · subst e0; simp
          · simp [e0]
        rw [h2] at h1
        exact h1) (g.imm _ hI) (by simpa using hn) (by rw [List.length_map]; exact k1) (by
        rw [List.map_map]
        have : ((x0 :: xs0).map ((fun x : ByteArray => x.data.toList) ∘ fun x => (⟨x.toArray⟩ : ByteArray))) = x0 :: xs0 := by
          rw [show ((fun x : ByteArray => x.data.toList) ∘ fun x : List UInt8 => (⟨x.toArray⟩ : ByteArray)) = id from rfl, List.map_id]
        rw [this]
        show (Lib.join (x0 :: xs0) []).length ≤ _
        rw [join_flat]; exact hl)
    rw [List.length_map] at hj
    have e1 : ((x0 :: xs0).map fun x => (⟨x.toArray⟩ : ByteArray)).map (·.data.toList) = x0 :: xs0 := by
      rw [List.map_map, show ((fun x : ByteArray => x.data.toList) ∘ fun x : List UInt8 => (⟨x.toArray⟩ : ByteArray)) = id from rfl, List.map_id]
    rw [e1, show (⟨#[]⟩ : ByteArray).data.toList = [] from rfl, join_flat] at hj
    exact hj
def sJoinL : List PV → Prop × PV
  | [.list 1 xs, .str []] => match unS xs with
    | some l => (l.flatten.length ≤ 140737488355328 ∧ l.length ≤ 140737488355328, .str l.flatten)
    | none => PBad
  | _ => PBad
noncomputable def eJoinL : SpecE env := ⟨40, sJoinL, fun args h hc => by
  unfold sJoinL at hc ⊢
  split at hc
  · split at hc
    · rename_i l hl; rw [unS_spec hl]; exact .inl (JoinL_ok l h hc.1 hc.2)
    · exact hc.elim
  · exact hc.elim⟩
def hk (n : Int) (len : Nat) : Nat := if n < 0 then 0 else min n.toNat len
theorem hk_le (n : Int) (len : Nat) : hk n len ≤ len := by unfold hk; split <;> omega
theorem hk_is (n : Int) (len : Nat) : (if (0 : Int) < (if ((len : Nat) : Int) < n then ((len : Nat) : Int) else n) then (if ((len : Nat) : Int) < n then ((len : Nat) : Int) else n) else 0) = ((hk n len : Nat) : Int) := by
  unfold hk
  by_cases h1 : n < 0
  · rw [if_pos h1, if_neg (show ¬ ((len : Nat) : Int) < n by omega), if_neg (by omega)]; rfl
  · rw [if_neg h1]
    by_cases h2 : ((len : Nat) : Int) < n
    · rw [if_pos h2]
      by_cases h3 : (0 : Int) < (len : Nat)
      · rw [if_pos h3]; omega
      · rw [if_neg h3]; omega
    · rw [if_neg h2]
      by_cases h3 : (0 : Int) < n
      · rw [if_pos h3]; omega
      · rw [if_neg h3]; omega
theorem flat_sub (ls : List (List UInt8)) (a b : Nat) : ((ls.drop a).take b).flatten.length ≤ ls.flatten.length := by
  have h1 : ls.flatten = (ls.take a).flatten ++ (ls.drop a).flatten := by rw [← List.flatten_append, List.take_append_drop]
  have h2 : (ls.drop a).flatten = ((ls.drop a).take b).flatten ++ ((ls.drop a).drop b).flatten := by rw [← List.flatten_append, List.take_append_drop]
  rw [h1, h2, List.length_append, List.length_append]; omega
set_option maxHeartbeats 4000000 in
theorem Head_ok (s : List UInt8) (n : Int) (hs : s.length ≤ 1000000) (h : Heap) : SCalls env 25 [.str s, .int .i64 n] h (Ret (.str ((linesOf s).take (hk n (linesOf s).length)).flatten) h) := by
  refine SCalls.body Tryz.func25 rfl rfl (by simp [Tryz.ntmps25]) ?_
  have hll := linesOf_len s
  have hfl := linesOf_flat s
  have hk0 := hk_is n (linesOf s).length
  have hk1 := hk_le n (linesOf s).length
  refine SW.seq (SW.run [] _ ?_)
  simp only [wpC, Bool.false_eq_true, ↓reduceIte, wpS, stops, wantedA, okDst, Tryz.ntmps25, Nat.reduceLT, decide_true, step1, isOwnCall, hxOp, px, AS.eval, ofConst, ofVal, thenQ, AS.put, enumA, Nat.zero_add, dropKey, reduceCtorEq, Nat.reduceEqDiff, true_and]
  refine SW.seq (SW.run [eLines] _ ?_)
  simp only [wpC, Bool.false_eq_true, ↓reduceIte, wpS, stops, wantedA, okDst, Nat.reduceLT, decide_true, step1, isOwnCall, hxOp, px, AS.eval, AS.get, Lift.look, Nat.succ_ne_zero, Option.getD_some, Specs.has, eLines, Specs.hasO, Bool.or_false, Specs.hasH, Bool.not_true, AS.put, dropKey, Nat.reduceEqDiff, reduceCtorEq, pcall, okArg, ofConst, ofVal, List.all_cons, List.all_nil, Bool.and_true, Specs.at, List.map_cons, List.map_nil, sLines, hs, and_self, thenQ, true_and]
  generalize hk n (linesOf s).length = k at *
  generalize linesOf s = ls at *
  have htk : (strL ls).take k = strL (ls.take k) := by unfold strL; rw [List.map_take]
  have hfl2 := flat_sub ls 0 k
  rw [List.drop_zero, hfl] at hfl2
  have hkl : ((k : Nat) : Int) ≤ ((ls.length : Nat) : Int) := by omega
  have c1 : (ls.take k).flatten.length ≤ 140737488355328 := by omega
  have c2 : (ls.take k).length ≤ 140737488355328 := by rw [List.length_take]; omega
  refine SW.run [eJoinL] _ ?_
  simp only [wpC, mayStop, stops, isFlt, Specs.has, eJoinL, Specs.hasO, Bool.or_false, Specs.hasH, List.any_cons, ↓reduceIte, Bool.not_true, List.any_nil, Bool.false_eq_true, wpS, wantedA, okDst, Nat.reduceLT, decide_true, step1, isOwnCall, hxOp, px, AS.eval, AS.get, Lift.look, Option.getD_some, AS.put, dropKey, Nat.reduceEqDiff, reduceCtorEq, pcall, ty43, plen, strL_len, okLen, and_self, ofConst, ofVal, hk0, pslice, ty9, pB, Int.cast_ofNat_Int, Int.reduceLE, Int.natCast_nonneg, hkl, Int.reduceToNat, Int.toNat_natCast, htk, List.drop_zero, okArg, List.all_cons, List.all_nil, Bool.and_true, Specs.at, List.map_cons, List.map_nil, sJoinL, unS_el, c1, List.length_take, true_and, thenQ, RPost, sres, Tryz.results25, sresL, sres1, Option.some.injEq, Ret_fin, HTo_self, and_true, exists_eq_left']
  omega
set_option maxHeartbeats 4000000 in
theorem Tail_ok (s : List UInt8) (n : Int) (hs : s.length ≤ 1000000) (h : Heap) : SCalls env 27 [.str s, .int .i64 n] h (Ret (.str ((linesOf s).drop ((linesOf s).length - hk n (linesOf s).length)).flatten) h) := by
  refine SCalls.body Tryz.func27 rfl rfl (by simp [Tryz.ntmps27]) ?_
  have hll := linesOf_len s
  have hfl := linesOf_flat s
  have hk0 := hk_is n (linesOf s).length
  have hk1 := hk_le n (linesOf s).length
  refine SW.seq (SW.run [] _ ?_)
  simp only [wpC, Bool.false_eq_true, ↓reduceIte, wpS, stops, wantedA, okDst, Tryz.ntmps27, Nat.reduceLT, decide_true, step1, isOwnCall, hxOp, px, AS.eval, ofConst, ofVal, thenQ, AS.put, enumA, Nat.zero_add, dropKey, reduceCtorEq, Nat.reduceEqDiff, true_and]
  refine SW.seq (SW.run [eLines] _ ?_)
  simp only [wpC, Bool.false_eq_true, ↓reduceIte, wpS, stops, wantedA, okDst, Nat.reduceLT, decide_true, step1, isOwnCall, hxOp, px, AS.eval, AS.get, Lift.look, Nat.succ_ne_zero, Option.getD_some, Specs.has, eLines, Specs.hasO, Bool.or_false, Specs.hasH, Bool.not_true, AS.put, dropKey, Nat.reduceEqDiff, reduceCtorEq, pcall, okArg, ofConst, ofVal, List.all_cons, List.all_nil, Bool.and_true, Specs.at, List.map_cons, List.map_nil, sLines, hs, and_self, thenQ, true_and]
  generalize hk n (linesOf s).length = k at *
  generalize linesOf s = ls at *
  obtain ⟨m, hm⟩ : ∃ m, m = ls.length - k := ⟨_, rfl⟩
  rw [← hm]
  have hw : IntKind.i64.wrap (((ls.length : Nat) : Int) - ((k : Nat) : Int)) = ((m : Nat) : Int) := by rw [w64 (by omega) (by omega)]; omega
  have htk : (strL ls).drop m = strL (ls.drop m) := by unfold strL; rw [List.map_drop]
  have hfl2 := flat_sub ls m (ls.length)
  rw [List.take_of_length_le (by rw [List.length_drop]; omega), hfl] at hfl2
  have hkl : ((m : Nat) : Int) ≤ ((ls.length : Nat) : Int) := by omega
  have c1 : (ls.drop m).flatten.length ≤ 140737488355328 := by omega
  have c2 : (ls.drop m).length ≤ 140737488355328 := by rw [List.length_drop]; omega
  have hta : (strL ls).take ls.length = strL ls := List.take_of_length_le (by rw [strL_len]; exact Nat.le_refl _)
  have hle : ((ls.length : Nat) : Int) ≤ ((ls.length : Nat) : Int) := by omega
  refine SW.run [eJoinL] _ ?_
  simp only [wpC, mayStop, stops, isFlt, Specs.has, eJoinL, Specs.hasO, Bool.or_false, Specs.hasH, List.any_cons, ty3, ↓reduceIte, Bool.not_true, List.any_nil, Bool.false_eq_true, wpS, wantedA, okDst, Nat.reduceLT, decide_true, step1, isOwnCall, hxOp, px, AS.eval, AS.get, Lift.look, Option.getD_some, AS.put, dropKey, Nat.reduceEqDiff, reduceCtorEq, pcall, ty43, plen, strL_len, okLen, and_self, ofConst, ofVal, hk0, isNilC, pbinP, pbinI, hw, pslice, ty9, pB, Int.natCast_nonneg, hkl, hle, Int.toNat_natCast, hta, htk, okArg, List.all_cons, List.all_nil, Bool.and_true, Specs.at, List.map_cons, List.map_nil, sJoinL, unS_el, c1, List.length_drop, true_and, thenQ, RPost, sres, Tryz.results27, sresL, sres1, Option.some.injEq, Ret_fin, HTo_self, and_true, exists_eq_left']
  omega
def sHead : List PV → Prop × PV
  | [.str s, .int .i64 n] => (s.length ≤ 1000000, .str ((linesOf s).take (hk n (linesOf s).length)).flatten)
  | _ => PBad
noncomputable def eHead : SpecE env := ⟨25, sHead, fun args h hc => by
  unfold sHead at hc ⊢
  split at hc
  · rename_i s n; exact .inl (Head_ok s n hc h)
  · exact hc.elim⟩
def sTail : List PV → Prop × PV
  | [.str s, .int .i64 n] => (s.length ≤ 1000000, .str ((linesOf s).drop ((linesOf s).length - hk n (linesOf s).length)).flatten)
  | _ => PBad
noncomputable def eTail : SpecE env := ⟨27, sTail, fun args h hc => by
  unfold sTail at hc ⊢
  split at hc
  · rename_i s n; exact .inl (Tail_ok s n hc h)
  · exact hc.elim⟩
end Go.Proofs.YtincpomenogppaaGreatDoor
