/- Contracts of functions that the law reaches. -/
import Derived.Test.YtincpomenogppaaGreatDoorX1
import Derived.Test.YtincpomenogppaaGreatDoorLiftH
set_option linter.unusedSimpArgs false
set_option linter.unusedVariables false
namespace Go.Proofs.YtincpomenogppaaGreatDoor
open Go Go.RowKit Go.Proofs.YtincpomenogppaaGreatDoor Go.Proofs.YtincpomenogppaaGreatDoor.Lift
set_option maxRecDepth 100000

def prefixS (l p : List UInt8) : Bool := decide (p.length ≤ l.length) && (l.take p.length == p)
def sHasPrefix : List PV → Prop × PV
  | [.str l, .str p] => (True, .bool (prefixS l p))
  | _ => PBad
theorem HasPrefix0_ok (l p : List UInt8) (h : Heap) : SCalls env 125 [.str l, .str p] h (Ret (.bool (prefixS l p)) h) := by
  refine SCalls.body Tryz.func125 rfl rfl (by simp [Tryz.ntmps125]) (SW.run [] _ ?_)
  by_cases h1 : p.length ≤ l.length
  · simp only [wpC, mayStop, stops, isFlt, Specs.has, Specs.hasO, Bool.or_false, Specs.hasH, Bool.not_false, List.any_cons, List.any_nil, Bool.false_eq_true, ↓reduceIte, wpS, wantedA, okDst, Tryz.ntmps125, Nat.reduceLT, decide_true, step1, isOwnCall, hxOp, px, AS.eval, ofConst, ofVal, thenQ, AS.put, enumA, Nat.zero_add, dropKey, reduceCtorEq, Nat.reduceEqDiff, AS.get, Lift.look, Nat.succ_ne_zero, Option.getD_some, pcall, ty9, plen, okLen, and_self, isNilC, pbinP, pbinI, Int.ofNat_le, h1, List.getElem?_toArray, List.getElem?_cons_succ, List.getElem?_cons_zero, Option.bind_some, beq_self_eq_true, pslice, pB, Int.cast_ofNat_Int, Int.reduceLE, Int.natCast_nonneg, Int.reduceToNat, Int.toNat_natCast, List.drop_zero, pbinS, ppick_bool, RPost, sres, Tryz.results125, sresL, sres1, Option.some.injEq, prefixS, Bool.true_and, Ret_fin, HTo_self, and_true, exists_eq_left']
    try simp [h1]
  · simp only [wpC, mayStop, stops, isFlt, Specs.has, Specs.hasO, Bool.or_false, Specs.hasH, Bool.not_false, List.any_cons, List.any_nil, Bool.false_eq_true, ↓reduceIte, wpS, wantedA, okDst, Tryz.ntmps125, Nat.reduceLT, decide_true, step1, isOwnCall, hxOp, px, AS.eval, ofConst, ofVal, thenQ, AS.put, enumA, Nat.zero_add, dropKey, reduceCtorEq, Nat.reduceEqDiff, AS.get, Lift.look, Nat.succ_ne_zero, Option.getD_some, pcall, ty9, plen, okLen, and_self, isNilC, pbinP, pbinI, Int.ofNat_le, h1, decide_false, List.getElem?_toArray, List.getElem?_cons_succ, List.getElem?_cons_zero, Option.bind_some, beq_ft, Option.some.injEq, ppick_false, RPost, sres, Tryz.results125, sresL, sres1, prefixS, Bool.false_and, Ret_fin, HTo_self, and_true, exists_eq_left']
noncomputable def eHasPrefix0 : SpecE env := ⟨125, sHasPrefix, fun args h hc => by
  unfold sHasPrefix at hc ⊢
  split at hc
  · rename_i l p; exact .inl (HasPrefix0_ok l p h)
  · exact hc.elim⟩
def cutP (l p : List UInt8) : List UInt8 := if prefixS l p then l.drop p.length else l
def sCutPrefix : List PV → Prop × PV
  | [.str l, .str p] => (True, .tuple [.str (cutP l p), .bool (prefixS l p)])
  | _ => PBad
theorem CutPrefix0_ok (l p : List UInt8) (h : Heap) : SCalls env 110 [.str l, .str p] h (Ret (.tuple [.str (cutP l p), .bool (prefixS l p)]) h) := by
  refine SCalls.body Tryz.func110 rfl rfl (by simp [Tryz.ntmps110]) (SW.run [eHasPrefix0] _ ?_)
  cases e : prefixS l p
  · simp only [wpC, mayStop, stops, isFlt, Specs.has, eHasPrefix0, Specs.hasO, Bool.or_false, Specs.hasH, List.any_cons, List.any_nil, Bool.false_eq_true, ↓reduceIte, wpS, wantedA, okDst, Tryz.ntmps110, Nat.reduceLT, decide_true, step1, isOwnCall, hxOp, px, AS.eval, ofConst, ofVal, AS.put, enumA, Nat.zero_add, dropKey, reduceCtorEq, Nat.reduceEqDiff, thenQ, Bool.not_true, AS.get, Lift.look, Nat.succ_ne_zero, Option.getD_some, pcall, okArg, List.all_cons, List.all_nil, Bool.and_true, Specs.at, List.map_cons, List.map_nil, sHasPrefix, e, and_self, pun, Bool.not_false, isB, tmpOf, asB, RPost, sres, Tryz.results110, sresL, sres1, Option.some.injEq, cutP, Ret_fin, HTo_self, and_true, exists_eq_left']
    try simp [cutP, e]
  · have hle : p.length ≤ l.length := by
      unfold prefixS at e
      rw [Bool.and_eq_true, decide_eq_true_eq] at e
      exact e.1
    have hl2 : ((p.length : Nat) : Int) ≤ ((l.length : Nat) : Int) := by omega
    simp only [wpC, mayStop, stops, isFlt, Specs.has, eHasPrefix0, Specs.hasO, Bool.or_false, Specs.hasH, List.any_cons, List.any_nil, Bool.false_eq_true, ↓reduceIte, wpS, wantedA, okDst, Tryz.ntmps110, Nat.reduceLT, decide_true, step1, isOwnCall, hxOp, px, AS.eval, ofConst, ofVal, AS.put, enumA, Nat.zero_add, dropKey, reduceCtorEq, Nat.reduceEqDiff, thenQ, Bool.not_true, AS.get, Lift.look, Nat.succ_ne_zero, Option.getD_some, pcall, okArg, List.all_cons, List.all_nil, Bool.and_true, Specs.at, List.map_cons, List.map_nil, sHasPrefix, e, and_self, pun, isB, tmpOf, asB, ty9, plen, okLen, pslice, pB, Int.natCast_nonneg, hl2, true_and, Int.toNat_natCast, RPost, sres, Tryz.results110, sresL, sres1, Option.some.injEq, cutP, Ret_fin, HTo_self, and_true, exists_eq_left']
    try simp [cutP, e, List.take_length]
noncomputable def eCutPrefix0 : SpecE env := ⟨110, sCutPrefix, fun args h hc => by
  unfold sCutPrefix at hc ⊢
  split at hc
  · rename_i l p; exact .inl (CutPrefix0_ok l p h)
  · exact hc.elim⟩
theorem CutPrefix_ok (l p : List UInt8) (h : Heap) : SCalls env 62 [.str l, .str p] h (Ret (.tuple [.str (cutP l p), .bool (prefixS l p)]) h) := by
  refine SCalls.body Tryz.func62 rfl rfl (by simp [Tryz.ntmps62]) (SW.run [eCutPrefix0] _ ?_)
  simp only [wpC, mayStop, stops, isFlt, Specs.has, eCutPrefix0, Specs.hasO, Bool.or_false, Specs.hasH, List.any_cons, List.any_nil, Bool.false_eq_true, ↓reduceIte, wpS, wantedA, okDst, Tryz.ntmps62, Nat.reduceLT, decide_true, step1, isOwnCall, hxOp, px, AS.eval, ofConst, ofVal, AS.put, enumA, Nat.zero_add, dropKey, reduceCtorEq, Nat.reduceEqDiff, thenQ, Bool.not_true, AS.get, Lift.look, Nat.succ_ne_zero, Option.getD_some, pcall, okArg, List.all_cons, List.all_nil, Bool.and_true, Specs.at, List.map_cons, List.map_nil, sCutPrefix, and_self, List.getElem?_cons_zero, List.getElem?_cons_succ, RPost, sres, Tryz.results62, sresL, sres1, Option.some.injEq, Ret_fin, HTo_self, and_true, exists_eq_left']
noncomputable def eCutPrefix : SpecE env := ⟨62, sCutPrefix, fun args h hc => by
  unfold sCutPrefix at hc ⊢
  split at hc
  · rename_i l p; exact .inl (CutPrefix_ok l p h)
  · exact hc.elim⟩
def cutB (c : UInt8) : List UInt8 → List UInt8 × List UInt8 × Bool
  | [] => ([], [], false)
  | b :: l => if b = c then ([], l, true) else (b :: (cutB c l).1, (cutB c l).2.1, (cutB c l).2.2)
theorem cutB_in {c : UInt8} {p r : List UInt8} (h : c ∉ p) : cutB c (p ++ c :: r) = (p, r, true) := by
  induction p with
  | nil => simp [cutB]
  | cons b p ih =>
    simp only [List.mem_cons, not_or] at h
    rw [List.cons_append, cutB, if_neg (fun e => h.1 e.symm), ih h.2]
theorem cutB_out {c : UInt8} {l : List UInt8} (h : c ∉ l) : cutB c l = (l, [], false) := by
  induction l with
  | nil => rfl
  | cons b l ih =>
    simp only [List.mem_cons, not_or] at h
    rw [cutB, if_neg (fun e => h.1 e.symm), ih h.2]
theorem cutB_len (c : UInt8) (l : List UInt8) : (cutB c l).1.length ≤ l.length ∧ (cutB c l).2.1.length ≤ l.length ∧ ((cutB c l).2.2 = true → (cutB c l).1.length + (cutB c l).2.1.length + 1 = l.length) := by
  by_cases h : c ∈ l
  · obtain ⟨p, r, rfl, hp⟩ := first_of h
    rw [cutB_in hp]
    simp; omega
  · rw [cutB_out h]
    simp
def cutR (c : UInt8) (l : List UInt8) : PV := .tuple [.str (cutB c l).1, .str (cutB c l).2.1, .bool (cutB c l).2.2]
def sCut : List PV → Prop × PV
  | [.str l, .str [c]] => (l.length ≤ 9000000000000000000, cutR c l)
  | _ => PBad
theorem Cut0_ok (l : List UInt8) (c : UInt8) (hl : l.length ≤ 9000000000000000000) (h : Heap) : SCalls env 122 [.str l, .str [c]] h (Ret (cutR c l) h) := by
  refine SCalls.body Tryz.func122 rfl rfl (by simp [Tryz.ntmps122]) ?_
  refine SW.seq (SW.run [] _ ?_)
  simp only [wpC, Bool.false_eq_true, ↓reduceIte, wpS, stops, wantedA, okDst, Tryz.ntmps122, Nat.reduceLT, decide_true, step1, isOwnCall, hxOp, px, AS.eval, ofConst, ofVal, AS.put, enumA, Nat.zero_add, dropKey, reduceCtorEq, Nat.reduceEqDiff, thenQ, true_and]
  refine SW.seq (SW.run [eIndex0] _ ?_)
  by_cases hc : c ∈ l
  · obtain ⟨p, r, rfl, hp⟩ := first_of hc
    have hi := idx_at (r := r) hp
    have hcr : cutR c (p ++ c :: r) = .tuple [.str p, .str r, .bool true] := by unfold cutR; rw [cutB_in hp]
    have hpl : (p ++ c :: r).length = p.length + (r.length + 1) := by simp
    have h0 : (0 : Int) ≤ ((p.length : Nat) : Int) := by omega
    have hw : IntKind.i64.wrap (((p.length : Nat) : Int) + 1) = ((p.length + 1 : Nat) : Int) := by rw [w64 (by omega) (by omega)]; rfl
    have h1 : ((p.length : Nat) : Int) ≤ (((p ++ c :: r).length : Nat) : Int) := by omega
    have h2 : ((p.length + 1 : Nat) : Int) ≤ (((p ++ c :: r).length : Nat) : Int) := by omega
    have ht : (p ++ c :: r).take p.length = p := List.take_left
    have hd : ((p ++ c :: r).take (p ++ c :: r).length).drop (p.length + 1) = r := by
      rw [List.take_length, show p ++ c :: r = (p ++ [c]) ++ r by simp, show p.length + 1 = (p ++ [c]).length by simp, List.drop_left]
    rw [hcr]
    simp only [wpC, mayStop, stops, isFlt, Specs.has, eIndex0, Specs.hasO, Bool.or_false, Specs.hasH, List.any_cons, ↓reduceIte, Bool.not_true, List.any_nil, Bool.false_eq_true, wpS, wantedA, okDst, Nat.reduceLT, decide_true, step1, isOwnCall, hxOp, px, AS.eval, AS.get, Lift.look, Nat.succ_ne_zero, Option.getD_some, AS.put, dropKey, Nat.reduceEqDiff, reduceCtorEq, pcall, okArg, ofConst, ofVal, List.all_cons, List.all_nil, Bool.and_true, Specs.at, List.map_cons, List.map_nil, sIndex1, hi, and_self, thenQ, isNilC, pbinP, pbinI, h0, isB, tmpOf, asB, ty3, true_and]
    refine SW.regionAny [] [[0, 1, 2, 3, 4, 5, 6, 7, 8, 9, 10, 11]] rfl (by rfl) (by kernel_rfl) ?_
    simp only [wpOL, wpO, LOp, List.getElem?_toArray, List.getElem?_cons_zero, okDst, Nat.reduceLT, decide_true, wantedA, ↓reduceIte, step1, isOwnCall, Bool.false_eq_true, hxOp, px, AS.eval, AS.get, Lift.look, Nat.succ_ne_zero, Option.getD_some, List.getElem?_cons_succ, AS.put, dropKey, Nat.reduceEqDiff, reduceCtorEq, pslice, ty9, pB, Int.cast_ofNat_Int, Int.reduceLE, Int.natCast_nonneg, h1, and_self, Int.reduceToNat, Int.toNat_natCast, ht, List.drop_zero, pcall, plen, List.length_cons, List.length_nil, Nat.zero_add, okLen, isNilC, pbinP, pbinI, hw, h2, true_and, hd, ofConst, ofVal, thenQ, Tryz.results122]
    refine ⟨by omega, ?_⟩
    refine SW.run [] _ ?_
    simp only [wpC, thenQ, RPost, sres, sresL, sres1, AS.get, Lift.look, Nat.reduceEqDiff, ↓reduceIte, Option.getD_some, Option.some.injEq, Ret_fin, HTo_self, and_true, exists_eq_left']
  · have hi := idx_none hc
    have hcr : cutR c l = .tuple [.str l, .str [], .bool false] := by unfold cutR; rw [cutB_out hc]
    rw [hcr]
    simp only [wpC, mayStop, stops, isFlt, Specs.has, eIndex0, Specs.hasO, Bool.or_false, Specs.hasH, List.any_cons, ↓reduceIte, Bool.not_true, List.any_nil, Bool.false_eq_true, wpS, wantedA, okDst, Nat.reduceLT, decide_true, step1, isOwnCall, hxOp, px, AS.eval, AS.get, Lift.look, Nat.succ_ne_zero, Option.getD_some, AS.put, dropKey, Nat.reduceEqDiff, reduceCtorEq, pcall, okArg, ofConst, ofVal, List.all_cons, List.all_nil, Bool.and_true, Specs.at, List.map_cons, List.map_nil, sIndex1, hi, and_self, thenQ, isNilC, pbinP, pbinI, Int.reduceLE, decide_false, isB, tmpOf, asB, true_and]
    refine SW.run [] _ ?_
    simp only [wpC, mayStop, stops, isFlt, Specs.has, Specs.hasO, Bool.or_false, Specs.hasH, Bool.not_false, List.any_cons, List.any_nil, Bool.false_eq_true, ↓reduceIte, wpS, wantedA, okDst, Nat.reduceLT, decide_true, step1, isOwnCall, hxOp, px, AS.eval, AS.get, Lift.look, Nat.succ_ne_zero, Option.getD_some, AS.put, dropKey, Nat.reduceEqDiff, reduceCtorEq, ofConst, ofVal, thenQ, RPost, sres, Tryz.results122, sresL, sres1, Option.some.injEq, Ret_fin, HTo_self, and_true, exists_eq_left', and_self]
noncomputable def eCut0 : SpecE env := ⟨122, sCut, fun args h hc => by
  unfold sCut at hc ⊢
  split at hc
  · rename_i l c; exact .inl (Cut0_ok l c hc h)
  · exact hc.elim⟩
theorem Cut_ok (l : List UInt8) (c : UInt8) (hl : l.length ≤ 9000000000000000000) (h : Heap) : SCalls env 84 [.str l, .str [c]] h (Ret (cutR c l) h) := by
  refine SCalls.body Tryz.func84 rfl rfl (by simp [Tryz.ntmps84]) (SW.run [eCut0] _ ?_)
  simp only [wpC, mayStop, stops, isFlt, Specs.has, eCut0, Specs.hasO, Bool.or_false, Specs.hasH, List.any_cons, List.any_nil, Bool.false_eq_true, ↓reduceIte, wpS, wantedA, okDst, Tryz.ntmps84, Nat.reduceLT, decide_true, step1, isOwnCall, hxOp, px, AS.eval, ofConst, ofVal, AS.put, enumA, Nat.zero_add, dropKey, reduceCtorEq, Nat.reduceEqDiff, thenQ, Bool.not_true, AS.get, Lift.look, Nat.succ_ne_zero, Option.getD_some, pcall, okArg, List.all_cons, List.all_nil, Bool.and_true, Specs.at, List.map_cons, List.map_nil, sCut, hl, cutR, and_self, List.getElem?_cons_zero, List.getElem?_cons_succ, RPost, sres, Tryz.results84, sresL, sres1, Option.some.injEq, Ret_fin, HTo_self, and_true, exists_eq_left']
noncomputable def eCut : SpecE env := ⟨84, sCut, fun args h hc => by
  unfold sCut at hc ⊢
  split at hc
  · rename_i l c; exact .inl (Cut_ok l c hc h)
  · exact hc.elim⟩
theorem Split_ok (s : List UInt8) (c : UInt8) (hs : s.length ≤ 1000000) (h : Heap) : SCalls env 63 [.str s, .str [c]] h (Ret (.list 1 (strL (splitG c 0 s))) h) := by
  have hO : SCalls env 63 [.str s, .str [c]] h (fun e h' => ∃ u, e = .ret u ∧ Own h 9 1 (strL (splitG c 0 s)) u h') := by
    refine SCalls.body Tryz.func63 rfl rfl (by simp [Tryz.ntmps63]) ?_
    refine SW.seq (SW.run [] _ ?_)
    simp only [wpC, Bool.false_eq_true, ↓reduceIte, wpS, stops, wantedA, okDst, Tryz.ntmps63, Nat.reduceLT, decide_true, step1, isOwnCall, hxOp, px, AS.eval, ofConst, ofVal, thenQ, AS.put, enumA, Nat.zero_add, dropKey, reduceCtorEq, Nat.reduceEqDiff, true_and]
    refine SW.seq (SW.run [] _ ?_)
    simp only [wpC, Bool.false_eq_true, ↓reduceIte, wpS, stops, wantedA, okDst, Nat.reduceLT, decide_true, step1, isOwnCall, hxOp, px, AS.eval, AS.get, Lift.look, Nat.succ_ne_zero, Option.getD_some, AS.put, dropKey, Nat.reduceEqDiff, reduceCtorEq, Specs.has, Specs.hasO, Bool.or_false, Specs.hasH, Bool.not_false, true_and]
    refine SWO.call (.func 111) #[.tmp 5, .tmp 6, .const (.int .i64 0), .const (.int .i64 (-1))] _ 111 #[] #[] rfl rfl rfl rfl rfl rfl (GenSplit_ok s c 0 (by omega) hs h) rfl rfl ?_ (fun c h' hc => by obtain ⟨_, hc, _⟩ := hc; cases hc)
    rintro p' h' ⟨u, e1, ow⟩
    injection e1 with e1
    subst e1
    refine SWO.run [] 1000 ?_
    simp only [wpS, stops, Bool.false_eq_true, ↓reduceIte, wantedA, okDst, AS.put, dropKey, Nat.reduceEqDiff, reduceCtorEq, Nat.reduceLT, decide_true, step1, isOwnCall, hxOp, px, AS.eval, AS.get, Lift.look, Option.getD_some, thenQ, true_and]
    refine SW.run [] _ ?_
    simp only [wpC, RPost, sres, Tryz.results63, sresL, sres1, AS.get, Lift.look, ↓reduceIte, Option.getD_some]
    obtain ⟨A, N, rfl⟩ := ow.slice
    exact ⟨_, rfl, h', .refl _ _, _, rfl, ow⟩
  exact hO.letGo fun e h' ⟨u, e1, ow⟩ => ⟨u, _, h, e1, ow.letGoV, rfl, rfl⟩
def sSplit : List PV → Prop × PV
  | [.str s, .str [c]] => (s.length ≤ 1000000, .list 1 (strL (splitG c 0 s)))
  | _ => PBad
noncomputable def eSplit : SpecE env := ⟨63, sSplit, fun args h hc => by
  unfold sSplit at hc ⊢
  split at hc
  · rename_i s c; exact .inl (Split_ok s c hc h)
  · exact hc.elim⟩
end Go.Proofs.YtincpomenogppaaGreatDoor
