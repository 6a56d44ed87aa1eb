/- Contracts of functions that the law reaches. -/
import Derived.Test.YtincpomenogppaaGreatDoorT8
import Derived.Lib.IndexLaws
set_option linter.unusedSimpArgs false
set_option linter.unusedVariables false
namespace Go.Proofs.YtincpomenogppaaGreatDoor
open Go Go.RowKit Go.Proofs.YtincpomenogppaaGreatDoor Go.Proofs.YtincpomenogppaaGreatDoor.Lift
set_option maxRecDepth 100000

def strL (l : List (List UInt8)) : List (List PV) := l.map fun x => [PV.str x]
theorem strL_len (l : List (List UInt8)) : (strL l).length = l.length := List.length_map _
theorem strL_at {l : List (List UInt8)} {i : Nat} (h : i < l.length) : (strL l).getD i [] = [.str l[i]] := by
  unfold strL
  rw [List.getD_eq_getElem?_getD, List.getElem?_eq_getElem (by rw [List.length_map]; exact h)]
  simp
theorem strL_append (a b : List (List UInt8)) : strL (a ++ b) = strL a ++ strL b := List.map_append
theorem strL_drop (a : List (List UInt8)) (n : Nat) : (strL a).drop n = strL (a.drop n) := by unfold strL; rw [List.map_drop]
theorem strL_take (a : List (List UInt8)) (n : Nat) : (strL a).take n = strL (a.take n) := by unfold strL; rw [List.map_take]
theorem strL_wide (a : List (List UInt8)) : ∀ x ∈ strL a, x.length = 1 := fun x hx => by
  unfold strL at hx
  obtain ⟨y, _, rfl⟩ := List.mem_map.1 hx
  rfl
theorem strL_flat : ∀ a : List (List UInt8), (strL a).flatten = a.map PV.str
  | [] => rfl
  | x :: a => by
    show [PV.str x] ++ (strL a).flatten = _
    rw [strL_flat a]; rfl
def unS : List (List PV) → Option (List (List UInt8))
  | [] => some []
  | [.str x] :: l => match unS l with | some r => some (x :: r) | none => none
  | _ => none
theorem unS_spec : ∀ {xs : List (List PV)} {l : List (List UInt8)}, unS xs = some l → xs = strL l
  | [], l, h => by
    have : [] = l := Option.some.inj h
    subst this; rfl
  | x :: xs, l, h => by
    unfold unS at h
    split at h
    · rename_i e; cases e
    · rename_i y l' e
      injection e with e1 e2
      subst e1 e2
      split at h
      · rename_i r hr
        have := Option.some.inj h
        subst this
        rw [unS_spec hr]
        rfl
      · cases h
    · cases h
theorem unS_el : ∀ l : List (List UInt8), unS (strL l) = some l
  | [] => rfl
  | x :: l => by
    show (match unS (strL l) with | some r => some (x :: r) | none => none) = _
    rw [unS_el l]
theorem idx_none {l : List UInt8} {c : UInt8} (h : c ∉ l) : Lib.indexByte l c = -1 := by
  induction l with
  | nil => rfl
  | cons b l ih =>
    simp only [List.mem_cons, not_or] at h
    unfold Lib.indexByte
    rw [ih h.2]
    have : (b == c) = false := by rw [beq_eq_false_iff_ne]; exact fun e => h.1 e.symm
    rw [this]
    rfl
theorem idx_at {p r : List UInt8} {c : UInt8} (h : c ∉ p) : Lib.indexByte (p ++ c :: r) c = (p.length : Nat) := by
  induction p with
  | nil => simp [Lib.indexByte]
  | cons b p ih =>
    simp only [List.mem_cons, not_or] at h
    rw [List.cons_append]
    unfold Lib.indexByte
    rw [ih h.2]
    have : (b == c) = false := by rw [beq_eq_false_iff_ne]; exact fun e => h.1 e.symm
    rw [this]
    have h2 : (((p.length : Nat) : Int) == -1) = false := by rw [beq_eq_false_iff_ne]; omega
    rw [h2]
    simp
theorem first_of {l : List UInt8} {c : UInt8} (h : c ∈ l) : ∃ p r, l = p ++ c :: r ∧ c ∉ p := by
  induction l with
  | nil => cases h
  | cons b l ih =>
    by_cases e : c = b
    · subst e; exact ⟨[], l, rfl, by simp⟩
    · obtain ⟨p, r, rfl, hp⟩ := ih (by simpa [e] using h)
      exact ⟨b :: p, r, rfl, by simp [e, hp]⟩
def splitG (c : UInt8) (k : Nat) : List UInt8 → List (List UInt8)
  | [] => [[]]
  | b :: l => if b = c then ([c].take k) :: splitG c k l else match splitG c k l with | [] => [[b]] | x :: xs => (b :: x) :: xs
theorem splitG_len (c : UInt8) (k : Nat) : ∀ l, (splitG c k l).length = l.count c + 1
  | [] => rfl
  | b :: l => by
    have ih := splitG_len c k l
    unfold splitG
    split
    · rename_i e; subst e; simp [ih]
    · rename_i e
      rw [List.count_cons_of_ne e]
      split
      · rename_i h; rw [h] at ih; simp at ih
      · rename_i h; rw [h] at ih; simp at ih ⊢; omega
theorem splitG_line {c : UInt8} (k : Nat) {p r : List UInt8} (h : c ∉ p) : splitG c k (p ++ c :: r) = (p ++ [c].take k) :: splitG c k r := by
  induction p with
  | nil => simp [splitG]
  | cons b p ih =>
    simp only [List.mem_cons, not_or] at h
    rw [List.cons_append, splitG, if_neg (fun e => h.1 e.symm), ih h.2]
    rfl
theorem splitG_end {c : UInt8} (k : Nat) {p : List UInt8} (h : c ∉ p) : splitG c k p = [p] := by
  induction p with
  | nil => rfl
  | cons b p ih =>
    simp only [List.mem_cons, not_or] at h
    unfold splitG
    rw [if_neg (fun e => h.1 e.symm), ih h.2]
theorem splitG_ne (c : UInt8) (k : Nat) (l : List UInt8) : splitG c k l ≠ [] := fun h => by
  have := splitG_len c k l
  rw [h] at this
  simp at this
def linesOf : List UInt8 → List (List UInt8)
  | [] => []
  | b :: l => if b = 10 then [10] :: linesOf l else match linesOf l with | [] => [[b]] | x :: xs => (b :: x) :: xs
theorem linesOf_line {p r : List UInt8} (h : 10 ∉ p) : linesOf (p ++ 10 :: r) = (p ++ [10]) :: linesOf r := by
  induction p with
  | nil => simp [linesOf]
  | cons b p ih =>
    simp only [List.mem_cons, not_or] at h
    rw [List.cons_append, linesOf, if_neg (fun e => h.1 e.symm), ih h.2]
    rfl
theorem linesOf_flat : ∀ l, (linesOf l).flatten = l
  | [] => rfl
  | b :: l => by
    have ih := linesOf_flat l
    unfold linesOf
    split
    · rename_i e; subst e; simp [ih]
    · split
      · rename_i h; rw [h] at ih; simp at ih ⊢; exact ih
      · rename_i h; rw [h] at ih; simp at ih ⊢; exact ih
theorem split_lines : ∀ l, (splitG 10 1 l = linesOf l ∧ (splitG 10 1 l).getLast? ≠ some []) ∨ splitG 10 1 l = linesOf l ++ [[]]
  | [] => .inr rfl
  | b :: l => by
    unfold splitG linesOf
    split
    · rename_i e
      subst e
      rcases split_lines l with ⟨h, h2⟩ | h
      · refine .inl ⟨by rw [h]; rfl, ?_⟩
        have hne := splitG_ne 10 1 l
        rw [List.getLast?_cons]
        cases e : (splitG 10 1 l).getLast? with
        | none => rw [List.getLast?_eq_none_iff] at e; exact absurd e hne
        | some y => rw [e] at h2; simpa using h2
      · exact .inr (by rw [h]; rfl)
    · rcases split_lines l with ⟨h, h2⟩ | h
      · rw [← h]
        split
        · rename_i e; exact absurd e (splitG_ne 10 1 l)
        · rename_i x xs e
          refine .inl ⟨rfl, ?_⟩
          rw [e] at h2
          cases xs with
          | nil => simp
          | cons y ys => rw [List.getLast?_cons_cons] at h2 ⊢; exact h2
      · rw [h]
        cases e : linesOf l with
        | nil => exact .inl ⟨rfl, by simp⟩
        | cons x xs => exact .inr rfl
end Go.Proofs.YtincpomenogppaaGreatDoor

namespace Go.Proofs.YtincpomenogppaaGreatDoor
open Go Go.RowKit Go.Proofs.YtincpomenogppaaGreatDoor Go.Proofs.YtincpomenogppaaGreatDoor.Lift
set_option maxRecDepth 100000

theorem indexByteString_ok (l : List UInt8) (c : UInt8) (h : Heap) : XCalls env 190 [.str l, .int .u8 c.toNat] h (.int .i64 (Lib.indexByte l c)) := by
  intro w I G vs g r
  obtain ⟨u, us, rfl, h1, u2, us2, rfl, h2, h3⟩ := r
  have h3 : us2 = [] := h3
  subst h3
  have h1 : u = .string ⟨l.toArray⟩ := h1
  have h2 : u2 = .int .u8 c.toNat := h2
  subst h1; subst h2
  refine ⟨_, ?_, rfl⟩
  refine (run_callFunc_extern (P := env.P) Tryz.func190 (by kernel_rfl) (by kernel_rfl) (by kernel_rfl) (e := Extern.BytealgIndexByte.indexByte) (by kernel_rfl) _ _).trans ?_
  rw [show ([Value.string ⟨l.toArray⟩, .int .u8 c.toNat] : List Value).toArray = #[.string ⟨l.toArray⟩, .int .u8 c.toNat] from rfl, Lib.run_indexByteString]
  simp only [Result.andThen_ok, ofNat_u8]
def sIdxB : List PV → Prop × PV
  | [.str l, .int .u8 n] => (0 ≤ n ∧ n < 256, .int .i64 (Lib.indexByte l (UInt8.ofNat n.toNat)))
  | _ => PBad
noncomputable def eIdxS : SpecE env := ⟨190, sIdxB, fun args h hc => by
  unfold sIdxB at hc ⊢
  split at hc
  · rename_i l n
    have e : n = ((UInt8.ofNat n.toNat).toNat : Int) := by
      rw [UInt8.toNat_ofNat']; have := hc.1; have := hc.2; omega
    have := indexByteString_ok l (UInt8.ofNat n.toNat) h
    rw [← e] at this
    exact .inr this
  · exact hc.elim⟩
theorem IdxL_ok (l : List UInt8) (c : UInt8) (h : Heap) : SCalls env 174 [.str l, .int .u8 c.toNat] h (Ret (.int .i64 (Lib.indexByte l c)) h) := by
  refine SCalls.body Tryz.func174 rfl rfl (by simp [Tryz.ntmps174]) (SW.run [eIdxS] _ ?_)
  simp only [wpC, mayStop, stops, isFlt, Specs.has, eIdxS, Specs.hasO, Bool.or_false, Specs.hasH, List.any_cons, List.any_nil, Bool.false_eq_true, ↓reduceIte, wpS, wantedA, okDst, Tryz.ntmps174, Nat.reduceLT, decide_true, step1, isOwnCall, hxOp, px, AS.eval, ofConst, ofVal, thenQ, Bool.not_true, AS.put, enumA, Nat.zero_add, dropKey, reduceCtorEq, Nat.reduceEqDiff, AS.get, Lift.look, Nat.succ_ne_zero, Option.getD_some, pcall, okArg, List.all_cons, List.all_nil, Bool.and_true, Specs.at, List.map_cons, List.map_nil, sIdxB, Int.natCast_nonneg, byte_lt_T, and_self, Int.toNat_natCast, UInt8.ofNat_toNat, RPost, sres, Tryz.results174, sresL, sres1, Option.some.injEq, Ret_fin, HTo_self, and_true, exists_eq_left']
noncomputable def eIdxL : SpecE env := ⟨174, sIdxB, fun args h hc => by
  unfold sIdxB at hc ⊢
  split at hc
  · rename_i l n
    have e : n = ((UInt8.ofNat n.toNat).toNat : Int) := by
      rw [UInt8.toNat_ofNat']; have := hc.1; have := hc.2; omega
    have := IdxL_ok l (UInt8.ofNat n.toNat) h
    rw [← e] at this
    exact .inl this
  · exact hc.elim⟩
def sIndex1 : List PV → Prop × PV
  | [.str l, .str [c]] => (True, .int .i64 (Lib.indexByte l c))
  | _ => PBad
theorem Index0_ok (l : List UInt8) (c : UInt8) (h : Heap) : SCalls env 147 [.str l, .str [c]] h (Ret (.int .i64 (Lib.indexByte l c)) h) := by
  refine SCalls.body Tryz.func147 rfl rfl (by simp [Tryz.ntmps147]) ?_
  refine SW.seq (SW.run [] _ ?_)
  simp only [wpC, Bool.false_eq_true, ↓reduceIte, wpS, stops, wantedA, okDst, Tryz.ntmps147, Nat.reduceLT, decide_true, step1, isOwnCall, hxOp, px, AS.eval, ofConst, ofVal, thenQ, AS.put, enumA, Nat.zero_add, dropKey, reduceCtorEq, Nat.reduceEqDiff, true_and]
  by_cases e : l = [c]
  · subst e
    refine SW.run [] _ ?_
    simp only [wpC, mayStop, stops, isFlt, Specs.has, Specs.hasO, Bool.or_false, Specs.hasH, Bool.not_false, List.any_cons, List.any_nil, Bool.false_eq_true, ↓reduceIte, wpS, wantedA, okDst, Nat.reduceLT, decide_true, step1, isOwnCall, hxOp, px, AS.eval, AS.get, Lift.look, Nat.reduceEqDiff, reduceCtorEq, Option.getD_some, AS.put, dropKey, pcall, ty9, plen, List.length_cons, List.length_nil, Nat.zero_add, okLen, and_self, Int.cast_ofNat_Int, thenQ, Bool.or_true, isNilC, pbinP, ofConst, ofVal, pbinI, Int.reduceBEq, List.getElem?_toArray, List.getElem?_cons_succ, List.getElem?_cons_zero, Option.bind_some, beq_self_eq_true, Nat.succ_ne_zero, pbinS, ppick_bool, isB, tmpOf, asB, inQ, RPost, sres, Tryz.results147, sresL, sres1, Option.some.injEq, Ret_fin, HTo_self, and_true, exists_eq_left', true_and]
    simp [Lib.indexByte]
  · have e2 : ([c] == l) = false := by rw [beq_eq_false_iff_ne]; exact fun k => e k.symm
    refine SW.run [eIdxL] _ ?_
    simp only [wpC, mayStop, stops, isFlt, Specs.has, eIdxL, Specs.hasO, Bool.or_false, Specs.hasH, List.any_cons, List.any_nil, Bool.false_eq_true, ↓reduceIte, wpS, wantedA, okDst, Nat.reduceLT, decide_true, step1, isOwnCall, hxOp, px, AS.eval, AS.get, Lift.look, Nat.reduceEqDiff, reduceCtorEq, Option.getD_some, AS.put, dropKey, pcall, ty9, plen, List.length_cons, List.length_nil, Nat.zero_add, okLen, and_self, Int.cast_ofNat_Int, thenQ, Bool.not_true, Bool.not_false, Bool.or_true, isNilC, pbinP, ofConst, ofVal, pbinI, Int.reduceBEq, List.getElem?_toArray, List.getElem?_cons_succ, List.getElem?_cons_zero, Option.bind_some, beq_self_eq_true, Nat.succ_ne_zero, pbinS, e2, ppick_bool, isB, tmpOf, asB, pindex, Int.reduceLE, Int.reduceToNat, List.getD_cons_zero, okArg, List.all_cons, List.all_nil, Bool.and_true, Specs.at, List.map_cons, List.map_nil, sIdxB, Int.natCast_nonneg, byte_lt_T, Int.toNat_natCast, UInt8.ofNat_toNat, inQ, RPost, sres, Tryz.results147, sresL, sres1, Option.some.injEq, Ret_fin, HTo_self, and_true, exists_eq_left']
noncomputable def eIndex0 : SpecE env := ⟨147, sIndex1, fun args h hc => by
  unfold sIndex1 at hc ⊢
  split at hc
  · rename_i l c; exact .inl (Index0_ok l c h)
  · exact hc.elim⟩
theorem Index1_ok (l : List UInt8) (c : UInt8) (h : Heap) : SCalls env 115 [.str l, .str [c]] h (Ret (.int .i64 (Lib.indexByte l c)) h) := by
  refine SCalls.body Tryz.func115 rfl rfl (by simp [Tryz.ntmps115]) (SW.run [eIndex0] _ ?_)
  simp only [wpC, mayStop, stops, isFlt, Specs.has, eIndex0, Specs.hasO, Bool.or_false, Specs.hasH, List.any_cons, List.any_nil, Bool.false_eq_true, ↓reduceIte, wpS, wantedA, okDst, Tryz.ntmps115, Nat.reduceLT, decide_true, step1, isOwnCall, hxOp, px, AS.eval, ofConst, ofVal, thenQ, Bool.not_true, AS.put, enumA, Nat.zero_add, dropKey, reduceCtorEq, Nat.reduceEqDiff, AS.get, Lift.look, Nat.succ_ne_zero, Option.getD_some, pcall, okArg, List.all_cons, List.all_nil, Bool.and_true, Specs.at, List.map_cons, List.map_nil, sIndex1, and_self, RPost, sres, Tryz.results115, sresL, sres1, Option.some.injEq, Ret_fin, HTo_self, and_true, exists_eq_left']
noncomputable def eIndex1 : SpecE env := ⟨115, sIndex1, fun args h hc => by
  unfold sIndex1 at hc ⊢
  split at hc
  · rename_i l c; exact .inl (Index1_ok l c h)
  · exact hc.elim⟩
theorem idx_nonneg (l : List UInt8) (c : UInt8) : decide (0 ≤ Lib.indexByte l c) = l.contains c := by
  by_cases h : c ∈ l
  · obtain ⟨p, r, rfl, hp⟩ := first_of h
    rw [idx_at hp]
    simp
  · rw [idx_none h]
    simp [h]
def sContains1 : List PV → Prop × PV
  | [.str l, .str [c]] => (True, .bool (l.contains c))
  | _ => PBad
theorem Contains1_ok (l : List UInt8) (c : UInt8) (h : Heap) : SCalls env 107 [.str l, .str [c]] h (Ret (.bool (l.contains c)) h) := by
  refine SCalls.body Tryz.func107 rfl rfl (by simp [Tryz.ntmps107]) (SW.run [eIndex1] _ ?_)
  simp only [wpC, mayStop, stops, isFlt, Specs.has, eIndex1, Specs.hasO, Bool.or_false, Specs.hasH, List.any_cons, List.any_nil, Bool.false_eq_true, ↓reduceIte, wpS, wantedA, okDst, Tryz.ntmps107, Nat.reduceLT, decide_true, step1, isOwnCall, hxOp, px, AS.eval, ofConst, ofVal, thenQ, Bool.not_true, AS.put, enumA, Nat.zero_add, dropKey, reduceCtorEq, Nat.reduceEqDiff, AS.get, Lift.look, Nat.succ_ne_zero, Option.getD_some, pcall, okArg, List.all_cons, List.all_nil, Bool.and_true, Specs.at, List.map_cons, List.map_nil, sIndex1, and_self, isNilC, pbinP, pbinI, RPost, sres, Tryz.results107, sresL, sres1, Option.some.injEq, Ret_fin, HTo_self, and_true, exists_eq_left', true_and]
  rw [idx_nonneg]
noncomputable def eContains1 : SpecE env := ⟨107, sContains1, fun args h hc => by
  unfold sContains1 at hc ⊢
  split at hc
  · rename_i l c; exact .inl (Contains1_ok l c h)
  · exact hc.elim⟩
def suffixS (l p : List UInt8) : Bool := decide (p.length ≤ l.length) && (l.drop (l.length - p.length) == p)
def cutS (l p : List UInt8) : List UInt8 := if suffixS l p then l.take (l.length - p.length) else l
def sSuffix : List PV → Prop × PV
  | [.str l, .str p] => (l.length ≤ 9000000000000000000, .bool (suffixS l p))
  | _ => PBad
theorem HasSuffix0_ok (l p : List UInt8) (h : Heap) (hl : l.length ≤ 9000000000000000000) : SCalls env 108 [.str l, .str p] h (Ret (.bool (suffixS l p)) h) := by
  refine SCalls.body Tryz.func108 rfl rfl (by simp [Tryz.ntmps108]) (SW.run [] _ ?_)
  by_cases h1 : p.length ≤ l.length
  · have hw : IntKind.i64.wrap ((l.length : Int) - (p.length : Int)) = ((l.length - p.length : Nat) : Int) := by rw [w64 (by omega) (by omega)]; omega
    simp only [wpC, mayStop, stops, isFlt, Specs.has, Specs.hasO, Bool.or_false, Specs.hasH, Bool.not_false, List.any_cons, List.any_nil, Bool.false_eq_true, ↓reduceIte, wpS, wantedA, okDst, Tryz.ntmps108, Nat.reduceLT, decide_true, step1, isOwnCall, hxOp, px, AS.eval, ofConst, ofVal, thenQ, ty3, AS.put, enumA, Nat.zero_add, dropKey, reduceCtorEq, Nat.reduceEqDiff, AS.get, Lift.look, Nat.succ_ne_zero, Option.getD_some, pcall, ty9, plen, okLen, and_self, isNilC, pbinP, pbinI, Int.ofNat_le, h1, List.getElem?_toArray, List.getElem?_cons_succ, List.getElem?_cons_zero, Option.bind_some, beq_self_eq_true, hw, pslice, pB, Int.natCast_nonneg, Nat.le_refl, and_true, true_and, Int.toNat_natCast, pbinS, ppick_bool, RPost, sres, Tryz.results108, sresL, sres1, Option.some.injEq, suffixS, Bool.true_and, Ret_fin, HTo_self, exists_eq_left']
    simp
  · simp only [wpC, mayStop, stops, isFlt, Specs.has, Specs.hasO, Bool.or_false, Specs.hasH, Bool.not_false, List.any_cons, List.any_nil, Bool.false_eq_true, ↓reduceIte, wpS, wantedA, okDst, Tryz.ntmps108, Nat.reduceLT, decide_true, step1, isOwnCall, hxOp, px, AS.eval, ofConst, ofVal, thenQ, ty3, AS.put, enumA, Nat.zero_add, dropKey, reduceCtorEq, Nat.reduceEqDiff, AS.get, Lift.look, Nat.succ_ne_zero, Option.getD_some, pcall, ty9, plen, okLen, and_self, isNilC, pbinP, pbinI, Int.ofNat_le, h1, decide_false, List.getElem?_toArray, List.getElem?_cons_succ, List.getElem?_cons_zero, Option.bind_some, beq_ft, Option.some.injEq, ppick_false, RPost, sres, Tryz.results108, sresL, sres1, suffixS, Bool.false_and, Ret_fin, HTo_self, and_true, exists_eq_left']
noncomputable def eHasSuffix0 : SpecE env := ⟨108, sSuffix, fun args h hc => by
  unfold sSuffix at hc ⊢
  split at hc
  · rename_i l p; exact .inl (HasSuffix0_ok l p h hc)
  · exact hc.elim⟩
theorem HasSuffix_ok (l p : List UInt8) (h : Heap) (hl : l.length ≤ 9000000000000000000) : SCalls env 57 [.str l, .str p] h (Ret (.bool (suffixS l p)) h) := by
  refine SCalls.body Tryz.func57 rfl rfl (by simp [Tryz.ntmps57]) (SW.run [eHasSuffix0] _ ?_)
  simp only [wpC, mayStop, stops, isFlt, Specs.has, eHasSuffix0, Specs.hasO, Bool.or_false, Specs.hasH, List.any_cons, List.any_nil, Bool.false_eq_true, ↓reduceIte, wpS, wantedA, okDst, Tryz.ntmps57, Nat.reduceLT, decide_true, step1, isOwnCall, hxOp, px, AS.eval, ofConst, ofVal, thenQ, Bool.not_true, AS.put, enumA, Nat.zero_add, dropKey, reduceCtorEq, Nat.reduceEqDiff, AS.get, Lift.look, Nat.succ_ne_zero, Option.getD_some, pcall, okArg, List.all_cons, List.all_nil, Bool.and_true, Specs.at, List.map_cons, List.map_nil, sSuffix, true_and, RPost, sres, Tryz.results57, sresL, sres1, Option.some.injEq, Ret_fin, HTo_self, and_true, exists_eq_left', and_self]
  exact hl
noncomputable def eHasSuffix : SpecE env := ⟨57, sSuffix, fun args h hc => by
  unfold sSuffix at hc ⊢
  split at hc
  · rename_i l p; exact .inl (HasSuffix_ok l p h hc)
  · exact hc.elim⟩
theorem suffix_len {l p : List UInt8} (h : suffixS l p = true) : p.length ≤ l.length := by
  unfold suffixS at h
  rw [Bool.and_eq_true, decide_eq_true_eq] at h
  exact h.1
def sCutSuffix : List PV → Prop × PV
  | [.str l, .str p] => (l.length ≤ 9000000000000000000, .tuple [.str (cutS l p), .bool (suffixS l p)])
  | _ => PBad
theorem CutSuffix0_ok (l p : List UInt8) (h : Heap) (hl : l.length ≤ 9000000000000000000) : SCalls env 116 [.str l, .str p] h (Ret (.tuple [.str (cutS l p), .bool (suffixS l p)]) h) := by
  refine SCalls.body Tryz.func116 rfl rfl (by simp [Tryz.ntmps116]) (SW.run [eHasSuffix0] _ ?_)
  cases e : suffixS l p
  · simp only [wpC, mayStop, stops, isFlt, Specs.has, eHasSuffix0, Specs.hasO, Bool.or_false, Specs.hasH, List.any_cons, List.any_nil, Bool.false_eq_true, ↓reduceIte, wpS, wantedA, okDst, Tryz.ntmps116, Nat.reduceLT, decide_true, step1, isOwnCall, hxOp, px, AS.eval, ofConst, ofVal, AS.put, enumA, Nat.zero_add, dropKey, reduceCtorEq, Nat.reduceEqDiff, thenQ, Bool.not_true, AS.get, Lift.look, Nat.succ_ne_zero, Option.getD_some, pcall, okArg, List.all_cons, List.all_nil, Bool.and_true, Specs.at, List.map_cons, List.map_nil, sSuffix, e, true_and, pun, Bool.not_false, isB, tmpOf, asB, RPost, sres, Tryz.results116, sresL, sres1, Option.some.injEq, cutS, Ret_fin, HTo_self, and_true, exists_eq_left', and_self]
    exact hl
  · have h1 := suffix_len e
    have hw : IntKind.i64.wrap ((l.length : Int) - (p.length : Int)) = ((l.length - p.length : Nat) : Int) := by rw [w64 (by omega) (by omega)]; omega
    simp only [wpC, mayStop, stops, isFlt, Specs.has, eHasSuffix0, Specs.hasO, Bool.or_false, Specs.hasH, List.any_cons, List.any_nil, Bool.false_eq_true, ↓reduceIte, wpS, wantedA, okDst, Tryz.ntmps116, Nat.reduceLT, decide_true, step1, isOwnCall, hxOp, px, AS.eval, ofConst, ofVal, AS.put, enumA, Nat.zero_add, dropKey, reduceCtorEq, Nat.reduceEqDiff, thenQ, Bool.not_true, AS.get, Lift.look, Nat.succ_ne_zero, Option.getD_some, pcall, okArg, List.all_cons, List.all_nil, Bool.and_true, Specs.at, List.map_cons, List.map_nil, sSuffix, e, true_and, pun, isB, tmpOf, asB, ty3, ty9, plen, okLen, and_self, isNilC, pbinP, pbinI, hw, pslice, pB, Int.cast_ofNat_Int, Int.reduceLE, Int.natCast_nonneg, Int.reduceToNat, Int.toNat_natCast, List.drop_zero, RPost, sres, Tryz.results116, sresL, sres1, Option.some.injEq, cutS, Ret_fin, HTo_self, and_true, exists_eq_left']
    exact ⟨hl, by omega⟩
noncomputable def eCutSuffix0 : SpecE env := ⟨116, sCutSuffix, fun args h hc => by
  unfold sCutSuffix at hc ⊢
  split at hc
  · rename_i l p; exact .inl (CutSuffix0_ok l p h hc)
  · exact hc.elim⟩
theorem CutSuffix_ok (l p : List UInt8) (h : Heap) (hl : l.length ≤ 9000000000000000000) : SCalls env 72 [.str l, .str p] h (Ret (.tuple [.str (cutS l p), .bool (suffixS l p)]) h) := by
  refine SCalls.body Tryz.func72 rfl rfl (by simp [Tryz.ntmps72]) (SW.run [eCutSuffix0] _ ?_)
  simp only [wpC, mayStop, stops, isFlt, Specs.has, eCutSuffix0, Specs.hasO, Bool.or_false, Specs.hasH, List.any_cons, List.any_nil, Bool.false_eq_true, ↓reduceIte, wpS, wantedA, okDst, Tryz.ntmps72, Nat.reduceLT, decide_true, step1, isOwnCall, hxOp, px, AS.eval, ofConst, ofVal, AS.put, enumA, Nat.zero_add, dropKey, reduceCtorEq, Nat.reduceEqDiff, thenQ, Bool.not_true, AS.get, Lift.look, Nat.succ_ne_zero, Option.getD_some, pcall, okArg, List.all_cons, List.all_nil, Bool.and_true, Specs.at, List.map_cons, List.map_nil, sCutSuffix, true_and, List.getElem?_cons_zero, List.getElem?_cons_succ, RPost, sres, Tryz.results72, sresL, sres1, Option.some.injEq, Ret_fin, HTo_self, and_true, exists_eq_left', and_self]
  exact hl
noncomputable def eCutSuffix : SpecE env := ⟨72, sCutSuffix, fun args h hc => by
  unfold sCutSuffix at hc ⊢
  split at hc
  · rename_i l p; exact .inl (CutSuffix_ok l p h hc)
  · exact hc.elim⟩
def sTrimSuffix : List PV → Prop × PV
  | [.str l, .str p] => (l.length ≤ 9000000000000000000, .str (cutS l p))
  | _ => PBad
theorem TrimSuffix0_ok (l p : List UInt8) (h : Heap) (hl : l.length ≤ 9000000000000000000) : SCalls env 97 [.str l, .str p] h (Ret (.str (cutS l p)) h) := by
  refine SCalls.body Tryz.func97 rfl rfl (by simp [Tryz.ntmps97]) (SW.run [eHasSuffix0] _ ?_)
  cases e : suffixS l p
  · simp only [wpC, mayStop, stops, isFlt, Specs.has, eHasSuffix0, Specs.hasO, Bool.or_false, Specs.hasH, List.any_cons, List.any_nil, Bool.false_eq_true, ↓reduceIte, wpS, wantedA, okDst, Tryz.ntmps97, Nat.reduceLT, decide_true, step1, isOwnCall, hxOp, px, AS.eval, ofConst, ofVal, thenQ, Bool.not_true, ty3, AS.put, enumA, Nat.zero_add, dropKey, reduceCtorEq, Nat.reduceEqDiff, AS.get, Lift.look, Nat.succ_ne_zero, Option.getD_some, pcall, okArg, List.all_cons, List.all_nil, Bool.and_true, Specs.at, List.map_cons, List.map_nil, sSuffix, e, true_and, isB, tmpOf, asB, RPost, sres, Tryz.results97, sresL, sres1, Option.some.injEq, cutS, Ret_fin, HTo_self, and_true, exists_eq_left', and_self]
    exact hl
  · have h1 := suffix_len e
    have hw : IntKind.i64.wrap ((l.length : Int) - (p.length : Int)) = ((l.length - p.length : Nat) : Int) := by rw [w64 (by omega) (by omega)]; omega
    simp only [wpC, mayStop, stops, isFlt, Specs.has, eHasSuffix0, Specs.hasO, Bool.or_false, Specs.hasH, List.any_cons, List.any_nil, Bool.false_eq_true, ↓reduceIte, wpS, wantedA, okDst, Tryz.ntmps97, Nat.reduceLT, decide_true, step1, isOwnCall, hxOp, px, AS.eval, ofConst, ofVal, thenQ, Bool.not_true, ty3, AS.put, enumA, Nat.zero_add, dropKey, reduceCtorEq, Nat.reduceEqDiff, AS.get, Lift.look, Nat.succ_ne_zero, Option.getD_some, pcall, okArg, List.all_cons, List.all_nil, Bool.and_true, Specs.at, List.map_cons, List.map_nil, sSuffix, e, true_and, isB, tmpOf, asB, ty9, plen, okLen, and_self, isNilC, pbinP, pbinI, hw, pslice, pB, Int.cast_ofNat_Int, Int.reduceLE, Int.natCast_nonneg, Int.reduceToNat, Int.toNat_natCast, List.drop_zero, RPost, sres, Tryz.results97, sresL, sres1, Option.some.injEq, cutS, Ret_fin, HTo_self, and_true, exists_eq_left']
    refine ⟨hl, ?_⟩
    omega
noncomputable def eTrimSuffix0 : SpecE env := ⟨97, sTrimSuffix, fun args h hc => by
  unfold sTrimSuffix at hc ⊢
  split at hc
  · rename_i l p; exact .inl (TrimSuffix0_ok l p h hc)
  · exact hc.elim⟩
theorem TrimSuffix_ok (l p : List UInt8) (h : Heap) (hl : l.length ≤ 9000000000000000000) : SCalls env 44 [.str l, .str p] h (Ret (.str (cutS l p)) h) := by
  refine SCalls.body Tryz.func44 rfl rfl (by simp [Tryz.ntmps44]) (SW.run [eTrimSuffix0] _ ?_)
  simp only [wpC, mayStop, stops, isFlt, Specs.has, eTrimSuffix0, Specs.hasO, Bool.or_false, Specs.hasH, List.any_cons, List.any_nil, Bool.false_eq_true, ↓reduceIte, wpS, wantedA, okDst, Tryz.ntmps44, Nat.reduceLT, decide_true, step1, isOwnCall, hxOp, px, AS.eval, ofConst, ofVal, thenQ, Bool.not_true, AS.put, enumA, Nat.zero_add, dropKey, reduceCtorEq, Nat.reduceEqDiff, AS.get, Lift.look, Nat.succ_ne_zero, Option.getD_some, pcall, okArg, List.all_cons, List.all_nil, Bool.and_true, Specs.at, List.map_cons, List.map_nil, sTrimSuffix, true_and, RPost, sres, Tryz.results44, sresL, sres1, Option.some.injEq, Ret_fin, HTo_self, and_true, exists_eq_left', and_self]
  exact hl
noncomputable def eTrimSuffix : SpecE env := ⟨44, sTrimSuffix, fun args h hc => by
  unfold sTrimSuffix at hc ⊢
  split at hc
  · rename_i l p; exact .inl (TrimSuffix_ok l p h hc)
  · exact hc.elim⟩
end Go.Proofs.YtincpomenogppaaGreatDoor
