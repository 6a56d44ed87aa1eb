/- Contracts of functions that the law reaches. -/
import Derived.Test.YtincpomenogppaaGreatDoorX0
set_option linter.unusedSimpArgs false
set_option linter.unusedVariables false
namespace Go.Proofs.YtincpomenogppaaGreatDoor
open Go Go.RowKit Go.Proofs.YtincpomenogppaaGreatDoor Go.Proofs.YtincpomenogppaaGreatDoor.Lift
set_option maxRecDepth 100000

def digs (x : Nat × List UInt8) : List UInt8 := if x.1 = 0 ∧ x.2 ≠ [] then x.2 else Lib.decDigits x.1 ++ x.2
theorem digs_step (u : Nat) (s : List UInt8) (h : 0 < u ∨ s = []) : digs (u / 10, UInt8.ofNat (48 + u % 10) :: s) = digs (u, s) := by
  have h1 : ¬ (u = 0 ∧ s ≠ []) := fun ⟨a, b⟩ => h.elim (fun h => by omega) b
  unfold digs
  rw [if_neg h1]
  by_cases hu : u < 10
  · rw [if_pos ⟨by show u / 10 = 0; omega, by simp⟩]
    show _ = Lib.decDigits u ++ s
    rw [Lib.decDigits, dif_pos hu, Nat.mod_eq_of_lt hu]
    rfl
  · rw [if_neg (fun ⟨a, _⟩ => by have a : u / 10 = 0 := a; omega)]
    show Lib.decDigits (u / 10) ++ (UInt8.ofNat (48 + u % 10) :: s) = Lib.decDigits u ++ s
    rw [Lib.decDigits.eq_def u, dif_neg hu]
    simp
theorem dec_len (u : Nat) (hu : u < 18446744073709551616) : (Lib.decDigits u).length ≤ 20 := by
  have key : ∀ (k u : Nat), u < 10 ^ k → 0 < k → (Lib.decDigits u).length ≤ k := by
    intro k
    induction k with
    | zero => intro u _ h; exact absurd h (by omega)
    | succ k ih =>
      intro u h _
      by_cases h10 : u < 10
      · rw [Lib.decDigits, dif_pos h10]; simp
      · rw [Lib.decDigits, dif_neg h10, List.length_append]
        have hk : 0 < k := by
          cases k with
          | zero => simp at h; omega
          | succ k => omega
        have := ih (u / 10) (by rw [Nat.pow_succ] at h; omega) hk
        simp only [List.length_cons, List.length_nil]
        omega
  exact key 20 u (by omega) (by omega)
theorem digs_len {x : Nat × List UInt8} (h : (digs x).length ≤ 20) : x.2.length ≤ 20 := by
  unfold digs at h
  split at h
  · exact h
  · rw [List.length_append] at h; omega
def sDigits : List PV → Prop × PV
  | [.int .i64 n] => (0 ≤ n ∧ n ≤ 9223372036854775807, .str (Lib.itoa n))
  | _ => PBad
theorem byte_digit (u : Nat) : u8of ((48 + u % 10 : Nat) : Int) = UInt8.ofNat (48 + u % 10) := by
  unfold u8of
  congr 1
  omega
set_option maxRecDepth 100000 in
theorem Digits_ok (n : Nat) (h : Heap) (h1 : n ≤ 9223372036854775807) : SCalls env 60 [.int .i64 (n : Nat)] h (Ret (.str (Lib.itoa (n : Nat))) h) := by
  refine SCalls.body Tryz.func60 rfl rfl (by simp [Tryz.ntmps60]) ?_
  refine SW.seq (SW.run [] _ ?_)
  simp only [wpC, Bool.false_eq_true, ↓reduceIte, wpS, stops, wantedA, okDst, Tryz.ntmps60, Nat.reduceLT, decide_true, step1, isOwnCall, hxOp, px, AS.eval, ofConst, ofVal, thenQ, AS.put, enumA, dropKey, reduceCtorEq, true_and]
  refine SW.seq (SW.run [] _ ?_)
  simp only [wpC, Bool.false_eq_true, ↓reduceIte, wpS, stops, wantedA, okDst, Nat.reduceLT, decide_true, step1, isOwnCall, hxOp, px, AS.eval, ofConst, ofVal, thenQ, AS.put, dropKey, Nat.reduceEqDiff, reduceCtorEq, true_and]
  have hd := dec_len n (by omega)
  refine SW.seq (SW.block ?_)
  refine SW.loopH 21 (fun b : Nat × List UInt8 => [(0, .int .i64 (b.1 : Int)), (3, .str b.2)]) (fun _ => h) (fun b => digs b = Lib.decDigits n ∧ b.1 ≤ 9223372036854775807) (fun b => if b.2 = [] then b.1 + 1 else b.1) (n, []) ⟨by unfold digs; rw [if_neg (by simp)]; simp, h1⟩ ?_ ?_
  · exact ⟨rfl, HTo.refl _ _, ⟨rfl, rfl, trivial⟩⟩
  rintro ⟨u, s⟩ ⟨hinv, hub⟩
  have hub : u ≤ 9223372036854775807 := hub
  have hs20 := digs_len (x := (u, s)) (by rw [hinv]; exact hd)
  have hs20 : s.length ≤ 20 := hs20
  by_cases hgo : 0 < u ∨ s = []
  · have e1 : Int.tmod (u : Int) 10 = ((u % 10 : Nat) : Int) := by
      have := Int.ofNat_tmod u 10
      exact this.symm
    have e2 : IntKind.i64.wrap (48 + ((u % 10 : Nat) : Int)) = ((48 + u % 10 : Nat) : Int) := by
      rw [w64 (by omega) (by omega)]; rfl
    have e3 : IntKind.i64.wrap (Int.tdiv (u : Int) 10) = ((u / 10 : Nat) : Int) := by
      have := (Int.ofNat_tdiv u 10).symm
      rw [show Int.tdiv (u : Int) 10 = ((u / 10 : Nat) : Int) from this, w64 (by omega) (by omega)]
    have e4 := byte_digit u
    have hl : 1 + s.length ≤ 9223372036854775807 := by omega
    by_cases hu0 : 0 < u
    · have hu : (0 : Int) < (u : Int) := by omega
      refine SW.run [] _ ?_
      simp only [wpC, mayStop, stops, isFlt, Specs.has, Specs.hasO, Bool.or_false, Specs.hasH, Bool.not_false, List.any_cons, List.any_nil, Bool.false_eq_true, ↓reduceIte, wpS, wantedA, okDst, Nat.reduceLT, decide_true, step1, isOwnCall, hxOp, px, AS.eval, AS.get, Lift.look, Option.getD_some, AS.put, dropKey, reduceCtorEq, Nat.reduceEqDiff, isNilC, pbinP, ofConst, ofVal, pbinI, hu, List.getElem?_toArray, List.getElem?_cons_succ, List.getElem?_cons_zero, Option.bind_some, beq_tf, Option.some.injEq, ppick_true, thenQ, isB, tmpOf, asB, ty3, ty9, Nat.succ_ne_zero, ne_eq, Int.reduceEq, not_false_eq_true, and_self, e1, e2, ty5, pconvH, pconv, wrap_byte, e4, pbuildSlice, ty65, List.replicate, List.map_cons, List.map_nil, List.flatten_cons, List.flatten_nil, List.append_nil, pfill, PV.cells, List.length_cons, List.length_nil, Nat.zero_add, Nat.reduceMul, Nat.le_refl, splice, List.take_zero, List.nil_append, List.drop_succ_cons, List.drop_nil, Nat.reduceLeDiff, okZero, List.all_cons, Value.oneCell', List.all_nil, Bool.and_true, known, chunk, List.take_succ_cons, List.take_nil, unB, Int.natCast_nonneg, byte_lt_T, Int.toNat_natCast, UInt8.ofNat_toNat, pbinS, hl, List.cons_append, e3, inQ, HTo_self, hasAll, and_true, true_and]
      refine ⟨(u / 10, UInt8.ofNat (48 + u % 10) :: s), ⟨(digs_step u s hgo).trans hinv, by show u / 10 ≤ _; omega⟩, ?_, rfl, rfl⟩
      show (if (UInt8.ofNat (48 + u % 10) :: s) = [] then u / 10 + 1 else u / 10) < _
      rw [if_neg (by simp)]
      first
        | omega
        | (split <;> omega)
    · have hs : s = [] := hgo.resolve_left hu0
      subst hs
      have hu : ¬ (0 : Int) < (u : Int) := by omega
      refine SW.run [] _ ?_
      simp only [wpC, mayStop, stops, isFlt, Specs.has, Specs.hasO, Bool.or_false, Specs.hasH, Bool.not_false, List.any_cons, List.any_nil, Bool.false_eq_true, ↓reduceIte, wpS, wantedA, okDst, Nat.reduceLT, decide_true, step1, isOwnCall, hxOp, px, AS.eval, AS.get, Lift.look, Option.getD_some, AS.put, dropKey, reduceCtorEq, Nat.reduceEqDiff, isNilC, pbinP, ofConst, ofVal, pbinI, hu, decide_false, List.getElem?_toArray, List.getElem?_cons_succ, List.getElem?_cons_zero, Option.bind_some, beq_self_eq_true, pbinS, ppick_bool, thenQ, isB, tmpOf, asB, ty3, ty9, Nat.succ_ne_zero, ne_eq, Int.reduceEq, not_false_eq_true, and_self, e1, e2, ty5, pconvH, pconv, wrap_byte, e4, pbuildSlice, ty65, List.replicate, List.map_cons, List.map_nil, List.flatten_cons, List.flatten_nil, List.append_nil, pfill, PV.cells, List.length_cons, List.length_nil, Nat.zero_add, Nat.reduceMul, Nat.le_refl, splice, List.take_zero, List.nil_append, List.drop_succ_cons, List.drop_nil, Nat.reduceLeDiff, okZero, List.all_cons, Value.oneCell', List.all_nil, Bool.and_true, known, chunk, List.take_succ_cons, List.take_nil, unB, Int.natCast_nonneg, byte_lt_T, Int.toNat_natCast, UInt8.ofNat_toNat, Nat.add_zero, e3, inQ, HTo_self, hasAll, and_true, true_and]
      refine ⟨(u / 10, UInt8.ofNat (48 + u % 10) :: []), ⟨(digs_step u [] hgo).trans hinv, by show u / 10 ≤ _; omega⟩, ?_, rfl, rfl⟩
      show (if (UInt8.ofNat (48 + u % 10) :: []) = [] then u / 10 + 1 else u / 10) < _
      rw [if_neg (by simp)]
      first
        | omega
        | (split <;> omega)
  · have hu0 : u = 0 := by omega
    have hs0 : s ≠ [] := fun e => hgo (.inr e)
    subst hu0
    have hs1 : (s == ([] : List UInt8)) = false := by simpa using hs0
    have hu : ¬ (0 : Int) < ((0 : Nat) : Int) := by omega
    have hres : Lib.itoa (n : Nat) = s := by
      unfold Lib.itoa
      rw [if_neg (by omega), Int.toNat_natCast, ← hinv]
      unfold digs
      rw [if_pos ⟨rfl, hs0⟩]
    rw [hres]
    refine SW.run [] _ ?_
    simp only [wpC, mayStop, stops, isFlt, Specs.has, Specs.hasO, Bool.or_false, Specs.hasH, Bool.not_false, List.any_cons, List.any_nil, Bool.false_eq_true, ↓reduceIte, wpS, wantedA, okDst, Nat.reduceLT, decide_true, step1, isOwnCall, hxOp, px, AS.eval, AS.get, Lift.look, Int.cast_ofNat_Int, Option.getD_some, AS.put, dropKey, reduceCtorEq, Nat.reduceEqDiff, isNilC, pbinP, ofConst, ofVal, pbinI, Int.lt_irrefl, decide_false, List.getElem?_toArray, List.getElem?_cons_succ, List.getElem?_cons_zero, Option.bind_some, beq_self_eq_true, pbinS, hs1, ppick_bool, thenQ, isB, tmpOf, asB, inQ, true_and]
    refine SW.run [] _ ?_
    simp only [wpC, mayStop, stops, isFlt, Specs.has, Specs.hasO, Bool.or_false, Specs.hasH, Bool.not_false, List.any_cons, List.any_nil, Bool.false_eq_true, ↓reduceIte, wpS, wantedA, okDst, Nat.reduceLT, decide_true, step1, isOwnCall, hxOp, px, AS.eval, AS.get, Lift.look, Nat.reduceEqDiff, reduceCtorEq, Option.getD_some, AS.put, dropKey, thenQ, RPost, sres, Tryz.results60, sresL, sres1, Option.some.injEq, Ret_fin, HTo_self, and_true, exists_eq_left', and_self]
noncomputable def eDigits : SpecE env := ⟨60, sDigits, fun args h hc => by
  unfold sDigits at hc ⊢
  split at hc
  · rename_i n
    obtain ⟨k, rfl⟩ : ∃ k : Nat, n = (k : Int) := ⟨n.toNat, by have := hc.1; omega⟩
    exact .inl (Digits_ok k h (by have := hc.2; omega))
  · exact hc.elim⟩
def shownS (c : UInt8) (ls : List (List UInt8)) : List UInt8 := (ls.map (showG c)).flatten
theorem shownS_next {c : UInt8} {ls : List (List UInt8)} {i : Nat} (h : i < ls.length) : shownS c (ls.take (i + 1)) = shownS c (ls.take i) ++ showG c ls[i] := by
  unfold shownS
  rw [List.take_succ_eq_append_getElem h, List.map_append, List.flatten_append]
  simp
theorem shownS_pre (c : UInt8) (ls : List (List UInt8)) (i : Nat) : (shownS c (ls.take i)).length ≤ (shownS c ls).length := by
  have : shownS c ls = shownS c (ls.take i) ++ shownS c (ls.drop i) := by
    unfold shownS; rw [← List.flatten_append, ← List.map_append, List.take_append_drop]
  rw [this, List.length_append]; omega
theorem showK_shown (dl : Nat) : ∀ (i : Nat) (ls : List (List UInt8)), (∀ j, i ≤ j → j < i + ls.length → signS dl j = signS dl i) → showK dl i ls = shownS (signS dl i) ls
  | i, [], _ => rfl
  | i, l :: ls, h => by
    have h2 := showK_shown dl (i + 1) ls fun j h1 h2 => by
      rw [h j (by omega) (by simp; omega)]
      cases ls with
      | nil => simp at h2; omega
      | cons x ls => rw [h (i + 1) (by omega) (by simp)]
    show showG (signS dl i) l ++ showK dl (i + 1) ls = showG (signS dl i) l ++ shownS (signS dl i) ls
    rw [h2]
    cases ls with
    | nil => rfl
    | cons x ls => rw [h (i + 1) (by omega) (by simp)]
theorem showT_shown (e : Ed) : showT e = hdrS e ++ (shownS 45 e.del ++ shownS 43 e.ins) := by
  unfold showT
  rw [showK_append]
  congr 2
  · cases hd : e.del with
    | nil => rfl
    | cons x d =>
      have h := showK_shown (x :: d).length 0 (x :: d) fun j _ h2 => by
        unfold signS
        rw [if_neg (by omega), if_neg (by simp)]
      rw [h]
      congr 1
  · rw [Nat.zero_add]
    have h := showK_shown e.del.length e.del.length e.ins fun j h1 _ => by
      unfold signS
      rw [if_pos h1, if_pos (Nat.le_refl _)]
    rw [h]
    congr 1
    unfold signS
    rw [if_pos (Nat.le_refl _)]
def shownR (c : UInt8) (ls : List (List UInt8)) : PV := if ls.all lineB = true then .tuple [.str (shownS c ls), .bool true] else .tuple [.str [], .bool false]
set_option maxHeartbeats 2000000 in
theorem Shown_ok (c : UInt8) (ls : List (List UInt8)) (hl : ls.length ≤ 1000000) (hs : ∀ l ∈ ls, l.length ≤ 1000000000) (hb : (shownS c ls).length ≤ 100000000000000) (h : Heap) : SCalls env 59 [.str [c], .list 1 (strL ls)] h (Ret (shownR c ls) h) := by
  refine SCalls.body Tryz.func59 rfl rfl (by simp [Tryz.ntmps59]) ?_
  refine SW.seq (SW.run [] _ ?_)
  simp only [wpC, Bool.false_eq_true, ↓reduceIte, wpS, stops, wantedA, okDst, Tryz.ntmps59, Nat.reduceLT, decide_true, step1, isOwnCall, hxOp, px, AS.eval, ofConst, ofVal, AS.put, enumA, Nat.zero_add, dropKey, reduceCtorEq, Nat.reduceEqDiff, thenQ, true_and]
  refine SW.seq (SW.run [] _ ?_)
  simp only [wpC, Bool.false_eq_true, ↓reduceIte, wpS, stops, wantedA, okDst, Nat.reduceLT, decide_true, step1, isOwnCall, hxOp, px, AS.eval, ofConst, ofVal, thenQ, AS.put, dropKey, Nat.reduceEqDiff, reduceCtorEq, true_and]
  refine SW.seq (SW.seq (SW.run [] _ ?_))
  simp only [wpC, Bool.false_eq_true, ↓reduceIte, wpS, stops, wantedA, okDst, Nat.reduceLT, decide_true, step1, isOwnCall, hxOp, px, AS.eval, ofConst, ofVal, thenQ, AS.put, dropKey, Nat.reduceEqDiff, reduceCtorEq, true_and]
  refine SW.block (SW.loopK 37 (fun i : Nat => [(0, .str [c]), (1, .list 1 (strL ls)), (6, .str (shownS c (ls.take i))), (7, .int .i64 (i : Nat))]) (fun _ => h) (fun i => i ≤ ls.length ∧ (ls.take i).all lineB = true) (fun i => ls.length - i) 0 ⟨Nat.zero_le _, rfl⟩ ?_ ?_)
  · simp only [Has, hasAll, AS.get, Lift.look, Nat.succ_ne_zero, ↓reduceIte, Option.getD_some, Nat.reduceEqDiff, reduceCtorEq, List.take_zero, Int.cast_ofNat_Int, and_self, and_true, true_and]
    rfl
  rintro i ⟨hi, hall⟩
  refine SW.seq (SW.run [] _ ?_)
  by_cases hlt : i < ls.length
  · have hw : IntKind.i64.wrap ((i : Int) + 1) = ((i + 1 : Nat) : Int) := by rw [w64 (by omega) (by omega)]; rfl
    have hg := strL_at hlt
    have hl9 := hs _ (List.getElem_mem hlt)
    have hnx := shownS_next (c := c) hlt
    have hpre := shownS_pre c ls (i + 1)
    rw [hnx, List.length_append] at hpre
    have hgl : (showG c ls[i]).length = 1 + ls[i].length + (if endB ls[i] then 0 else 3) := by
      unfold showG
      cases endB ls[i] <;> simp <;> omega
    simp only [wpC, mayStop, stops, isFlt, Specs.has, Specs.hasO, Bool.or_false, Specs.hasH, Bool.not_false, List.any_cons, List.any_nil, Bool.false_eq_true, ↓reduceIte, wpS, wantedA, okDst, Nat.reduceLT, decide_true, step1, isOwnCall, hxOp, px, AS.eval, AS.get, Lift.look, reduceCtorEq, Nat.reduceEqDiff, Option.getD_some, AS.put, dropKey, pcall, ty43, plen, strL_len, okLen, and_self, isNilC, pbinP, pbinI, Int.ofNat_lt, hlt, thenQ, isB, tmpOf, asB, Has, hasAll, and_true, true_and]
    refine SW.seq (SW.block (SW.seq (SW.run [eSingle] _ ?_)))
    cases hlb : lineB ls[i]
    · have he : shownR c ls = .tuple [.str [], .bool false] := by
        unfold shownR
        rw [if_neg]
        intro k
        rw [List.all_eq_true] at k
        have := k _ (List.getElem_mem hlt)
        rw [hlb] at this; cases this
      simp only [wpC, mayStop, stops, isFlt, Specs.has, eSingle, Specs.hasO, Bool.or_false, Specs.hasH, List.any_cons, ↓reduceIte, Bool.not_true, List.any_nil, Bool.false_eq_true, wpS, wantedA, okDst, Nat.reduceLT, decide_true, step1, isOwnCall, hxOp, px, AS.eval, AS.get, Lift.look, Nat.reduceEqDiff, reduceCtorEq, Option.getD_some, AS.put, dropKey, pindexAddr, ty43, ty9, ne_eq, Nat.succ_ne_zero, not_false_eq_true, Int.natCast_nonneg, Int.toNat_natCast, strL_len, hlt, and_self, hg, pload, okOne, TK.isAgg, beq_self_eq_true, Bool.or_true, List.length_cons, List.length_nil, Nat.zero_add, Nat.le_refl, Lift.valOf, List.take_succ_cons, List.take_nil, List.getD_cons_zero, pcall, okArg, ofConst, ofVal, List.all_cons, List.all_nil, Bool.and_true, Specs.at, List.map_cons, List.map_nil, sLB, hl9, hlb, pun, Bool.not_false, thenQ, isB, tmpOf, asB, inQ, RPost, sres, Tryz.results59, sresL, sres1, Option.some.injEq, he, Ret_fin, HTo_self, and_true, exists_eq_left']
    have hall2 : (ls.take (i + 1)).all lineB = true := by rw [List.take_succ_eq_append_getElem hlt, List.all_append, hall]; simp [hlb]
    simp only [wpC, mayStop, stops, isFlt, Specs.has, eSingle, Specs.hasO, Bool.or_false, Specs.hasH, List.any_cons, ↓reduceIte, Bool.not_true, List.any_nil, Bool.false_eq_true, wpS, wantedA, okDst, Nat.reduceLT, decide_true, step1, isOwnCall, hxOp, px, AS.eval, AS.get, Lift.look, Nat.reduceEqDiff, reduceCtorEq, Option.getD_some, AS.put, dropKey, pindexAddr, ty43, ty9, ne_eq, Nat.succ_ne_zero, not_false_eq_true, Int.natCast_nonneg, Int.toNat_natCast, strL_len, hlt, and_self, hg, pload, okOne, TK.isAgg, beq_self_eq_true, Bool.or_true, List.length_cons, List.length_nil, Nat.zero_add, Nat.le_refl, Lift.valOf, List.take_succ_cons, List.take_nil, List.getD_cons_zero, pcall, okArg, ofConst, ofVal, List.all_cons, List.all_nil, Bool.and_true, Specs.at, List.map_cons, List.map_nil, sLB, hl9, hlb, pun, thenQ, isB, tmpOf, asB, true_and]
    have hll := List.getElem_mem hlt
    refine SW.seq (SW.run [] _ ?_)
    simp only [wpC, Bool.false_eq_true, ↓reduceIte, wpS, stops, wantedA, okDst, Nat.reduceLT, decide_true, step1, isOwnCall, hxOp, px, AS.eval, AS.get, Lift.look, Nat.reduceEqDiff, reduceCtorEq, Option.getD_some, AS.put, dropKey, Nat.succ_ne_zero, pindexAddr, ty43, ty9, ne_eq, not_false_eq_true, Int.natCast_nonneg, Int.toNat_natCast, strL_len, hlt, and_self, hg, pload, okOne, TK.isAgg, beq_self_eq_true, Bool.or_true, List.length_cons, List.length_nil, Nat.zero_add, Nat.le_refl, Lift.valOf, List.take_succ_cons, List.take_nil, List.getD_cons_zero, isFlt, isNilC, pbinP, pbinS, List.cons_append, List.nil_append, thenQ, true_and]
    refine ⟨by omega, by first | omega | (simp only [List.length_append, List.length_cons]; omega), ?_⟩
    refine SW.run [eEnded] _ ?_
    cases hen : endB ls[i]
    · rw [hen] at hgl
      have hgl : (showG c ls[i]).length = 1 + ls[i].length + 3 := hgl
      have hge : shownS c (ls.take i) ++ (c :: ls[i]) ++ [10, 92, 10] = shownS c (ls.take (i + 1)) := by rw [hnx]; unfold showG; rw [hen]; simp
      simp only [wpC, mayStop, stops, isFlt, Specs.has, eEnded, Specs.hasO, Bool.or_false, Specs.hasH, List.any_cons, ↓reduceIte, Bool.not_true, List.any_nil, Bool.false_eq_true, wpS, wantedA, okDst, Nat.reduceLT, decide_true, step1, isOwnCall, hxOp, px, AS.eval, AS.get, Lift.look, Nat.reduceEqDiff, reduceCtorEq, Option.getD_some, AS.put, dropKey, pindexAddr, ty43, ty9, ne_eq, Nat.succ_ne_zero, not_false_eq_true, Int.natCast_nonneg, Int.toNat_natCast, strL_len, hlt, and_self, hg, pload, okOne, TK.isAgg, beq_self_eq_true, Bool.or_true, List.length_cons, List.length_nil, Nat.zero_add, Nat.le_refl, Lift.valOf, List.take_succ_cons, List.take_nil, List.getD_cons_zero, pcall, okArg, ofConst, ofVal, List.all_cons, List.all_nil, Bool.and_true, Specs.at, List.map_cons, List.map_nil, sLB, hl9, hen, pun, Bool.not_false, thenQ, isB, tmpOf, asB, isNilC, pbinP, pbinS, Nat.reduceAdd, Nat.reduceLeDiff, inQ, true_and]
      refine ⟨by simp only [List.length_append, List.length_cons]; omega, ?_⟩
      refine SW.run [] _ ?_
      simp only [wpC, Bool.false_eq_true, ↓reduceIte, wpS, stops, wantedA, okDst, Nat.reduceLT, decide_true, step1, isOwnCall, hxOp, px, AS.eval, AS.get, Lift.look, Nat.reduceEqDiff, reduceCtorEq, Option.getD_some, isFlt, ty3, AS.put, dropKey, isNilC, pbinP, ofConst, ofVal, pbinI, hw, thenQ, Nat.succ_ne_zero, true_and]
      exact ⟨i + 1, ⟨by omega, hall2⟩, by omega, by rw [← hge], rfl⟩
    · rw [hen] at hgl
      have hge : shownS c (ls.take i) ++ (c :: ls[i]) = shownS c (ls.take (i + 1)) := by rw [hnx]; unfold showG; rw [hen]; simp
      simp only [wpC, mayStop, stops, isFlt, Specs.has, eEnded, Specs.hasO, Bool.or_false, Specs.hasH, List.any_cons, ↓reduceIte, Bool.not_true, List.any_nil, Bool.false_eq_true, wpS, wantedA, okDst, Nat.reduceLT, decide_true, step1, isOwnCall, hxOp, px, AS.eval, AS.get, Lift.look, Nat.reduceEqDiff, reduceCtorEq, Option.getD_some, AS.put, dropKey, pindexAddr, ty43, ty9, ne_eq, Nat.succ_ne_zero, not_false_eq_true, Int.natCast_nonneg, Int.toNat_natCast, strL_len, hlt, and_self, hg, pload, okOne, TK.isAgg, beq_self_eq_true, Bool.or_true, List.length_cons, List.length_nil, Nat.zero_add, Nat.le_refl, Lift.valOf, List.take_succ_cons, List.take_nil, List.getD_cons_zero, pcall, okArg, ofConst, ofVal, List.all_cons, List.all_nil, Bool.and_true, Specs.at, List.map_cons, List.map_nil, sLB, hl9, hen, pun, thenQ, isB, tmpOf, asB, inQ, true_and]
      refine SW.run [] _ ?_
      simp only [wpC, Bool.false_eq_true, ↓reduceIte, wpS, stops, wantedA, okDst, Nat.reduceLT, decide_true, step1, isOwnCall, hxOp, px, AS.eval, AS.get, Lift.look, Nat.reduceEqDiff, reduceCtorEq, Option.getD_some, isFlt, ty3, AS.put, dropKey, isNilC, pbinP, ofConst, ofVal, pbinI, hw, thenQ, Nat.succ_ne_zero, true_and]
      exact ⟨i + 1, ⟨by omega, hall2⟩, by omega, by rw [← hge], rfl⟩
  · rw [List.take_of_length_le (by omega)] at hall
    have he : shownR c ls = .tuple [.str (shownS c ls), .bool true] := by unfold shownR; rw [if_pos hall]
    have ht : ls.take i = ls := List.take_of_length_le (by omega)
    rw [he, ht]
    simp only [wpC, mayStop, stops, isFlt, Specs.has, Specs.hasO, Bool.or_false, Specs.hasH, Bool.not_false, List.any_cons, List.any_nil, Bool.false_eq_true, ↓reduceIte, wpS, wantedA, okDst, Nat.reduceLT, decide_true, step1, isOwnCall, hxOp, px, AS.eval, AS.get, Lift.look, reduceCtorEq, Nat.reduceEqDiff, Option.getD_some, AS.put, dropKey, pcall, ty43, plen, strL_len, okLen, and_self, isNilC, pbinP, pbinI, Int.ofNat_lt, hlt, decide_false, thenQ, isB, tmpOf, asB, inQ, true_and]
    refine SW.run [] _ ?_
    simp only [wpC, mayStop, stops, isFlt, Specs.has, Specs.hasO, Bool.or_false, Specs.hasH, Bool.not_false, List.any_cons, List.any_nil, Bool.false_eq_true, ↓reduceIte, wpS, wantedA, okDst, Nat.reduceLT, decide_true, step1, isOwnCall, hxOp, px, AS.eval, AS.get, Lift.look, Nat.reduceEqDiff, reduceCtorEq, Option.getD_some, AS.put, dropKey, ofConst, ofVal, thenQ, RPost, sres, Tryz.results59, sresL, sres1, Option.some.injEq, Ret_fin, HTo_self, and_true, exists_eq_left', and_self]
def sShown (c : UInt8) (ls : List (List UInt8)) : List PV → Prop × PV
  | [.str [c'], .list 1 xs] => (c' = c ∧ xs = strL ls ∧ ls.length ≤ 1000000 ∧ (∀ l ∈ ls, l.length ≤ 1000000000) ∧ (shownS c ls).length ≤ 100000000000000, shownR c ls)
  | _ => PBad
noncomputable def eShown (c : UInt8) (ls : List (List UInt8)) : SpecE env := ⟨59, sShown c ls, fun args h hc => by
  unfold sShown at hc ⊢
  split at hc
  · obtain ⟨rfl, rfl, h1, h2, h3⟩ := hc
    exact .inl (Shown_ok _ ls h1 h2 h3 h)
  · exact hc.elim⟩
end Go.Proofs.YtincpomenogppaaGreatDoor

namespace Go.Proofs.YtincpomenogppaaGreatDoor
open Go Go.RowKit Go.Proofs.YtincpomenogppaaGreatDoor Go.Proofs.YtincpomenogppaaGreatDoor.Lift
set_option maxRecDepth 100000

theorem fit_shown {e : Ed} : (shownS 45 e.del).length ≤ (showT e).length ∧ (shownS 43 e.ins).length ≤ (showT e).length := by
  rw [showT_shown, List.length_append, List.length_append]; omega
set_option maxHeartbeats 8000000 in
set_option maxRecDepth 100000 in
theorem RShow_ok (es : List Ed) (hs : ∀ e ∈ es, e.fit) (hl : es.length ≤ 1000000) (hb : (showB es).length ≤ 100000000000000) (h : Heap) : SCalls env 11 [.list 4 (edL es)] h (Ret (showR es) h) := by
  refine SCalls.body Tryz.func11 rfl rfl (by simp [Tryz.ntmps11]) ?_
  refine SW.seq (SW.run [] _ ?_)
  simp only [wpC, Bool.false_eq_true, ↓reduceIte, wpS, stops, wantedA, okDst, Tryz.ntmps11, Nat.reduceLT, decide_true, step1, isOwnCall, hxOp, px, AS.eval, ofConst, ofVal, AS.put, enumA, dropKey, reduceCtorEq, thenQ, Nat.reduceEqDiff, true_and]
  refine SW.seq (SW.seq (SW.run [] _ ?_))
  simp only [wpC, Bool.false_eq_true, ↓reduceIte, wpS, stops, wantedA, okDst, Nat.reduceLT, decide_true, step1, isOwnCall, hxOp, px, AS.eval, ofConst, ofVal, thenQ, AS.put, dropKey, Nat.reduceEqDiff, reduceCtorEq, true_and]
  refine SW.block (SW.loopK 89 (fun i : Nat => [(0, .list 4 (edL es)), (4, .int .i64 (i : Nat))]) (fun _ => h) (fun i => i ≤ es.length ∧ (es.take i).any negB = false) (fun i => es.length - i) 0 ⟨Nat.zero_le _, rfl⟩ ?_ ?_)
  · simp only [Has, hasAll, AS.get, Lift.look, Nat.succ_ne_zero, ↓reduceIte, Option.getD_some, Int.cast_ofNat_Int, and_self]
  rintro i ⟨hi, hno⟩
  refine SW.seq (SW.run [] _ ?_)
  by_cases hlt : i < es.length
  · have hw : IntKind.i64.wrap ((i : Int) + 1) = ((i + 1 : Nat) : Int) := by rw [w64 (by omega) (by omega)]; rfl
    have hg := edL_at hlt
    simp only [wpC, mayStop, stops, isFlt, Specs.has, Specs.hasO, Bool.or_false, Specs.hasH, Bool.not_false, List.any_cons, List.any_nil, Bool.false_eq_true, ↓reduceIte, wpS, wantedA, okDst, Nat.reduceLT, decide_true, step1, isOwnCall, hxOp, px, AS.eval, AS.get, Lift.look, reduceCtorEq, Option.getD_some, AS.put, dropKey, Nat.reduceEqDiff, Nat.succ_ne_zero, pcall, ty22, plen, edL_len, okLen, and_self, isNilC, pbinP, pbinI, Int.ofNat_lt, hlt, thenQ, isB, tmpOf, asB, Has, hasAll, and_true, true_and]
    refine SW.seq (SW.block (SW.run [] _ ?_))
    by_cases hn : es[i].a < 0 ∨ es[i].b < 0
    · have hng : negS es = true := by
        unfold negS
        rw [List.any_eq_true]
        exact ⟨_, List.getElem_mem hlt, by unfold negB; rw [Bool.or_eq_true, decide_eq_true_eq, decide_eq_true_eq]; exact hn⟩
      have he : showR es = .tuple [.str [], .int .i64 11] := by unfold showR showS; rw [if_pos hng]
      rw [he]
      by_cases h1 : es[i].a < 0
      · simp only [wpC, mayStop, stops, isFlt, Specs.has, Specs.hasO, Bool.or_false, Specs.hasH, Bool.not_false, List.any_cons, List.any_nil, Bool.false_eq_true, ↓reduceIte, wpS, wantedA, okDst, Nat.reduceLT, decide_true, step1, isOwnCall, hxOp, px, AS.eval, AS.get, Lift.look, Nat.succ_ne_zero, Option.getD_some, AS.put, dropKey, Nat.reduceEqDiff, reduceCtorEq, pindexAddr, ty22, ty77, ne_eq, not_false_eq_true, Int.natCast_nonneg, Int.toNat_natCast, edL_len, hlt, and_self, hg, edV, pfieldAddr, fieldOf, fieldIn, List.getElem?_cons_zero, ty3, Option.map_some, List.drop_zero, pload, okOne, TK.isAgg, beq_self_eq_true, Bool.or_true, List.length_cons, List.length_nil, Nat.zero_add, Nat.reduceAdd, Nat.reduceLeDiff, Lift.valOf, List.take_succ_cons, List.take_zero, List.getD_cons_zero, isNilC, pbinP, ofConst, ofVal, pbinI, h1, List.getElem?_toArray, List.getElem?_cons_succ, Option.bind_some, beq_tf, Option.some.injEq, ppick_true, thenQ, isB, tmpOf, asB, inQ, RPost, sres, Tryz.results11, sresL, sres1, Ret_fin, HTo_self, and_true, exists_eq_left']
      · have h2 := hn.resolve_left h1
        simp only [wpC, mayStop, stops, isFlt, Specs.has, Specs.hasO, Bool.or_false, Specs.hasH, Bool.not_false, List.any_cons, List.any_nil, Bool.false_eq_true, ↓reduceIte, wpS, wantedA, okDst, Nat.reduceLT, decide_true, step1, isOwnCall, hxOp, px, AS.eval, AS.get, Lift.look, Nat.succ_ne_zero, Option.getD_some, AS.put, dropKey, Nat.reduceEqDiff, reduceCtorEq, pindexAddr, ty22, ty77, ne_eq, not_false_eq_true, Int.natCast_nonneg, Int.toNat_natCast, edL_len, hlt, and_self, hg, edV, pfieldAddr, fieldOf, fieldIn, List.getElem?_cons_zero, ty3, Option.map_some, List.drop_zero, pload, okOne, TK.isAgg, beq_self_eq_true, Bool.or_true, List.length_cons, List.length_nil, Nat.zero_add, Nat.reduceAdd, Nat.reduceLeDiff, Lift.valOf, List.take_succ_cons, List.take_zero, List.getD_cons_zero, isNilC, pbinP, ofConst, ofVal, pbinI, h1, decide_false, List.getElem?_toArray, List.getElem?_cons_succ, Option.bind_some, List.drop_succ_cons, h2, ppick_bool, thenQ, isB, tmpOf, asB, inQ, RPost, sres, Tryz.results11, sresL, sres1, Option.some.injEq, Ret_fin, HTo_self, and_true, exists_eq_left']
    · have h1 : ¬ es[i].a < 0 := fun k => hn (.inl k)
      have h2 : ¬ es[i].b < 0 := fun k => hn (.inr k)
      simp only [wpC, mayStop, stops, isFlt, Specs.has, Specs.hasO, Bool.or_false, Specs.hasH, Bool.not_false, List.any_cons, List.any_nil, Bool.false_eq_true, ↓reduceIte, wpS, wantedA, okDst, Nat.reduceLT, decide_true, step1, isOwnCall, hxOp, px, AS.eval, AS.get, Lift.look, Nat.succ_ne_zero, Option.getD_some, AS.put, dropKey, Nat.reduceEqDiff, reduceCtorEq, pindexAddr, ty22, ty77, ne_eq, not_false_eq_true, Int.natCast_nonneg, Int.toNat_natCast, edL_len, hlt, and_self, hg, edV, pfieldAddr, fieldOf, fieldIn, List.getElem?_cons_zero, ty3, Option.map_some, List.drop_zero, pload, okOne, TK.isAgg, beq_self_eq_true, Bool.or_true, List.length_cons, List.length_nil, Nat.zero_add, Nat.reduceAdd, Nat.reduceLeDiff, Lift.valOf, List.take_succ_cons, List.take_zero, List.getD_cons_zero, isNilC, pbinP, ofConst, ofVal, pbinI, h1, decide_false, List.getElem?_toArray, List.getElem?_cons_succ, Option.bind_some, List.drop_succ_cons, h2, ppick_bool, thenQ, isB, tmpOf, asB, inQ, true_and]
      refine SW.run [] _ ?_
      simp only [wpC, Bool.false_eq_true, ↓reduceIte, wpS, stops, wantedA, okDst, Nat.reduceLT, decide_true, step1, isOwnCall, hxOp, px, AS.eval, AS.get, Lift.look, Nat.reduceEqDiff, reduceCtorEq, Option.getD_some, isFlt, ty3, AS.put, dropKey, isNilC, pbinP, ofConst, ofVal, pbinI, hw, thenQ, Nat.succ_ne_zero, true_and]
      exact ⟨i + 1, ⟨by omega, by rw [List.take_succ_eq_append_getElem hlt, List.any_append, hno]; simp [negB, h1, h2]⟩, by omega, rfl⟩
  have hng : negS es = false := by rw [List.take_of_length_le (by omega)] at hno; exact hno
  clear hno
  simp only [wpC, mayStop, stops, isFlt, Specs.has, Specs.hasO, Bool.or_false, Specs.hasH, Bool.not_false, List.any_cons, List.any_nil, Bool.false_eq_true, ↓reduceIte, wpS, wantedA, okDst, Nat.reduceLT, decide_true, step1, isOwnCall, hxOp, px, AS.eval, AS.get, Lift.look, reduceCtorEq, Option.getD_some, AS.put, dropKey, Nat.reduceEqDiff, Nat.succ_ne_zero, pcall, ty22, plen, edL_len, okLen, and_self, isNilC, pbinP, pbinI, Int.ofNat_lt, hlt, decide_false, thenQ, isB, tmpOf, asB, inQ, true_and]
  clear hlt hi
  refine SW.seq (SW.run [] _ ?_)
  simp only [wpC, Bool.false_eq_true, ↓reduceIte, wpS, stops, wantedA, okDst, Nat.reduceLT, decide_true, step1, isOwnCall, hxOp, px, AS.eval, ofConst, ofVal, thenQ, AS.put, dropKey, Nat.reduceEqDiff, reduceCtorEq, true_and]
  refine SW.seq (SW.seq (SW.run [] _ ?_))
  simp only [wpC, Bool.false_eq_true, ↓reduceIte, wpS, stops, wantedA, okDst, Nat.reduceLT, decide_true, step1, isOwnCall, hxOp, px, AS.eval, ofConst, ofVal, thenQ, AS.put, dropKey, Nat.reduceEqDiff, reduceCtorEq, true_and]
  refine SW.block (SW.loop (fun bb st => ∃ i : Nat, i ≤ es.length ∧ es.length - i = bb ∧ (es.take i).all okLines = true ∧ Lift.Inc h st.h ∧ st.n = 89 ∧ hasAll st [(0, .list 4 (edL es)), (5, .str (showB (es.take i))), (6, .int .i64 (i : Nat))]) es.length ⟨0, Nat.zero_le _, rfl, rfl, incSelf h, rfl, ?_⟩ ?_)
  · simp only [hasAll, AS.get, Lift.look, Nat.succ_ne_zero, ↓reduceIte, Option.getD_some, Nat.reduceEqDiff, List.take_zero, Int.cast_ofNat_Int, and_self, and_true, true_and]
    rfl
  clear i
  rintro bb st ⟨i, hi, hbb, hall, inc, hn', hs'⟩
  refine SW.norm ⟨hn', rfl, hs'⟩ ?_
  generalize st.h = H at inc
  clear hn' hs'
  refine SW.seq (SW.run [] _ ?_)
  by_cases hlt : i < es.length
  · have hw : IntKind.i64.wrap ((i : Int) + 1) = ((i + 1 : Nat) : Int) := by rw [w64 (by omega) (by omega)]; rfl
    have hg := edL_at hlt
    have hnx := showB_next hlt
    have hpre := showB_pre es (i + 1)
    rw [hnx, List.length_append] at hpre
    have hng1 : ¬ (es[i].a < 0 ∨ es[i].b < 0) := fun k => by
      unfold negS at hng
      rw [List.any_eq_false] at hng
      apply hng _ (List.getElem_mem hlt)
      unfold negB; rw [Bool.or_eq_true, decide_eq_true_eq, decide_eq_true_eq]; exact k
    obtain ⟨fa, fb, fl, fs⟩ := hs _ (List.getElem_mem hlt)
    have hT := showT_shown es[i]
    obtain ⟨hs1, hs2⟩ := fit_shown (e := es[i])
    have hal2 : (es.take (i + 1)).all okLines = okLines es[i] := by rw [List.take_succ_eq_append_getElem hlt, List.all_append, hall]; simp
    have hno : okLines es[i] = false → showR es = .tuple [.str [], .int .i64 9] := fun k => by
      unfold showR showS
      rw [if_neg (by rw [hng]; simp), if_neg]
      intro k2
      rw [List.all_eq_true] at k2
      have := k2 _ (List.getElem_mem hlt)
      rw [k] at this; cases this
    simp only [wpC, mayStop, stops, isFlt, Specs.has, Specs.hasO, Bool.or_false, Specs.hasH, Bool.not_false, List.any_cons, List.any_nil, Bool.false_eq_true, ↓reduceIte, wpS, wantedA, okDst, Nat.reduceLT, decide_true, step1, isOwnCall, hxOp, px, AS.eval, AS.get, Lift.look, reduceCtorEq, Nat.reduceEqDiff, Option.getD_some, AS.put, dropKey, Nat.succ_ne_zero, pcall, ty22, plen, edL_len, okLen, and_self, isNilC, pbinP, pbinI, Int.ofNat_lt, hlt, thenQ, isB, tmpOf, asB, hasAll, and_true, true_and]
    refine SW.seq (SW.block (SW.seq (SW.run [] _ ?_)))
    simp only [wpC, Bool.false_eq_true, ↓reduceIte, wpS, stops, wantedA, okDst, Nat.reduceLT, decide_true, step1, isOwnCall, hxOp, px, AS.eval, AS.get, Lift.look, Nat.succ_ne_zero, Option.getD_some, AS.put, dropKey, Nat.reduceEqDiff, reduceCtorEq, pindexAddr, ty22, ty77, ne_eq, not_false_eq_true, Int.natCast_nonneg, Int.toNat_natCast, edL_len, hlt, and_self, hg, edV, pload, okOne, TK.isAgg, Nat.reduceBEq, Bool.or_false, List.length_cons, List.length_nil, Nat.zero_add, Nat.reduceAdd, Nat.le_refl, Lift.valOf, List.take_succ_cons, List.take_nil, okAlloc, okZero, List.all_cons, Value.oneCell', List.all_nil, Bool.and_true, hx, zeroOf, List.map_cons, ofVal, List.map_nil, Heap.get_put, known1, PV.cells, splice, List.take_zero, List.nil_append, List.drop_succ_cons, List.drop_nil, List.append_nil, thenQ, true_and]
    generalize es[i] = e at *
    intro r hr
    rw [Heap.put_put]
    obtain ⟨A, hA⟩ : ∃ A : Nat, e.a = (A : Int) := ⟨e.a.toNat, by omega⟩
    obtain ⟨B, hB⟩ : ∃ B : Nat, e.b = (B : Int) := ⟨e.b.toNat, by omega⟩
    have inc2 : Lift.Inc h (H.put r (.cells 77 4 [.int .i64 e.a, .int .i64 e.b, .list 1 (strL e.del), .list 1 (strL e.ins)])) := Inc.over inc (incFresh inc hr) _
    have gr : (H.put r (.cells 77 4 [.int .i64 e.a, .int .i64 e.b, .list 1 (strL e.del), .list 1 (strL e.ins)])) r = some (.cells 77 4 [.int .i64 e.a, .int .i64 e.b, .list 1 (strL e.del), .list 1 (strL e.ins)]) := Heap.put_same _ _ _
    generalize H.put r (.cells 77 4 [.int .i64 e.a, .int .i64 e.b, .list 1 (strL e.del), .list 1 (strL e.ins)]) = H2 at gr inc2 ⊢
    have dl6 : e.del.length ≤ 1000000 := by omega
    have il6 : e.ins.length ≤ 1000000 := by omega
    have ds9 : ∀ l ∈ e.del, l.length ≤ 1000000000 := fun l hl => fs l (List.mem_append_left _ hl)
    have is9 : ∀ l ∈ e.ins, l.length ≤ 1000000000 := fun l hl => fs l (List.mem_append_right _ hl)
    have hd14 : (shownS 45 e.del).length ≤ 100000000000000 := by omega
    have hi14 : (shownS 43 e.ins).length ≤ 100000000000000 := by omega
    have hrd : shownR 45 e.del = .tuple [.str (if e.del.all lineB then shownS 45 e.del else []), .bool (e.del.all lineB)] := by unfold shownR; cases e.del.all lineB <;> rfl
    have hri : shownR 43 e.ins = .tuple [.str (if e.ins.all lineB then shownS 43 e.ins else []), .bool (e.ins.all lineB)] := by unfold shownR; cases e.ins.all lineB <;> rfl
    refine SW.seq (SW.run [eShown 45 e.del] _ ?_)
    simp only [wpC, Bool.false_eq_true, ↓reduceIte, wpS, stops, wantedA, okDst, Nat.reduceLT, decide_true, step1, isOwnCall, hxOp, px, pfieldAddr, fieldOf, ty77, fieldIn, List.getElem?_cons_succ, List.getElem?_cons_zero, ty43, Option.map_some, AS.eval, AS.get, Lift.look, Option.getD_some, ne_eq, Nat.succ_ne_zero, not_false_eq_true, Nat.zero_add, AS.put, dropKey, Nat.reduceEqDiff, reduceCtorEq, pload, gr, okOne, TK.isAgg, beq_self_eq_true, Bool.or_true, Nat.reduceAdd, List.length_cons, List.length_nil, Nat.reduceLeDiff, and_self, Lift.valOf, List.drop_succ_cons, List.drop_zero, List.take_succ_cons, List.take_zero, List.getD_cons_zero, Specs.has, eShown, Specs.hasO, Bool.or_false, Specs.hasH, Bool.not_true, pcall, okArg, ofConst, ofVal, List.all_cons, List.all_nil, Bool.and_true, Specs.at, List.map_cons, List.map_nil, sShown, dl6, hd14, and_true, true_and, hrd, thenQ]
    refine ⟨ds9, ?_⟩
    refine SW.seq (SW.run [eShown 43 e.ins] _ ?_)
    simp only [wpC, Bool.false_eq_true, ↓reduceIte, wpS, stops, wantedA, okDst, Nat.reduceLT, decide_true, step1, isOwnCall, hxOp, px, pfieldAddr, fieldOf, ty77, fieldIn, List.getElem?_cons_succ, List.getElem?_cons_zero, ty43, Option.map_some, AS.eval, AS.get, Lift.look, Nat.reduceEqDiff, Option.getD_some, ne_eq, Nat.succ_ne_zero, not_false_eq_true, Nat.zero_add, AS.put, dropKey, reduceCtorEq, pload, gr, okOne, TK.isAgg, beq_self_eq_true, Bool.or_true, Nat.reduceAdd, List.length_cons, List.length_nil, Nat.le_refl, and_self, Lift.valOf, List.drop_succ_cons, List.drop_zero, List.take_succ_cons, List.take_nil, List.getD_cons_zero, Specs.has, eShown, Specs.hasO, Bool.or_false, Specs.hasH, Bool.not_true, pcall, okArg, ofConst, ofVal, List.all_cons, List.all_nil, Bool.and_true, Specs.at, List.map_cons, List.map_nil, sShown, il6, hi14, and_true, true_and, hri, thenQ]
    refine ⟨is9, ?_⟩
    refine SW.seq (SW.run [] _ ?_)
    have hokl : okLines e = (e.del.all lineB && e.ins.all lineB) := by unfold okLines; rw [List.all_append]
    cases c1 : e.del.all lineB
    · have hE := hno (by rw [hokl, c1]; rfl)
      rw [hE]
      simp only [wpC, mayStop, stops, isFlt, Specs.has, Specs.hasO, Bool.or_false, Specs.hasH, Bool.not_false, List.any_cons, List.any_nil, Bool.false_eq_true, ↓reduceIte, wpS, wantedA, okDst, Nat.reduceLT, decide_true, step1, isOwnCall, hxOp, px, AS.eval, AS.get, Lift.look, Nat.reduceEqDiff, Option.getD_some, AS.put, dropKey, reduceCtorEq, pun, List.getElem?_toArray, List.getElem?_cons_succ, List.getElem?_cons_zero, Option.bind_some, beq_tf, Option.some.injEq, ofConst, ofVal, ppick_true, thenQ, isB, tmpOf, asB, inQ, RPost, sres, Tryz.results11, sresL, sres1, Ret_fin, exists_eq_left', true_and]
      exact Inc.to inc2
    cases c2 : e.ins.all lineB
    · have hE := hno (by rw [hokl, c2]; simp)
      rw [hE]
      simp only [wpC, mayStop, stops, isFlt, Specs.has, Specs.hasO, Bool.or_false, Specs.hasH, Bool.not_false, List.any_cons, List.any_nil, Bool.false_eq_true, ↓reduceIte, wpS, wantedA, okDst, Nat.reduceLT, decide_true, step1, isOwnCall, hxOp, px, AS.eval, AS.get, Lift.look, Nat.reduceEqDiff, Option.getD_some, AS.put, dropKey, reduceCtorEq, pun, Bool.not_true, List.getElem?_toArray, List.getElem?_cons_succ, List.getElem?_cons_zero, Option.bind_some, beq_self_eq_true, ofConst, ofVal, ppick_bool, thenQ, isB, tmpOf, asB, inQ, RPost, sres, Tryz.results11, sresL, sres1, Option.some.injEq, Ret_fin, exists_eq_left', true_and]
      exact Inc.to inc2
    simp only [wpC, mayStop, stops, isFlt, Specs.has, Specs.hasO, Bool.or_false, Specs.hasH, Bool.not_false, List.any_cons, List.any_nil, Bool.false_eq_true, ↓reduceIte, wpS, wantedA, okDst, Nat.reduceLT, decide_true, step1, isOwnCall, hxOp, px, AS.eval, AS.get, Lift.look, Nat.reduceEqDiff, Option.getD_some, AS.put, dropKey, reduceCtorEq, pun, Bool.not_true, List.getElem?_toArray, List.getElem?_cons_succ, List.getElem?_cons_zero, Option.bind_some, beq_self_eq_true, ofConst, ofVal, ppick_bool, thenQ, isB, tmpOf, asB, true_and]
    rw [hA, hB] at gr
    have a0 : (0 : Int) ≤ (A : Int) := by omega
    have a1 : (A : Int) ≤ 9223372036854775807 := by omega
    have b0 : (0 : Int) ≤ (B : Int) := by omega
    have b1 : (B : Int) ≤ 9223372036854775807 := by omega
    have d0 : (0 : Int) ≤ ((e.del.length : Nat) : Int) := by omega
    have d1 : ((e.del.length : Nat) : Int) ≤ 9223372036854775807 := by omega
    have i0 : (0 : Int) ≤ ((e.ins.length : Nat) : Int) := by omega
    have i1 : ((e.ins.length : Nat) : Int) ≤ 9223372036854775807 := by omega
    refine SW.regionAny [eDigits] [[0, 1, 2, 3, 4, 5, 6, 7, 8, 9, 10, 11, 12, 13, 14, 15, 16, 17, 18, 19, 20, 21, 22, 23, 24, 25, 26, 27, 28]] rfl (by rfl) (by kernel_rfl) ?_
    simp only [wpOL, wpO, LOp, List.getElem?_toArray, List.getElem?_cons_zero, okDst, Nat.reduceLT, decide_true, wantedA, ↓reduceIte, step1, isOwnCall, Bool.false_eq_true, hxOp, px, AS.eval, AS.get, Lift.look, Nat.reduceEqDiff, reduceCtorEq, Option.getD_some, List.getElem?_cons_succ, AS.put, dropKey, pfieldAddr, fieldOf, ty77, fieldIn, ty3, Option.map_some, ne_eq, Nat.succ_ne_zero, not_false_eq_true, Nat.add_zero, pload, gr, okOne, TK.isAgg, beq_self_eq_true, Bool.or_true, Nat.zero_add, List.length_cons, List.length_nil, Nat.reduceAdd, Nat.reduceLeDiff, and_self, Lift.valOf, List.drop_zero, List.take_succ_cons, List.take_zero, List.getD_cons_zero, Specs.hasO, Specs.hasH, pcall, okArg, ofConst, ofVal, List.all_cons, List.all_nil, Bool.and_true, Specs.at, eDigits, List.map_cons, List.map_nil, sDigits, a0, a1, isNilC, pbinP, pbinS, List.cons_append, List.nil_append, ty43, List.drop_succ_cons, plen, strL_len, okLen, d0, d1, b0, b1, Nat.le_refl, List.take_nil, i0, i1, inQ, thenQ, true_and]
    have hH : (hdrS e).length = (Lib.itoa (A : Int)).length + (Lib.itoa (B : Int)).length + (Lib.itoa ((e.del.length : Nat) : Int)).length + (Lib.itoa ((e.ins.length : Nat) : Int)).length + 5 := by
      unfold hdrS
      rw [hA, hB]
      simp only [List.length_append, List.length_cons, List.length_nil]
      omega
    have hTl : (showT e).length = (hdrS e).length + ((shownS 45 e.del).length + (shownS 43 e.ins).length) := by rw [hT, List.length_append, List.length_append]
    refine ⟨by omega, by omega, by simp only [List.length_append, List.length_cons, List.length_nil]; omega, by simp only [List.length_append, List.length_cons, List.length_nil]; omega, by simp only [List.length_append, List.length_cons, List.length_nil]; omega, by simp only [List.length_append, List.length_cons, List.length_nil]; omega, by simp only [List.length_append, List.length_cons, List.length_nil]; omega, by simp only [List.length_append, List.length_cons, List.length_nil]; omega, by simp only [List.length_append, List.length_cons, List.length_nil]; omega, by simp only [List.length_append, List.length_cons, List.length_nil]; omega, by simp only [List.length_append, List.length_cons, List.length_nil]; omega, ?_⟩
    refine SW.run [] _ ?_
    simp only [wpC, Bool.false_eq_true, ↓reduceIte, wpS, stops, wantedA, okDst, Nat.reduceLT, decide_true, step1, isOwnCall, hxOp, px, AS.eval, AS.get, Lift.look, Nat.reduceEqDiff, reduceCtorEq, Option.getD_some, isFlt, ty3, AS.put, dropKey, isNilC, pbinP, ofConst, ofVal, pbinI, hw, thenQ, Nat.succ_ne_zero, true_and]
    refine ⟨es.length - (i + 1), by omega, i + 1, by omega, rfl, by rw [hal2, hokl, c1, c2]; rfl, inc2, ?_, rfl⟩
    rw [hnx, hT]
    unfold hdrS
    rw [hA, hB]
    simp
  · rw [List.take_of_length_le (by omega)] at hall
    have ht : es.take i = es := List.take_of_length_le (by omega)
    have he : showR es = .tuple [.str (showB es), .int .i64 0] := by unfold showR showS; rw [if_neg (by rw [hng]; simp), if_pos hall]
    rw [he, ht]
    simp only [wpC, mayStop, stops, isFlt, Specs.has, Specs.hasO, Bool.or_false, Specs.hasH, Bool.not_false, List.any_cons, List.any_nil, Bool.false_eq_true, ↓reduceIte, wpS, wantedA, okDst, Nat.reduceLT, decide_true, step1, isOwnCall, hxOp, px, AS.eval, AS.get, Lift.look, reduceCtorEq, Nat.reduceEqDiff, Option.getD_some, AS.put, dropKey, Nat.succ_ne_zero, pcall, ty22, plen, edL_len, okLen, and_self, isNilC, pbinP, pbinI, Int.ofNat_lt, hlt, decide_false, thenQ, isB, tmpOf, asB, inQ, true_and]
    refine SW.run [] _ ?_
    simp only [wpC, mayStop, stops, isFlt, Specs.has, Specs.hasO, Bool.or_false, Specs.hasH, Bool.not_false, List.any_cons, List.any_nil, Bool.false_eq_true, ↓reduceIte, wpS, wantedA, okDst, Nat.reduceLT, decide_true, step1, isOwnCall, hxOp, px, AS.eval, AS.get, Lift.look, Nat.reduceEqDiff, reduceCtorEq, Option.getD_some, AS.put, dropKey, ofConst, ofVal, thenQ, RPost, sres, Tryz.results11, sresL, sres1, Option.some.injEq, Ret_fin, exists_eq_left', true_and]
    exact Inc.to inc
def sRShow (es : List Ed) : List PV → Prop × PV
  | [.list 4 xs] => (xs = edL es ∧ (∀ e ∈ es, e.fit) ∧ es.length ≤ 1000000 ∧ (showB es).length ≤ 100000000000000, showR es)
  | _ => PBad
noncomputable def eRShow (es : List Ed) : SpecE env := ⟨11, sRShow es, fun args h hc => by
  unfold sRShow at hc ⊢
  split at hc
  · obtain ⟨rfl, h1, h2, h3⟩ := hc
    exact .inl (RShow_ok es h1 h2 h3 h)
  · exact hc.elim⟩
end Go.Proofs.YtincpomenogppaaGreatDoor
