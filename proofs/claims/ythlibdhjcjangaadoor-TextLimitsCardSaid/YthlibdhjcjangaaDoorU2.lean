/- Contracts of functions that the law reaches. -/
import Derived.Test.YthlibdhjcjangaaDoorU1
set_option linter.unusedSimpArgs false
set_option linter.unusedVariables false
namespace Go.Proofs.YthlibdhjcjangaaDoor
open Go Go.RowKit Go.Proofs.YthlibdhjcjangaaDoor Go.Proofs.YthlibdhjcjangaaDoor.Lift
set_option maxRecDepth 100000

/-! A literal, step by step -/
/-- What a step at a place comes to: the end, an error, or a character. -/
inductive US where
  | done (n : Nat)
  | bad (n : Nat) (e : Int)
  | char (c : Int) (n : Nat)
def digS (b : UInt8) : Int :=
  if 48 ≤ b.toNat ∧ b.toNat ≤ 57 then (b.toNat : Int) - 48 else if 97 ≤ b.toNat ∧ b.toNat ≤ 102 then (b.toNat : Int) - 97 + 10 else if 65 ≤ b.toNat ∧ b.toNat ≤ 70 then (b.toNat : Int) - 65 + 10 else -1
def escFrom : List UInt8 := [110, 116, 114, 98, 97, 118, 102, 48, 34, 39, 92]
def escTo : List Int := [10, 9, 13, 8, 7, 11, 12, 0, 34, 39, 92]
def escAt (b : UInt8) : List UInt8 → List Int → Int
  | x :: xs, y :: ys => if x = b then y else escAt b xs ys
  | _, _ => -1
def escS (b : UInt8) : Int := escAt b escFrom escTo
def uhex (s : List UInt8) (name : Nat) : Nat → Nat → Int → US
  | 0, i, c => if isC c = true then .char c i else .bad name 11
  | k + 1, i, c => if i < s.length then (if digS (s.getD i 0) < 0 then .bad i 9 else uhex s name k (i + 1) (16 * c + digS (s.getD i 0))) else .bad s.length 16
/-- Behind a backslash. -/
def uesc (s : List UInt8) (i : Nat) : US :=
  if i < s.length then
    if s.getD i 0 = 117 then uhex s i 4 (i + 1) 0
    else if s.getD i 0 = 85 then uhex s i 6 (i + 1) 0
    else if escS (s.getD i 0) < 0 then .bad i 8 else .char (escS (s.getD i 0)) (i + 1)
  else .bad s.length 16
def ustep (s : List UInt8) (i : Nat) : US :=
  if i < s.length then
    if s.getD i 0 = 34 then .done (i + 1)
    else if s.getD i 0 = 10 then .bad i 9
    else if s.getD i 0 = 92 then uesc s (i + 1)
    else .char (firstS (s.drop i)).1 (i + (firstS (s.drop i)).2)
  else .bad s.length 16
/-- A literal from a place on, behind characters that are read. -/
def unqS (s : List UInt8) : Nat → Nat → List Int → List Int × Nat × Int
  | 0, _, _ => ([], 0, 0)
  | m + 1, i, out => match ustep s i with
    | .done n => (out, n, 0)
    | .bad n e => ([], n, e)
    | .char c n => if 65536 ≤ out.length then ([], i, 3) else unqS s m n (out ++ [c])
def unquoteS (s : List UInt8) : List Int × Nat × Int := if 0 < s.length ∧ s.getD 0 0 = 34 then unqS s s.length 1 [] else ([], 0, 9)

theorem digS_le (b : UInt8) : digS b ≤ 15 ∧ -1 ≤ digS b := by
  unfold digS
  split
  · omega
  · split
    · omega
    · split <;> omega
theorem uhex_le (s : List UInt8) (name : Nat) : ∀ (k i : Nat) (c : Int) (x : Int) (n : Nat), uhex s name k i c = .char x n → i ≤ s.length → n = i + k ∧ n ≤ s.length ∧ isC x = true
  | 0, i, c, x, n, h, hi => by
    simp only [uhex] at h
    split at h
    · rename_i hc
      injection h with h1 h2
      subst h1; subst h2
      exact ⟨rfl, hi, hc⟩
    · cases h
  | k + 1, i, c, x, n, h, hi => by
    simp only [uhex] at h
    split at h
    · rename_i hlt
      split at h
      · cases h
      · obtain ⟨h1, h2, h3⟩ := uhex_le s name k (i + 1) _ x n h hlt
        exact ⟨by omega, h2, h3⟩
    · cases h
theorem escS_isC (b : UInt8) : escS b < 0 ∨ isC (escS b) = true := by
  have key : ∀ b : UInt8, (decide (escS b < 0) || isC (escS b)) = true := by
    intro b
    unfold escS escFrom escTo
    simp only [escAt]
    repeat' split
    all_goals decide
  have := key b
  simp only [Bool.or_eq_true, decide_eq_true_eq] at this
  exact this
theorem first_isC (l : List UInt8) (h : 0 < l.length) : isC (firstS l).1 = true := by
  have := runes_ok l
  rw [first_law l h]
  refine this _ ?_
  unfold runesOf
  cases e : l.length with
  | zero => omega
  | succ n =>
    unfold runesAt
    rw [if_pos (by rw [size_mk]; omega)]
    exact List.mem_cons_self ..
/-- A character lies further on, and is one. -/
theorem ustep_le (s : List UInt8) (i : Nat) (x : Int) (n : Nat) (h : ustep s i = .char x n) : i < n ∧ n ≤ s.length ∧ isC x = true := by
  unfold ustep at h
  split at h
  · rename_i hi
    split at h
    · cases h
    · split at h
      · cases h
      · split at h
        · unfold uesc at h
          split at h
          · rename_i hi2
            split at h
            · obtain ⟨h1, h2, h3⟩ := uhex_le s _ _ _ _ _ _ h hi2
              exact ⟨by omega, h2, h3⟩
            · split at h
              · obtain ⟨h1, h2, h3⟩ := uhex_le s _ _ _ _ _ _ h hi2
                exact ⟨by omega, h2, h3⟩
              · split at h
                · cases h
                · rename_i hne
                  injection h with h1 h2
                  subst h1; subst h2
                  exact ⟨by omega, hi2, (escS_isC _).resolve_left hne⟩
          · cases h
        · have hl : 0 < (s.drop i).length := by rw [List.length_drop]; omega
          have := firstS_le (s.drop i) hl
          injection h with h1 h2
          subst h1; subst h2
          rw [List.length_drop] at this
          exact ⟨by omega, by omega, first_isC _ hl⟩
  · cases h
theorem unqS_ok (s : List UInt8) : ∀ (m i : Nat) (out : List Int), okChars out → okChars (unqS s m i out).1
  | 0, _, _, _ => by intro c hc; simp [unqS] at hc
  | m + 1, i, out, ho => by
    unfold unqS
    split
    · exact ho
    · intro c hc; simp at hc
    · rename_i c n e
      split
      · intro c hc; simp at hc
      · refine unqS_ok s m n _ ?_
        intro x hx
        rcases List.mem_append.1 hx with hx | hx
        · exact ho x hx
        · rw [List.mem_singleton] at hx
          subst hx
          exact (ustep_le s i _ _ e).2.2
theorem unqS_len (s : List UInt8) : ∀ (m i : Nat) (out : List Int), (unqS s m i out).1.length ≤ out.length + m
  | 0, _, _ => by simp [unqS]
  | m + 1, i, out => by
    unfold unqS
    split
    · simp
    · simp
    · split
      · simp
      · have := unqS_len s m ‹_› (out ++ [‹_›])
        simp only [List.length_append, List.length_singleton] at this
        omega
/-! acheronref01.Digit -/
def sDigit : List PV → Prop × PV
  | [.int .u8 c] => (0 ≤ c ∧ c < 256, .int .i64 (digS (UInt8.ofNat c.toNat)))
  | _ => PBad
theorem w8 {n : Int} (h0 : 0 ≤ n) (h1 : n < 256) : IntKind.u8.wrap n = n := by
  simp [IntKind.wrap, IntKind.signed, IntKind.bits]; omega
theorem Digit_ok (b : UInt8) (h : Heap) : SCalls env 29 [.int .u8 b.toNat] h (Ret (.int .i64 (digS b)) h) := by
  have hb := b.toNat_lt
  refine SCalls.body Tryd.func29 rfl rfl (by simp [Tryd.ntmps29]) (SW.run [] _ ?_)
  by_cases h1 : (48 : Int) ≤ b.toNat
  · by_cases h2 : (b.toNat : Int) ≤ 57
    · simp only [wpC, mayStop, stops, isFlt, Specs.has, Specs.hasO, Bool.or_false, Specs.hasH, Bool.not_false, List.any_cons, List.any_nil, Bool.false_eq_true, ↓reduceIte, wpS, wantedA, okDst, Tryd.ntmps29, Nat.reduceLT, decide_true, step1, isOwnCall, hxOp, px, AS.eval, ofConst, ofVal, thenQ, ty5, AS.put, enumA, dropKey, reduceCtorEq, AS.get, Lift.look, Nat.succ_ne_zero, Option.getD_some, Nat.reduceEqDiff, isNilC, pbinP, pbinI, h1, List.getElem?_toArray, List.getElem?_cons_succ, List.getElem?_cons_zero, Option.bind_some, beq_self_eq_true, h2, ppick_bool, isB, tmpOf, asB, wrap_byte, ty3, pconvH, pconv, w64_byte, RPost, sres, Tryd.results29, sresL, sres1, Option.some.injEq, digS, Ret_fin, HTo_self, and_true, exists_eq_left', true_and]
      rw [if_pos (by omega), u8of_nat]
      congr 1; omega
    · by_cases h3 : (97 : Int) ≤ b.toNat
      · by_cases h4 : (b.toNat : Int) ≤ 102
        · simp only [wpC, mayStop, stops, isFlt, Specs.has, Specs.hasO, Bool.or_false, Specs.hasH, Bool.not_false, List.any_cons, List.any_nil, Bool.false_eq_true, ↓reduceIte, wpS, wantedA, okDst, Tryd.ntmps29, Nat.reduceLT, decide_true, step1, isOwnCall, hxOp, px, AS.eval, ofConst, ofVal, thenQ, ty5, AS.put, enumA, dropKey, reduceCtorEq, AS.get, Lift.look, Nat.succ_ne_zero, Option.getD_some, Nat.reduceEqDiff, isNilC, pbinP, pbinI, h1, List.getElem?_toArray, List.getElem?_cons_succ, List.getElem?_cons_zero, Option.bind_some, beq_self_eq_true, h2, decide_false, ppick_bool, isB, tmpOf, asB, ty3, h3, h4, wrap_byte, pconvH, pconv, w64_byte, RPost, sres, Tryd.results29, sresL, sres1, Option.some.injEq, digS, Ret_fin, HTo_self, and_true, exists_eq_left', true_and]
          rw [if_neg (by omega), if_pos (by omega), u8of_nat, w64 (by omega) (by omega)]
          congr 1; omega
        · have h5 : (65 : Int) ≤ b.toNat := by omega
          have h6 : ¬ (b.toNat : Int) ≤ 70 := by omega
          simp only [wpC, mayStop, stops, isFlt, Specs.has, Specs.hasO, Bool.or_false, Specs.hasH, Bool.not_false, List.any_cons, List.any_nil, Bool.false_eq_true, ↓reduceIte, wpS, wantedA, okDst, Tryd.ntmps29, Nat.reduceLT, decide_true, step1, isOwnCall, hxOp, px, AS.eval, ofConst, ofVal, thenQ, ty5, AS.put, enumA, dropKey, reduceCtorEq, AS.get, Lift.look, Nat.succ_ne_zero, Option.getD_some, Nat.reduceEqDiff, isNilC, pbinP, pbinI, h1, List.getElem?_toArray, List.getElem?_cons_succ, List.getElem?_cons_zero, Option.bind_some, beq_self_eq_true, h2, decide_false, ppick_bool, isB, tmpOf, asB, ty3, h3, h4, h5, h6, RPost, sres, Tryd.results29, sresL, sres1, Option.some.injEq, digS, Ret_fin, HTo_self, and_true, exists_eq_left', true_and]
          rw [if_neg (by omega), if_neg (by omega), if_neg (by omega)]
      · by_cases h5 : (65 : Int) ≤ b.toNat
        · by_cases h6 : (b.toNat : Int) ≤ 70
          · simp only [wpC, mayStop, stops, isFlt, Specs.has, Specs.hasO, Bool.or_false, Specs.hasH, Bool.not_false, List.any_cons, List.any_nil, Bool.false_eq_true, ↓reduceIte, wpS, wantedA, okDst, Tryd.ntmps29, Nat.reduceLT, decide_true, step1, isOwnCall, hxOp, px, AS.eval, ofConst, ofVal, thenQ, ty5, AS.put, enumA, dropKey, reduceCtorEq, AS.get, Lift.look, Nat.succ_ne_zero, Option.getD_some, Nat.reduceEqDiff, isNilC, pbinP, pbinI, h1, List.getElem?_toArray, List.getElem?_cons_succ, List.getElem?_cons_zero, Option.bind_some, beq_self_eq_true, h2, decide_false, ppick_bool, isB, tmpOf, asB, ty3, h3, beq_ft, Option.some.injEq, ppick_false, h5, h6, wrap_byte, pconvH, pconv, w64_byte, RPost, sres, Tryd.results29, sresL, sres1, digS, Ret_fin, HTo_self, and_true, exists_eq_left', true_and]
            rw [if_neg (by omega), if_neg (by omega), if_pos (by omega), u8of_nat, w64 (by omega) (by omega)]
            congr 1; omega
          · simp only [wpC, mayStop, stops, isFlt, Specs.has, Specs.hasO, Bool.or_false, Specs.hasH, Bool.not_false, List.any_cons, List.any_nil, Bool.false_eq_true, ↓reduceIte, wpS, wantedA, okDst, Tryd.ntmps29, Nat.reduceLT, decide_true, step1, isOwnCall, hxOp, px, AS.eval, ofConst, ofVal, thenQ, ty5, AS.put, enumA, dropKey, reduceCtorEq, AS.get, Lift.look, Nat.succ_ne_zero, Option.getD_some, Nat.reduceEqDiff, isNilC, pbinP, pbinI, h1, List.getElem?_toArray, List.getElem?_cons_succ, List.getElem?_cons_zero, Option.bind_some, beq_self_eq_true, h2, decide_false, ppick_bool, isB, tmpOf, asB, ty3, h3, beq_ft, Option.some.injEq, ppick_false, h5, h6, RPost, sres, Tryd.results29, sresL, sres1, digS, Ret_fin, HTo_self, and_true, exists_eq_left', true_and]
            rw [if_neg (by omega), if_neg (by omega), if_neg (by omega)]
        · simp only [wpC, mayStop, stops, isFlt, Specs.has, Specs.hasO, Bool.or_false, Specs.hasH, Bool.not_false, List.any_cons, List.any_nil, Bool.false_eq_true, ↓reduceIte, wpS, wantedA, okDst, Tryd.ntmps29, Nat.reduceLT, decide_true, step1, isOwnCall, hxOp, px, AS.eval, ofConst, ofVal, thenQ, ty5, AS.put, enumA, dropKey, reduceCtorEq, AS.get, Lift.look, Nat.succ_ne_zero, Option.getD_some, Nat.reduceEqDiff, isNilC, pbinP, pbinI, h1, List.getElem?_toArray, List.getElem?_cons_succ, List.getElem?_cons_zero, Option.bind_some, beq_self_eq_true, h2, decide_false, ppick_bool, isB, tmpOf, asB, ty3, h3, beq_ft, Option.some.injEq, ppick_false, h5, RPost, sres, Tryd.results29, sresL, sres1, digS, Ret_fin, HTo_self, and_true, exists_eq_left', true_and]
          rw [if_neg (by omega), if_neg (by omega), if_neg (by omega)]
  · have h3 : ¬ (97 : Int) ≤ b.toNat := by omega
    have h5 : ¬ (65 : Int) ≤ b.toNat := by omega
    simp only [wpC, mayStop, stops, isFlt, Specs.has, Specs.hasO, Bool.or_false, Specs.hasH, Bool.not_false, List.any_cons, List.any_nil, Bool.false_eq_true, ↓reduceIte, wpS, wantedA, okDst, Tryd.ntmps29, Nat.reduceLT, decide_true, step1, isOwnCall, hxOp, px, AS.eval, ofConst, ofVal, thenQ, ty5, AS.put, enumA, dropKey, reduceCtorEq, AS.get, Lift.look, Nat.succ_ne_zero, Option.getD_some, Nat.reduceEqDiff, isNilC, pbinP, pbinI, h1, decide_false, List.getElem?_toArray, List.getElem?_cons_succ, List.getElem?_cons_zero, Option.bind_some, beq_ft, Option.some.injEq, ppick_false, isB, tmpOf, asB, ty3, h3, h5, RPost, sres, Tryd.results29, sresL, sres1, digS, Ret_fin, HTo_self, and_true, exists_eq_left', true_and]
    rw [if_neg (by omega), if_neg (by omega), if_neg (by omega)]
noncomputable def eDigit : SpecE env := ⟨29, sDigit, fun args h hc => by
  unfold sDigit at hc ⊢
  split at hc
  · rename_i c
    have e : c = ((UInt8.ofNat c.toNat).toNat : Int) := by rw [UInt8.toNat_ofNat']; have := hc.1; have := hc.2; omega
    have := Digit_ok (UInt8.ofNat c.toNat) h
    rw [← e] at this
    exact .inl this
  · exact hc.elim⟩
/-! acheronref01.escape -/
def sEsc : List PV → Prop × PV
  | [.int .u8 c] => (0 ≤ c ∧ c < 256, .int .i64 (escS (UInt8.ofNat c.toNat)))
  | _ => PBad
theorem escAt_drop (b : UInt8) : ∀ (n : Nat) (xs : List UInt8) (ys : List Int), xs.length = ys.length → (∀ j, j < n → xs.getD j 0 ≠ b) → n ≤ xs.length → escAt b xs ys = escAt b (xs.drop n) (ys.drop n)
  | 0, xs, ys, _, _, _ => rfl
  | n + 1, [], ys, _, _, h => by simp at h
  | n + 1, x :: xs, [], h, _, _ => by simp at h
  | n + 1, x :: xs, y :: ys, h, hn, hl => by
    have h0 : x ≠ b := hn 0 (by omega)
    simp only [escAt, h0, if_false, List.drop_succ_cons]
    exact escAt_drop b n xs ys (by simpa using h) (fun j hj => hn (j + 1) (by omega)) (by simpa using hl)
theorem Esc_ok (b : UInt8) (h : Heap) : SCalls env 28 [.int .u8 b.toNat] h (Ret (.int .i64 (escS b)) h) := by
  refine SCalls.body Tryd.func28 rfl rfl (by simp [Tryd.ntmps28]) ?_
  refine SW.seq (SW.run [] _ ?_)
  simp only [wpC, Bool.false_eq_true, ↓reduceIte, wpS, stops, wantedA, okDst, Tryd.ntmps28, Nat.reduceLT, decide_true, step1, isOwnCall, hxOp, px, AS.eval, ofConst, ofVal, thenQ, AS.put, enumA, dropKey, reduceCtorEq, true_and]
  refine SW.seq (SW.run [] _ ?_)
  simp only [wpC, Bool.false_eq_true, ↓reduceIte, wpS, stops, wantedA, okDst, Nat.reduceLT, decide_true, step1, isOwnCall, hxOp, px, AS.eval, ofConst, ofVal, thenQ, AS.put, dropKey, Nat.reduceEqDiff, reduceCtorEq, true_and]
  refine SW.seq (SW.run [] _ ?_)
  simp only [wpC, Bool.false_eq_true, ↓reduceIte, wpS, stops, wantedA, okDst, Nat.reduceLT, decide_true, step1, isOwnCall, hxOp, px, pbuildSlice, ty28, ty3, Nat.succ_ne_zero, List.replicate, List.map_cons, ofVal, List.map_nil, List.flatten_cons, List.flatten_nil, List.append_nil, List.cons_append, List.nil_append, AS.eval, AS.get, Lift.look, ofConst, pfill, PV.cells, List.length_cons, List.length_nil, Nat.zero_add, Nat.reduceMul, Nat.reduceAdd, Nat.reduceLeDiff, and_self, splice, List.take_zero, List.drop_succ_cons, List.drop_zero, List.take_succ_cons, Nat.le_refl, List.drop_nil, okZero, List.all_cons, Value.oneCell', List.all_nil, Bool.and_true, known, chunk, List.take_nil, AS.put, dropKey, Nat.reduceEqDiff, reduceCtorEq, Option.getD_some, thenQ, true_and]
  refine SW.seq (SW.seq (SW.run [] _ ?_))
  simp only [wpC, Bool.false_eq_true, ↓reduceIte, wpS, stops, wantedA, okDst, Nat.reduceLT, decide_true, step1, isOwnCall, hxOp, px, AS.eval, ofConst, ofVal, thenQ, AS.put, dropKey, Nat.reduceEqDiff, reduceCtorEq, true_and]
  refine SW.block (SW.loopK 22 (fun i : Nat => [(0, .int .u8 b.toNat), (3, .str escFrom), (4, .list 1 (elI escTo)), (5, .int .i64 (i : Nat))]) (fun _ => h) (fun i => i ≤ 11 ∧ ∀ j, j < i → escFrom.getD j 0 ≠ b) (fun i => 11 - i) 0 ⟨by omega, by omega⟩ ?_ ?_)
  · simp only [Has, hasAll, AS.get, Lift.look, Nat.succ_ne_zero, ↓reduceIte, Option.getD_some, Nat.reduceEqDiff, Int.cast_ofNat_Int, and_self, and_true, true_and]
    exact ⟨rfl, rfl⟩
  rintro i ⟨hi, hno⟩
  refine SW.run [] _ ?_
  have hfl : escFrom.length = 11 := rfl
  have htl : (elI escTo).length = 11 := rfl
  by_cases hlt : i < 11
  · have hlt' : (i : Int) < 11 := by omega
    have hd := escAt_drop b i escFrom escTo rfl hno (by rw [hfl]; omega)
    by_cases he : escFrom.getD i 0 = b
    · have hb : ((((escFrom.getD i 0).toNat : Nat) : Int) == (b.toNat : Int)) = true := by rw [he]; simp
      simp only [wpC, mayStop, stops, isFlt, Specs.has, Specs.hasO, Bool.or_false, Specs.hasH, Bool.not_false, List.any_cons, List.any_nil, Bool.false_eq_true, ↓reduceIte, wpS, wantedA, okDst, Nat.reduceLT, decide_true, step1, isOwnCall, hxOp, px, AS.eval, AS.get, Lift.look, reduceCtorEq, Nat.reduceEqDiff, Option.getD_some, AS.put, dropKey, pcall, ty9, plen, hfl, okLen, and_self, Int.cast_ofNat_Int, isNilC, pbinP, pbinI, hlt', thenQ, isB, tmpOf, asB, pindex, Int.natCast_nonneg, Int.toNat_natCast, hlt, Nat.succ_ne_zero, hb, pindexAddr, ty28, ty3, ne_eq, not_false_eq_true, htl, elI_getD (show i < escTo.length from hlt), pload, okOne, TK.isAgg, beq_self_eq_true, Bool.or_true, List.length_cons, List.length_nil, Nat.zero_add, Nat.le_refl, Lift.valOf, List.take_succ_cons, List.take_nil, List.getD_cons_zero, inQ, RPost, sres, Tryd.results28, sresL, sres1, Option.some.injEq, Ret_fin, HTo_self, and_true, exists_eq_left', true_and]
      have e1 : escFrom.drop i = escFrom.getD i 0 :: escFrom.drop (i + 1) := by
        rw [List.drop_eq_getElem_cons (by rw [hfl]; exact hlt), List.getD_eq_getElem?_getD, List.getElem?_eq_getElem (by rw [hfl]; exact hlt)]; rfl
      have e2 : escTo.drop i = escTo.getD i 0 :: escTo.drop (i + 1) := by
        rw [List.drop_eq_getElem_cons (show i < escTo.length from hlt), List.getD_eq_getElem?_getD, List.getElem?_eq_getElem (show i < escTo.length from hlt)]; rfl
      unfold escS
      rw [hd, e1, e2]
      simp only [escAt, he, if_true]
    · have hb : ((((escFrom.getD i 0).toNat : Nat) : Int) == (b.toNat : Int)) = false := by rw [byte_eq]; simpa using he
      simp only [wpC, mayStop, stops, isFlt, Specs.has, Specs.hasO, Bool.or_false, Specs.hasH, Bool.not_false, List.any_cons, List.any_nil, Bool.false_eq_true, ↓reduceIte, wpS, wantedA, okDst, Nat.reduceLT, decide_true, step1, isOwnCall, hxOp, px, AS.eval, AS.get, Lift.look, reduceCtorEq, Nat.reduceEqDiff, Option.getD_some, AS.put, dropKey, pcall, ty9, plen, hfl, okLen, and_self, Int.cast_ofNat_Int, isNilC, pbinP, pbinI, hlt', thenQ, isB, tmpOf, asB, pindex, Int.natCast_nonneg, Int.toNat_natCast, hlt, Nat.succ_ne_zero, hb, inQ, ty3, ofConst, ofVal, ne_eq, Has, hasAll, and_true, true_and]
      refine ⟨i + 1, ⟨by omega, fun j hj => ?_⟩, by omega, by rw [w64 (by omega) (by omega)]; rfl⟩
      rcases Nat.lt_or_ge j i with hj2 | hj2
      · exact hno j hj2
      · obtain rfl : j = i := by omega
        exact he
  · have hlt' : ¬ (i : Int) < 11 := by omega
    simp only [wpC, mayStop, stops, isFlt, Specs.has, Specs.hasO, Bool.or_false, Specs.hasH, Bool.not_false, List.any_cons, List.any_nil, Bool.false_eq_true, ↓reduceIte, wpS, wantedA, okDst, Nat.reduceLT, decide_true, step1, isOwnCall, hxOp, px, AS.eval, AS.get, Lift.look, reduceCtorEq, Nat.reduceEqDiff, Option.getD_some, AS.put, dropKey, pcall, ty9, plen, hfl, okLen, and_self, Int.cast_ofNat_Int, isNilC, pbinP, pbinI, hlt', decide_false, thenQ, isB, tmpOf, asB, inQ, true_and]
    obtain rfl : i = 11 := by omega
    refine SW.run [] _ ?_
    simp only [wpC, mayStop, stops, isFlt, Specs.has, Specs.hasO, Bool.or_false, Specs.hasH, Bool.not_false, List.any_cons, List.any_nil, Bool.false_eq_true, ↓reduceIte, wpS, wantedA, okDst, Nat.reduceLT, decide_true, step1, isOwnCall, hxOp, px, AS.eval, ofConst, ofVal, thenQ, RPost, sres, AS.put, dropKey, Nat.reduceEqDiff, Int.cast_ofNat_Int, reduceCtorEq, Tryd.results28, sresL, sres1, AS.get, Lift.look, Option.getD_some, Option.some.injEq, Ret_fin, HTo_self, and_true, exists_eq_left', true_and]
    unfold escS
    rw [escAt_drop b 11 escFrom escTo rfl hno (by rw [hfl]; exact Nat.le_refl _)]
    rfl
noncomputable def eEsc : SpecE env := ⟨28, sEsc, fun args h hc => by
  unfold sEsc at hc ⊢
  split at hc
  · rename_i c
    have e : c = ((UInt8.ofNat c.toNat).toNat : Int) := by rw [UInt8.toNat_ofNat']; have := hc.1; have := hc.2; omega
    have := Esc_ok (UInt8.ofNat c.toNat) h
    rw [← e] at this
    exact .inl this
  · exact hc.elim⟩
end Go.Proofs.YthlibdhjcjangaaDoor
