/- Contracts of functions that the law reaches. -/
import Derived.Test.YtincpomenogppaaGreatDoorX3
set_option linter.unusedSimpArgs false
set_option linter.unusedVariables false
namespace Go.Proofs.YtincpomenogppaaGreatDoor
open Go Go.RowKit Go.Proofs.YtincpomenogppaaGreatDoor Go.Proofs.YtincpomenogppaaGreatDoor.Lift
set_option maxRecDepth 100000

theorem cut_end {l : List UInt8} (h : endB l = true) : cutS l [10] = l.take (l.length - 1) := by
  unfold cutS
  rw [suffix_10, if_pos h]
  rfl
theorem cut_noend {l : List UInt8} (h : endB l = false) : cutS l [10] = l := by
  unfold cutS
  rw [suffix_10, if_neg (by rw [h]; simp)]
theorem cut_short (l : List UInt8) : (cutS l [10]).length ≤ l.length := by
  unfold cutS; split <;> simp
theorem Content_ok (l : List UInt8) (h : Heap) (hl : l.length ≤ 1000000000) : SCalls env 76 [.str l] h (Ret (.str (cutS l [10])) h) := by
  refine SCalls.body Tryz.func76 rfl rfl (by simp [Tryz.ntmps76]) ?_
  refine SW.seq (SW.run [] _ ?_)
  simp only [wpC, Bool.false_eq_true, ↓reduceIte, wpS, stops, wantedA, okDst, Tryz.ntmps76, Nat.reduceLT, decide_true, step1, isOwnCall, hxOp, px, AS.eval, ofConst, ofVal, thenQ, AS.put, enumA, dropKey, reduceCtorEq, true_and]
  refine SW.seq (SW.run [eEnded] _ ?_)
  cases he : endB l
  · rw [cut_noend he]
    simp only [wpC, mayStop, stops, isFlt, Specs.has, eEnded, Specs.hasO, Bool.or_false, Specs.hasH, List.any_cons, ↓reduceIte, Bool.not_true, List.any_nil, Bool.false_eq_true, wpS, wantedA, okDst, Nat.reduceLT, decide_true, step1, isOwnCall, hxOp, px, AS.eval, AS.get, Lift.look, Nat.succ_ne_zero, Option.getD_some, AS.put, dropKey, Nat.reduceEqDiff, reduceCtorEq, pcall, okArg, ofConst, ofVal, List.all_cons, List.all_nil, Bool.and_true, Specs.at, List.map_cons, List.map_nil, sLB, hl, he, and_self, thenQ, isB, tmpOf, asB, true_and]
    refine SW.run [] _ ?_
    simp only [wpC, mayStop, stops, isFlt, Specs.has, Specs.hasO, Bool.or_false, Specs.hasH, Bool.not_false, List.any_cons, List.any_nil, Bool.false_eq_true, ↓reduceIte, wpS, wantedA, okDst, Nat.reduceLT, decide_true, step1, isOwnCall, hxOp, px, AS.eval, AS.get, Lift.look, Nat.succ_ne_zero, Option.getD_some, AS.put, dropKey, Nat.reduceEqDiff, reduceCtorEq, thenQ, RPost, sres, Tryz.results76, sresL, sres1, Option.some.injEq, Ret_fin, HTo_self, and_true, exists_eq_left', and_self]
  · rw [cut_end he]
    have h1 : 1 ≤ l.length := by cases l with | nil => cases he | cons b l => simp
    have hw : IntKind.i64.wrap (((l.length : Nat) : Int) - 1) = ((l.length - 1 : Nat) : Int) := by rw [w64 (by omega) (by omega)]; omega
    have hle : ((l.length - 1 : Nat) : Int) ≤ ((l.length : Nat) : Int) := by omega
    simp only [wpC, mayStop, stops, isFlt, Specs.has, eEnded, Specs.hasO, Bool.or_false, Specs.hasH, List.any_cons, ↓reduceIte, Bool.not_true, List.any_nil, Bool.false_eq_true, wpS, wantedA, okDst, Nat.reduceLT, decide_true, step1, isOwnCall, hxOp, px, AS.eval, AS.get, Lift.look, Nat.succ_ne_zero, Option.getD_some, AS.put, dropKey, Nat.reduceEqDiff, reduceCtorEq, pcall, okArg, ofConst, ofVal, List.all_cons, List.all_nil, Bool.and_true, Specs.at, List.map_cons, List.map_nil, sLB, hl, he, and_self, thenQ, isB, tmpOf, asB, ty3, ty9, plen, okLen, isNilC, pbinP, pbinI, hw, pslice, pB, Int.cast_ofNat_Int, Int.reduceLE, Int.natCast_nonneg, hle, Int.reduceToNat, Int.toNat_natCast, List.drop_zero, RPost, sres, Tryz.results76, sresL, sres1, Option.some.injEq, Ret_fin, HTo_self, and_true, exists_eq_left']
noncomputable def eContent : SpecE env := ⟨76, fun
  | [.str l] => (l.length ≤ 1000000000, .str (cutS l [10]))
  | _ => PBad, fun args h hc => by
  split at hc
  · rename_i l; exact .inl (Content_ok l h hc)
  · exact hc.elim⟩
theorem contL_at {ls : List (List UInt8)} {i : Nat} (h : i < ls.length) : (contL ls)[i]'(by unfold contL; rw [List.length_map]; exact h) = cutS ls[i] [10] := by
  unfold contL
  rw [List.getElem_map]
theorem contL_len (ls : List (List UInt8)) : (contL ls).length = ls.length := by unfold contL; rw [List.length_map]
set_option maxHeartbeats 4000000 in
set_option maxRecDepth 100000 in
theorem RUnique_ok (s : List UInt8) (cn : Bool) (hs : s.length ≤ 1000000) (hb : (uniqS s cn).length ≤ 100000000000000) (h : Heap) : SCalls env 23 [.str s, .bool cn] h (Ret (.str (uniqS s cn)) h) := by
  refine SCalls.body Tryz.func23 rfl rfl (by simp [Tryz.ntmps23]) ?_
  have hll := linesOf_len s
  have hsh : ∀ l ∈ linesOf s, l.length ≤ 1000000 := fun l hl => by have := linesOf_short hl; omega
  refine SW.seq (SW.run [] _ ?_)
  simp only [wpC, Bool.false_eq_true, ↓reduceIte, wpS, stops, wantedA, okDst, Tryz.ntmps23, Nat.reduceLT, decide_true, step1, isOwnCall, hxOp, px, AS.eval, ofConst, ofVal, thenQ, AS.put, enumA, Nat.zero_add, dropKey, reduceCtorEq, Nat.reduceEqDiff, true_and]
  refine SW.seq (SW.run [eRLines] _ ?_)
  simp only [wpC, Bool.false_eq_true, ↓reduceIte, wpS, stops, wantedA, okDst, Nat.reduceLT, decide_true, step1, isOwnCall, hxOp, px, AS.eval, AS.get, Lift.look, Nat.succ_ne_zero, Option.getD_some, Specs.has, eRLines, Specs.hasO, Bool.or_false, Specs.hasH, Bool.not_true, AS.put, dropKey, Nat.reduceEqDiff, reduceCtorEq, pcall, okArg, ofConst, ofVal, List.all_cons, List.all_nil, Bool.and_true, Specs.at, List.map_cons, List.map_nil, sLines, hs, and_self, thenQ, true_and]
  unfold uniqS at hb ⊢
  generalize linesOf s = ls at *
  have hcl := contL_len ls
  refine SW.seq (SW.run [] _ ?_)
  simp only [wpC, Bool.false_eq_true, ↓reduceIte, wpS, stops, wantedA, okDst, Nat.reduceLT, decide_true, step1, isOwnCall, hxOp, px, AS.eval, ofConst, ofVal, thenQ, AS.put, dropKey, Nat.reduceEqDiff, reduceCtorEq, true_and]
  obtain ⟨T, hT⟩ : ∃ T, uniqF cn ls.length (contL ls) = T := ⟨_, rfl⟩
  rw [hT] at hb ⊢
  refine SW.seq (SW.seq (SW.run [] _ ?_))
  simp only [wpC, Bool.false_eq_true, ↓reduceIte, wpS, stops, wantedA, okDst, Nat.reduceLT, decide_true, step1, isOwnCall, hxOp, px, AS.eval, ofConst, ofVal, thenQ, AS.put, dropKey, Nat.reduceEqDiff, reduceCtorEq, true_and]
  refine SW.block (SW.loop (fun bb st => ∃ (f i : Nat) (acc : List UInt8), i ≤ ls.length ∧ ls.length - i = bb ∧ ls.length - i ≤ f ∧ acc ++ uniqF cn f ((contL ls).drop i) = T ∧ st.h = h ∧ st.n = 56 ∧ hasAll st [(1, .bool cn), (5, .list 1 (strL ls)), (6, .str acc), (7, .int .i64 (i : Nat))]) ls.length ⟨ls.length, 0, [], Nat.zero_le _, rfl, Nat.le_refl _, hT, rfl, rfl, ?_⟩ ?_)
  · simp only [hasAll, AS.get, Lift.look, Nat.reduceEqDiff, ↓reduceIte, reduceCtorEq, Option.getD_some, Int.cast_ofNat_Int, and_self]
  rintro bb st ⟨f, i, acc, hi, hbb, hf, hA, hh, hn, hs'⟩
  refine SW.norm ⟨hn, hh, hs'⟩ ?_
  clear hn hs' hh
  refine SW.seq (SW.run [] _ ?_)
  by_cases hlt : i < ls.length
  case neg =>
    have hAT : acc = T := by
      rw [← hA, List.drop_of_length_le (by omega)]
      cases f <;> simp [uniqF]
    subst hAT
    simp only [wpC, mayStop, stops, isFlt, Specs.has, Specs.hasO, Bool.or_false, Specs.hasH, Bool.not_false, List.any_cons, List.any_nil, Bool.false_eq_true, ↓reduceIte, wpS, wantedA, okDst, Nat.reduceLT, decide_true, step1, isOwnCall, hxOp, px, AS.eval, AS.get, Lift.look, Nat.reduceEqDiff, Option.getD_some, AS.put, dropKey, pcall, ty43, plen, strL_len, okLen, and_self, isNilC, pbinP, pbinI, Int.ofNat_lt, hlt, decide_false, thenQ, isB, tmpOf, asB, inQ, true_and]
    refine SW.run [] _ ?_
    simp only [wpC, mayStop, stops, isFlt, Specs.has, Specs.hasO, Bool.or_false, Specs.hasH, Bool.not_false, List.any_cons, List.any_nil, Bool.false_eq_true, ↓reduceIte, wpS, wantedA, okDst, Nat.reduceLT, decide_true, step1, isOwnCall, hxOp, px, AS.eval, AS.get, Lift.look, Nat.reduceEqDiff, Option.getD_some, AS.put, dropKey, thenQ, RPost, sres, Tryz.results23, sresL, sres1, Option.some.injEq, Ret_fin, HTo_self, and_true, exists_eq_left', and_self]
  simp only [wpC, mayStop, stops, isFlt, Specs.has, Specs.hasO, Bool.or_false, Specs.hasH, Bool.not_false, List.any_cons, List.any_nil, Bool.false_eq_true, ↓reduceIte, wpS, wantedA, okDst, Nat.reduceLT, decide_true, step1, isOwnCall, hxOp, px, AS.eval, AS.get, Lift.look, Nat.reduceEqDiff, Option.getD_some, AS.put, dropKey, pcall, ty43, plen, strL_len, okLen, and_self, isNilC, pbinP, pbinI, Int.ofNat_lt, hlt, thenQ, isB, tmpOf, asB, hasAll, and_true, true_and]
  refine SW.block (SW.seq (SW.run [] _ ?_))
  simp only [wpC, Bool.false_eq_true, ↓reduceIte, wpS, stops, wantedA, okDst, Nat.reduceLT, decide_true, step1, isOwnCall, hxOp, px, AS.eval, ofConst, ofVal, thenQ, AS.put, dropKey, Nat.reduceEqDiff, true_and]
  obtain ⟨f, rfl⟩ : ∃ f', f = f' + 1 := ⟨f - 1, by omega⟩
  have hci : i < (contL ls).length := by omega
  obtain ⟨x, hx⟩ : ∃ x, x = cutS ls[i] [10] := ⟨_, rfl⟩
  obtain ⟨xs, hxs⟩ : ∃ xs, xs = (contL ls).drop i := ⟨_, rfl⟩
  have hxs2 : xs = x :: (contL ls).drop (i + 1) := by rw [hxs, List.drop_eq_getElem_cons hci, contL_at hlt, hx]
  have hxl : xs.length = ls.length - i := by rw [hxs, List.length_drop, hcl]
  have hrun1 : runN x xs = 1 + runN x (xs.drop 1) := by
    rw [hxs2]
    show (if (x == x) = true then 1 + runN x _ else 0) = 1 + runN x _
    rw [if_pos (by simp)]
    rfl
  have hA2 : acc ++ (uniqT cn x (runN x xs) ++ uniqF cn f (xs.drop (runN x xs))) = T := by
    rw [← hxs, hxs2] at hA
    rw [hxs2]; exact hA
  have hgi := strL_at hlt
  have hl9 : ls[i].length ≤ 1000000000 := by have := hsh _ (List.getElem_mem hlt); omega
  have hx6 : x.length ≤ 1000000 := by
    have := hsh _ (List.getElem_mem hlt)
    have h2 := cut_short ls[i]
    rw [← hx] at h2; omega
  have hxk : ∀ k, (hk : k < xs.length) → ∃ hj : i + k < ls.length, xs[k] = cutS ls[i + k] [10] := fun k hk => by
    refine ⟨by omega, ?_⟩
    have : xs[k] = (contL ls)[i + k]'(by omega) := by simp only [hxs, List.getElem_drop]
    rw [this, contL_at (by omega)]
  refine SW.seq (SW.block (SW.loop (fun b2 st => ∃ k : Nat, 1 ≤ k ∧ k ≤ xs.length ∧ xs.length - k = b2 ∧ runN x xs = k + runN x (xs.drop k) ∧ st.h = h ∧ st.n = 56 ∧ hasAll st [(1, .bool cn), (5, .list 1 (strL ls)), (6, .str acc), (7, .int .i64 (i : Nat)), (8, .int .i64 (k : Nat))]) (xs.length - 1) ⟨1, Nat.le_refl _, by omega, rfl, hrun1, rfl, rfl, ?_⟩ ?_))
  · simp only [hasAll, AS.get, Lift.look, Nat.reduceEqDiff, ↓reduceIte, Option.getD_some, Int.cast_ofNat_Int, and_self]
  rintro b2 st ⟨k, hk1, hk, hb2, hrun, hh, hn, hs'⟩
  refine SW.norm ⟨hn, hh, hs'⟩ ?_
  clear hn hs' hh
  have hwik : IntKind.i64.wrap (((i : Nat) : Int) + ((k : Nat) : Int)) = ((i + k : Nat) : Int) := by rw [w64 (by omega) (by omega)]; rfl
  refine SW.seq ?_
  by_cases hmore : (∃ hk : k < xs.length, (xs[k] == x) = true)
  · obtain ⟨hlk, heq⟩ := hmore
    obtain ⟨hj, hxj⟩ := hxk k hlk
    have hgk := strL_at hj
    have hj' : ((i + k : Nat) : Int) < ((ls.length : Nat) : Int) := by omega
    have hlj9 : ls[i + k].length ≤ 1000000000 := by have := hsh _ (List.getElem_mem hj); omega
    have heq2 : (cutS ls[i + k] [10] == cutS ls[i] [10]) = true := by rw [← hxj, ← hx]; exact heq
    have hw : IntKind.i64.wrap ((k : Int) + 1) = ((k + 1 : Nat) : Int) := by rw [w64 (by omega) (by omega)]; rfl
    refine SW.seq (SW.regionAny [eContent] [[0, 1, 2, 3, 4, 5, 6, 7, 8, 9, 10, 11, 12, 13, 14, 15, 16, 17, 18, 19, 20]] rfl (by rfl) (by kernel_rfl) ?_)
    simp only [wpOL, wpO, LOp, List.getElem?_toArray, List.getElem?_cons_zero, okDst, Nat.reduceLT, decide_true, wantedA, ↓reduceIte, step1, isOwnCall, Bool.false_eq_true, hxOp, px, AS.eval, AS.get, Lift.look, Nat.reduceEqDiff, Option.getD_some, List.getElem?_cons_succ, AS.put, dropKey, isNilC, pbinP, pbinI, hwik, pcall, ty43, plen, strL_len, okLen, and_self, hj', Option.bind_some, beq_self_eq_true, pindexAddr, ty9, ne_eq, Nat.succ_ne_zero, not_false_eq_true, Int.natCast_nonneg, Int.toNat_natCast, hj, hgk, pload, okOne, TK.isAgg, Bool.or_true, List.length_cons, List.length_nil, Nat.zero_add, Nat.le_refl, Lift.valOf, List.take_succ_cons, List.take_nil, List.getD_cons_zero, Specs.hasO, Specs.hasH, okArg, ofConst, ofVal, List.all_cons, List.all_nil, Bool.and_true, Specs.at, eContent, PBad, List.map_cons, List.map_nil, hlj9, hlt, hgi, hl9, pbinS, heq2, ppick_bool, thenQ, hasAll, and_true, true_and]
    refine SW.run [] _ ?_
    simp only [wpC, isB, AS.get, Lift.look, tmpOf, ↓reduceIte, Option.getD_some, asB, thenQ, true_and]
    refine SW.block (SW.run [] _ ?_)
    simp only [wpC, Bool.false_eq_true, ↓reduceIte, wpS, stops, wantedA, okDst, Nat.reduceLT, decide_true, step1, isOwnCall, hxOp, px, AS.eval, AS.get, Lift.look, Nat.reduceEqDiff, Option.getD_some, isFlt, ty3, AS.put, dropKey, isNilC, pbinP, ofConst, ofVal, pbinI, hw, inQ, thenQ, true_and]
    exact ⟨xs.length - (k + 1), by omega, k + 1, by omega, by omega, rfl, runN_next hlk hrun heq, rfl⟩
  · have hrk : runN x xs = k := by
      by_cases hlk : k < xs.length
      · exact runN_stop hlk hrun (by cases e : (xs[k] == x); rfl; exact absurd ⟨hlk, e⟩ hmore)
      · exact runN_all (by omega) hrun
    refine SW.meet1 56 [(1, .bool cn), (5, .list 1 (strL ls)), (6, .str acc), (7, .int .i64 (i : Nat)), (8, .int .i64 (k : Nat)), (35, .bool false)] h ?_ ?_
    · refine SW.regionAny [eContent] [[0, 1, 2, 3, 4, 5, 6, 7, 8, 9, 10, 11, 12, 13, 14, 15, 16, 17, 18, 19, 20]] rfl (by rfl) (by kernel_rfl) ?_
      by_cases hlk : k < xs.length
      · obtain ⟨hj, hxj⟩ := hxk k hlk
        have hgk := strL_at hj
        have hj' : ((i + k : Nat) : Int) < ((ls.length : Nat) : Int) := by omega
        have hlj9 : ls[i + k].length ≤ 1000000000 := by have := hsh _ (List.getElem_mem hj); omega
        have heq : (xs[k] == x) = false := by cases e : (xs[k] == x); rfl; exact absurd ⟨hlk, e⟩ hmore
        have heq2 : (cutS ls[i + k] [10] == cutS ls[i] [10]) = false := by rw [← hxj, ← hx]; exact heq
        simp only [wpOL, wpO, LOp, List.getElem?_toArray, List.getElem?_cons_zero, okDst, Nat.reduceLT, decide_true, wantedA, ↓reduceIte, step1, isOwnCall, Bool.false_eq_true, hxOp, px, AS.eval, AS.get, Lift.look, Nat.reduceEqDiff, Option.getD_some, List.getElem?_cons_succ, AS.put, dropKey, isNilC, pbinP, pbinI, hwik, pcall, ty43, plen, strL_len, okLen, and_self, hj', Option.bind_some, beq_self_eq_true, pindexAddr, ty9, ne_eq, Nat.succ_ne_zero, not_false_eq_true, Int.natCast_nonneg, Int.toNat_natCast, hj, hgk, pload, okOne, TK.isAgg, Bool.or_true, List.length_cons, List.length_nil, Nat.zero_add, Nat.le_refl, Lift.valOf, List.take_succ_cons, List.take_nil, List.getD_cons_zero, Specs.hasO, Specs.hasH, okArg, ofConst, ofVal, List.all_cons, List.all_nil, Bool.and_true, Specs.at, eContent, PBad, List.map_cons, List.map_nil, hlj9, hlt, hgi, hl9, pbinS, heq2, ppick_bool, thenQ, Meet, HTo_self, hasAll]
      · have hj' : ¬ ((i + k : Nat) : Int) < ((ls.length : Nat) : Int) := by omega
        simp only [wpOL, wpO, LOp, List.getElem?_toArray, List.getElem?_cons_zero, okDst, Nat.reduceLT, decide_true, wantedA, ↓reduceIte, step1, isOwnCall, Bool.false_eq_true, hxOp, px, AS.eval, AS.get, Lift.look, Nat.reduceEqDiff, Option.getD_some, List.getElem?_cons_succ, AS.put, dropKey, isNilC, pbinP, pbinI, hwik, pcall, ty43, plen, strL_len, okLen, and_self, hj', decide_false, Option.bind_some, beq_ft, Option.some.injEq, ofConst, ofVal, ppick_false, thenQ, Meet, HTo_self, hasAll]
    refine SW.run [] _ ?_
    simp only [wpC, isB, AS.get, Lift.look, tmpOf, Nat.reduceEqDiff, ↓reduceIte, Option.getD_some, asB, Bool.false_eq_true, thenQ, inQ, true_and]
    rw [hrk] at hA2
    have hTl : acc.length + ((uniqT cn x k).length + (uniqF cn f (xs.drop k)).length) = T.length := by rw [← hA2, List.length_append, List.length_append]
    have hk0 : (0 : Int) ≤ ((k : Nat) : Int) := by omega
    have hk9 : ((k : Nat) : Int) ≤ 9223372036854775807 := by omega
    have hdr : xs.drop k = (contL ls).drop (i + k) := by rw [hxs, List.drop_drop]
    refine SW.seq (SW.run [eDigits] _ ?_)
    cases cn
    · have hTl : acc.length + ((x.length + 1) + (uniqF false f (xs.drop k)).length) = T.length := by
        rw [← hTl]; simp [uniqT]
      have hA2 : acc ++ ((x ++ [10]) ++ uniqF false f (xs.drop k)) = T := hA2
      simp only [wpC, mayStop, stops, isFlt, Specs.has, Specs.hasO, Bool.or_false, Specs.hasH, List.any_cons, List.any_nil, Bool.false_eq_true, ↓reduceIte, wpS, wantedA, okDst, Nat.reduceLT, decide_true, step1, isOwnCall, hxOp, px, AS.eval, AS.get, Lift.look, Option.getD_some, thenQ, isB, AS.put, dropKey, Nat.reduceEqDiff, tmpOf, asB, true_and]
      refine SW.seq (SW.run [eContent] _ ?_)
      simp only [wpC, Bool.false_eq_true, ↓reduceIte, wpS, stops, wantedA, okDst, Nat.reduceLT, decide_true, step1, isOwnCall, hxOp, px, AS.eval, AS.get, Lift.look, Nat.reduceEqDiff, Option.getD_some, AS.put, dropKey, pindexAddr, ty43, ty9, ne_eq, Nat.succ_ne_zero, not_false_eq_true, Int.natCast_nonneg, Int.toNat_natCast, strL_len, hlt, and_self, hgi, pload, okOne, TK.isAgg, beq_self_eq_true, Bool.or_true, List.length_cons, List.length_nil, Nat.zero_add, Nat.le_refl, Lift.valOf, List.take_succ_cons, List.take_nil, List.getD_cons_zero, Specs.has, eContent, PBad, Specs.hasO, Bool.or_false, Specs.hasH, Bool.not_true, pcall, okArg, ofConst, ofVal, List.all_cons, List.all_nil, Bool.and_true, Specs.at, List.map_cons, List.map_nil, hl9, ← hx, isFlt, isNilC, pbinP, pbinS, Nat.reduceLeDiff, thenQ, true_and]
      refine ⟨by omega, by simp only [List.length_append, List.length_cons, List.length_nil]; omega, ?_⟩
      refine SW.run [] _ ?_
      simp only [wpC, Bool.false_eq_true, ↓reduceIte, wpS, stops, wantedA, okDst, Nat.reduceLT, decide_true, step1, isOwnCall, hxOp, px, AS.eval, AS.get, Lift.look, Nat.reduceEqDiff, Option.getD_some, AS.put, dropKey, isFlt, ty3, isNilC, pbinP, pbinI, hwik, inQ, thenQ, true_and]
      exact ⟨ls.length - (i + k), by omega, f, i + k, _, by omega, rfl, by omega, by rw [← hdr, ← hA2]; simp only [List.append_assoc], rfl, rfl⟩
    · have hTl : acc.length + ((Lib.itoa (k : Nat)).length + 1 + (x.length + 1) + (uniqF true f (xs.drop k)).length) = T.length := by
        rw [← hTl]; simp [uniqT]; omega
      have hA2 : acc ++ ((Lib.itoa (k : Nat) ++ [32] ++ (x ++ [10])) ++ uniqF true f (xs.drop k)) = T := hA2
      simp only [wpC, mayStop, stops, isFlt, Specs.has, eDigits, Specs.hasO, Bool.or_false, Specs.hasH, List.any_cons, List.any_nil, Bool.false_eq_true, ↓reduceIte, wpS, wantedA, okDst, Nat.reduceLT, decide_true, step1, isOwnCall, hxOp, px, AS.eval, AS.get, Lift.look, Option.getD_some, thenQ, isB, AS.put, dropKey, Nat.reduceEqDiff, tmpOf, asB, Bool.not_true, pcall, okArg, ofConst, ofVal, List.all_cons, List.all_nil, Bool.and_true, Specs.at, List.map_cons, List.map_nil, sDigits, hk0, hk9, and_self, ty9, isNilC, pbinP, pbinS, List.length_cons, List.length_nil, Nat.zero_add, Nat.reduceLeDiff, true_and]
      refine ⟨by omega, by simp only [List.length_append, List.length_cons, List.length_nil]; omega, ?_⟩
      refine SW.seq (SW.run [eContent] _ ?_)
      simp only [wpC, Bool.false_eq_true, ↓reduceIte, wpS, stops, wantedA, okDst, Nat.reduceLT, decide_true, step1, isOwnCall, hxOp, px, AS.eval, AS.get, Lift.look, Option.getD_some, AS.put, dropKey, Nat.reduceEqDiff, pindexAddr, ty43, ty9, ne_eq, Nat.succ_ne_zero, not_false_eq_true, Int.natCast_nonneg, Int.toNat_natCast, strL_len, hlt, and_self, hgi, pload, okOne, TK.isAgg, beq_self_eq_true, Bool.or_true, List.length_cons, List.length_nil, Nat.zero_add, Nat.le_refl, Lift.valOf, List.take_succ_cons, List.take_nil, List.getD_cons_zero, Specs.has, eContent, PBad, Specs.hasO, Bool.or_false, Specs.hasH, Bool.not_true, pcall, okArg, ofConst, ofVal, List.all_cons, List.all_nil, Bool.and_true, Specs.at, List.map_cons, List.map_nil, hl9, ← hx, isFlt, isNilC, pbinP, pbinS, Nat.reduceLeDiff, thenQ, true_and]
      refine ⟨by omega, by simp only [List.length_append, List.length_cons, List.length_nil]; omega, ?_⟩
      refine SW.run [] _ ?_
      simp only [wpC, Bool.false_eq_true, ↓reduceIte, wpS, stops, wantedA, okDst, Nat.reduceLT, decide_true, step1, isOwnCall, hxOp, px, AS.eval, AS.get, Lift.look, Nat.reduceEqDiff, Option.getD_some, AS.put, dropKey, isFlt, ty3, isNilC, pbinP, pbinI, hwik, inQ, thenQ, true_and]
      exact ⟨ls.length - (i + k), by omega, f, i + k, _, by omega, rfl, by omega, by rw [← hdr, ← hA2]; simp only [List.append_assoc], rfl, rfl⟩
noncomputable def eRUnique : SpecE env := ⟨23, sUnique, fun args h hc => by
  unfold sUnique at hc ⊢
  split at hc
  · exact .inl (RUnique_ok _ _ hc.1 hc.2 h)
  · exact hc.elim⟩
end Go.Proofs.YtincpomenogppaaGreatDoor
