/- Contracts of functions that the law reaches. -/
import Derived.Test.YtincpomenogppaaGreatDoorY5
set_option linter.unusedSimpArgs false
set_option linter.unusedVariables false
namespace Go.Proofs.YtincpomenogppaaGreatDoor
open Go Go.RowKit Go.Proofs.YtincpomenogppaaGreatDoor Go.Proofs.YtincpomenogppaaGreatDoor.Lift
set_option maxRecDepth 100000

def ltD (down : Bool) (a b : List UInt8) : Bool := if down = true then !(lessB a b || a == b) else lessB a b
def scanB (down : Bool) (cs : List (List UInt8)) (us : List Bool) : Nat → Nat → Int → Int
  | 0, _, b => b
  | n + 1, i, b => scanB down cs us n (i + 1) (if us.getD i false = true then b else if b < 0 ∨ ltD down (cs.getD i []) (cs.getD b.toNat []) = true then (i : Int) else b)
def selF (down : Bool) (cs : List (List UInt8)) : Nat → List Bool → List UInt8
  | 0, _ => []
  | n + 1, us => (cs.getD (scanB down cs us cs.length 0 (-1)).toNat [] ++ [10]) ++ selF down cs n (us.set (scanB down cs us cs.length 0 (-1)).toNat true)
theorem scan_found (down : Bool) (cs : List (List UInt8)) (us : List Bool) : ∀ (n i : Nat) (b : Int), (b < 0 ∨ (b < i ∧ us.getD b.toNat false = false)) → i + n ≤ us.length →
    (0 ≤ b ∨ ∃ k, i ≤ k ∧ k < i + n ∧ us.getD k false = false) →
    0 ≤ scanB down cs us n i b ∧ scanB down cs us n i b < ((i + n : Nat) : Int) ∧ us.getD (scanB down cs us n i b).toNat false = false
  | 0, i, b, hb, _, hk => by
    show 0 ≤ b ∧ b < ((i + 0 : Nat) : Int) ∧ us.getD b.toNat false = false
    rcases hk with hk | ⟨k, k1, k2, _⟩
    · rcases hb with hb | ⟨h1, h2⟩
      · omega
      · exact ⟨hk, by omega, h2⟩
    · omega
  | n + 1, i, b, hb, hl, hk => by
    unfold scanB
    have hin : i + (n + 1) = i + 1 + n := by omega
    rw [hin]
    by_cases hu : us.getD i false = true
    · rw [if_pos hu]
      refine scan_found down cs us n (i + 1) b (hb.imp id fun ⟨h1, h2⟩ => ⟨by omega, h2⟩) (by omega) ?_
      rcases hk with hk | ⟨k, k1, k2, k3⟩
      · exact .inl hk
      · refine .inr ⟨k, ?_, by omega, k3⟩
        rcases Nat.eq_or_lt_of_le k1 with e | e
        · subst e; rw [hu] at k3; cases k3
        · exact e
    · rw [if_neg hu]
      have hu : us.getD i false = false := by cases e : us.getD i false; rfl; exact absurd e hu
      split
      · exact scan_found down cs us n (i + 1) i (.inr ⟨by omega, by rw [Int.toNat_natCast]; exact hu⟩) (by omega) (.inl (by omega))
      · rename_i hnb
        exact scan_found down cs us n (i + 1) b (hb.imp id fun ⟨h1, h2⟩ => ⟨by omega, h2⟩) (by omega) (.inl (by omega))
theorem selF_len (down : Bool) (cs : List (List UInt8)) (M : Nat) (h0 : 1 ≤ M) (hM : ∀ c ∈ cs, c.length + 1 ≤ M) : ∀ (n : Nat) (us : List Bool), (selF down cs n us).length ≤ n * M
  | 0, us => by simp [selF]
  | n + 1, us => by
    have ih := selF_len down cs M h0 hM n (us.set (scanB down cs us cs.length 0 (-1)).toNat true)
    have h1 : (cs.getD (scanB down cs us cs.length 0 (-1)).toNat []).length + 1 ≤ M := by
      rw [List.getD_eq_getElem?_getD]
      cases e : cs[(scanB down cs us cs.length 0 (-1)).toNat]? with
      | none => simpa using h0
      | some c => exact hM c (List.mem_of_getElem? e)
    unfold selF
    rw [List.length_append, List.length_append, List.length_singleton, Nat.succ_mul]
    omega
theorem unused {us : List Bool} {n : Nat} (h : us.length = n) (hc : 0 < us.count false) : ∃ k, 0 ≤ k ∧ k < 0 + n ∧ us.getD k false = false := by
  obtain ⟨k, hk, e⟩ := List.getElem_of_mem (List.count_pos_iff.1 hc)
  exact ⟨k, Nat.zero_le _, by omega, by rw [List.getD_eq_getElem?_getD, List.getElem?_eq_getElem hk]; exact e⟩
def bools (us : List Bool) : List PV := us.map PV.bool
theorem bools_at {us : List Bool} {j : Nat} (h : j < us.length) : (List.take 1 (List.drop (j * 1) (bools us))).getD 0 PV.any = .bool (us.getD j false) := by
  rw [Nat.mul_one]
  unfold bools
  have e : us.getD j false = us[j] := by rw [List.getD_eq_getElem?_getD, List.getElem?_eq_getElem h]; rfl
  rw [← List.map_drop, List.drop_eq_getElem_cons h, e]
  rfl
theorem bools_set {us : List Bool} {m : Nat} (h : m < us.length) : List.take (m * 1) (bools us) ++ [PV.bool true] ++ List.drop (m * 1 + 1) (bools us) = bools (us.set m true) := by
  rw [Nat.mul_one]
  unfold bools
  rw [List.set_eq_take_append_cons_drop, if_pos h, List.map_append, List.map_cons, List.map_take, List.map_drop]
  simp
theorem count_set_true {us : List Bool} {m : Nat} (h : m < us.length) (e : us.getD m false = false) : (us.set m true).count false = us.count false - 1 := by
  have e : us[m] = false := by rw [List.getD_eq_getElem?_getD, List.getElem?_eq_getElem h] at e; exact e
  rw [List.count_set h, e]
  simp
set_option maxHeartbeats 8000000 in
set_option maxRecDepth 100000 in
theorem RSort_ok (s : List UInt8) (down : Bool) (hs : s.length ≤ 1000000) (h : Heap) : SCalls env 21 [.str s, .bool down] h (Ret (.str (selF down (contL (linesOf s)) (linesOf s).length (List.replicate (linesOf s).length false))) h) := by
  refine SCalls.body Tryz.func21 rfl rfl (by simp [Tryz.ntmps21]) ?_
  have hll := linesOf_len s
  have hsh : ∀ l ∈ linesOf s, l.length ≤ 1000000 := fun l hl => by have := linesOf_short hl; omega
  refine SW.seq (SW.run [] _ ?_)
  simp only [wpC, Bool.false_eq_true, ↓reduceIte, wpS, stops, wantedA, okDst, Tryz.ntmps21, Nat.reduceLT, decide_true, step1, isOwnCall, hxOp, px, AS.eval, ofConst, ofVal, thenQ, AS.put, enumA, Nat.zero_add, dropKey, reduceCtorEq, Nat.reduceEqDiff, true_and]
  refine SW.seq (SW.run [eRLines] _ ?_)
  simp only [wpC, Bool.false_eq_true, ↓reduceIte, wpS, stops, wantedA, okDst, Nat.reduceLT, decide_true, step1, isOwnCall, hxOp, px, AS.eval, AS.get, Lift.look, Nat.succ_ne_zero, Option.getD_some, Specs.has, eRLines, Specs.hasO, Bool.or_false, Specs.hasH, Bool.not_true, AS.put, dropKey, Nat.reduceEqDiff, reduceCtorEq, pcall, okArg, ofConst, ofVal, List.all_cons, List.all_nil, Bool.and_true, Specs.at, List.map_cons, List.map_nil, sLines, hs, and_self, thenQ, true_and]
  generalize linesOf s = ls at *
  have hcl : (contL ls).length = ls.length := by unfold contL; rw [List.length_map]
  have hcM : ∀ c ∈ contL ls, c.length ≤ 1000000 := fun c hc => by
    unfold contL at hc
    obtain ⟨l, hl, rfl⟩ := List.mem_map.1 hc
    have := hsh l hl
    have := cut_short l
    omega
  refine SW.seq (SW.run [] _ ?_)
  simp only [wpC, Bool.false_eq_true, ↓reduceIte, wpS, stops, wantedA, okDst, Nat.reduceLT, decide_true, step1, isOwnCall, hxOp, px, AS.eval, ofConst, ofVal, thenQ, AS.put, dropKey, Nat.reduceEqDiff, reduceCtorEq, true_and]
  refine SW.seq (SW.run [] _ ?_)
  simp only [wpC, Bool.false_eq_true, ↓reduceIte, wpS, stops, wantedA, okDst, Nat.reduceLT, decide_true, step1, isOwnCall, hxOp, px, AS.eval, AS.get, Lift.look, Nat.reduceEqDiff, Option.getD_some, AS.put, dropKey, reduceCtorEq, pcall, ty43, plen, strL_len, okLen, and_self, true_and]
  refine SWO.make 41 (.tmp 14) (.tmp 14) rfl ty41 rfl ty4 rfl rfl (by decide) (n := ls.length) rfl rfl (by simp; omega) (by omega) rfl rfl fun r hr => ?_
  have hr : h r = none := hr
  refine SWO.run [] 1000 ?_
  simp only [wpS, stops, Bool.false_eq_true, ↓reduceIte, wantedA, okDst, AS.put, dropKey, Nat.reduceEqDiff, reduceCtorEq, Nat.reduceLT, decide_true, step1, isOwnCall, hxOp, px, AS.eval, AS.get, Lift.look, Option.getD_some, thenQ, List.map_cons, ofVal, List.map_nil, true_and]
  have hrep : (List.replicate ls.length [PV.bool false]).flatten = bools (List.replicate ls.length false) := by
    unfold bools
    rw [List.map_replicate]
    induction ls.length with
    | zero => rfl
    | succ n ih => rw [List.replicate_succ, List.flatten_cons, ih]; rfl
  rw [hrep]
  obtain ⟨T, hT⟩ : ∃ T, T = selF down (contL ls) ls.length (List.replicate ls.length false) := ⟨_, rfl⟩
  have hT2 : T.length ≤ 100000000000000 := by
    obtain ⟨M, hM⟩ : ∃ M : Nat, M = 1000001 := ⟨_, rfl⟩
    have hTl := selF_len down (contL ls) M (by omega) (fun c hc => by have := hcM c hc; omega) ls.length (List.replicate ls.length false)
    rw [← hT] at hTl
    have h9 : ls.length * M ≤ 1000000 * M := Nat.mul_le_mul_right M (by omega)
    omega
  rw [← hT]
  refine SW.seq (SW.seq (SW.run [] _ ?_))
  simp only [wpC, Bool.false_eq_true, ↓reduceIte, wpS, stops, wantedA, okDst, Nat.reduceLT, decide_true, step1, isOwnCall, hxOp, px, AS.eval, ofConst, ofVal, thenQ, AS.put, dropKey, Nat.reduceEqDiff, reduceCtorEq, true_and]
  refine SW.block (SW.loopK 80 (fun b : Nat × List Bool × List UInt8 => [(1, .bool down), (5, .list 1 (strL ls)), (6, .str b.2.2), (7, .val (.slice (some ⟨r, 0, none⟩) ls.length ls.length)), (8, .int .i64 (b.1 : Nat))]) (fun b => h.put r (.cells 4 (ls.length * 1) (bools b.2.1)))
    (fun b => b.1 ≤ ls.length ∧ b.2.1.length = ls.length ∧ b.2.1.count false = ls.length - b.1 ∧ b.2.2 ++ selF down (contL ls) (ls.length - b.1) b.2.1 = T) (fun b => ls.length - b.1) (0, List.replicate ls.length false, []) ⟨Nat.zero_le _, List.length_replicate, by dsimp only; rw [List.count_replicate_self]; rfl, by dsimp only; rw [hT]; rfl⟩ ?_ ?_)
  · simp only [Has, hasAll, AS.get, Lift.look, Nat.reduceEqDiff, ↓reduceIte, reduceCtorEq, Option.getD_some, Int.cast_ofNat_Int, and_self]
  rintro ⟨i, us, acc⟩ ⟨h1, h2, h3, h4⟩
  have h1 : i ≤ ls.length := h1
  have h2 : us.length = ls.length := h2
  have h3 : us.count false = ls.length - i := h3
  have h4 : acc ++ selF down (contL ls) (ls.length - i) us = T := h4
  refine SW.seq (SW.run [] _ ?_)
  by_cases hlt : i < ls.length
  case neg =>
    have h5 : acc = T := by rw [← h4, show ls.length - i = 0 by omega]; exact (List.append_nil _).symm
    simp only [wpC, mayStop, stops, isFlt, Specs.has, Specs.hasO, Bool.or_false, Specs.hasH, Bool.not_false, List.any_cons, List.any_nil, Bool.false_eq_true, ↓reduceIte, wpS, wantedA, okDst, Nat.reduceLT, decide_true, step1, isOwnCall, hxOp, px, AS.eval, AS.get, Lift.look, Nat.reduceEqDiff, Option.getD_some, AS.put, dropKey, pcall, ty43, plen, strL_len, okLen, and_self, isNilC, pbinP, pbinI, Int.ofNat_lt, hlt, decide_false, thenQ, isB, tmpOf, asB, inQ, true_and]
    refine SW.run [] _ ?_
    simp only [wpC, mayStop, stops, isFlt, Specs.has, Specs.hasO, Bool.or_false, Specs.hasH, Bool.not_false, List.any_cons, List.any_nil, Bool.false_eq_true, ↓reduceIte, wpS, wantedA, okDst, Nat.reduceLT, decide_true, step1, isOwnCall, hxOp, px, AS.eval, AS.get, Lift.look, Nat.reduceEqDiff, Option.getD_some, AS.put, dropKey, thenQ, RPost, sres, Tryz.results21, sresL, sres1, Option.some.injEq, Ret_fin, exists_eq_left', true_and]
    exact ⟨by rw [h5], HTo.put (.refl _ _) hr _⟩
  simp only [wpC, mayStop, stops, isFlt, Specs.has, Specs.hasO, Bool.or_false, Specs.hasH, Bool.not_false, List.any_cons, List.any_nil, Bool.false_eq_true, ↓reduceIte, wpS, wantedA, okDst, Nat.reduceLT, decide_true, step1, isOwnCall, hxOp, px, AS.eval, AS.get, Lift.look, Nat.reduceEqDiff, Option.getD_some, AS.put, dropKey, pcall, ty43, plen, strL_len, okLen, and_self, isNilC, pbinP, pbinI, Int.ofNat_lt, hlt, thenQ, isB, tmpOf, asB, Has, hasAll, and_true, true_and]
  refine SW.seq (SW.block (SW.seq (SW.run [] _ ?_)))
  simp only [wpC, Bool.false_eq_true, ↓reduceIte, wpS, stops, wantedA, okDst, Nat.reduceLT, decide_true, step1, isOwnCall, hxOp, px, AS.eval, ofConst, ofVal, thenQ, AS.put, dropKey, Nat.reduceEqDiff, true_and]
  refine SW.seq (SW.seq (SW.run [] _ ?_))
  simp only [wpC, Bool.false_eq_true, ↓reduceIte, wpS, stops, wantedA, okDst, Nat.reduceLT, decide_true, step1, isOwnCall, hxOp, px, AS.eval, ofConst, ofVal, thenQ, AS.put, dropKey, Nat.reduceEqDiff, true_and]
  obtain ⟨B, hB⟩ : ∃ B, B = scanB down (contL ls) us ls.length 0 (-1) := ⟨_, rfl⟩
  have hfd := scan_found down (contL ls) us ls.length 0 (-1) (.inl (by omega)) (by omega) (.inr (unused h2 (by omega)))
  rw [← hB] at hfd
  obtain ⟨b1, b2, b3⟩ := hfd
  rw [Nat.zero_add] at b2
  refine SW.block (SW.loopK 80 (fun x : Nat × Int => [(1, .bool down), (5, .list 1 (strL ls)), (6, .str acc), (7, .val (.slice (some ⟨r, 0, none⟩) ls.length ls.length)), (8, .int .i64 (i : Nat)), (9, .int .i64 x.2), (10, .int .i64 (x.1 : Nat))]) (fun _ => h.put r (.cells 4 (ls.length * 1) (bools us)))
    (fun x => x.1 ≤ ls.length ∧ -1 ≤ x.2 ∧ x.2 < (ls.length : Nat) ∧ scanB down (contL ls) us (ls.length - x.1) x.1 x.2 = B) (fun x => ls.length - x.1) (0, -1) ⟨Nat.zero_le _, Int.le_refl _, by dsimp only; omega, hB.symm⟩ ?_ ?_)
  · simp only [Has, hasAll, AS.get, Lift.look, Nat.reduceEqDiff, ↓reduceIte, Option.getD_some, Int.cast_ofNat_Int, and_self]
  rintro ⟨j, b⟩ ⟨g1, g2, g3, g4⟩
  have g1 : j ≤ ls.length := g1
  have g2 : -1 ≤ b := g2
  have g3 : b < (ls.length : Nat) := g3
  have g4 : scanB down (contL ls) us (ls.length - j) j b = B := g4
  refine SW.seq (SW.run [] _ ?_)
  by_cases hj : j < ls.length
  case neg =>
    have hbB : b = B := by rw [show ls.length - j = 0 by omega] at g4; exact g4
    subst hbB
    obtain ⟨m, rfl⟩ : ∃ m : Nat, b = (m : Int) := ⟨b.toNat, by omega⟩
    have hm : m < ls.length := by omega
    have hm' : ((m : Nat) : Int) < ((ls.length : Nat) : Int) := by omega
    have hgm := strL_at hm
    have hcm : (contL ls).getD m [] = cutS ls[m] [10] := by rw [List.getD_eq_getElem?_getD, List.getElem?_eq_getElem (by omega), contL_at hm]; rfl
    have hm6 := hsh _ (List.getElem_mem hm)
    have hm9 : ls[m].length ≤ 1000000000 := by omega
    have hcs := cut_short ls[m]
    have hwi : IntKind.i64.wrap ((i : Int) + 1) = ((i + 1 : Nat) : Int) := by rw [w64 (by omega) (by omega)]; rfl
    rw [Int.toNat_natCast] at b3
    have hsel : selF down (contL ls) (ls.length - i) us = (cutS ls[m] [10] ++ [10]) ++ selF down (contL ls) (ls.length - (i + 1)) (us.set m true) := by
      rw [show ls.length - i = (ls.length - (i + 1)) + 1 by omega, selF, hcl, ← hB, Int.toNat_natCast, hcm]
    rw [hsel] at h4
    have hTt := congrArg List.length h4
    rw [List.length_append, List.length_append, List.length_append, List.length_singleton] at hTt
    have hap1 : (cutS ls[m] [10]).length + 1 ≤ 9223372036854775807 := by omega
    have hap2 : acc.length + (cutS ls[m] [10] ++ [10]).length ≤ 9223372036854775807 := by rw [List.length_append, List.length_singleton]; omega
    have hbl : m * 1 + 1 ≤ (bools us).length := by unfold bools; rw [List.length_map]; omega
    simp only [wpC, mayStop, stops, isFlt, Specs.has, Specs.hasO, Bool.or_false, Specs.hasH, Bool.not_false, List.any_cons, List.any_nil, Bool.false_eq_true, ↓reduceIte, wpS, wantedA, okDst, Nat.reduceLT, decide_true, step1, isOwnCall, hxOp, px, AS.eval, AS.get, Lift.look, Nat.reduceEqDiff, Option.getD_some, AS.put, dropKey, pcall, ty43, plen, strL_len, okLen, and_self, isNilC, pbinP, pbinI, Int.ofNat_lt, hj, decide_false, thenQ, isB, tmpOf, asB, inQ, true_and]
    refine SW.seq (SW.run [] _ ?_)
    simp only [wpC, Bool.false_eq_true, ↓reduceIte, wpS, stops, wantedA, okDst, Nat.reduceLT, decide_true, step1, isOwnCall, hxOp, px, AS.eval, AS.get, Lift.look, Nat.reduceEqDiff, Option.getD_some, AS.put, dropKey, pindexAddr, ty41, ty4, Int.natCast_nonneg, hm', and_self, Int.toNat_natCast, Nat.zero_add, hx, Heap.get_put, known1, ofConst, ofVal, PV.cells, List.length_cons, List.length_nil, hbl, splice, thenQ, true_and]
    refine SW.run [eContent] _ ?_
    simp only [wpC, Bool.false_eq_true, ↓reduceIte, wpS, stops, wantedA, okDst, Nat.reduceLT, decide_true, step1, isOwnCall, hxOp, px, AS.eval, AS.get, Lift.look, Nat.reduceEqDiff, Option.getD_some, AS.put, dropKey, pindexAddr, ty43, ty9, ne_eq, Nat.succ_ne_zero, not_false_eq_true, Int.natCast_nonneg, Int.toNat_natCast, strL_len, hm, and_self, hgm, pload, okOne, TK.isAgg, beq_self_eq_true, Bool.or_true, List.length_cons, List.length_nil, Nat.zero_add, Nat.le_refl, Lift.valOf, List.take_succ_cons, List.take_nil, List.getD_cons_zero, Specs.has, eContent, PBad, Specs.hasO, Bool.or_false, Specs.hasH, Bool.not_true, pcall, okArg, ofConst, ofVal, List.all_cons, List.all_nil, Bool.and_true, Specs.at, List.map_cons, List.map_nil, hm9, isFlt, isNilC, pbinP, pbinS, hap1, hap2, inQ, thenQ, true_and]
    refine SW.run [] _ ?_
    simp only [wpC, Bool.false_eq_true, ↓reduceIte, wpS, stops, wantedA, okDst, Nat.reduceLT, decide_true, step1, isOwnCall, hxOp, px, AS.eval, AS.get, Lift.look, Nat.reduceEqDiff, Option.getD_some, isFlt, ty3, AS.put, dropKey, isNilC, pbinP, ofConst, ofVal, pbinI, hwi, thenQ, true_and]
    refine ⟨(i + 1, us.set m true, acc ++ (cutS ls[m] [10] ++ [10])), ⟨hlt, by dsimp only; rw [List.length_set]; exact h2, ?_, by dsimp only; rw [List.append_assoc]; exact h4⟩, by dsimp only; omega, ?_⟩
    · show (us.set m true).count false = ls.length - (i + 1)
      rw [count_set_true (by omega) b3, h3]; omega
    · rw [Heap.put_put, bools_set (by omega)]
      exact ⟨rfl, rfl, rfl⟩
  have hw1 : IntKind.i64.wrap ((j : Int) + 1) = ((j + 1 : Nat) : Int) := by rw [w64 (by omega) (by omega)]; rfl
  simp only [wpC, mayStop, stops, isFlt, Specs.has, Specs.hasO, Bool.or_false, Specs.hasH, Bool.not_false, List.any_cons, List.any_nil, Bool.false_eq_true, ↓reduceIte, wpS, wantedA, okDst, Nat.reduceLT, decide_true, step1, isOwnCall, hxOp, px, AS.eval, AS.get, Lift.look, Nat.reduceEqDiff, Option.getD_some, AS.put, dropKey, pcall, ty43, plen, strL_len, okLen, and_self, isNilC, pbinP, pbinI, Int.ofNat_lt, hj, thenQ, isB, tmpOf, asB, Has, hasAll, and_true, true_and]
  have hub : (List.take 1 (List.drop (j * 1) (bools us))).getD 0 PV.any = .bool (us.getD j false) := bools_at (by omega)
  have hbl : j * 1 + 1 ≤ (bools us).length := by unfold bools; rw [List.length_map]; omega
  have hst : scanB down (contL ls) us (ls.length - j) j b = scanB down (contL ls) us (ls.length - (j + 1)) (j + 1) (if us.getD j false = true then b else if b < 0 ∨ ltD down ((contL ls).getD j []) ((contL ls).getD b.toNat []) = true then (j : Int) else b) := by
    rw [show ls.length - j = (ls.length - (j + 1)) + 1 by omega]; rfl
  rw [hst] at g4
  refine SW.seq (SW.block (SW.seq (SW.run [] _ ?_)))
  cases hu : us.getD j false with
  | true =>
    rw [hu, if_pos rfl] at g4
    rw [hu] at hub
    simp only [wpC, mayStop, stops, isFlt, Specs.has, Specs.hasO, Bool.or_false, Specs.hasH, Bool.not_false, List.any_cons, List.any_nil, Bool.false_eq_true, ↓reduceIte, wpS, wantedA, okDst, Nat.reduceLT, decide_true, step1, isOwnCall, hxOp, px, AS.eval, AS.get, Lift.look, Nat.reduceEqDiff, Option.getD_some, AS.put, dropKey, pindexAddr, ty41, ty4, Int.natCast_nonneg, Int.ofNat_lt, hj, and_self, Int.toNat_natCast, Nat.zero_add, pload, Heap.get_put, okOne, TK.isAgg, beq_self_eq_true, Bool.or_true, hbl, Lift.valOf, hub, thenQ, isB, tmpOf, asB, inQ, true_and]
    refine SW.run [] _ ?_
    simp only [wpC, Bool.false_eq_true, ↓reduceIte, wpS, stops, wantedA, okDst, Nat.reduceLT, decide_true, step1, isOwnCall, hxOp, px, AS.eval, AS.get, Lift.look, Nat.reduceEqDiff, Option.getD_some, isFlt, ty3, AS.put, dropKey, isNilC, pbinP, ofConst, ofVal, pbinI, hw1, thenQ, true_and]
    exact ⟨(j + 1, b), ⟨hj, g2, g3, g4⟩, by dsimp only; omega, rfl, rfl⟩
  | false =>
    rw [hu, if_neg (by simp)] at g4
    rw [hu] at hub
    simp only [wpC, mayStop, stops, isFlt, Specs.has, Specs.hasO, Bool.or_false, Specs.hasH, Bool.not_false, List.any_cons, List.any_nil, Bool.false_eq_true, ↓reduceIte, wpS, wantedA, okDst, Nat.reduceLT, decide_true, step1, isOwnCall, hxOp, px, AS.eval, AS.get, Lift.look, Nat.reduceEqDiff, Option.getD_some, AS.put, dropKey, pindexAddr, ty41, ty4, Int.natCast_nonneg, Int.ofNat_lt, hj, and_self, Int.toNat_natCast, Nat.zero_add, pload, Heap.get_put, okOne, TK.isAgg, beq_self_eq_true, Bool.or_true, hbl, Lift.valOf, hub, thenQ, isB, tmpOf, asB, true_and]
    have hgj := strL_at hj
    have hcj : (contL ls).getD j [] = cutS ls[j] [10] := by rw [List.getD_eq_getElem?_getD, List.getElem?_eq_getElem (by omega), contL_at hj]; rfl
    have hj9 : ls[j].length ≤ 1000000000 := by have := hsh _ (List.getElem_mem hj); omega
    have hj' : ((j : Nat) : Int) < ((ls.length : Nat) : Int) := by omega
    rw [hcj] at g4
    obtain ⟨c, hc⟩ : ∃ c, c = decide (b < 0 ∨ ltD down (cutS ls[j] [10]) ((contL ls).getD b.toNat []) = true) := ⟨_, rfl⟩
    refine SW.meet1 80 [(1, .bool down), (5, .list 1 (strL ls)), (6, .str acc), (7, .val (.slice (some ⟨r, 0, none⟩) ls.length ls.length)), (8, .int .i64 (i : Nat)), (9, .int .i64 b), (10, .int .i64 (j : Nat)), (66, .bool c)] (h.put r (.cells 4 (ls.length * 1) (bools us))) ?_ ?_
    · refine SW.regionAnyT [eContent] [[0, 1, 2, 3, 4, 5, 6, 7, 8, 9, 10, 11, 12, 13, 14, 15, 16, 17, 18, 19, 20, 21, 22, 23, 24, 25, 26, 27, 28, 29, 30, 31, 32, 33, 34]] rfl (by rfl) (by kernel_rfl) ?_
      by_cases hb0 : b < 0
      · have hct : c = true := by rw [hc]; exact decide_eq_true (.inl hb0)
        simp only [wpOL, wpO, LOp, List.getElem?_toArray, List.getElem?_cons_zero, okDst, Nat.reduceLT, decide_true, wantedA, ↓reduceIte, step1, isOwnCall, Bool.false_eq_true, hxOp, px, AS.eval, AS.get, Lift.look, Nat.reduceEqDiff, Option.getD_some, List.getElem?_cons_succ, AS.put, dropKey, isNilC, pbinP, ofConst, ofVal, pbinI, hb0, Option.bind_some, beq_tf, Option.some.injEq, ppick_true, thenQ, Meet, HTo_self, hasAll, hct, and_self]
      · obtain ⟨m, rfl⟩ : ∃ m : Nat, b = (m : Int) := ⟨b.toNat, by omega⟩
        have hm : m < ls.length := by omega
        have hgm := strL_at hm
        have hcm : (contL ls).getD m [] = cutS ls[m] [10] := by rw [List.getD_eq_getElem?_getD, List.getElem?_eq_getElem (by omega), contL_at hm]; rfl
        have hm9 : ls[m].length ≤ 1000000000 := by have := hsh _ (List.getElem_mem hm); omega
        have hm' : ((m : Nat) : Int) < ((ls.length : Nat) : Int) := by omega
        rw [Int.toNat_natCast, hcm] at hc
        cases down with
        | false =>
          have hct : c = lessB (cutS ls[j] [10]) (cutS ls[m] [10]) := by
            rw [hc]; unfold ltD; rw [if_neg (by simp)]; cases lessB (cutS ls[j] [10]) (cutS ls[m] [10]) <;> simp [hb0]
          cases e : lessB (cutS ls[j] [10]) (cutS ls[m] [10])
          · rw [e] at hct
            simp only [wpOL, wpO, LOp, List.getElem?_toArray, List.getElem?_cons_zero, okDst, Nat.reduceLT, decide_true, wantedA, ↓reduceIte, step1, isOwnCall, Bool.false_eq_true, hxOp, px, AS.eval, AS.get, Lift.look, Nat.reduceEqDiff, Option.getD_some, List.getElem?_cons_succ, AS.put, dropKey, isNilC, pbinP, ofConst, ofVal, pbinI, hb0, decide_false, Option.bind_some, beq_self_eq_true, pun, Bool.not_false, pindexAddr, ty43, ty9, ne_eq, Nat.succ_ne_zero, not_false_eq_true, Int.natCast_nonneg, Int.toNat_natCast, strL_len, hj, and_self, hgj, pload, okOne, TK.isAgg, Bool.or_true, List.length_cons, List.length_nil, Nat.zero_add, Nat.le_refl, Lift.valOf, List.take_succ_cons, List.take_nil, List.getD_cons_zero, Specs.hasO, Specs.hasH, pcall, okArg, List.all_cons, List.all_nil, Bool.and_true, Specs.at, eContent, PBad, List.map_cons, List.map_nil, hj9, hm, hgm, hm9, pbinS, e, ppick_bool, beq_ft, Option.some.injEq, ppick_false, thenQ, Meet, HTo_self, hasAll, hct]
          · rw [e] at hct
            simp only [wpOL, wpO, LOp, List.getElem?_toArray, List.getElem?_cons_zero, okDst, Nat.reduceLT, decide_true, wantedA, ↓reduceIte, step1, isOwnCall, Bool.false_eq_true, hxOp, px, AS.eval, AS.get, Lift.look, Nat.reduceEqDiff, Option.getD_some, List.getElem?_cons_succ, AS.put, dropKey, isNilC, pbinP, ofConst, ofVal, pbinI, hb0, decide_false, Option.bind_some, beq_self_eq_true, pun, Bool.not_false, pindexAddr, ty43, ty9, ne_eq, Nat.succ_ne_zero, not_false_eq_true, Int.natCast_nonneg, Int.toNat_natCast, strL_len, hj, and_self, hgj, pload, okOne, TK.isAgg, Bool.or_true, List.length_cons, List.length_nil, Nat.zero_add, Nat.le_refl, Lift.valOf, List.take_succ_cons, List.take_nil, List.getD_cons_zero, Specs.hasO, Specs.hasH, pcall, okArg, List.all_cons, List.all_nil, Bool.and_true, Specs.at, eContent, PBad, List.map_cons, List.map_nil, hj9, hm, hgm, hm9, pbinS, e, ppick_bool, beq_tf, Option.some.injEq, ppick_true, thenQ, Meet, HTo_self, hasAll, hct]
        | true =>
          have hct : c = !(lessB (cutS ls[j] [10]) (cutS ls[m] [10]) || cutS ls[j] [10] == cutS ls[m] [10]) := by
            rw [hc]; unfold ltD; rw [if_pos rfl]; cases (lessB (cutS ls[j] [10]) (cutS ls[m] [10]) || cutS ls[j] [10] == cutS ls[m] [10]) <;> simp [hb0]
          simp only [wpOL, wpO, LOp, List.getElem?_toArray, List.getElem?_cons_zero, okDst, Nat.reduceLT, decide_true, wantedA, ↓reduceIte, step1, isOwnCall, Bool.false_eq_true, hxOp, px, AS.eval, AS.get, Lift.look, Nat.reduceEqDiff, Option.getD_some, List.getElem?_cons_succ, AS.put, dropKey, isNilC, pbinP, ofConst, ofVal, pbinI, hb0, decide_false, Option.bind_some, beq_self_eq_true, pun, Bool.not_true, beq_ft, Option.some.injEq, ppick_false, ppick_bool, pindexAddr, ty43, ty9, ne_eq, Nat.succ_ne_zero, not_false_eq_true, Int.natCast_nonneg, Int.toNat_natCast, strL_len, hj, and_self, hgj, pload, okOne, TK.isAgg, Bool.or_true, List.length_cons, List.length_nil, Nat.zero_add, Nat.le_refl, Lift.valOf, List.take_succ_cons, List.take_nil, List.getD_cons_zero, Specs.hasO, Specs.hasH, pcall, okArg, List.all_cons, List.all_nil, Bool.and_true, Specs.at, eContent, PBad, List.map_cons, List.map_nil, hj9, hm, hgm, hm9, pbinS, thenQ, Meet, HTo_self, hasAll, hct]
    cases hcc : c with
    | true =>
      rw [if_pos (of_decide_eq_true (by rw [← hc]; exact hcc))] at g4
      refine SW.run [] _ ?_
      simp only [wpC, isB, AS.get, Lift.look, tmpOf, Nat.reduceEqDiff, ↓reduceIte, Option.getD_some, asB, Bool.false_eq_true, wpS, stops, wantedA, okDst, Nat.reduceLT, decide_true, step1, isOwnCall, hxOp, px, AS.eval, AS.put, dropKey, inQ, thenQ, true_and]
      refine SW.run [] _ ?_
      simp only [wpC, Bool.false_eq_true, ↓reduceIte, wpS, stops, wantedA, okDst, Nat.reduceLT, decide_true, step1, isOwnCall, hxOp, px, AS.eval, AS.get, Lift.look, Nat.reduceEqDiff, Option.getD_some, isFlt, ty3, AS.put, dropKey, isNilC, pbinP, ofConst, ofVal, pbinI, hw1, thenQ, true_and]
      exact ⟨(j + 1, (j : Int)), ⟨hj, by dsimp only; omega, hj', g4⟩, by dsimp only; omega, rfl, rfl⟩
    | false =>
      rw [if_neg (of_decide_eq_false (by rw [← hc]; exact hcc))] at g4
      refine SW.run [] _ ?_
      simp only [wpC, isB, AS.get, Lift.look, tmpOf, Nat.reduceEqDiff, ↓reduceIte, Option.getD_some, asB, Bool.false_eq_true, inQ, thenQ, true_and]
      refine SW.run [] _ ?_
      simp only [wpC, Bool.false_eq_true, ↓reduceIte, wpS, stops, wantedA, okDst, Nat.reduceLT, decide_true, step1, isOwnCall, hxOp, px, AS.eval, AS.get, Lift.look, Nat.reduceEqDiff, Option.getD_some, isFlt, ty3, AS.put, dropKey, isNilC, pbinP, ofConst, ofVal, pbinI, hw1, thenQ, true_and]
      exact ⟨(j + 1, b), ⟨hj, g2, g3, g4⟩, by dsimp only; omega, rfl, rfl⟩
def sRSort : List PV → Prop × PV
  | [.str s, .bool down] => (s.length ≤ 1000000, .str (selF down (contL (linesOf s)) (linesOf s).length (List.replicate (linesOf s).length false)))
  | _ => PBad
noncomputable def eRSort : SpecE env := ⟨21, sRSort, fun args h hc => by
  unfold sRSort at hc ⊢
  split at hc
  · rename_i s down; exact .inl (RSort_ok s down hc h)
  · exact hc.elim⟩
end Go.Proofs.YtincpomenogppaaGreatDoor
