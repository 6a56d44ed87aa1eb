/- Contracts of functions that the law reaches. -/
import Derived.Test.YtincpomenogppaaGreatDoorY3
set_option linter.unusedSimpArgs false
set_option linter.unusedVariables false
namespace Go.Proofs.YtincpomenogppaaGreatDoor
open Go Go.RowKit Go.Proofs.YtincpomenogppaaGreatDoor Go.Proofs.YtincpomenogppaaGreatDoor.Lift
set_option maxRecDepth 100000

def isSpR (r : Nat) : Bool := (((r : Nat) : Int) == 9) || (((r : Nat) : Int) == 10) || (((r : Nat) : Int) == 13) || (((r : Nat) : Int) == 32)
theorem CountPred (w : World) : PredAt Tryz.prog 70 #[] Go.Proofs.encR isSpR w := fun W r _ => by
  unfold FnGives
  cases e1 : (((r : Nat) : Int) == 9) <;> cases e2 : (((r : Nat) : Int) == 10) <;> cases e3 : (((r : Nat) : Int) == 13) <;> cases e4 : (((r : Nat) : Int) == 32)
  all_goals
    go_enter Tryz.func70, Tryz.ntmps70
    go_wp2
    go_ret
    exact ⟨by simp [isSpR, e1, e2, e3, e4], 0, rfl⟩
theorem getI {l : List UInt8} {i : Nat} (h : i < l.length) : (⟨l.toArray⟩ : ByteArray).get! i = l[i] := by
  rw [getB, List.getD_eq_getElem?_getD, List.getElem?_eq_getElem h]; rfl
theorem dec_facts (s : ByteArray) (i : Nat) (hi : i < s.size) : ((s.get! i).toNat < 128 ∧ Utf8.decode s i = ((s.get! i).toNat, 1)) ∨
    (128 ≤ (Utf8.decode s i).1 ∧ 1 ≤ (Utf8.decode s i).2 ∧ ∀ j, j < (Utf8.decode s i).2 → i + j < s.size ∧ 128 ≤ (s.get! (i + j)).toNat) := by
  have one : ¬ (s.get! (i + 0)).toNat < 128 → ∀ j, j < 1 → i + j < s.size ∧ 128 ≤ (s.get! (i + j)).toNat := fun h j hj => by
    obtain rfl : j = 0 := by omega
    exact ⟨by omega, by omega⟩
  unfold Utf8.decode
  dsimp only
  by_cases h0 : (s.get! (i + 0)).toNat < 128
  · rw [if_pos h0]; exact .inl ⟨h0, rfl⟩
  rw [if_neg h0]
  refine .inr ?_
  split
  · rename_i c
    simp only [Bool.and_eq_true, beq_iff_eq, decide_eq_true_eq] at c
    split
    · rename_i d
      refine ⟨d, by dsimp only; omega, fun j hj => ?_⟩
      have hj : j < 2 := hj
      rcases (by omega : j = 0 ∨ j = 1) with rfl | rfl
      · exact one h0 0 (by omega)
      · exact ⟨by omega, by omega⟩
    · exact ⟨by simp [Utf8.runeError], by dsimp only; omega, one h0⟩
  · split
    · rename_i c
      simp only [Bool.and_eq_true, beq_iff_eq, decide_eq_true_eq] at c
      split
      · rename_i d
        simp only [Bool.and_eq_true, decide_eq_true_eq] at d
        refine ⟨by dsimp only; omega, by dsimp only; omega, fun j hj => ?_⟩
        have hj : j < 3 := hj
        rcases (by omega : j = 0 ∨ j = 1 ∨ j = 2) with rfl | rfl | rfl
        · exact one h0 0 (by omega)
        · exact ⟨by omega, by omega⟩
        · exact ⟨by omega, by omega⟩
      · exact ⟨by simp [Utf8.runeError], by dsimp only; omega, one h0⟩
    · split
      · rename_i c
        simp only [Bool.and_eq_true, beq_iff_eq, decide_eq_true_eq] at c
        split
        · rename_i d
          simp only [Bool.and_eq_true, decide_eq_true_eq] at d
          refine ⟨by dsimp only; omega, by dsimp only; omega, fun j hj => ?_⟩
          have hj : j < 4 := hj
          rcases (by omega : j = 0 ∨ j = 1 ∨ j = 2 ∨ j = 3) with rfl | rfl | rfl | rfl
          · exact one h0 0 (by omega)
          · exact ⟨by omega, by omega⟩
          · exact ⟨by omega, by omega⟩
          · exact ⟨by omega, by omega⟩
        · exact ⟨by simp [Utf8.runeError], by dsimp only; omega, one h0⟩
      · exact ⟨by simp [Utf8.runeError], by dsimp only; omega, one h0⟩
theorem sp_big {n : Nat} (h : 128 ≤ n) : ((((n : Nat) : Int) == 9) || (((n : Nat) : Int) == 10) || (((n : Nat) : Int) == 13) || (((n : Nat) : Int) == 32)) = false := by
  have e : ∀ k : Int, k < 128 → (((n : Nat) : Int) == k) = false := fun k hk => by rw [beq_eq_false_iff_ne]; omega
  rw [e 9 (by omega), e 10 (by omega), e 13 (by omega), e 32 (by omega)]; rfl
theorem words_run (l : List UInt8) : ∀ (k pos : Nat) (w : Bool), (∀ j, j < k + 1 → ∃ h : pos + j < l.length, isSpB l[pos + j] = false) → wordsB w (l.drop pos) = (if w = false then 1 else 0) + wordsB true (l.drop (pos + (k + 1)))
  | 0, pos, w, hk => by
    obtain ⟨h, e⟩ := hk 0 (by omega)
    have h : pos < l.length := h
    have e : isSpB l[pos] = false := e
    rw [words_step h, e]
    simp
  | k + 1, pos, w, hk => by
    obtain ⟨h, e⟩ := hk 0 (by omega)
    have e : isSpB l[pos] = false := e
    have h : pos < l.length := h
    have ih := words_run l k (pos + 1) true (fun j hj => by
      obtain ⟨h, e⟩ := hk (j + 1) (by omega)
      have hp : pos + (j + 1) = pos + 1 + j := by omega
      exact ⟨by omega, by simpa only [hp] using e⟩)
    rw [words_step h, e]
    rw [Bool.not_false, ih]
    rw [show pos + 1 + (k + 1) = pos + (k + 1 + 1) by omega]
    simp
def stN (st : Option Nat) : Nat := if st.isSome then 1 else 0
theorem spans_words (l : List UInt8) : ∀ (f pos : Nat) (st : Option Nat) (acc : List (Nat × Nat)), l.length ≤ pos + f →
    (Lib.spansFromP isSpR ⟨l.toArray⟩ f pos st acc).1.length + stN (Lib.spansFromP isSpR ⟨l.toArray⟩ f pos st acc).2 = acc.length + stN st + wordsB st.isSome (l.drop pos)
  | 0, pos, st, acc, hf => by
    rw [List.drop_eq_nil_of_le (by omega)]
    simp [Lib.spansFromP, wordsB]
  | f + 1, pos, st, acc, hf => by
    by_cases hlt : pos < l.length
    · have hsz : (⟨l.toArray⟩ : ByteArray).size = l.length := size_mk l
      have hd := dec_facts ⟨l.toArray⟩ pos (by rw [hsz]; exact hlt)
      rw [getI hlt] at hd
      unfold Lib.spansFromP
      rw [hsz, if_pos hlt]
      generalize Utf8.decode ⟨l.toArray⟩ pos = d at hd ⊢
      rcases hd with ⟨h1, rfl⟩ | ⟨h1, h2, h3⟩
      · dsimp only
        have hsp : isSpR l[pos].toNat = isSpB l[pos] := rfl
        have hw := words_step hlt
        rw [hsp]
        cases e : isSpB l[pos] with
        | true =>
          rw [if_pos rfl]
          cases st with
          | some a =>
            have ih := spans_words l f (pos + 1) none (acc ++ [(a, pos)]) (by omega)
            dsimp only
            rw [ih, hw, e]
            simp [stN]
          | none =>
            have ih := spans_words l f (pos + 1) none acc (by omega)
            dsimp only
            rw [ih, hw, e]
            simp [stN]
        | false =>
          rw [if_neg (by simp)]
          cases st with
          | some a =>
            have ih := spans_words l f (pos + 1) (some a) acc (by omega)
            dsimp only
            rw [ih, hw, e]
            simp [stN]
          | none =>
            have ih := spans_words l f (pos + 1) (some pos) acc (by omega)
            dsimp only
            rw [ih, hw, e]
            simp [stN]; omega
      · have hn : isSpR d.1 = false := sp_big h1
        obtain ⟨k, hk⟩ : ∃ k, d.2 = k + 1 := ⟨d.2 - 1, by omega⟩
        have hw := fun w => words_run l k pos w fun j hj => by
          obtain ⟨a, b⟩ := h3 j (by omega)
          rw [hsz] at a
          rw [getI a] at b
          exact ⟨a, sp_big b⟩
        rw [hn, if_neg (by simp), hk]
        cases st with
        | some a =>
          have ih := spans_words l f (pos + (k + 1)) (some a) acc (by omega)
          dsimp only
          rw [ih, hw]
          simp [stN]
        | none =>
          have ih := spans_words l f (pos + (k + 1)) (some pos) acc (by omega)
          dsimp only
          rw [ih, hw]
          simp [stN]; omega
    · rw [Lib.spansFromP_end _ _ _ _ _ _ (by rw [size_mk]; exact hlt), List.drop_eq_nil_of_le (by omega)]
      simp [wordsB]
theorem fields_words (l : List UInt8) : (Lib.goFieldsP isSpR ⟨l.toArray⟩).length = wordsB false l := by
  have h := spans_words l l.length 0 none [] (by omega)
  rw [List.drop_zero] at h
  unfold Lib.goFieldsP Lib.spansOfP
  rw [List.length_map, size_mk]
  generalize Lib.spansFromP isSpR ⟨l.toArray⟩ l.length 0 none [] = x at h ⊢
  obtain ⟨a, st⟩ := x
  have h : a.length + stN st = 0 + 0 + wordsB false l := h
  cases st with
  | none => show a.length = _; have : stN none = 0 := rfl; omega
  | some b => show (a ++ [(b, _)]).length = _; have : stN (some b) = 1 := rfl; rw [List.length_append, List.length_singleton]; omega
def fldS (l : List UInt8) : List (List UInt8) := (Lib.goFieldsP isSpR ⟨l.toArray⟩).map fun x => x.data.toList
theorem fldS_len (l : List UInt8) : (fldS l).length = wordsB false l := by unfold fldS; rw [List.length_map, fields_words]
theorem FieldsFunc_ok (l : List UInt8) (hl : l.length ≤ 1000000) (h : Heap) : SCalls env 69 [.str l, .val (.func (.func 70) #[] #[])] h (Ret (.list 1 (strL (fldS l))) h) :=
  SCalls.ofOwnStrs (t := 9) Tryz.func69 rfl rfl fun w I G vs g r => by
    obtain ⟨u, us, rfl, hu, u2, us2, rfl, hu2, h3⟩ := r
    have h3 : us2 = [] := h3
    subst h3
    obtain rfl : u = .string ⟨l.toArray⟩ := hu
    obtain ⟨rfl, _⟩ : u2 = .func (.func 70) #[] #[] ∧ _ := hu2
    refine (Tryz.strings_FieldsFunc 70 #[] (enters_of Tryz.func70 (by kernel_rfl) rfl) isSpR ⟨l.toArray⟩ w (by rw [size_mk]; omega) (CountPred w)).mono ?_
    rintro e w' ⟨A, he, hA, ho, b⟩
    have e1 : (fldS l).length = (Lib.goFieldsP isSpR ⟨l.toArray⟩).length := by unfold fldS; rw [List.length_map]
    have e2 : ((fldS l).map fun x => Value.string ⟨x.toArray⟩) = (Lib.goFieldsP isSpR ⟨l.toArray⟩).map Value.string := by
      unfold fldS; rw [List.map_map]; rfl
    rw [e1, e2]
    exact ⟨A, he, hA, ho, b⟩
set_option maxHeartbeats 4000000 in
theorem ToolsCount_ok (s : List UInt8) (hs : s.length ≤ 1000000) (h : Heap) : SCalls env 16 [.str s] h (Ret (cntR s) h) := by
  refine SCalls.body Tryz.func16 rfl rfl (by simp [Tryz.ntmps16]) ?_
  refine SW.seq (SW.run [] _ ?_)
  simp only [wpC, Bool.false_eq_true, ↓reduceIte, wpS, stops, wantedA, okDst, Tryz.ntmps16, Nat.reduceLT, decide_true, step1, isOwnCall, hxOp, px, AS.eval, ofConst, ofVal, AS.put, enumA, dropKey, reduceCtorEq, Nat.reduceEqDiff, thenQ, true_and]
  refine SW.seq (SW.run [] _ ?_)
  simp only [wpC, Bool.false_eq_true, ↓reduceIte, wpS, stops, wantedA, okDst, Nat.reduceLT, decide_true, step1, isOwnCall, hxOp, px, AS.eval, AS.get, Lift.look, Nat.succ_ne_zero, Option.getD_some, Specs.has, Specs.hasO, Bool.or_false, Specs.hasH, Bool.not_false, AS.put, dropKey, Nat.reduceEqDiff, reduceCtorEq, true_and]
  refine SWO.call (.func 69) #[.tmp 6, .func 70] _ 69 #[] #[] rfl rfl rfl rfl rfl rfl (FieldsFunc_ok s hs h) rfl rfl ?_ (fun c h' hc => by cases hc.1)
  rintro p' h' ⟨hp', rfl⟩
  injection hp' with hp'
  subst hp'
  refine SWO.run [] 1000 ?_
  simp only [wpS, stops, Bool.false_eq_true, ↓reduceIte, wantedA, okDst, AS.put, dropKey, Nat.reduceEqDiff, reduceCtorEq, Nat.reduceLT, decide_true, step1, isOwnCall, hxOp, px, AS.eval, AS.get, Lift.look, Option.getD_some, thenQ, true_and]
  refine SW.run [eCount] _ ?_
  simp only [wpC, mayStop, stops, isFlt, Specs.has, eCount, Specs.hasO, Bool.or_false, Specs.hasH, List.any_cons, ↓reduceIte, Bool.not_true, List.any_nil, Bool.false_eq_true, wpS, wantedA, okDst, Nat.reduceLT, decide_true, step1, isOwnCall, hxOp, px, AS.eval, AS.get, Lift.look, Nat.succ_ne_zero, Option.getD_some, AS.put, dropKey, Nat.reduceEqDiff, reduceCtorEq, pcall, okArg, ofConst, ofVal, List.all_cons, List.all_nil, Bool.and_true, Specs.at, List.map_cons, List.map_nil, sCount, and_self, ty43, plen, strL_len, fldS_len, okLen, ty9, thenQ, RPost, sres, Tryz.results16, sresL, sres1, Option.some.injEq, cntR, Ret_fin, HTo_self, and_true, exists_eq_left']
def sToolsCount : List PV → Prop × PV
  | [.str s] => (s.length ≤ 1000000, cntR s)
  | _ => PBad
noncomputable def eToolsCount : SpecE env := ⟨16, sToolsCount, fun args h hc => by
  unfold sToolsCount at hc ⊢
  split at hc
  · rename_i s; exact .inl (ToolsCount_ok s hc h)
  · exact hc.elim⟩
end Go.Proofs.YtincpomenogppaaGreatDoor
