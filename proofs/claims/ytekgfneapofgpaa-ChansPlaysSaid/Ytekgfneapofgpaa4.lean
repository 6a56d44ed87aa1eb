/- Contracts of functions that the law reaches. -/
import Derived.Test.Ytekgfneapofgpaa3
set_option linter.unusedSimpArgs false
set_option linter.unusedVariables false
namespace Go.Proofs.Ytekgfneapofgpaa
open Go Go.RowKit Go.Proofs.Ytekgfneapofgpaa Go.Proofs.Ytekgfneapofgpaa.Lift

/-! slices.IndexFunc, slices.DeleteFunc of what was taken back; tidy, add -/
def goneF : PV := .val (.func (.func 37) #[] #[])
theorem Gone_ok {g : Bool} {i : It} {h : Heap} (hi : h i.a = some (itC g i)) : SCalls env 37 [adr i.a] h (Ret (.bool g) h) := by
  refine SCalls.body Try.func37 rfl rfl (by simp [Try.ntmps37]) (SW.run [] _ ?_)
  simp only [wpC, mayStop, stops, isFlt, Specs.has, Specs.hasO, Bool.or_false, Specs.hasH, Bool.not_false, List.any_cons, List.any_nil, Bool.false_eq_true, ↓reduceIte, wpS, wantedA, okDst, Try.ntmps37, Nat.reduceLT, decide_true, step1, isOwnCall, hxOp, px, AS.eval, ofConst, ofVal, thenQ, AS.put, enumA, adr, dropKey, reduceCtorEq, AS.get, Lift.look, Nat.succ_ne_zero, Option.getD_some, Nat.reduceEqDiff, pfieldAddr, fieldOf, ty63, fieldIn, List.getElem?_cons_succ, List.getElem?_cons_zero, ty4, Option.map_some, ne_eq, not_false_eq_true, Nat.zero_add, pload, hi, itC, okOne, TK.isAgg, beq_self_eq_true, Bool.or_true, Nat.reduceAdd, List.length_cons, List.length_nil, Nat.reduceLeDiff, and_self, Lift.valOf, List.drop_succ_cons, List.drop_zero, List.take_succ_cons, List.take_zero, List.getD_cons_zero, RPost, sres, Try.results37, sresL, sres1, Option.some.injEq, Ret_fin, HTo_self, and_true, exists_eq_left']
/-- Where the first one is that was taken back; -1: none was. -/
def fixS (gn : It → Bool) (l : List It) : Int := match l.findIdx? gn with | some j => (j : Nat) | none => -1
theorem take_idx {α : Type} {f : α → Bool} {l : List α} {i : Nat} (hlt : i < l.length) (h : ∀ x ∈ l.take i, f x = false) (hf : f l[i] = true) : l.findIdx? f = some i := by
  have e : l = l.take i ++ l[i] :: l.drop (i + 1) := by
    rw [← List.drop_eq_getElem_cons hlt, List.take_append_drop]
  have e2 : (l.take i).findIdx? f = none := List.findIdx?_eq_none_iff.2 (fun x hx => h x hx)
  generalize hy : l[i] = y at *
  rw [e, List.findIdx?_append, e2]
  simp [hf, List.findIdx?_cons]
  omega
theorem IndexFunc_ok {gn : It → Bool} {l : List It} {buf cap : Nat} {h : Heap} (hb : h buf = some (rowC cap l)) (hi : ∀ i ∈ l, h i.a = some (itC (gn i) i)) (hl : l.length ≤ maxLen) :
    SCalls env 42 [.val (.slice (some ⟨buf, 0, none⟩) l.length cap), goneF] h (Ret (.int .i64 (fixS gn l)) h) := by
  refine SCalls.body Try.func42 rfl rfl (by simp [Try.ntmps42]) ?_
  refine SW.seq (SW.run [] _ ?_)
  simp only [wpC, Bool.false_eq_true, ↓reduceIte, wpS, stops, wantedA, okDst, Try.ntmps42, Nat.reduceLT, decide_true, step1, isOwnCall, hxOp, px, AS.eval, ofConst, ofVal, thenQ, AS.put, enumA, Nat.zero_add, goneF, dropKey, reduceCtorEq, Nat.reduceEqDiff, true_and]
  refine SW.seq (SW.seq (SW.run [] _ ?_))
  simp only [wpC, Bool.false_eq_true, ↓reduceIte, wpS, stops, wantedA, okDst, Nat.reduceLT, decide_true, step1, isOwnCall, hxOp, px, AS.eval, AS.get, Lift.look, Nat.succ_ne_zero, Option.getD_some, AS.put, dropKey, Nat.reduceEqDiff, reduceCtorEq, pcall, ty59, plen, okLen, and_self, ofConst, ofVal, thenQ, true_and]
  refine SW.block (SW.loopH 19 (fun i : Nat => [(0, .val (.slice (some ⟨buf, 0, none⟩) l.length cap)), (1, goneF), (4, .int .i64 0), (7, .int .i64 (l.length : Nat)), (8, .int .i64 (i : Nat))]) (fun _ => h) (fun i => i ≤ l.length ∧ ∀ x ∈ l.take i, gn x = false) (fun i => l.length - i) 0 ⟨Nat.zero_le _, by simp⟩ ⟨rfl, .refl _ _, ?_⟩ ?_)
  · simp only [hasAll, AS.get, Lift.look, Nat.succ_ne_zero, ↓reduceIte, Option.getD_some, Nat.reduceEqDiff, reduceCtorEq, goneF, Int.cast_ofNat_Int, and_self]
  · rintro i ⟨hi0, hsk⟩
    refine SW.run [] _ ?_
    by_cases hlt : i < l.length
    · have hw : IntKind.i64.wrap ((i : Int) + 1) = ((i + 1 : Nat) : Int) := by rw [w64 (by omega) (by simp only [maxLen] at hl; omega)]; rfl
      have hra := adrs_at hlt
      have hrl : i + 1 ≤ l.length := hlt
      simp only [wpC, mayStop, stops, isFlt, Specs.has, Specs.hasO, Bool.or_false, Specs.hasH, Bool.not_false, List.any_cons, List.any_nil, Bool.false_eq_true, ↓reduceIte, wpS, wantedA, okDst, Nat.reduceLT, decide_true, step1, isOwnCall, hxOp, px, isNilC, pbinP, AS.eval, AS.get, Lift.look, reduceCtorEq, Nat.reduceEqDiff, Option.getD_some, pbinI, Int.ofNat_lt, hlt, thenQ, isB, AS.put, dropKey, goneF, tmpOf, asB, Bool.or_true, Nat.succ_ne_zero, pindexAddr, ty59, ty61, Int.natCast_nonneg, and_self, Int.toNat_natCast, Nat.mul_one, Nat.zero_add, pload, hb, rowC, okOne, TK.isAgg, beq_self_eq_true, adrs_len, hrl, Lift.valOf, hra, adr, List.getD_cons_zero, hasAll, and_true, true_and]
      refine SWO.call (.tmp 11) #[.tmp 15] _ 37 #[] #[] rfl rfl rfl rfl rfl rfl (Gone_ok (hi _ (List.getElem_mem hlt))) rfl rfl ?_ ?_
      · rintro p h' ⟨hp, rfl⟩
        injection hp with hp
        subst hp
        refine SWO.run [] 1000 ?_
        cases hg : gn l[i] with
        | true =>
          have hf := take_idx hlt hsk hg
          simp only [wpS, thenQ, AS.put, dropKey, Nat.reduceEqDiff, ↓reduceIte, reduceCtorEq]
          refine SW.run [] _ ?_
          simp only [wpC, isB, AS.get, Lift.look, tmpOf, ↓reduceIte, Option.getD_some, asB, mayStop, stops, isFlt, Specs.has, Specs.hasO, Bool.or_false, Specs.hasH, Bool.not_false, List.any_cons, List.any_nil, Bool.false_eq_true, wpS, wantedA, okDst, Nat.reduceLT, decide_true, step1, isOwnCall, hxOp, px, AS.eval, Nat.reduceEqDiff, AS.put, dropKey, reduceCtorEq, thenQ, inQ, RPost, sres, Try.results42, sresL, sres1, Option.some.injEq, fixS, hf, Ret_fin, HTo_self, and_true, exists_eq_left', and_self]
        | false =>
          simp only [wpS, thenQ, AS.put, dropKey, Nat.reduceEqDiff, ↓reduceIte, reduceCtorEq]
          refine SW.run [] _ ?_
          simp only [wpC, isB, AS.get, Lift.look, tmpOf, ↓reduceIte, Option.getD_some, asB, Bool.false_eq_true, inQ, thenQ, true_and]
          refine SW.run [] _ ?_
          simp only [wpC, Bool.false_eq_true, ↓reduceIte, wpS, stops, isFlt, ty3, wantedA, okDst, Nat.reduceLT, decide_true, step1, isOwnCall, hxOp, px, isNilC, pbinP, AS.eval, AS.get, Lift.look, Nat.reduceEqDiff, reduceCtorEq, Option.getD_some, ofConst, ofVal, pbinI, hw, AS.put, dropKey, thenQ, HTo_self, Nat.succ_ne_zero, true_and]
          exact ⟨i + 1, ⟨hlt, take_none hlt hsk hg⟩, by omega, rfl⟩
      · rintro c h' ⟨hc, _⟩
        cases hc
    · obtain rfl : i = l.length := by omega
      rw [List.take_length] at hsk
      have hf : l.findIdx? gn = none := List.findIdx?_eq_none_iff.2 (fun x hx => hsk x hx)
      simp only [wpC, mayStop, stops, isFlt, Specs.has, Specs.hasO, Bool.or_false, Specs.hasH, Bool.not_false, List.any_cons, List.any_nil, Bool.false_eq_true, ↓reduceIte, wpS, wantedA, okDst, Nat.reduceLT, decide_true, step1, isOwnCall, hxOp, px, isNilC, pbinP, AS.eval, AS.get, Lift.look, reduceCtorEq, Nat.reduceEqDiff, Option.getD_some, pbinI, Int.ofNat_lt, Nat.lt_irrefl, decide_false, thenQ, isB, AS.put, dropKey, tmpOf, asB, inQ, true_and]
      refine SW.run [] _ ?_
      simp only [wpC, mayStop, stops, isFlt, Specs.has, Specs.hasO, Bool.or_false, Specs.hasH, Bool.not_false, List.any_cons, List.any_nil, Bool.false_eq_true, ↓reduceIte, wpS, wantedA, okDst, Nat.reduceLT, decide_true, step1, isOwnCall, hxOp, px, AS.eval, ofConst, ofVal, thenQ, RPost, sres, AS.put, dropKey, Nat.reduceEqDiff, reduceCtorEq, Try.results42, sresL, sres1, AS.get, Lift.look, Option.getD_some, Option.some.injEq, fixS, hf, Ret_fin, HTo_self, and_true, exists_eq_left', and_self]
/-- A row's block is seen as owned. -/
theorem Own.ofRow {h : Heap} {buf cap : Nat} {l : List It} (hb : h buf = some (rowC cap l)) (hl : l.length ≤ cap) (hc : cap ≤ maxLen) : Own (h.del buf) 61 1 (adr1 l) (.val (.slice (some ⟨buf, 0, none⟩) l.length cap)) h := by
  refine .inr ⟨buf, cap, by rw [adr1_len], by rw [adr1_len]; exact hl, hc, Heap.del_same _ _, ?_, ?_⟩
  · rw [adr1_flat, Nat.mul_one, Heap.put_del]
    funext k
    by_cases e : k = buf
    · subst e; rw [Heap.put_same, hb]; rfl
    · rw [Heap.put_ne _ _ e]
  · intro x hx
    obtain ⟨i, _, rfl⟩ := List.mem_map.1 hx
    rfl
theorem Own.toRow {h0 h : Heap} {l : List It} {v : PV} (o : Own h0 61 1 (adr1 l) v h) : (v = .val (.slice none 0 0) ∧ l = [] ∧ h = h0) ∨ ∃ buf cap, v = .val (.slice (some ⟨buf, 0, none⟩) l.length cap) ∧ l.length ≤ cap ∧ cap ≤ maxLen ∧ h0 buf = none ∧ h = h0.put buf (rowC cap l) := by
  rcases o with ⟨h1, h2, h3⟩ | ⟨buf, cap, h1, h2, h3, h4, h5, _⟩
  · exact .inl ⟨h1, by unfold adr1 at h2; exact List.map_eq_nil_iff.1 h2, h3⟩
  · rw [adr1_len] at h1 h2
    rw [adr1_flat, Nat.mul_one] at h5
    exact .inr ⟨buf, cap, h1, h2, h3, h4, h5⟩
theorem adr1_snoc (l : List It) (x : It) : adr1 (l ++ [x]) = adr1 l ++ [[adr x.a]] := by unfold adr1; rw [List.map_append]; rfl
/-- queue.add -/
theorem Add_ok {h : Heap} {qa : Nat} {l : List It} {v : PV} {h0 : Heap} (hq : h qa = some (.cells 67 1 [v])) (ho : Own h0 61 1 (adr1 l) v h) (hv : ∃ u, v = .val u) (hq0 : h0 qa = some (.cells 67 1 [v])) (hl : l.length + 1 ≤ 1000000) (x : It) :
    SCalls env 24 [adr qa, adr x.a] h (fun e h' => e = .ret (.tuple []) ∧ ∃ buf cap, (l ++ [x]).length ≤ cap ∧ cap ≤ maxLen ∧ h0 buf = none ∧ h' = (h0.put buf (rowC cap (l ++ [x]))).put qa (quC buf (l ++ [x]).length cap)) := by
  refine SCalls.body Try.func24 rfl rfl (by simp [Try.ntmps24]) (SW.run [] _ ?_)
  obtain ⟨u, rfl⟩ := hv
  simp only [wpC, Bool.false_eq_true, ↓reduceIte, wpS, stops, wantedA, okDst, Try.ntmps24, Nat.reduceLT, decide_true, step1, isOwnCall, hxOp, px, AS.eval, AS.get, enumA, adr, Nat.zero_add, Lift.look, Option.getD_some, AS.put, dropKey, reduceCtorEq, Nat.reduceEqDiff, Nat.succ_ne_zero, pfieldAddr, fieldOf, ty67, fieldIn, List.getElem?_cons_zero, ty59, Option.map_some, ne_eq, not_false_eq_true, Nat.add_zero, pload, hq, okOne, TK.isAgg, beq_self_eq_true, Bool.or_true, List.length_cons, List.length_nil, Nat.le_refl, and_self, Lift.valOf, List.drop_zero, List.take_succ_cons, List.take_nil, List.getD_cons_zero, pbuildSlice, ty61, List.replicate, List.map_cons, ofVal, List.map_nil, List.flatten_cons, List.flatten_nil, List.append_nil, ofConst, pfill, PV.cells, Nat.reduceMul, splice, List.take_zero, List.nil_append, List.drop_succ_cons, List.drop_nil, Nat.reduceLeDiff, okZero, List.all_cons, Value.oneCell', List.all_nil, Bool.and_true, known, chunk, true_and]
  refine SWO.append (.tmp 8) (.tmp 10) 59 59 rfl ty59 rfl ty61 (by decide) rfl ty59 rfl ho (ys := [[adr x.a]]) rfl (by rw [adr1_len]; show (l.length + 1) * 8 ≤ _; omega) (by rw [adr1_len]; simp [maxLen]; omega) rfl rfl ?_
  intro v' h' hown' _ _
  rw [← adr1_snoc] at hown'
  have hsn : (l ++ [x]).length = l.length + 1 := by simp
  rcases Own.toRow hown' with ⟨_, he, _⟩ | ⟨buf, cap, rfl, k1, k2, k3, rfl⟩
  · simp at he
  · have hqb : ¬ qa = buf := by rintro rfl; rw [hq0] at k3; cases k3
    refine SWO.run [] 1000 ?_
    simp only [wpS, stops, Bool.false_eq_true, ↓reduceIte, wantedA, okDst, AS.put, dropKey, Nat.reduceEqDiff, reduceCtorEq, Nat.reduceLT, decide_true, step1, isOwnCall, hxOp, px, AS.eval, AS.get, Lift.look, Option.getD_some, pfieldAddr, fieldOf, ty67, fieldIn, List.getElem?_cons_zero, ty59, Option.map_some, ne_eq, Nat.succ_ne_zero, not_false_eq_true, Nat.add_zero, hx, Heap.get_put, hqb, hq0, known1, PV.cells, List.length_cons, List.length_nil, Nat.zero_add, Nat.le_refl, and_self, splice, List.take_zero, List.nil_append, List.drop_succ_cons, List.drop_nil, List.append_nil, RPost, sres, Try.results24, sresL, Option.some.injEq, exists_eq_left', true_and]
    exact ⟨_, .refl _ _, buf, cap, k1, k2, k3, rfl⟩
/-- What is left when all that was taken back is cut out. -/
def keepS (gn : It → Bool) (l : List It) : List It := l.filter fun i => !gn i
theorem shrink {E : Env} {h : Heap} {r : Nat} {t : TypeId} {size : Nat} {c1 c2 : List PV} : HTo E (h.put r (.cells t size (c1 ++ c2))) (h.put r (.cells t size c1)) := by
  intro w I G g
  refine ⟨I, G, ⟨fun q o hq => ?_, fun k q hk => ?_, g.imm, g.glob, g.inv⟩, ?_⟩
  · by_cases e : q = r
    · subst e
      rw [Heap.put_same] at hq
      injection hq with hq
      subst hq
      obtain ⟨h1, h2, h3, us, rest, e1, e2, e3⟩ := g.own q _ (Heap.put_same ..)
      have k1 := RL.take e2 c1.length
      rw [List.take_left' rfl] at k1
      exact ⟨h1, h2, h3, us.take c1.length, us.drop c1.length ++ rest, by rw [e1, ← List.append_assoc, List.take_append_drop], k1, by rw [← e3, ← List.length_append, ← List.append_assoc, List.take_append_drop, List.length_append]⟩
    · rw [Heap.put_ne _ _ e] at hq
      exact g.own q o (by rw [Heap.put_ne _ _ e]; exact hq)
  · obtain ⟨k1, k2, k3, T, e, bs, k4⟩ := g.hid k q hk
    refine ⟨k1, k2, ?_, T, e, bs, ?_⟩
    · rw [Heap.put_none] at k3 ⊢; exact k3
    · by_cases e : q = r
      · subst e; rw [Heap.put_same] at k4; cases k4
      · rw [Heap.put_ne _ _ e] at k4 ⊢; exact k4
  · exact ⟨rfl, rfl, rfl, Nat.le_refl _, fun k _ a b => ⟨rfl, by rw [Heap.put_none] at a ⊢; exact a, b⟩, fun _ h => h, fun _ _ _ _ h => h, fun _ => Nat.le_refl _⟩
end Go.Proofs.Ytekgfneapofgpaa
