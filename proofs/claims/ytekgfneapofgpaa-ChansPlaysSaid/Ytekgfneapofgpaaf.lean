/- Contracts of functions that the law reaches. -/
import Derived.Test.Ytekgfneapofgpaae
set_option linter.unusedSimpArgs false
set_option linter.unusedVariables false
namespace Go.Proofs.Ytekgfneapofgpaa
open Go Go.RowKit Go.Proofs.Ytekgfneapofgpaa Go.Proofs.Ytekgfneapofgpaa.Lift

/-! Entries -/
theorem perm_sorted {l1 : List It} : ∀ {l2 : List It}, l1.Perm l2 → l2.Pairwise (fun x y => cfI x y < 0) → l1.Pairwise (fun x y => ¬ cfI y x < 0) → l1 = l2 := by
  induction l1 with
  | nil => intro l2 hp _ _; exact (List.Perm.nil_eq hp)
  | cons a t ih =>
    intro l2 hp h2 h1
    cases l2 with
    | nil => exact absurd hp.length_eq (by simp)
    | cons b s =>
      have hab : a = b := by
        have ha : a ∈ b :: s := hp.mem_iff.1 (List.mem_cons_self ..)
        have hb : b ∈ a :: t := hp.mem_iff.2 (List.mem_cons_self ..)
        rcases List.mem_cons.1 ha with e | ha
        · exact e
        · rcases List.mem_cons.1 hb with e | hb
          · exact e.symm
          · exact absurd ((List.pairwise_cons.1 h2).1 a ha) ((List.pairwise_cons.1 h1).1 b hb)
      subst hab
      rw [ih ((List.perm_cons a).1 hp) (List.pairwise_cons.1 h2).2 (List.pairwise_cons.1 h1).2]
theorem cfI_neg {x y : It} (h : x.since < y.since ∨ x.since = y.since ∧ x.arm < y.arm) : cfI x y < 0 := by
  have := cfI_lt x y
  unfold ltOf at this
  rw [decide_eq_decide] at this
  exact this.2 h
theorem arms_sorted {its : List It} {s : Nat} (hs : ∀ i ∈ its, i.since = s) (ha : its.map It.arm = List.range its.length) : its.Pairwise (fun x y => cfI x y < 0) := by
  have h1 : (its.map It.arm).Pairwise (· < ·) := by rw [ha]; exact List.pairwise_lt_range
  rw [List.pairwise_map] at h1
  refine h1.imp_of_mem fun {x y} hx hy h => cfI_neg (.inr ⟨by rw [hs x hx, hs y hy], h⟩)
theorem WF.sorted {B : Bo} (w : WF B) : B.items.Pairwise (fun x y => cfI x y < 0) := by
  rw [w.it, List.flatMap_def, List.pairwise_flatten]
  refine ⟨fun l hl => ?_, ?_⟩
  · obtain ⟨p, hp, rfl⟩ := List.mem_map.1 hl
    obtain ⟨s, _, hs⟩ := w.si p hp
    exact arms_sorted hs (w.ar p hp)
  · rw [List.pairwise_map]
    exact w.so.imp fun {p q} h x hx y hy => cfI_neg (.inl (h x hx y hy))
theorem nodup_sub {ds ps : List Pr} (h1 : (ds.map Pr.born).Nodup) (h2 : ∀ d ∈ ds, d ∈ ps) (hp : (ps.map Pr.born).Nodup) : ds.length ≤ ps.length ∧ (ds.flatMap Pr.its).length ≤ (ps.flatMap Pr.its).length ∧ ((∀ p ∈ ps, p.born ∈ ds.map Pr.born) → ds.Perm ps) := by
  have nd : ∀ l : List Pr, (l.map Pr.born).Nodup → l.Nodup := fun l h => by
    unfold List.Nodup at h ⊢
    rw [List.pairwise_map] at h
    exact h.imp fun {a b} h e => h (by rw [e])
  have hf : ds.Perm (ps.filter fun p => decide (p.born ∈ ds.map Pr.born)) := by
    refine (List.perm_ext_iff_of_nodup (nd ds h1) ((nd ps hp).filter _)).2 fun d => ?_
    rw [List.mem_filter, decide_eq_true_eq]
    constructor
    · exact fun hd => ⟨h2 d hd, List.mem_map.2 ⟨d, hd, rfl⟩⟩
    · rintro ⟨hd, e⟩
      obtain ⟨x, hx, e⟩ := List.mem_map.1 e
      rw [inj_of_nodup hp hd (h2 x hx) e.symm]
      exact hx
  refine ⟨by rw [hf.length_eq]; exact List.length_filter_le .., ?_, fun h3 => ?_⟩
  · have k1 := (hf.flatMap_right Pr.its).length_eq
    have k2 := ((List.filter_append_perm (fun p => decide (p.born ∈ ds.map Pr.born)) ps).flatMap_right Pr.its).length_eq
    rw [List.flatMap_append, List.length_append] at k2
    omega
  rwa [List.filter_eq_self.2 (fun p hp' => decide_eq_true (h3 p hp'))] at hf
theorem Entries_nil (h : Heap) : SCalls env 17 [.val (.pointer none)] h (Ret nilS h) := by
  refine SCalls.body Try.func17 rfl rfl (by simp [Try.ntmps17]) ?_
  refine SW.seq (SW.run [] _ ?_)
  simp only [wpC, Bool.false_eq_true, ↓reduceIte, wpS, stops, wantedA, okDst, Try.ntmps17, Nat.reduceLT, decide_true, step1, isOwnCall, hxOp, px, AS.eval, ofConst, ofVal, thenQ, AS.put, enumA, dropKey, reduceCtorEq, true_and]
  refine SW.run [] _ ?_
  simp only [wpC, mayStop, stops, isFlt, Specs.has, Specs.hasO, Bool.or_false, Specs.hasH, Bool.not_false, List.any_cons, List.any_nil, Bool.false_eq_true, ↓reduceIte, wpS, wantedA, okDst, Nat.reduceLT, decide_true, step1, isOwnCall, hxOp, px, AS.eval, AS.get, Lift.look, Nat.succ_ne_zero, Option.getD_some, AS.put, dropKey, Nat.reduceEqDiff, reduceCtorEq, isNilC, pbinP, pflt, peq, ty25, peqK, ofConst, ofVal, Option.isNone_none, thenQ, isB, tmpOf, asB, RPost, sres, Try.results17, sresL, sres1, Option.some.injEq, nilS, Ret_fin, HTo_self, and_true, exists_eq_left', and_self]
theorem adr1_app (l m : List It) : adr1 (l ++ m) = adr1 l ++ adr1 m := by unfold adr1; rw [List.map_append]
theorem Entries_ok {h0 h : Heap} {B : Bo} (b : BOn h0 noG B h) (w : WF B) (hlen : B.items.length ≤ 900000) : SCalls env 17 [adr B.rb] h (Ret (.list 4 (elE B.items)) h) := by
  refine SCalls.body Try.func17 rfl rfl (by simp [Try.ntmps17]) ?_
  have h1 := b.hb
  have h2 := b.hw
  refine SW.seq (SW.run [] _ ?_)
  simp only [wpC, Bool.false_eq_true, ↓reduceIte, wpS, stops, wantedA, okDst, Try.ntmps17, Nat.reduceLT, decide_true, step1, isOwnCall, hxOp, px, AS.eval, ofConst, ofVal, thenQ, AS.put, enumA, adr, dropKey, reduceCtorEq, true_and]
  refine SW.seq (SW.run [] _ ?_)
  simp only [wpC, mayStop, stops, isFlt, Specs.has, Specs.hasO, Bool.or_false, Specs.hasH, Bool.not_false, List.any_cons, List.any_nil, Bool.false_eq_true, ↓reduceIte, wpS, wantedA, okDst, Nat.reduceLT, decide_true, step1, isOwnCall, hxOp, px, AS.eval, AS.get, Lift.look, Nat.succ_ne_zero, Option.getD_some, AS.put, dropKey, Nat.reduceEqDiff, reduceCtorEq, isNilC, pbinP, pflt, peq, ty25, peqK, ofConst, ofVal, thenQ, isB, tmpOf, asB, true_and]
  refine SW.seq (SW.run [] _ ?_)
  simp only [wpC, Bool.false_eq_true, ↓reduceIte, wpS, stops, wantedA, okDst, Nat.reduceLT, decide_true, step1, isOwnCall, hxOp, px, AS.eval, ofConst, ofVal, thenQ, AS.put, dropKey, Nat.reduceEqDiff, reduceCtorEq, true_and]
  refine SW.seq (SW.seq (SW.run [] _ ?_))
  simp only [wpC, Bool.false_eq_true, ↓reduceIte, wpS, stops, wantedA, okDst, Nat.reduceLT, decide_true, step1, isOwnCall, hxOp, px, AS.eval, AS.get, Lift.look, Nat.succ_ne_zero, Option.getD_some, AS.put, dropKey, Nat.reduceEqDiff, reduceCtorEq, pfieldAddr, fieldOf, ty58, fieldIn, List.getElem?_cons_succ, List.getElem?_cons_zero, ty56, Option.map_some, ne_eq, not_false_eq_true, Nat.zero_add, pload, h1, boC, okOne, TK.isAgg, beq_self_eq_true, Bool.or_true, Nat.reduceAdd, List.length_cons, List.length_nil, Nat.reduceLeDiff, and_self, Lift.valOf, List.drop_succ_cons, List.drop_zero, List.take_succ_cons, List.take_zero, List.getD_cons_zero, true_and]
  refine SWO.range_map 56 (.tmp 14) rfl ty56 rfl rfl h2 rfl rfl fun ri hri => ?_
  refine SWO.run [] 1000 ?_
  simp only [wpS, thenQ, AS.put, dropKey, Nat.reduceEqDiff, ↓reduceIte, reduceCtorEq]
  have hri : h ri = none := hri
  refine SW.block (SW.loop (fun m a => ∃ (ds : List Pr) (v : PV), (ds.map Pr.born).Nodup ∧ (∀ d ∈ ds, d ∈ B.ps) ∧ B.ps.length - ds.length = m ∧ Own (h.put ri (.miter B.rw B.nw (ds.map Pr.born))) 61 1 (adr1 (ds.flatMap Pr.its)) v a.h ∧ a.n = 40 ∧ hasAll a [(3, v), (15, .val (.pointer (some ⟨ri, 0, none⟩)))]) B.ps.length ⟨[], .val (.slice none 0 0), List.nodup_nil, (fun d hd => nomatch hd), rfl, Own.nil _ _ _, rfl, ?_⟩ ?_)
  · simp only [hasAll, AS.get, Lift.look, Nat.reduceEqDiff, ↓reduceIte, Option.getD_some, and_self]
  · rintro m a ⟨ds, v, hnd, hds, hm, ho, hn, hs⟩
    refine SW.norm ⟨hn, rfl, hs⟩ ?_
    generalize a.h = H at ho
    clear hn hs
    refine SW.run [] _ ?_
    simp only [wpC, mayStop, stops, isFlt, Specs.has, Specs.hasO, Bool.or_false, Specs.hasH, Bool.not_false, List.any_cons, List.any_nil, Bool.or_true, ↓reduceIte, Bool.false_eq_true, wpS, hasAll, AS.get, and_true]
    have hrb : B.rw ≠ ri := by rintro e; rw [e, hri] at h2; cases h2
    have hmr : H ri = some (.miter B.rw B.nw (ds.map Pr.born)) := ho.inc _ _ (Heap.put_same _ _ _)
    have hmw : H B.rw = some (.gmap false false (wEs B.ps) B.nw) := ho.inc _ _ ((Heap.put_ne _ _ hrb).trans h2)
    have hbn : ∀ e ∈ wEs B.ps, e.2.2 < B.nw := fun e he => by
      obtain ⟨p, hp, rfl⟩ := List.mem_map.1 he
      exact w.bw p hp
    refine SWO.next_map (.tmp 15) rfl rfl hmr hmw hbn rfl rfl (fun e he hns => ?_) (fun hall => ?_)
    · obtain ⟨p, hp, rfl⟩ := List.mem_map.1 he
      have hnb : p.born ∉ ds.map Pr.born := hns
      have ho2 := ho.reput (Y := .miter B.rw B.nw (ds.map Pr.born ++ [p.born]))
      have hmr2 : (H.put ri (.miter B.rw B.nw (ds.map Pr.born ++ [p.born]))) ri = some (.miter B.rw B.nw (ds.map Pr.born ++ [p.born])) := Heap.put_same _ _ _
      have hmw2 : (H.put ri (.miter B.rw B.nw (ds.map Pr.born ++ [p.born]))) B.rw = some (.gmap false false (wEs B.ps) B.nw) := (Heap.put_ne _ _ hrb).trans hmw
      have he2 : (wE p).2.2 = p.born := rfl
      rw [he2]
      generalize H.put ri (.miter B.rw B.nw (ds.map Pr.born ++ [p.born])) = H2 at ho2 hmr2 hmw2 ⊢
      refine SWO.run [] 1000 ?_
      simp only [wpS, stops, Bool.false_eq_true, ↓reduceIte, wantedA, okDst, AS.put, dropKey, Nat.reduceEqDiff, Nat.reduceLT, decide_true, step1, isOwnCall, hxOp, px, AS.eval, AS.get, Lift.look, Option.getD_some, List.getElem?_cons_zero, thenQ, true_and]
      refine SW.run [] _ ?_
      simp only [wpC, mayStop, Bool.or_false, Bool.false_eq_true, ↓reduceIte, isB, AS.get, Lift.look, tmpOf, Option.getD_some, asB, thenQ, stops, isFlt, Specs.has, Specs.hasO, Specs.hasH, Bool.not_false, List.any_cons, List.any_nil, Bool.or_true, wpS, true_and]
      refine SWO.entry_map (.tmp 15) rfl (e := wE p) rfl hmr2 hmw2 (by rw [show (wEs B.ps).map (·.2.2) = B.ps.map Pr.born by unfold wEs; rw [List.map_map]; rfl]; exact w.bn) he (fun _ => rfl) (fun _ => rfl) rfl rfl ?_
      refine SWO.run [] 1000 ?_
      simp only [wpS, stops, Bool.false_eq_true, ↓reduceIte, wantedA, okDst, AS.put, Lift.valOf, wE, List.getD_cons_zero, dropKey, Nat.reduceEqDiff, Nat.reduceLT, decide_true, step1, isOwnCall, hxOp, px, AS.eval, AS.get, Lift.look, Option.getD_some, List.getElem?_cons_succ, List.getElem?_cons_zero, thenQ, true_and]
      have hnd2 : ((ds ++ [p]).map Pr.born).Nodup := by
        rw [List.map_append, List.nodup_append]
        refine ⟨hnd, (by simp), fun a ha c hc e => ?_⟩
        obtain rfl : c = p.born := by simpa using hc
        exact hnb (e ▸ ha)
      have hds2 : ∀ d ∈ ds ++ [p], d ∈ B.ps := fun d hd => by
        rcases List.mem_append.1 hd with hd | hd
        · exact hds d hd
        · rw [List.mem_singleton.1 hd]; exact hp
      obtain ⟨l1, l2, _⟩ := nodup_sub hnd2 hds2 w.bn
      rw [← w.it] at l2
      have l3 : (ds ++ [p]).length = ds.length + 1 := by simp
      have l4 : ((ds ++ [p]).flatMap Pr.its) = ds.flatMap Pr.its ++ p.its := by simp
      rw [l4, List.length_append] at l2
      refine SW.run [] _ ?_
      simp only [wpC, Bool.false_eq_true, ↓reduceIte, wpS, stops, wantedA, okDst, Nat.reduceLT, decide_true, step1, isOwnCall, hxOp, px, AS.eval, AS.get, Lift.look, Nat.reduceEqDiff, Option.getD_some, AS.put, dropKey, true_and]
      refine SWO.append (.tmp 20) (.tmp 21) 59 59 rfl ty59 rfl ty61 (by decide) rfl ty59 rfl ho2 (ys := adr1 p.its) rfl (by show ((adr1 _).length + (adr1 _).length) * 8 ≤ 140737488355328; rw [adr1_len, adr1_len]; omega) (by rw [adr1_len, adr1_len]; simp only [maxLen]; omega) rfl rfl ?_
      intro v' h' ow _ _
      refine SWO.run [] 1000 ?_
      simp only [wpS, stops, Bool.false_eq_true, ↓reduceIte, wantedA, okDst, AS.put, dropKey, Nat.reduceEqDiff, Nat.reduceLT, decide_true, step1, isOwnCall, hxOp, px, AS.eval, AS.get, Lift.look, Option.getD_some, inQ, thenQ, and_true, true_and]
      refine ⟨m - 1, by omega, ds ++ [p], v', hnd2, hds2, by omega, ?_, rfl⟩
      rw [l4, adr1_app, List.map_append]
      exact ow
    · obtain ⟨_, _, hperm⟩ := nodup_sub hnd hds w.bn
      have hperm := hperm fun p hp => hall (wE p) (List.mem_map.2 ⟨p, hp, rfl⟩)
      have hpi : (ds.flatMap Pr.its).Perm B.items := by rw [w.it]; exact hperm.flatMap_right Pr.its
      refine SWO.run [] 1000 ?_
      simp only [wpS, stops, Bool.false_eq_true, ↓reduceIte, wantedA, okDst, AS.put, dropKey, Nat.reduceEqDiff, Nat.reduceLT, decide_true, step1, isOwnCall, hxOp, px, AS.eval, AS.get, Lift.look, Option.getD_some, List.getElem?_cons_zero, thenQ, true_and]
      refine SW.run [] _ ?_
      simp only [wpC, mayStop, Bool.or_false, Bool.false_eq_true, ↓reduceIte, isB, AS.get, Lift.look, tmpOf, Option.getD_some, asB, thenQ, inQ, true_and]
      refine SW.seq (SW.run [] _ ?_)
      simp only [wpC, Bool.false_eq_true, ↓reduceIte, wpS, stops, wantedA, okDst, Nat.reduceLT, decide_true, step1, isOwnCall, hxOp, px, AS.eval, AS.get, Lift.look, Nat.reduceEqDiff, Option.getD_some, Specs.has, Specs.hasO, Bool.or_false, Specs.hasH, Bool.not_false, AS.put, dropKey, true_and]
      have hle : (ds.flatMap Pr.its).length ≤ 1000000 := by rw [hpi.length_eq]; omega
      have hmi : HTo env (h.put ri (.miter B.rw B.nw (ds.map Pr.born))) h := Inc.to ((Inc.self h).put hri _)
      refine SWO.leads 40 [(3, .list 1 (adr1 B.items))] h ?_ ?_
      · rcases Own.toRow ho with ⟨rfl, e, rfl⟩ | ⟨buf, cap, rfl, c1, c2, c3, rfl⟩
        · rw [e] at hpi
          have hbi : B.items = [] := (List.Perm.nil_eq hpi).symm
          refine SWO.callRet (.func 25) #[.tmp 23, .func 26] _ 25 #[] #[] rfl rfl rfl rfl rfl rfl (Sort_nil none 0 _) rfl rfl ?_
          refine SWO.run [] 1000 ?_
          simp only [wpS, thenQ, AS.put, dropKey, Nat.reduceEqDiff, ↓reduceIte]
          intro C Q k
          refine SW.own_let 3 rfl (Own.nil _ 61 1) ?_
          rw [hbi] at k
          exact SW.enter rfl hmi (by simp only [hasAll, AS.get, AS.put, dropKey, Nat.reduceEqDiff, ↓reduceIte, Lift.look, Option.getD_some, adr1, List.map_nil, and_self]) k
        · by_cases hem : ds.flatMap Pr.its = []
          · rw [hem] at hpi
            have hbi : B.items = [] := (List.Perm.nil_eq hpi).symm
            rw [hem] at c1 ⊢
            refine SWO.callRet (.func 25) #[.tmp 23, .func 26] _ 25 #[] #[] rfl rfl rfl rfl rfl rfl (Sort_nil _ _ _) rfl rfl ?_
            refine SWO.run [] 1000 ?_
            simp only [wpS, thenQ, AS.put, dropKey, Nat.reduceEqDiff, ↓reduceIte, List.length_nil]
            intro C Q k
            refine SW.own_let 3 rfl (Own.ofRow (l := []) (Heap.put_same _ _ _) c1 c2) ?_
            rw [hbi] at k
            exact SW.enter rfl ((HTo.of fun K X e => by
              have e2 : K ≠ buf := by rintro rfl; rw [Heap.put_ne _ _ (by rintro rfl; rw [hri] at e; cases e), e] at c3; cases c3
              show Heap.del ((h.put ri (.miter B.rw B.nw (ds.map Pr.born))).put buf (rowC cap [])) buf K = some X
              rw [Heap.del_ne _ e2, Heap.put_ne _ _ e2, Heap.put_ne _ _ (by rintro rfl; rw [hri] at e; cases e)]
              exact e)) (by simp only [hasAll, AS.get, AS.put, dropKey, Nat.reduceEqDiff, ↓reduceIte, Lift.look, Option.getD_some, and_self]) k
          · have hb0 : ∀ K X, h K = some X → ((h.put ri (.miter B.rw B.nw (ds.map Pr.born))).put buf (rowC cap (ds.flatMap Pr.its))) K = some X := fun K X e => by
              have e1 : K ≠ ri := by rintro rfl; rw [hri] at e; cases e
              have e2 : K ≠ buf := by rintro rfl; rw [Heap.put_ne _ _ e1, e] at c3; cases c3
              rw [Heap.put_ne _ _ e2, Heap.put_ne _ _ e1]; exact e
            refine SWO.call (.func 25) #[.tmp 23, .func 26] _ 25 #[] #[] rfl rfl rfl rfl rfl rfl (Sort_ok (Heap.put_same _ _ _) (fun i hi => hb0 _ _ (b.hi i (hpi.mem_iff.1 hi))) hem hle) rfl rfl ?_ (fun c h' hc => by obtain ⟨_, hc, _⟩ := hc; cases hc)
            rintro p' h' ⟨l', hp', hpl, hps, rfl⟩
            injection hp' with hp'
            subst hp'
            obtain rfl : l' = B.items := perm_sorted (hpl.trans hpi) w.sorted hps
            have hll : B.items.length = (ds.flatMap Pr.its).length := hpi.length_eq.symm
            refine SWO.run [] 1000 ?_
            simp only [wpS, thenQ, AS.put, dropKey, Nat.reduceEqDiff, ↓reduceIte]
            intro C Q k
            rw [Heap.put_put]
            rw [← hll] at c1 ⊢
            refine SW.own_let 3 rfl (Own.ofRow (l := B.items) (Heap.put_same _ _ _) c1 c2) ?_
            exact SW.enter rfl ((HTo.of fun K X e => by
              have e1 : K ≠ ri := by rintro rfl; rw [hri] at e; cases e
              have e2 : K ≠ buf := by rintro rfl; rw [Heap.put_ne _ _ e1, e] at c3; cases c3
              show Heap.del ((h.put ri (.miter B.rw B.nw (ds.map Pr.born))).put buf (rowC cap B.items)) buf K = some X
              rw [Heap.del_ne _ e2, Heap.put_ne _ _ e2, Heap.put_ne _ _ e1]
              exact e)) (by simp only [hasAll, AS.get, AS.put, dropKey, Nat.reduceEqDiff, ↓reduceIte, Lift.look, Option.getD_some, and_self]) k
      refine SW.seq (SW.run [] _ ?_)
      simp only [wpC, Bool.false_eq_true, ↓reduceIte, wpS, stops, wantedA, okDst, Nat.reduceLT, decide_true, step1, isOwnCall, hxOp, px, AS.eval, ofConst, ofVal, thenQ, AS.put, dropKey, Nat.reduceEqDiff, true_and]
      refine SW.seq (SW.seq (SW.run [] _ ?_))
      simp only [wpC, Bool.false_eq_true, ↓reduceIte, wpS, stops, wantedA, okDst, Nat.reduceLT, decide_true, step1, isOwnCall, hxOp, px, AS.eval, AS.get, Lift.look, Nat.reduceEqDiff, Option.getD_some, AS.put, dropKey, pcall, ty59, plen, adr1_len, okLen, and_self, ofConst, ofVal, thenQ, true_and]
      refine SW.block (SW.loop (fun m a => ∃ (j : Nat) (v : PV), j ≤ B.items.length ∧ B.items.length - j = m ∧ Own h 35 4 (elE (B.items.take j)) v a.h ∧ a.n = 40 ∧ hasAll a [(6, v), (25, .list 1 (adr1 B.items)), (26, .int .i64 (B.items.length : Nat)), (27, .int .i64 (j : Nat))]) B.items.length ⟨0, .val (.slice none 0 0), Nat.zero_le _, rfl, Own.nil _ _ _, rfl, ?_⟩ ?_)
      · simp only [hasAll, AS.get, Lift.look, Nat.reduceEqDiff, ↓reduceIte, Option.getD_some, Int.cast_ofNat_Int, and_self]
      · clear ho hmi hmr hmw
        rintro m a ⟨j, v, hj, hm, ho, hn, hs⟩
        refine SW.norm ⟨hn, rfl, hs⟩ ?_
        generalize a.h = H at ho
        clear hn hs
        refine SW.run [] _ ?_
        by_cases hlt : j < B.items.length
        · have hw : IntKind.i64.wrap ((j : Int) + 1) = ((j + 1 : Nat) : Int) := by rw [w64 (by omega) (by omega)]; rfl
          have hg := adr1_at hlt
          have hit := ho.inc _ _ (b.hi _ (List.getElem_mem hlt))
          simp only [wpC, mayStop, stops, isFlt, Specs.has, Specs.hasO, Bool.or_false, Specs.hasH, Bool.not_false, List.any_cons, List.any_nil, Bool.false_eq_true, ↓reduceIte, wpS, wantedA, okDst, Nat.reduceLT, decide_true, step1, isOwnCall, hxOp, px, isNilC, pbinP, AS.eval, AS.get, Lift.look, Nat.reduceEqDiff, Option.getD_some, pbinI, Int.ofNat_lt, hlt, thenQ, isB, AS.put, dropKey, tmpOf, asB, Bool.or_true, pindexAddr, ty59, ty61, ne_eq, Nat.succ_ne_zero, not_false_eq_true, Int.natCast_nonneg, Int.toNat_natCast, adr1_len, and_self, hg, adr, pload, okOne, TK.isAgg, beq_self_eq_true, List.length_cons, List.length_nil, Nat.zero_add, Nat.le_refl, Lift.valOf, List.take_succ_cons, List.take_nil, List.getD_cons_zero, pfieldAddr, fieldOf, ty63, fieldIn, List.getElem?_cons_succ, List.getElem?_cons_zero, ty35, Option.map_some, hit, itC, Nat.reduceBEq, Nat.reduceAdd, List.drop_succ_cons, List.drop_zero, pbuildSlice, ty42, List.replicate, List.map_cons, ofVal, List.map_nil, List.flatten_cons, List.flatten_nil, List.append_nil, ofConst, pfill, PV.cells, Nat.reduceMul, splice, List.take_zero, List.nil_append, List.drop_nil, Nat.reduceLeDiff, okZero, List.all_cons, Value.oneCell', List.all_nil, Bool.and_true, known, chunk, hasAll, and_true, true_and]
          have hel : (elE (B.items.take j)).length = j := by rw [elE_len, List.length_take]; omega
          refine SWO.append (.tmp 31) (.tmp 36) 42 42 rfl ty42 rfl ty35 (by decide) rfl ty42 rfl ho (ys := [enC B.items[j]]) rfl (by rw [hel]; show (j + 1) * 32 ≤ _; omega) (by rw [hel]; simp [maxLen]; omega) rfl rfl ?_
          intro v' h' ow _ _
          refine SWO.run [] 1000 ?_
          simp only [wpS, stops, Bool.false_eq_true, ↓reduceIte, wantedA, okDst, AS.put, dropKey, Nat.reduceEqDiff, Nat.reduceLT, decide_true, step1, isOwnCall, hxOp, px, AS.eval, AS.get, Lift.look, Option.getD_some, inQ, thenQ, true_and]
          refine SW.run [] _ ?_
          simp only [wpC, Bool.false_eq_true, ↓reduceIte, wpS, stops, isFlt, ty3, wantedA, okDst, Nat.reduceLT, decide_true, step1, isOwnCall, hxOp, px, isNilC, pbinP, AS.eval, AS.get, Lift.look, Nat.reduceEqDiff, Option.getD_some, ofConst, ofVal, pbinI, hw, AS.put, dropKey, thenQ, true_and]
          exact ⟨m - 1, by omega, j + 1, v', hlt, by omega, by rw [take_snoc hlt, elE_snoc]; exact ow, rfl, rfl⟩
        · obtain rfl : j = B.items.length := by omega
          rw [List.take_length] at ho
          simp only [wpC, mayStop, stops, isFlt, Specs.has, Specs.hasO, Bool.or_false, Specs.hasH, Bool.not_false, List.any_cons, List.any_nil, Bool.false_eq_true, ↓reduceIte, wpS, wantedA, okDst, Nat.reduceLT, decide_true, step1, isOwnCall, hxOp, px, isNilC, pbinP, AS.eval, AS.get, Lift.look, Nat.reduceEqDiff, Option.getD_some, pbinI, Int.ofNat_lt, Nat.lt_irrefl, decide_false, thenQ, isB, AS.put, dropKey, tmpOf, asB, inQ, true_and]
          refine SW.own_let 6 rfl ho ?_
          refine SW.run [] _ ?_
          simp only [wpC, mayStop, stops, isFlt, Specs.has, Specs.hasO, Bool.or_false, Specs.hasH, Bool.not_false, List.any_cons, List.any_nil, Bool.false_eq_true, ↓reduceIte, wpS, wantedA, okDst, AS.put, dropKey, Nat.reduceEqDiff, Nat.reduceLT, decide_true, step1, isOwnCall, hxOp, px, AS.eval, AS.get, Lift.look, Option.getD_some, thenQ, RPost, sres, Try.results17, sresL, sres1, Option.some.injEq, Ret_fin, HTo_self, and_true, exists_eq_left', and_self]
end Go.Proofs.Ytekgfneapofgpaa
