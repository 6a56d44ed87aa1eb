/- Contracts of functions that the law reaches. -/
import Derived.Test.YtincpomenogppaaGreatDoorV2
set_option linter.unusedSimpArgs false
set_option linter.unusedVariables false
namespace Go.Proofs.YtincpomenogppaaGreatDoor
open Go Go.RowKit Go.Proofs.YtincpomenogppaaGreatDoor Go.Proofs.YtincpomenogppaaGreatDoor.Lift
set_option maxRecDepth 100000

abbrev SmS : Type := {c : List UInt8 // c.length ≤ 1000000}
instance : Inhabited SmS := ⟨⟨[], by simp⟩⟩
def encB (a : SmS) : Value := encS a.1
def cfB (x y : SmS) : Int := Lib.compareBytes (cutS x.1 [10]) (cutS y.1 [10])
theorem cfB_lt (x y : SmS) : ltOf cfB x y = ltD false (cutS x.1 [10]) (cutS y.1 [10]) := by
  rw [← cmpD_lt]
  unfold ltOf cfB cmpD
  simp
theorem swo_cfB : Go.Sort.SWO (ltOf cfB) := by
  refine ⟨fun x => ?_, fun x y z h1 h2 => ?_, fun x y z h1 h2 => ?_⟩
  · rw [cfB_lt]; exact ltD_irr _ _
  · rw [cfB_lt] at *; exact ltD_trans h1 h2
  · rw [cfB_lt] at *; exact ltD_neg h1 h2
theorem lift_sm : ∀ l : List (List UInt8), (∀ x ∈ l, x.length ≤ 1000000) → ∃ ls : List SmS, ls.map (·.1) = l
  | [], _ => ⟨[], rfl⟩
  | x :: l, h => by
    obtain ⟨ls, e⟩ := lift_sm l fun y hy => h y (List.mem_cons_of_mem _ hy)
    exact ⟨⟨x, h x (List.mem_cons_self ..)⟩ :: ls, by rw [List.map_cons, e]⟩
theorem getSm (d : Array SmS) {k : Nat} (hk : k < d.size) : encB d[k]! = encS (d.map (·.1))[k]! := by
  rw [getElem!_pos d k hk, getElem!_pos (d.map (·.1)) k (by simpa using hk), Array.getElem_map]
  rfl
theorem sortWorld_B (w : World) (blk n : Nat) (d : Array SmS) (os : Array Obj) : sortWorld encB w blk 0 n d os = sortWorld encS w blk 0 n (d.map (·.1)) os := by
  have e : ∀ c, Go.Sort.putCells encB 0 d c = Go.Sort.putCells encS 0 (d.map (·.1)) c := by
    intro c
    unfold Go.Sort.putCells
    congr 1
    funext k x
    rw [Array.size_map]
    by_cases hk : 0 ≤ k ∧ k < 0 + d.size
    · rw [if_pos hk, if_pos hk]
      exact getSm d (by omega)
    · rw [if_neg hk, if_neg hk]
  unfold sortWorld Go.Sort.putRow
  rw [show Go.Sort.putCells encB 0 d = Go.Sort.putCells encS 0 (d.map (·.1)) from funext e]
def stC (bx : Nat) : PV := .val (.func (.func 46) #[] #[.pointer (some ⟨bx, 0, none⟩)])
def SrtC (l : List (List UInt8)) : Prop := l.Pairwise (fun x y => ltD false (cutS y [10]) (cutS x [10]) = false)
theorem InsRow_ok {h : Heap} {blk cap bx a b : Nat} {l : List (List UInt8)} (hb : h blk = some (.cells 9 (cap * 1) (l.map PV.str))) (hx : h bx = some (.cells 40 1 [cntC])) (hl : l.length ≤ 1000000) (hs : ∀ x ∈ l, x.length ≤ 1000000) (hab : a ≤ b) (hbl : b ≤ l.length) :
    SCalls env 139 [.val (.slice (some ⟨blk, 0, none⟩) l.length cap), .int .i64 (a : Nat), .int .i64 (b : Nat), stC bx] h (fun e h' => ∃ l' : List (List UInt8), e = .ret (.tuple []) ∧ (a = 0 → b = l.length → l'.Perm l ∧ SrtC l') ∧ (a = b → l' = l) ∧ l'.length = l.length ∧ h' = h.put blk (.cells 9 (cap * 1) (l'.map PV.str))) := by
  refine ⟨⟨_, _, Tryz.func139, rfl, rfl⟩, fun w I G vs g r => ?_⟩
  obtain ⟨v1, t1, rfl, r1, v2, t2, rfl, r2, v3, t3, rfl, r3, v4, t4, rfl, r4, r5⟩ := r
  have r5 : t4 = [] := r5
  subst r5
  obtain ⟨r1, _⟩ := r1
  obtain ⟨r4, _⟩ := r4
  have r2 : v2 = _ := r2
  have r3 : v3 = _ := r3
  subst r1; subst r2; subst r3; subst r4
  obtain ⟨ls, hls⟩ := lift_sm l hs
  obtain ⟨hlt, hnI, hnG, _⟩ := g.own _ _ hb
  obtain ⟨hlx, hnIx, hnGx, ux, restx, hhx, hrx, hszx⟩ := g.own _ _ hx
  have hbne : bx ≠ blk := fun e => by
    rw [e, hb] at hx
    injection hx with hx
    injection hx with t1 t2 t3
    cases t1
  obtain ⟨d, hd⟩ : ∃ d : Array SmS, d = ls.toArray := ⟨_, rfl⟩
  have hdm : (d.map (·.1)).toList = l := by rw [hd]; simp [hls]
  have hds : d.size = l.length := by rw [hd, ← hls]; simp
  have eg : ∀ args w, (callFunc 46 args).run Tryz.prog w = .ok (.enter 46 args) w := enters_of Tryz.func46 (by kernel_rfl) rfl
  have hH : Go.Sort.Holds encB w blk 0 d := by
    intro j hj
    have h1 := row_holds g hb j (by rw [List.size_toArray, ← hds]; exact hj)
    have e : d.map (·.1) = l.toArray := by rw [← hdm]
    rw [getSm d hj, e]
    exact h1
  have hcmp : CmpLays1 Tryz.prog 46 #[.pointer (some ⟨bx, 0, none⟩)] encB cfB blk 0 d.size w := by
    intro m os dk hs x y
    rw [sortWorld_B]
    have hkeep : Keeps w I (sortWorld encS w blk 0 m (dk.map (·.1)) os) (fun b => b < (sortWorld encS w blk 0 m (dk.map (·.1)) os).heap.size) := fun k hk => ⟨Nat.lt_of_lt_of_le (g.imm k hk) (sort_size encS w blk m _ os), sort_other encS w blk m _ os (fun e => by subst e; exact hnI hk) (g.imm k hk)⟩
    refine SCalls.grown (StClM_ok x.1 y.1 x.2 y.2 noHeap) _ [encS x.1, encS y.1, .pointer (some ⟨bx, 0, none⟩)] ?_ (env.keepW _ _ _ _ hkeep g.inv) fun g0 cs e => R1.keeps hkeep _ _ (g.glob g0 cs e)
    refine ⟨_, _, rfl, rfl, _, _, rfl, rfl, _, _, rfl, ?_, rfl⟩
    refine ⟨⟨bx, 0, none⟩, ux, rfl, hrx.keeps (fun k hk => hkeep k hk), fun _ => ⟨_, rfl, Nat.lt_of_lt_of_le hlx (sort_size encS w blk m _ os), fun j u hj => ?_⟩⟩
    have e : (⟨bx, 0, none⟩ : Addr).add j = ⟨bx, j, none⟩ := by unfold Addr.add; split <;> simp_all
    rw [e]
    exact cell_of_cells ((sort_other encS w blk m _ os hbne hlx).trans hhx) hj
  have hcon := Any.insertionSortCmpFunc_s (ρ := Tryz.laysSort80_ren) { Tryz.laysSort80 with } encB cfB 46 #[.pointer (some ⟨bx, 0, none⟩)] blk 0 cap a b d d w w eg hcmp ⟨fun _ => rfl, hH, hlt⟩ rfl (Go.Proofs.SW.start hH) hab (by omega) (by omega)
  rw [hds] at hcon
  refine Calls.mono hcon ?_
  rintro e w' ⟨rfl, n, os, rfl⟩
  obtain ⟨⟨hp1, hp3, hp2⟩, hsr⟩ := Go.Sort.insertionSort_holds swo_cfB d a b hab (by omega)
  have hself : a = b → Go.Sort.insertionSort (ltOf cfB) d a b = d := fun e => by
    subst e
    unfold Go.Sort.insertionSort
    rw [Go.Sort.insOuter, if_neg (by omega)]
  generalize Go.Sort.insertionSort (ltOf cfB) d a b = d' at hp1 hp2 hp3 hsr hself ⊢
  have hsz' : d'.size = l.length := hp1.trans hds
  have hdl : d'.size = (d'.map (·.1)).toList.length := by simp
  obtain ⟨g2, s2⟩ := row_new g hb n os (l' := (d'.map (·.1)).toList) (by rw [← hdl, hsz'])
  rw [sortWorld_B]
  refine ⟨I, G, _, g2, s2, .tuple [], ⟨[], rfl, rfl⟩, (d'.map (·.1)).toList, rfl, fun ha hbe => ?_, fun e => by rw [hself e, hdm], by rw [← hdl, hsz'], rfl⟩
  subst ha
  have ex : ∀ q : Array SmS, q.size = l.length → q.extract 0 b = q := fun q hq => by rw [hbe, ← hq]; simp
  rw [ex d' hsz', ex d hds] at hp2
  refine ⟨?_, ?_⟩
  · rw [← hdm, Array.toList_map, Array.toList_map]
    exact hp2.map _
  · unfold SrtC
    rw [List.pairwise_iff_getElem]
    intro i j hi hj hij
    have hj2 : j < d'.size := by rw [hdl]; exact hj
    have h1 := hsr i j (Nat.zero_le _) hij (by omega)
    rw [getElem!_pos d' j hj2, getElem!_pos d' i (by omega), cfB_lt] at h1
    simpa using h1
end Go.Proofs.YtincpomenogppaaGreatDoor

namespace Go.Proofs.YtincpomenogppaaGreatDoor
open Go Go.RowKit Go.Proofs.YtincpomenogppaaGreatDoor Go.Proofs.YtincpomenogppaaGreatDoor.Lift
set_option maxRecDepth 100000

theorem InsSt_nil (A : Option Addr) (c bx : Nat) (h : Heap) : SCalls env 139 [.val (.slice A 0 c), .int .i64 0, .int .i64 0, stC bx] h (Ret (.tuple []) h) := by
  refine SCalls.body Tryz.func139 rfl rfl (by simp [Tryz.ntmps139]) ?_
  have hw : IntKind.i64.wrap 1 = 1 := w64 (by omega) (by omega)
  refine SW.seq (SW.run [] _ ?_)
  simp only [wpC, Bool.false_eq_true, ↓reduceIte, wpS, stops, wantedA, okDst, Tryz.ntmps139, Nat.reduceLT, decide_true, step1, isOwnCall, hxOp, px, AS.eval, AS.get, enumA, Nat.zero_add, Nat.reduceAdd, Lift.look, reduceCtorEq, Option.getD_some, isFlt, ty3, AS.put, dropKey, Nat.reduceEqDiff, isNilC, pbinP, ofConst, ofVal, pbinI, Int.reduceAdd, hw, thenQ, true_and]
  refine SW.block (SW.loopH 53 (fun _ : Unit => [(2, .int .i64 0), (8, .int .i64 1)]) (fun _ => h) (fun _ => True) (fun _ => 0) () trivial ⟨rfl, .refl _ _, ?_⟩ fun _ _ => ?_)
  · simp only [hasAll, AS.get, Lift.look, Nat.reduceEqDiff, ↓reduceIte, reduceCtorEq, Option.getD_some, and_self]
  · refine SW.run [] _ ?_
    simp only [wpC, mayStop, stops, isFlt, Specs.has, Specs.hasO, Bool.or_false, Specs.hasH, Bool.not_false, List.any_cons, List.any_nil, Bool.false_eq_true, ↓reduceIte, wpS, wantedA, okDst, Nat.reduceLT, decide_true, step1, isOwnCall, hxOp, px, AS.eval, AS.get, Lift.look, Nat.reduceEqDiff, Option.getD_some, AS.put, dropKey, isNilC, pbinP, pbinI, Int.reduceLT, decide_false, thenQ, isB, tmpOf, asB, inQ, RPost, sres, Tryz.results139, sresL, Option.some.injEq, Ret_fin, HTo_self, and_true, exists_eq_left', and_self]
theorem InsOwn_ok {h0 H : Heap} {bx a b : Nat} {l : List (List UInt8)} {u : PV} (ow : Own h0 9 1 (strL l) u H) (hx : h0 bx = some (.cells 40 1 [cntC])) (hl : l.length ≤ 1000000) (hs : ∀ x ∈ l, x.length ≤ 1000000) (hab : a ≤ b) (hbl : b ≤ l.length) :
    SCalls env 139 [u, .int .i64 (a : Nat), .int .i64 (b : Nat), stC bx] H (fun e h' => ∃ l' : List (List UInt8), e = .ret (.tuple []) ∧ (a = 0 → b = l.length → l'.Perm l ∧ SrtC l') ∧ (a = b → l' = l) ∧ l'.length = l.length ∧ Own h0 9 1 (strL l') u h') := by
  rcases ow with ⟨rfl, e2, rfl⟩ | ⟨r, cap, rfl, h2, h3, h4, rfl, h6⟩
  · have hx : l = [] := List.map_eq_nil_iff.1 e2
    subst hx
    have hb0 : b = 0 := by simpa using hbl
    subst hb0
    have ha0 : a = 0 := by omega
    subst ha0
    refine (InsSt_nil none 0 bx H).mono fun e h' q => ?_
    obtain ⟨rfl, rfl⟩ := q
    exact ⟨[], rfl, fun _ _ => ⟨.refl _, .nil⟩, fun _ => rfl, rfl, Own.nil _ _ _⟩
  · have hne : bx ≠ r := fun e => by rw [e, h4] at hx; cases hx
    rw [strL_len] at h2 ⊢
    refine (InsRow_ok (blk := r) (cap := cap) (bx := bx) (l := l) (by rw [strL_flat]; exact Heap.put_same _ _ _) (by rw [Heap.put_ne _ _ hne]; exact hx) hl hs hab hbl).mono fun e h' q => ?_
    obtain ⟨l', rfl, hp, hs, hlen, rfl⟩ := q
    refine ⟨l', rfl, hp, hs, hlen, .inr ⟨r, cap, ?_, ?_, h3, h4, ?_, strL_wide _⟩⟩
    · rw [strL_len, hlen]
    · rw [strL_len, hlen]; exact h2
    · rw [Heap.put_put, strL_flat]
set_option maxHeartbeats 4000000 in
theorem StableIn_ok {h0 H : Heap} {bx : Nat} {l : List (List UInt8)} {u : PV} (ow : Own h0 9 1 (strL l) u H) (hx : h0 bx = some (.cells 40 1 [cntC])) (hl : l.length ≤ 20) (hs : ∀ x ∈ l, x.length ≤ 1000000) :
    SCalls env 98 [u, .int .i64 (l.length : Nat), stC bx] H (fun e h' => ∃ l' : List (List UInt8), e = .ret (.tuple []) ∧ l'.Perm l ∧ SrtC l' ∧ Own h0 9 1 (strL l') u h') := by
  refine SCalls.body Tryz.func98 rfl rfl (by simp [Tryz.ntmps98]) ?_
  obtain ⟨A, N, rfl⟩ := ow.slice
  refine SW.seq (SW.run [] _ ?_)
  simp only [wpC, Bool.false_eq_true, ↓reduceIte, wpS, stops, wantedA, okDst, Tryz.ntmps98, Nat.reduceLT, decide_true, step1, isOwnCall, hxOp, px, AS.eval, ofConst, ofVal, thenQ, AS.put, enumA, Nat.zero_add, Nat.reduceAdd, dropKey, reduceCtorEq, Nat.reduceEqDiff, true_and]
  refine SW.seq (SW.run [] _ ?_)
  simp only [wpC, Bool.false_eq_true, ↓reduceIte, wpS, stops, wantedA, okDst, Nat.reduceLT, decide_true, step1, isOwnCall, hxOp, px, AS.eval, AS.get, Lift.look, Option.getD_some, AS.put, dropKey, Nat.reduceEqDiff, reduceCtorEq, ofConst, ofVal, thenQ, true_and]
  have hw1 : IntKind.i64.wrap 40 = 40 := w64 (by omega) (by omega)
  by_cases hn : l.length = 20
  · rw [hn]
    obtain ⟨M, hM⟩ : ∃ M, M = (strL l).length := ⟨_, rfl⟩
    rw [← hM] at ow ⊢
    refine SW.seq (SW.block (SW.loop (fun bb st => st.n = 63 ∧ ((bb = 1 ∧ st.h = H ∧ hasAll st [(0, .val (.slice A M N)), (1, .int .i64 20), (2, stC bx), (6, .int .i64 20), (7, .int .i64 0), (8, .int .i64 20)]) ∨ (bb = 0 ∧ hasAll st [(0, .val (.slice A M N)), (1, .int .i64 20), (2, stC bx), (6, .int .i64 20), (7, .int .i64 20), (8, .int .i64 40)] ∧ ∃ l1 : List (List UInt8), l1.Perm l ∧ SrtC l1 ∧ Own h0 9 1 (strL l1) (.val (.slice A M N)) st.h))) 1 ⟨rfl, .inl ⟨rfl, rfl, ?_⟩⟩ ?_))
    · simp only [hasAll, AS.get, Lift.look, Nat.succ_ne_zero, ↓reduceIte, Option.getD_some, Nat.reduceEqDiff, reduceCtorEq, Int.cast_ofNat_Int, and_self]
    rintro bb st ⟨hn', ⟨rfl, hh, hs'⟩ | ⟨rfl, hs', l1, hp1, hs1, ow1⟩⟩
    · refine SW.norm ⟨hn', hh, hs'⟩ ?_
      clear hn' hs' hh
      refine SW.seq (SW.run [] _ ?_)
      simp only [wpC, mayStop, stops, isFlt, Specs.has, Specs.hasO, Bool.or_false, Specs.hasH, Bool.not_false, List.any_cons, List.any_nil, Bool.false_eq_true, ↓reduceIte, wpS, wantedA, okDst, Nat.reduceLT, decide_true, step1, isOwnCall, hxOp, px, AS.eval, AS.get, Lift.look, reduceCtorEq, Nat.reduceEqDiff, Option.getD_some, AS.put, dropKey, isNilC, pbinP, pbinI, Int.reduceLE, thenQ, isB, tmpOf, asB, hasAll, and_true, true_and]
      refine SW.block (SW.seq (SW.run [] _ ?_))
      simp only [wpC, Bool.false_eq_true, ↓reduceIte, wpS, stops, wantedA, okDst, Nat.reduceLT, decide_true, step1, isOwnCall, hxOp, px, AS.eval, AS.get, Lift.look, Nat.succ_ne_zero, Option.getD_some, AS.put, dropKey, Nat.reduceEqDiff, reduceCtorEq, Specs.has, Specs.hasO, Bool.or_false, Specs.hasH, Bool.not_false, true_and]
      refine SWO.call (.func 139) #[.tmp 14, .tmp 15, .tmp 16, .tmp 17] _ 139 #[] #[] rfl rfl rfl rfl rfl rfl (InsOwn_ok (a := 0) (b := 20) ow hx (by omega) hs (by omega) (by omega)) rfl rfl ?_ (fun c h' hc => by obtain ⟨_, hc, _⟩ := hc; cases hc)
      rintro v h2 ⟨q, e1, hp, _, hql, ow2⟩
      injection e1 with e1
      subst e1
      obtain ⟨hp, hq⟩ := hp rfl hn.symm
      refine SWO.run [] 1000 ?_
      simp only [wpS, thenQ, AS.put, dropKey, Nat.reduceEqDiff, ↓reduceIte, reduceCtorEq]
      refine SW.run [] _ ?_
      simp only [wpC, mayStop, stops, isFlt, Specs.has, Specs.hasO, Bool.or_false, Specs.hasH, Bool.not_false, List.any_cons, List.any_nil, Bool.false_eq_true, ↓reduceIte, wpS, wantedA, okDst, Nat.reduceLT, decide_true, step1, isOwnCall, hxOp, px, AS.eval, AS.get, Lift.look, Nat.reduceEqDiff, reduceCtorEq, Option.getD_some, AS.put, dropKey, thenQ, ty3, isNilC, pbinP, pbinI, Int.reduceAdd, hw1, inQ, Nat.succ_ne_zero, true_and, and_self]
      exact ⟨0, by omega, .inr ⟨rfl, q, hp, hq, ow2⟩⟩
    · refine SW.norm ⟨hn', rfl, hs'⟩ ?_
      generalize st.h = H1 at ow1
      clear hn' hs'
      refine SW.seq (SW.run [] _ ?_)
      simp only [wpC, mayStop, stops, isFlt, Specs.has, Specs.hasO, Bool.or_false, Specs.hasH, Bool.not_false, List.any_cons, List.any_nil, Bool.false_eq_true, ↓reduceIte, wpS, wantedA, okDst, Nat.reduceLT, decide_true, step1, isOwnCall, hxOp, px, AS.eval, AS.get, Lift.look, reduceCtorEq, Nat.reduceEqDiff, Option.getD_some, AS.put, dropKey, isNilC, pbinP, pbinI, Int.reduceLE, decide_false, thenQ, isB, tmpOf, asB, inQ, true_and]
      refine SW.seq (SW.run [] _ ?_)
      simp only [wpC, Bool.false_eq_true, ↓reduceIte, wpS, stops, wantedA, okDst, Nat.reduceLT, decide_true, step1, isOwnCall, hxOp, px, AS.eval, AS.get, Lift.look, Nat.succ_ne_zero, Option.getD_some, AS.put, dropKey, Nat.reduceEqDiff, reduceCtorEq, Specs.has, Specs.hasO, Bool.or_false, Specs.hasH, Bool.not_false, true_and]
      have hl1 : l1.length = 20 := hp1.length_eq.trans hn
      refine SWO.call (.func 139) #[.tmp 23, .tmp 24, .tmp 25, .tmp 26] _ 139 #[] #[] rfl rfl rfl rfl rfl rfl (InsOwn_ok (a := 20) (b := 20) ow1 hx (by omega) (fun x h => hs x (hp1.mem_iff.1 h)) (by omega) (by omega)) rfl rfl ?_ (fun c h' hc => by obtain ⟨_, hc, _⟩ := hc; cases hc)
      rintro v h2 ⟨q, e1, _, hq, hql, ow2⟩
      injection e1 with e1
      subst e1
      have hq := hq rfl
      subst hq
      refine SWO.run [] 1000 ?_
      simp only [wpS, thenQ, AS.put, dropKey, Nat.reduceEqDiff, ↓reduceIte, reduceCtorEq]
      refine SW.block (SW.loopH 63 (fun _ : Unit => [(1, .int .i64 20), (6, .int .i64 20)]) (fun _ => h2) (fun _ => True) (fun _ => 0) () trivial ⟨rfl, .refl _ _, ?_⟩ fun _ _ => ?_)
      · simp only [hasAll, AS.get, Lift.look, Nat.reduceEqDiff, ↓reduceIte, reduceCtorEq, Option.getD_some, and_self]
      · refine SW.run [] _ ?_
        simp only [wpC, mayStop, stops, isFlt, Specs.has, Specs.hasO, Bool.or_false, Specs.hasH, Bool.not_false, List.any_cons, List.any_nil, Bool.false_eq_true, ↓reduceIte, wpS, wantedA, okDst, Nat.reduceLT, decide_true, step1, isOwnCall, hxOp, px, AS.eval, AS.get, Lift.look, Nat.reduceEqDiff, Option.getD_some, AS.put, dropKey, isNilC, pbinP, pbinI, Int.reduceLT, decide_false, thenQ, isB, tmpOf, asB, inQ, RPost, sres, Tryz.results98, sresL, Option.some.injEq, exists_eq_left', true_and]
        exact ⟨_, .refl _ _, q, hp1, hs1, ow2⟩
  · obtain ⟨M, hM⟩ : ∃ M, M = (strL l).length := ⟨_, rfl⟩
    rw [← hM] at ow ⊢
    have hn1 : ¬ (20 : Int) ≤ (l.length : Int) := by omega
    have hn2 : ¬ (20 : Int) < (l.length : Int) := by omega
    refine SW.seq (SW.block (SW.loopH 63 (fun _ : Unit => [(0, .val (.slice A M N)), (1, .int .i64 (l.length : Nat)), (2, stC bx), (6, .int .i64 20), (7, .int .i64 0), (8, .int .i64 20)]) (fun _ => H) (fun _ => True) (fun _ => 0) () trivial ⟨rfl, .refl _ _, ?_⟩ fun _ _ => ?_))
    · simp only [hasAll, AS.get, Lift.look, Nat.succ_ne_zero, ↓reduceIte, Option.getD_some, Nat.reduceEqDiff, reduceCtorEq, and_self]
    · refine SW.seq (SW.run [] _ ?_)
      simp only [wpC, mayStop, stops, isFlt, Specs.has, Specs.hasO, Bool.or_false, Specs.hasH, Bool.not_false, List.any_cons, List.any_nil, Bool.false_eq_true, ↓reduceIte, wpS, wantedA, okDst, Nat.reduceLT, decide_true, step1, isOwnCall, hxOp, px, AS.eval, AS.get, Lift.look, reduceCtorEq, Nat.reduceEqDiff, Option.getD_some, AS.put, dropKey, isNilC, pbinP, pbinI, hn1, decide_false, thenQ, isB, tmpOf, asB, inQ, true_and]
      refine SW.seq (SW.run [] _ ?_)
      simp only [wpC, Bool.false_eq_true, ↓reduceIte, wpS, stops, wantedA, okDst, Nat.reduceLT, decide_true, step1, isOwnCall, hxOp, px, AS.eval, AS.get, Lift.look, Nat.succ_ne_zero, Option.getD_some, AS.put, dropKey, Nat.reduceEqDiff, reduceCtorEq, Specs.has, Specs.hasO, Bool.or_false, Specs.hasH, Bool.not_false, true_and]
      refine SWO.call (.func 139) #[.tmp 23, .tmp 24, .tmp 25, .tmp 26] _ 139 #[] #[] rfl rfl rfl rfl rfl rfl (InsOwn_ok (a := 0) (b := l.length) ow hx (by omega) hs (by omega) (by omega)) rfl rfl ?_ (fun c h' hc => by obtain ⟨_, hc, _⟩ := hc; cases hc)
      rintro v h2 ⟨q, e1, hp, _, hql, ow2⟩
      injection e1 with e1
      subst e1
      obtain ⟨hp, hq⟩ := hp rfl rfl
      refine SWO.run [] 1000 ?_
      simp only [wpS, thenQ, AS.put, dropKey, Nat.reduceEqDiff, ↓reduceIte, reduceCtorEq]
      refine SW.block (SW.loopH 63 (fun _ : Unit => [(1, .int .i64 (l.length : Nat)), (6, .int .i64 20)]) (fun _ => h2) (fun _ => True) (fun _ => 0) () trivial ⟨rfl, .refl _ _, ?_⟩ fun _ _ => ?_)
      · simp only [hasAll, AS.get, Lift.look, Nat.reduceEqDiff, ↓reduceIte, reduceCtorEq, Option.getD_some, and_self]
      · refine SW.run [] _ ?_
        simp only [wpC, mayStop, stops, isFlt, Specs.has, Specs.hasO, Bool.or_false, Specs.hasH, Bool.not_false, List.any_cons, List.any_nil, Bool.false_eq_true, ↓reduceIte, wpS, wantedA, okDst, Nat.reduceLT, decide_true, step1, isOwnCall, hxOp, px, AS.eval, AS.get, Lift.look, Nat.reduceEqDiff, Option.getD_some, AS.put, dropKey, isNilC, pbinP, pbinI, hn2, decide_false, thenQ, isB, tmpOf, asB, inQ, RPost, sres, Tryz.results98, sresL, Option.some.injEq, exists_eq_left', true_and]
        exact ⟨_, .refl _ _, q, hp, hq, ow2⟩
theorem Stable_ok {h0 H : Heap} {bx : Nat} {l : List (List UInt8)} {u : PV} (ow : Own h0 9 1 (strL l) u H) (hx : h0 bx = some (.cells 40 1 [cntC])) (hl : l.length ≤ 20) (hs : ∀ x ∈ l, x.length ≤ 1000000) :
    SCalls env 45 [u, stC bx] H (fun e h' => ∃ l' : List (List UInt8), e = .ret (.tuple []) ∧ l'.Perm l ∧ SrtC l' ∧ Own h0 9 1 (strL l') u h') := by
  refine SCalls.body Tryz.func45 rfl rfl (by simp [Tryz.ntmps45]) ?_
  have hst := StableIn_ok ow hx hl hs
  obtain ⟨A, N, rfl⟩ := ow.slice
  refine SW.run [] _ ?_
  simp only [wpC, Bool.false_eq_true, ↓reduceIte, wpS, stops, wantedA, okDst, Tryz.ntmps45, Nat.reduceLT, decide_true, step1, isOwnCall, hxOp, px, AS.eval, AS.get, enumA, Nat.zero_add, stC, Lift.look, Option.getD_some, AS.put, dropKey, reduceCtorEq, Nat.reduceEqDiff, Nat.succ_ne_zero, pcall, ty43, plen, okLen, and_self, Specs.has, Specs.hasO, Bool.or_false, Specs.hasH, Bool.not_false, true_and]
  refine SWO.call (.func 98) #[.tmp 4, .tmp 6, .tmp 7] _ 98 #[] #[] rfl rfl rfl rfl rfl (by rw [strL_len]; rfl) hst rfl rfl ?_ (fun c h' hc => by obtain ⟨_, hc, _⟩ := hc; cases hc)
  rintro v h2 ⟨q, e1, hp, hq, ow2⟩
  injection e1 with e1
  subst e1
  refine SWO.run [] 1000 ?_
  simp only [wpS, RPost, sres, AS.put, dropKey, Nat.reduceEqDiff, ↓reduceIte, reduceCtorEq, Tryz.results45, sresL, Option.some.injEq, exists_eq_left', true_and]
  exact ⟨_, .refl _ _, q, hp, hq, ow2⟩
end Go.Proofs.YtincpomenogppaaGreatDoor

namespace Go.Proofs.YtincpomenogppaaGreatDoor
open Go Go.RowKit Go.Proofs.YtincpomenogppaaGreatDoor Go.Proofs.YtincpomenogppaaGreatDoor.Lift
set_option maxRecDepth 100000

def bl (bs : List UInt8) : List (List PV) := bs.map fun b => [.int .u8 (b.toNat : Nat)]
theorem bl_len (bs : List UInt8) : (bl bs).length = bs.length := List.length_map ..
theorem bl_at {bs : List UInt8} {i : Nat} (h : i < bs.length) : (bl bs).getD i [] = [.int .u8 (bs[i].toNat : Nat)] := by
  unfold bl
  rw [List.getD_eq_getElem?_getD, List.getElem?_map, List.getElem?_eq_getElem h]
  rfl
theorem open_bl1 : ∀ {xs : List (List PV)}, (∀ x ∈ xs, VSh (.int .u8) x) → ∃ bs, xs = bl bs
  | [], _ => ⟨[], rfl⟩
  | x :: xs, h => by
    obtain ⟨bs, rfl⟩ := open_bl1 fun y hy => h y (List.mem_cons_of_mem _ hy)
    obtain ⟨n, rfl, hn⟩ := h x (List.mem_cons_self ..)
    have h2 : 0 ≤ n ∧ n < 256 := by
      have h3 : IntKind.u8.min ≤ n ∧ n ≤ IntKind.u8.max := by simpa [Lit.wf] using hn
      have e1 : IntKind.u8.min = 0 := by decide
      have e2 : IntKind.u8.max = 255 := by decide
      omega
    refine ⟨UInt8.ofNat n.toNat :: bs, ?_⟩
    unfold bl
    rw [List.map_cons]
    have : ((UInt8.ofNat n.toNat).toNat : Int) = n := by
      rw [UInt8.toNat_ofNat']
      omega
    rw [this]
theorem open_bl {cs : List PV} (h : VSh (.slice (.int .u8)) cs) : ∃ bs, cs = [.list 1 (bl bs)] := by
  obtain ⟨xs, rfl, _, hx⟩ := h
  obtain ⟨bs, rfl⟩ := open_bl1 hx
  exact ⟨bs, rfl⟩
theorem open_stl {cs : List PV} (h : VSh (.slice .str) cs) : ∃ l, cs = [.list 1 (strL l)] := by
  obtain ⟨xs, rfl, _, hx⟩ := h
  obtain ⟨l, rfl⟩ := open_strs hx
  exact ⟨l, rfl⟩
theorem nlL_perm {C q : List (List UInt8)} (h : C.Perm q) : (nlL C).length = (nlL q).length := by
  induction h with
  | nil => rfl
  | cons x _ ih => simp [nlL] at ih ⊢; omega
  | swap x y l => simp [nlL]; omega
  | trans _ _ h1 h2 => omega
theorem nlL_dd : ∀ q : List (List UInt8), (nlL (dd q)).length ≤ (nlL q).length := by
  intro q
  induction q with
  | nil => simp [dd]
  | cons x l ih =>
    cases l with
    | nil => simp [dd]
    | cons y r =>
      unfold dd
      split
      · simp [nlL] at ih ⊢; omega
      · simp [nlL] at ih ⊢; omega
theorem nlL_small : ∀ L : List (List UInt8), smallS L = true → (nlL (L.map replS)).length ≤ 301 * L.length
  | [], _ => by simp [nlL]
  | s :: L, h => by
    have h : (decide (s.length ≤ 300) && smallS L) = true := h
    rw [Bool.and_eq_true] at h
    have h1 := nlL_small L h.2
    have h2 : s.length ≤ 300 := by simpa using h.1
    have h3 := (replS_facts s).2
    simp [nlL] at h1 ⊢
    omega
theorem small_mem {L : List (List UInt8)} (h : smallS L = true) : ∀ s ∈ L, s.length ≤ 300 := by
  unfold smallS at h
  intro s hs
  simpa using List.all_eq_true.1 h s hs
theorem noNl_repl (L : List (List UInt8)) : noNl (L.map replS) := fun c hc => by
  obtain ⟨s, _, rfl⟩ := List.mem_map.1 hc
  exact (replS_facts s).1
theorem swap_perm (l : List (List UInt8)) {i j : Nat} (hi : i < l.length) (hj : j < l.length) : ((l.set i l[j]).set j l[i]).Perm l := by
  have h := Array.swap_perm (xs := l.toArray) (i := i) (j := j) (by simpa using hi) (by simpa using hj)
  have e : (l.toArray.swap i j (by simpa using hi) (by simpa using hj)).toList = (l.set i l[j]).set j l[i] := by
    simp [Array.swap_def]
  have h := h.toList
  rw [e] at h
  simpa using h
theorem nlR_swap (l : List (List UInt8)) (i j : Nat) (x y : List UInt8) : ((nlR l).set i (x ++ [10])).set j (y ++ [10]) = nlR ((l.set i x).set j y) := by
  unfold nlR
  rw [List.map_set, List.map_set]
theorem row_get {l : List (List UInt8)} {i : Nat} (h : i < l.length) : ((List.map PV.str l).drop (i * 1)).take 1 = [.str l[i]] := by
  have h2 : i < (List.map PV.str l).length := by rw [List.length_map]; exact h
  rw [Nat.mul_one, List.drop_eq_getElem_cons h2, List.take_succ_cons, List.take_zero, List.getElem_map]
theorem row_put {l : List (List UInt8)} {i : Nat} (h : i < l.length) (x : List UInt8) : List.take (i * 1) (List.map PV.str l) ++ [.str x] ++ List.drop (i * 1 + 1) (List.map PV.str l) = List.map PV.str (l.set i x) := by
  have h2 : i < (List.map PV.str l).length := by rw [List.length_map]; exact h
  rw [Nat.mul_one, List.map_set, List.set_eq_take_append_cons_drop, if_pos h2, List.append_assoc]
  rfl
theorem nlR_at {l : List (List UInt8)} {i : Nat} (h : i < l.length) : (nlR l)[i]'(by unfold nlR; rw [List.length_map]; exact h) = l[i] ++ [10] := by
  unfold nlR
  rw [List.getElem_map]
theorem stable_one {C q l' : List (List UInt8)} (h : noNl C) (hp : C.Perm q) (hq : Srt q) (hp' : l'.Perm (nlR C)) (hs : SrtC l') : l' = nlR q := by
  obtain ⟨D, hD⟩ : ∃ D, D = l'.map fun x => cutS x [10] := ⟨_, rfl⟩
  have e1 : (nlR C).map (fun x => cutS x [10]) = C := by
    unfold nlR
    rw [List.map_map]
    have : ((fun x => cutS x [10]) ∘ fun x => x ++ [10]) = (id : List UInt8 → List UInt8) := by funext c; exact cut_nl c
    rw [this, List.map_id]
  have hDC : D.Perm C := by
    have := hp'.map fun x => cutS x [10]
    rwa [e1, ← hD] at this
  have hl : l' = nlR D := by
    rw [hD]
    unfold nlR
    rw [List.map_map]
    have : ∀ x ∈ l', ((fun x => x ++ [10]) ∘ fun x => cutS x [10]) x = x := by
      intro x hx
      obtain ⟨c, hc, rfl⟩ := List.mem_map.1 (hp'.mem_iff.1 hx)
      show cutS (c ++ [10]) [10] ++ [10] = _
      rw [cut_nl]
    exact ((List.map_congr_left this).trans (List.map_id' _)).symm
  have hsD : Srt D := by
    rw [hD]
    unfold Srt
    rw [List.pairwise_map]
    exact hs
  rw [hl, srt_one (noNl_perm h hp) (hp.symm.trans hDC.symm) hq hsD]
end Go.Proofs.YtincpomenogppaaGreatDoor
