/- Contracts of functions that the law reaches. -/
import Derived.Test.YtincpomenogppaaDoorW6
set_option linter.unusedSimpArgs false
set_option linter.unusedVariables false
namespace Go.Proofs.YtincpomenogppaaDoor
open Go Go.RowKit Go.Proofs.YtincpomenogppaaDoor Go.Proofs.YtincpomenogppaaDoor.Lift
set_option maxRecDepth 100000

/-! acheronref38.table -/
theorem incSelf (h : Heap) : Lift.Inc h h := fun _ _ e => e
theorem incFresh {h0 h : Heap} (i : Lift.Inc h0 h) {q : Nat} (hq : h q = none) : h0 q = none := by
  cases e : h0 q with
  | none => rfl
  | some X => rw [i _ _ e] at hq; cases hq
def hdrV (m r : Nat) : PV := .val (.slice (some ⟨r, 0, none⟩) (m + 1) (m + 1))
/-- The table while it is made: rows before i are blocks of zeros, the others lists. -/
structure Fam (h0 : Heap) (q : Nat) (rs : List Nat) (n m : Nat) (f : Nat → PV) (i : Nat) (h : Heap) : Prop where
  hq : h q = some (.cells 66 ((n + 1) * 1) ((rs.take i).map (hdrV m) ++ ((List.range (n + 1)).drop i).map f))
  hr : ∀ r ∈ rs.take i, h r = some (.cells 3 ((m + 1) * 1) (List.replicate (m + 1) (.int .i64 0)))
  nd : rs.Nodup
  nq : q ∉ rs
  fq : h0 q = none
  fr : ∀ r ∈ rs, h0 r = none
  inc : Lift.Inc h0 h
  len : rs.length = n + 1
/-- The table while its rows are made. -/
structure FamM (h0 : Heap) (q : Nat) (rs : List Nat) (n m : Nat) (h : Heap) : Prop where
  hq : h q = some (.cells 66 ((n + 1) * 1) (rs.map (hdrV m) ++ List.replicate (n + 1 - rs.length) (.val (.slice none 0 0))))
  hr : ∀ r ∈ rs, h r = some (.cells 3 ((m + 1) * 1) (List.replicate (m + 1) (.int .i64 0)))
  nd : rs.Nodup
  nq : q ∉ rs
  fq : h0 q = none
  fr : ∀ r ∈ rs, h0 r = none
  inc : Lift.Inc h0 h
theorem FamM.step {h0 h : Heap} {q n m : Nat} {rs : List Nat} (F : FamM h0 q rs n m h) {r : Nat} (hr : h r = none) : FamM h0 q (rs ++ [r]) n m ((h.put r (.cells 3 ((m + 1) * 1) (List.replicate (m + 1) (.int .i64 0)))).put q (.cells 66 ((n + 1) * 1) (rs.map (hdrV m) ++ [hdrV m r] ++ List.replicate (n + 1 - rs.length - 1) (.val (.slice none 0 0))))) := by
  have hrq : r ≠ q := by rintro rfl; rw [F.hq] at hr; cases hr
  have hqr : q ≠ r := hrq.symm
  have hrn : r ∉ rs := fun e => by rw [F.hr r e] at hr; cases hr
  refine ⟨?_, ?_, ?_, ?_, F.fq, ?_, ?_⟩
  · rw [Heap.put_same, List.map_append, List.length_append, List.length_singleton, Nat.sub_sub]; rfl
  · intro k hk
    rcases List.mem_append.1 hk with hk | hk
    · have k1 : k ≠ r := fun e => hrn (e ▸ hk)
      have k2 : k ≠ q := fun e => F.nq (e ▸ hk)
      rw [Heap.put_ne _ _ k2, Heap.put_ne _ _ k1]; exact F.hr k hk
    · obtain rfl := List.mem_singleton.1 hk
      rw [Heap.put_ne _ _ hrq, Heap.put_same]
  · exact List.nodup_append.2 ⟨F.nd, by simp, fun k hk j hj e => by rw [List.mem_singleton.1 hj] at e; exact hrn (e ▸ hk)⟩
  · rw [List.mem_append, not_or]; exact ⟨F.nq, fun e => hqr (List.mem_singleton.1 e)⟩
  · intro k hk
    rcases List.mem_append.1 hk with hk | hk
    · exact F.fr k hk
    · obtain rfl := List.mem_singleton.1 hk
      exact incFresh F.inc hr
  · intro k X e
    have k1 : k ≠ q := by rintro rfl; rw [F.fq] at e; cases e
    have k2 : k ≠ r := by rintro rfl; rw [incFresh F.inc hr] at e; cases e
    rw [Heap.put_ne _ _ k1, Heap.put_ne _ _ k2]; exact F.inc _ _ e
theorem take_map_cons {rs : List Nat} {i : Nat} (hi : i < rs.length) {α : Type} (g : Nat → α) : (rs.take (i + 1)).map g = (rs.take i).map g ++ [g rs[i]] := by
  rw [List.take_succ_eq_append_getElem hi, List.map_append]; rfl
/-- A row is done: it is a list. -/
theorem Fam.freeze {h0 h : Heap} {q n m i : Nat} {rs : List Nat} {f : Nat → PV} (F : Fam h0 q rs n m f (i + 1) h) (hi : i < rs.length) {cs : List PV} {xs : List (List PV)} (hf : f i = .list 1 xs) (hl : xs.length = m + 1) (hw : ∀ x ∈ xs, x.length = 1) (hc : xs.flatten = cs) (hm : m + 1 ≤ maxLen) :
    ∃ pre post, Own (h.del rs[i]) 3 1 xs (hdrV m rs[i]) (h.put rs[i] (.cells 3 ((m + 1) * 1) cs)) ∧ (h.del rs[i]) q = some (.cells 66 ((n + 1) * 1) (pre ++ hdrV m rs[i] :: post)) ∧ Fam h0 q rs n m f i ((h.del rs[i]).put q (.cells 66 ((n + 1) * 1) (pre ++ .list 1 xs :: post))) := by
  have hin : i < n + 1 := by rw [← F.len]; exact hi
  have hmem : rs[i] ∈ rs := List.getElem_mem hi
  have hne : q ≠ rs[i] := fun e => F.nq (e ▸ hmem)
  have hq := F.hq
  rw [take_map_cons hi, List.append_assoc] at hq
  refine ⟨(rs.take i).map (hdrV m), ((List.range (n + 1)).drop (i + 1)).map f, ?_, ?_, ?_⟩
  · subst hc
    rw [← Heap.put_del]
    refine .inr ⟨rs[i], m + 1, ?_, by omega, hm, Heap.del_same _ _, rfl, hw⟩
    unfold hdrV
    rw [hl]
  · rw [Heap.del_ne _ hne]; exact hq
  · refine ⟨?_, fun r hr => ?_, F.nd, F.nq, F.fq, F.fr, fun k X e => ?_, F.len⟩
    · rw [Heap.put_same, range_at hin, List.map_cons, hf]
    · have hrm : r ∈ rs := List.mem_of_mem_take hr
      have h1 : r ≠ q := fun e => F.nq (e ▸ hrm)
      have h2 : r ≠ rs[i] := by
        intro e
        obtain ⟨j, hj, rfl⟩ := List.getElem_of_mem hr
        rw [List.length_take] at hj
        rw [List.getElem_take] at e
        exact List.pairwise_iff_getElem.1 F.nd j i (by omega) hi (by omega) e
      rw [Heap.put_ne _ _ h1, Heap.del_ne _ h2]
      exact F.hr r (by rw [List.take_succ_eq_append_getElem hi]; exact List.mem_append_left _ hr)
    · have h1 : k ≠ q := by rintro rfl; rw [F.fq] at e; cases e
      have h2 : k ≠ rs[i] := by rintro rfl; rw [F.fr _ hmem] at e; cases e
      rw [Heap.put_ne _ _ h1, Heap.del_ne _ h2]
      exact F.inc _ _ e
theorem tab_adj {x y : List (List UInt8)} {i k : Nat} (hi : i < x.length) (hk : k < y.length) : tabT x y (i + 1) k ≤ tabT x y (i + 1) (k + 1) + 1 ∧ tabT x y i (k + 1) ≤ tabT x y (i + 1) (k + 1) + 1 := by
  unfold tabT
  constructor
  · rw [List.drop_eq_getElem_cons hk]
    exact (lcs_mono _ _ _).2.2.2
  · rw [List.drop_eq_getElem_cons hi]
    exact (lcs_mono _ _ x[i]).2.1
set_option maxHeartbeats 4000000 in
set_option maxRecDepth 100000 in
theorem Table_ok (x y : List (List UInt8)) (hx : x.length ≤ 1000) (hy : y.length ≤ 1000) (h : Heap) : SCalls env 31 [.list 1 (strL x), .list 1 (strL y)] h (Ret (.list 1 (tabV .i64 x y)) h) := by
  refine SCalls.body Tryd.func31 rfl rfl (by simp [Tryd.ntmps31]) ?_
  obtain ⟨n, hn⟩ : ∃ n, n = x.length := ⟨_, rfl⟩
  obtain ⟨m, hm⟩ : ∃ m, m = y.length := ⟨_, rfl⟩
  have hwn : IntKind.i64.wrap (((n : Nat) : Int) + 1) = ((n + 1 : Nat) : Int) := by rw [w64 (by omega) (by omega)]; rfl
  have hwm : IntKind.i64.wrap (((m : Nat) : Int) + 1) = ((m + 1 : Nat) : Int) := by rw [w64 (by omega) (by omega)]; rfl
  have hwn1 : IntKind.i64.wrap (((n : Nat) : Int) - 1) = ((n : Nat) : Int) - 1 := by rw [w64 (by omega) (by omega)]
  have hwm1 : IntKind.i64.wrap (((m : Nat) : Int) - 1) = ((m : Nat) : Int) - 1 := by rw [w64 (by omega) (by omega)]
  obtain ⟨f, hf⟩ : ∃ f : Nat → PV, f = fun i => .list 1 (rowV .i64 x y i) := ⟨_, rfl⟩
  refine SW.seq (SW.run [] _ ?_)
  simp only [wpC, Bool.false_eq_true, ↓reduceIte, wpS, stops, wantedA, okDst, Tryd.ntmps31, Nat.reduceLT, decide_true, step1, isOwnCall, hxOp, px, AS.eval, ofConst, ofVal, thenQ, AS.put, enumA, Nat.zero_add, dropKey, reduceCtorEq, Nat.reduceEqDiff, true_and]
  refine SW.seq (SW.run [] _ ?_)
  simp only [wpC, Bool.false_eq_true, ↓reduceIte, wpS, stops, wantedA, okDst, Nat.reduceLT, decide_true, step1, isOwnCall, hxOp, px, AS.eval, AS.get, Lift.look, Nat.succ_ne_zero, Option.getD_some, AS.put, dropKey, Nat.reduceEqDiff, reduceCtorEq, pcall, ty34, plen, strL_len, ← hn, okLen, and_self, isFlt, ty3, isNilC, pbinP, ofConst, ofVal, pbinI, hwn, true_and]
  refine SWO.make 64 (.tmp 12) (.tmp 12) rfl ty64 rfl ty66 rfl rfl (by decide) (n := n + 1) rfl rfl (by simp; omega) (by omega) rfl rfl fun q hq => ?_
  have hq : h q = none := hq
  refine SWO.run [] 1000 ?_
  simp only [wpS, stops, Bool.false_eq_true, ↓reduceIte, wantedA, okDst, AS.put, dropKey, Nat.reduceEqDiff, reduceCtorEq, Nat.reduceLT, decide_true, step1, isOwnCall, hxOp, px, AS.eval, AS.get, Lift.look, Option.getD_some, thenQ, List.replicate, List.map_cons, ofVal, List.map_nil, List.flatten_cons, List.cons_append, List.nil_append, true_and]
  rw [rep_flat, ← List.replicate_succ]
  obtain ⟨C0, hC0⟩ : ∃ C0, C0 = List.replicate (n + 1) (PV.val (.slice none 0 0)) := ⟨_, rfl⟩
  rw [← hC0]
  refine SW.enter (n := 108) (l := [(0, .list 1 (strL x)), (1, .list 1 (strL y)), (5, .val (.slice (some ⟨q, 0, none⟩) (n + 1) (n + 1)))]) (H := h.put q (.cells 66 ((n + 1) * 1) C0)) rfl (.refl _ _) (by simp only [hasAll, AS.get, Lift.look, Nat.succ_ne_zero, ↓reduceIte, Option.getD_some, Nat.reduceEqDiff, reduceCtorEq, and_self]) ?_
  refine SW.seq (SW.seq (SW.run [] _ ?_))
  simp only [wpC, Bool.false_eq_true, ↓reduceIte, wpS, stops, wantedA, okDst, Nat.reduceLT, decide_true, step1, isOwnCall, hxOp, px, AS.eval, ofConst, ofVal, thenQ, AS.put, dropKey, reduceCtorEq, Nat.reduceEqDiff, true_and]
  refine SW.block (SW.loop (fun b a => ∃ (rs : List Nat), rs.length ≤ n + 1 ∧ n + 1 - rs.length = b ∧ FamM h q rs n m a.h ∧ a.n = 108 ∧ hasAll a [(0, .list 1 (strL x)), (1, .list 1 (strL y)), (5, .val (.slice (some ⟨q, 0, none⟩) (n + 1) (n + 1))), (6, .int .i64 (rs.length : Nat))]) (n + 1) ⟨[], Nat.zero_le _, rfl, ⟨?_, (by simp), List.nodup_nil, (by simp), hq, (by simp), ?_⟩, rfl, ?_⟩ ?_)
  · rw [hC0]; exact Heap.put_same _ _ _
  · exact (incSelf h).put hq _
  · simp only [hasAll, AS.get, Lift.look, Nat.succ_ne_zero, ↓reduceIte, Option.getD_some, Nat.reduceEqDiff, reduceCtorEq, List.length_nil, Int.cast_ofNat_Int, and_self]
  rintro b a ⟨rs, hl, hb, FM, han, hs⟩
  refine SW.norm ⟨han, rfl, hs⟩ ?_
  generalize a.h = H at FM
  clear han hs
  have hcq := FM.hq
  refine SW.seq (SW.run [] _ ?_)
  by_cases hlt : rs.length ≤ n
  · have hw : IntKind.i64.wrap (((rs.length : Nat) : Int) + 1) = ((rs.length + 1 : Nat) : Int) := by rw [w64 (by omega) (by omega)]; rfl
    have hlt' : ((rs.length : Nat) : Int) ≤ ((n : Nat) : Int) := by omega
    have hlt2 : ((rs.length : Nat) : Int) < ((n + 1 : Nat) : Int) := by omega
    obtain ⟨C, hC⟩ : ∃ C, C = rs.map (hdrV m) ++ List.replicate (n + 1 - rs.length) (PV.val (.slice none 0 0)) := ⟨_, rfl⟩
    have hCl : C.length = n + 1 := by rw [hC]; simp; omega
    have hCs : ∀ v, List.take (rs.length * 1) C ++ [v] ++ List.drop (rs.length * 1 + 1) C = (rs.map (hdrV m) ++ [v]) ++ List.replicate (n + 1 - rs.length - 1) (.val (.slice none 0 0)) := fun v => by rw [hC]; exact set_rep _ _ _ _ (List.length_map _) (by omega)
    rw [← hC] at hcq
    have b5 : rs.length * 1 + 1 ≤ n + 1 := by omega
    simp only [wpC, mayStop, stops, isFlt, Specs.has, Specs.hasO, Bool.or_false, Specs.hasH, Bool.not_false, List.any_cons, List.any_nil, Bool.false_eq_true, ↓reduceIte, wpS, wantedA, okDst, Nat.reduceLT, decide_true, step1, isOwnCall, hxOp, px, AS.eval, AS.get, Lift.look, reduceCtorEq, Nat.reduceEqDiff, Option.getD_some, AS.put, dropKey, Nat.succ_ne_zero, pcall, ty34, plen, strL_len, ← hn, okLen, and_self, isNilC, pbinP, pbinI, hlt', thenQ, isB, tmpOf, asB, hasAll, and_true, true_and]
    refine SW.seq (SW.block (SW.run [] _ ?_))
    simp only [wpC, Bool.false_eq_true, ↓reduceIte, wpS, stops, wantedA, okDst, Nat.reduceLT, decide_true, step1, isOwnCall, hxOp, px, AS.eval, AS.get, Lift.look, Nat.reduceEqDiff, reduceCtorEq, Option.getD_some, AS.put, dropKey, pcall, ty34, plen, strL_len, ← hm, okLen, and_self, isFlt, ty3, isNilC, pbinP, ofConst, ofVal, pbinI, hwm, true_and]
    refine SWO.make 66 (.tmp 24) (.tmp 24) rfl ty66 rfl ty3 rfl rfl (by decide) (n := m + 1) rfl rfl (by simp; omega) (by omega) rfl rfl fun r hr => ?_
    replace hr : H r = none := hr
    have hrq : ¬ r = q := fun e => by rw [e, hcq] at hr; cases hr
    have hqr : ¬ q = r := fun e => hrq e.symm
    refine SWO.run [] 1000 ?_
    simp only [wpS, stops, Bool.false_eq_true, ↓reduceIte, wantedA, okDst, AS.put, dropKey, Nat.reduceEqDiff, reduceCtorEq, Nat.reduceLT, decide_true, step1, isOwnCall, hxOp, px, pindexAddr, ty64, ty66, AS.eval, AS.get, Lift.look, Option.getD_some, Int.natCast_nonneg, hlt2, and_self, Int.toNat_natCast, Nat.zero_add, Lift.hx, List.replicate, List.map_cons, ofVal, List.map_nil, List.flatten_cons, List.cons_append, List.nil_append, Heap.get_put, hqr, hcq, known1, PV.cells, List.length_cons, List.length_nil, hCl, b5, splice, inQ, thenQ, true_and]
    rw [rep_flat, ← List.replicate_succ, hCs]
    have FN := FM.step hr
    unfold hdrV at FN hCs
    refine SW.run [] _ ?_
    simp only [wpC, Bool.false_eq_true, ↓reduceIte, wpS, stops, wantedA, okDst, Nat.reduceLT, decide_true, step1, isOwnCall, hxOp, px, AS.eval, AS.get, Lift.look, Nat.reduceEqDiff, reduceCtorEq, Option.getD_some, isFlt, ty3, AS.put, dropKey, List.replicate, isNilC, pbinP, ofConst, ofVal, pbinI, hw, thenQ, Nat.succ_ne_zero, true_and]
    exact ⟨n + 1 - (rs.length + 1), by omega, rs ++ [r], by simp; omega, by simp, FN, by simp⟩
  have hln : rs.length = n + 1 := by omega
  have F0 : Fam h q rs n m f (n + 1) H := ⟨by
    rw [hcq, hln, Nat.sub_self, List.replicate_zero, List.append_nil, List.take_of_length_le (by omega), List.drop_eq_nil_of_le (by simp), List.map_nil, List.append_nil], fun r hr => FM.hr r (List.mem_of_mem_take hr), FM.nd, FM.nq, hq, FM.fr, FM.inc, hln⟩
  have hcr := FM.hr
  have hlt' : ¬ ((rs.length : Nat) : Int) ≤ ((n : Nat) : Int) := by omega
  simp only [wpC, mayStop, stops, isFlt, Specs.has, Specs.hasO, Bool.or_false, Specs.hasH, Bool.not_false, List.any_cons, List.any_nil, Bool.false_eq_true, ↓reduceIte, wpS, wantedA, okDst, Nat.reduceLT, decide_true, step1, isOwnCall, hxOp, px, AS.eval, AS.get, Lift.look, reduceCtorEq, Nat.reduceEqDiff, Option.getD_some, AS.put, dropKey, Nat.succ_ne_zero, pcall, ty34, plen, strL_len, ← hn, okLen, and_self, isNilC, pbinP, pbinI, hlt', decide_false, thenQ, isB, tmpOf, asB, inQ, true_and]
  have hrow : (rowV .i64 x y n).flatten = List.replicate (m + 1) (.int .i64 0) := by
    unfold rowV
    rw [map1_flat, ← hm]
    apply List.ext_getElem
    · simp
    · intro j h1 h2
      simp [tabT_end x y (.inl (Nat.le_of_eq hn.symm))]
  obtain ⟨pre, post, ow, hpq, F1⟩ := F0.freeze (i := n) (by omega) (xs := rowV .i64 x y n) (by rw [hf]) (by rw [rowV_len, hm]) (map1_wide _ _) hrow (by simp [maxLen]; omega)
  have hsame : H.put rs[n] (.cells 3 ((m + 1) * 1) (List.replicate (m + 1) (.int .i64 0))) = H := by
    funext k
    by_cases e : k = rs[n]
    · subst e; rw [Heap.put_same]; exact (hcr _ (List.getElem_mem _)).symm
    · rw [Heap.put_ne _ _ e]
  rw [hsame] at ow
  refine SW.ownAt q ow hpq ?_
  generalize (H.del rs[n]).put q _ = H1 at F1 ⊢
  clear F0 ow hpq hsame hcq hcr FM
  refine SW.enter (n := 108) (l := [(0, .list 1 (strL x)), (1, .list 1 (strL y)), (5, .val (.slice (some ⟨q, 0, none⟩) (n + 1) (n + 1)))]) (H := H1) rfl (.refl _ _) (by simp only [hasAll, AS.get, Lift.look, Nat.succ_ne_zero, ↓reduceIte, Option.getD_some, Nat.reduceEqDiff, reduceCtorEq, and_self]) ?_
  refine SW.seq (SW.run [] _ ?_)
  simp only [wpC, mayStop, stops, isFlt, Specs.has, Specs.hasO, Bool.or_false, Specs.hasH, Bool.not_false, List.any_cons, ty3, List.any_nil, Bool.false_eq_true, ↓reduceIte, wpS, wantedA, okDst, Nat.reduceLT, decide_true, step1, isOwnCall, hxOp, px, AS.eval, AS.get, Lift.look, Option.getD_some, AS.put, dropKey, reduceCtorEq, Nat.reduceEqDiff, pcall, ty34, plen, strL_len, ← hn, okLen, and_self, isNilC, pbinP, ofConst, ofVal, pbinI, hwn1, thenQ, true_and]
  clear hl hb hlt' hlt
  refine SW.loop (fun b a => b ≤ n ∧ Fam h q rs n m f b a.h ∧ a.n = 108 ∧ hasAll a [(0, .list 1 (strL x)), (1, .list 1 (strL y)), (5, .val (.slice (some ⟨q, 0, none⟩) (n + 1) (n + 1))), (7, .int .i64 ((b : Nat) - 1))]) n ⟨Nat.le_refl _, F1, rfl, ?_⟩ ?_
  · simp only [hasAll, AS.get, Lift.look, Nat.succ_ne_zero, ↓reduceIte, Option.getD_some, Nat.reduceEqDiff, reduceCtorEq, and_self]
  rintro b a ⟨hb, F, han, hs⟩
  refine SW.norm ⟨han, rfl, hs⟩ ?_
  generalize a.h = H at F
  clear han hs F1
  refine SW.seq (SW.run [] _ ?_)
  cases b with
  | zero =>
    simp only [wpC, mayStop, stops, isFlt, Specs.has, Specs.hasO, Bool.or_false, Specs.hasH, Bool.not_false, List.any_cons, List.any_nil, Bool.false_eq_true, ↓reduceIte, wpS, wantedA, okDst, Nat.reduceLT, decide_true, step1, isOwnCall, hxOp, px, AS.eval, AS.get, Lift.look, reduceCtorEq, Nat.reduceEqDiff, Int.cast_ofNat_Int, Int.reduceSub, Option.getD_some, AS.put, dropKey, isNilC, pbinP, ofConst, ofVal, pbinI, Int.reduceLE, decide_false, thenQ, isB, tmpOf, asB, inQ, true_and]
    have ow : Own (H.del q) 66 1 (tabV .i64 x y) (.val (.slice (some ⟨q, 0, none⟩) (n + 1) (n + 1))) H := by
      have : H = (H.del q).put q (.cells 66 ((n + 1) * 1) ((List.range (n + 1)).map f)) := by
        funext k
        by_cases e : k = q
        · subst e; rw [Heap.put_same, F.hq]; simp
        · rw [Heap.put_ne _ _ e, Heap.del_ne _ e]
      have ow0 := own_row (h0 := H.del q) (q := q) (e := 66) (N := n + 1) (xs := tabV .i64 x y) (cs := (List.range (n + 1)).map f) (Heap.del_same _ _) (by rw [tabV_len, hn]) (map1_wide _ _) (by unfold tabV; rw [map1_flat, ← hn, hf]) (by simp [maxLen]; omega)
      rw [← this] at ow0
      exact ow0
    refine SW.own_let 5 rfl ow ?_
    refine SW.run [] _ ?_
    simp only [wpC, mayStop, stops, isFlt, Specs.has, Specs.hasO, Bool.or_false, Specs.hasH, Bool.not_false, List.any_cons, List.any_nil, Bool.false_eq_true, ↓reduceIte, wpS, wantedA, okDst, AS.put, dropKey, Nat.reduceEqDiff, reduceCtorEq, Nat.reduceLT, decide_true, step1, isOwnCall, hxOp, px, AS.eval, AS.get, Lift.look, Option.getD_some, thenQ, RPost, sres, Tryd.results31, sresL, sres1, Option.some.injEq, Ret_fin, exists_eq_left', true_and]
    refine HTo.of fun k X e => ?_
    have : k ≠ q := by rintro rfl; rw [hq] at e; cases e
    rw [Heap.del_ne _ this]
    exact F.inc _ _ e
  | succ i =>
    have ei : (((i + 1 : Nat) : Int) - 1) = ((i : Nat) : Int) := by omega
    have hge : (0 : Int) ≤ ((i : Nat) : Int) := by omega
    have hir : i < rs.length := by omega
    have hix : i < x.length := by omega
    have hgx := strL_at hix
    have hrm : rs[i] ∈ rs := List.getElem_mem hir
    have hwi : IntKind.i64.wrap (((i : Nat) : Int) + 1) = ((i + 1 : Nat) : Int) := by rw [w64 (by omega) (by omega)]; rfl
    have hwd : IntKind.i64.wrap (((i : Nat) : Int) - 1) = ((i : Nat) : Int) - 1 := by rw [w64 (by omega) (by omega)]
    have hqr : ¬ q = rs[i] := fun e => F.nq (e ▸ hrm)
    have hrq : ¬ rs[i] = q := fun e => hqr e.symm
    have hHr := F.hr rs[i] (by rw [List.take_succ_eq_append_getElem hir]; exact List.mem_append_right _ (List.mem_singleton.2 rfl))
    obtain ⟨C, hC⟩ : ∃ C, C = (rs.take (i + 1)).map (hdrV m) ++ ((List.range (n + 1)).drop (i + 1)).map f := ⟨_, rfl⟩
    have hHq := F.hq
    rw [← hC] at hHq
    have hCl : C.length = n + 1 := by rw [hC]; simp; omega
    have hCa : C = (rs.take i).map (hdrV m) ++ hdrV m rs[i] :: ((List.range (n + 1)).drop (i + 1)).map f := by rw [hC, take_map_cons hir, List.append_assoc]; rfl
    have hlt0 : ((rs.take i).map (hdrV m)).length = i := by simp; omega
    have hC1 : (C.drop (i * 1)).take 1 = [.val (.slice (some ⟨rs[i], 0, none⟩) (m + 1) (m + 1))] := by
      rw [hCa, Nat.mul_one, List.drop_append, List.drop_eq_nil_of_le (by omega), hlt0, Nat.sub_self]
      rfl
    have hC2 : (C.drop ((i + 1) * 1)).take 1 = [.list 1 (rowV .i64 x y (i + 1))] := by
      rw [hCa, Nat.mul_one, List.drop_append, List.drop_eq_nil_of_le (by omega), hlt0, show i + 1 - i = 1 by omega, range_at (by omega), hf]
      rfl
    obtain ⟨g, hg⟩ : ∃ g : Nat → PV, g = fun j => .int .i64 (tabT x y i j : Nat) := ⟨_, rfl⟩
    have hrow0 : List.replicate (m + 1) (PV.int .i64 0) = partV (.int .i64 0) g (m + 1) m := by
      rw [← partV_cons _ _ (by omega), hg]
      simp only [tabT_end x y (i := i) (k := m) (.inr (Nat.le_of_eq hm.symm))]
      rw [List.drop_eq_nil_of_le (by simp), List.map_nil, List.replicate_succ']
      rfl
    have hsame : H = H.put rs[i] (.cells 3 ((m + 1) * 1) (partV (.int .i64 0) g (m + 1) m)) := by
      rw [← hrow0]
      funext k
      by_cases e : k = rs[i]
      · subst e; rw [Heap.put_same]; exact hHr
      · rw [Heap.put_ne _ _ e]
    generalize hR : rs[i] = r at *
    rw [ei]
    simp only [wpC, mayStop, stops, isFlt, Specs.has, Specs.hasO, Bool.or_false, Specs.hasH, Bool.not_false, List.any_cons, List.any_nil, Bool.false_eq_true, ↓reduceIte, wpS, wantedA, okDst, Nat.reduceLT, decide_true, step1, isOwnCall, hxOp, px, AS.eval, AS.get, Lift.look, reduceCtorEq, Nat.reduceEqDiff, Option.getD_some, AS.put, dropKey, isNilC, pbinP, ofConst, ofVal, pbinI, hge, thenQ, isB, tmpOf, asB, hasAll, and_true, true_and]
    refine SW.seq (SW.block (SW.seq (SW.run [] _ ?_)))
    simp only [wpC, Bool.false_eq_true, ↓reduceIte, wpS, stops, wantedA, okDst, Nat.reduceLT, decide_true, step1, isOwnCall, hxOp, px, AS.eval, AS.get, Lift.look, Nat.reduceEqDiff, reduceCtorEq, Option.getD_some, AS.put, dropKey, pcall, ty34, plen, strL_len, ← hm, okLen, and_self, isFlt, ty3, isNilC, pbinP, ofConst, ofVal, pbinI, hwm1, thenQ, true_and]
    refine SW.block (SW.loopK 108 (fun b : Nat => [(0, .list 1 (strL x)), (1, .list 1 (strL y)), (5, .val (.slice (some ⟨q, 0, none⟩) (n + 1) (n + 1))), (7, .int .i64 (i : Nat)), (8, .int .i64 ((b : Nat) - 1))]) (fun b => H.put r (.cells 3 ((m + 1) * 1) (partV (.int .i64 0) g (m + 1) b))) (fun b => b ≤ m) (fun b => b) m (Nat.le_refl _) ?_ ?_)
    · simp only [Has, hasAll, AS.get, Lift.look, Nat.succ_ne_zero, ↓reduceIte, Option.getD_some, Nat.reduceEqDiff, reduceCtorEq, and_self, and_true, true_and]
      exact hsame
    intro b hb2
    refine SW.seq (SW.run [] _ ?_)
    cases b with
    | zero =>
      simp only [wpC, mayStop, stops, isFlt, Specs.has, Specs.hasO, Bool.or_false, Specs.hasH, Bool.not_false, List.any_cons, List.any_nil, Bool.false_eq_true, ↓reduceIte, wpS, wantedA, okDst, Nat.reduceLT, decide_true, step1, isOwnCall, hxOp, px, AS.eval, AS.get, Lift.look, reduceCtorEq, Nat.reduceEqDiff, Int.cast_ofNat_Int, Int.reduceSub, Option.getD_some, AS.put, dropKey, isNilC, pbinP, ofConst, ofVal, pbinI, Int.reduceLE, decide_false, thenQ, isB, tmpOf, asB, inQ, true_and]
      have hcs : (rowV .i64 x y i).flatten = partV (.int .i64 0) g (m + 1) 0 := by unfold rowV; rw [map1_flat, partV_zero, ← hm, hg]
      obtain ⟨pre, post, ow, hpq, F2⟩ := F.freeze hir (xs := rowV .i64 x y i) (by rw [hf]) (by rw [rowV_len, hm]) (map1_wide _ _) hcs (by simp [maxLen]; omega)
      rw [hR] at ow hpq F2
      refine SW.ownAt q ow hpq ?_
      refine SW.run [] _ ?_
      simp only [wpC, Bool.false_eq_true, ↓reduceIte, wpS, stops, wantedA, okDst, Nat.reduceLT, decide_true, step1, isOwnCall, hxOp, px, AS.eval, AS.get, Lift.look, Nat.reduceEqDiff, reduceCtorEq, Option.getD_some, isFlt, ty3, AS.put, dropKey, isNilC, pbinP, ofConst, ofVal, pbinI, hwd, thenQ, Nat.succ_ne_zero, true_and]
      exact ⟨i, by omega, by omega, F2, rfl⟩
    | succ c =>
      have ec : (((c + 1 : Nat) : Int) - 1) = ((c : Nat) : Int) := by omega
      have hge2 : (0 : Int) ≤ ((c : Nat) : Int) := by omega
      have hcy : c < y.length := by omega
      have hgy := strL_at hcy
      have hwc : IntKind.i64.wrap (((c : Nat) : Int) + 1) = ((c + 1 : Nat) : Int) := by rw [w64 (by omega) (by omega)]; rfl
      have hwd2 : IntKind.i64.wrap (((c : Nat) : Int) - 1) = ((c : Nat) : Int) - 1 := by rw [w64 (by omega) (by omega)]
      have hst := tabT_step hix hcy
      have hRl := partV_len (.int .i64 0) g (k := c + 1) (N := m + 1) (by omega)
      have hR1 := partV_get (.int .i64 0) g (k := c + 1) (j := c + 1) (N := m + 1) (Nat.le_refl _) (by omega)
      have hR1 : ((partV (.int .i64 0) g (m + 1) (c + 1)).drop ((c + 1) * 1)).take 1 = [.int .i64 (tabT x y i (c + 1) : Nat)] := by rw [hR1, hg]
      have hN1 := rowV_at .i64 (x := x) (y := y) (i + 1) (j := c + 1) (by omega)
      have hN0 := rowV_at .i64 (x := x) (y := y) (i + 1) (j := c) (by omega)
      have hNl := rowV_len .i64 x y (i + 1)
      have hT := tabT_le x y (i + 1) (c + 1)
      have hwt : IntKind.i64.wrap ((tabT x y (i + 1) (c + 1) : Nat) + 1) = ((tabT x y (i + 1) (c + 1) + 1 : Nat) : Int) := by rw [w64 (by omega) (by omega)]; rfl
      have b1 : ((c + 1 : Nat) : Int) < ((m + 1 : Nat) : Int) := by omega
      have b2 : ((c : Nat) : Int) < ((m + 1 : Nat) : Int) := by omega
      have b3 : ((i + 1 : Nat) : Int) < ((n + 1 : Nat) : Int) := by omega
      have b4 : ((i : Nat) : Int) < ((n + 1 : Nat) : Int) := by omega
      have b5 : i * 1 + 1 ≤ n + 1 := by omega
      have b6 : (i + 1) * 1 + 1 ≤ n + 1 := by omega
      have b7 : c * 1 + 1 ≤ m + 1 := by omega
      have b8 : (c + 1) * 1 + 1 ≤ m + 1 := by omega
      have b9 : c < m + 1 := by omega
      have b10 : c + 1 < m + 1 := by omega
      rw [ec]
      have hadj := tab_adj hix hcy
      simp only [wpC, mayStop, stops, isFlt, Specs.has, Specs.hasO, Bool.or_false, Specs.hasH, Bool.not_false, List.any_cons, List.any_nil, Bool.false_eq_true, ↓reduceIte, wpS, wantedA, okDst, Nat.reduceLT, decide_true, step1, isOwnCall, hxOp, px, AS.eval, AS.get, Lift.look, reduceCtorEq, Nat.reduceEqDiff, Option.getD_some, AS.put, dropKey, isNilC, pbinP, ofConst, ofVal, pbinI, hge2, thenQ, isB, tmpOf, asB, Has, hasAll, and_true, true_and]
      refine SW.seq (SW.block (SW.seq (SW.run [] _ ?_)))
      simp only [wpC, Bool.false_eq_true, ↓reduceIte, wpS, stops, wantedA, okDst, Nat.reduceLT, decide_true, step1, isOwnCall, hxOp, px, AS.eval, AS.get, Lift.look, Nat.reduceEqDiff, reduceCtorEq, Option.getD_some, AS.put, dropKey, isFlt, ty3, isNilC, pbinP, ofConst, ofVal, pbinI, hwi, pindexAddr, ty64, ty66, Int.natCast_nonneg, b3, and_self, Int.toNat_natCast, Nat.zero_add, pload, Heap.get_put, hqr, hHq, okOne, TK.isAgg, beq_self_eq_true, Bool.or_true, hCl, b6, Lift.valOf, hC2, List.getD_cons_zero, ne_eq, Nat.succ_ne_zero, not_false_eq_true, hNl, ← hm, b9, hN0, List.length_cons, List.length_nil, Nat.le_refl, List.take_succ_cons, List.take_nil, thenQ, true_and]
      obtain ⟨N0, hN0e⟩ : ∃ N0, N0 = tabT x y (i + 1) c := ⟨_, rfl⟩
      obtain ⟨N1, hN1e⟩ : ∃ N1, N1 = tabT x y i (c + 1) := ⟨_, rfl⟩
      rw [← hN0e] at hst hadj ⊢
      rw [← hN1e] at hst hadj hR1
      refine SW.meet1 108 [(0, .list 1 (strL x)), (1, .list 1 (strL y)), (5, .val (.slice (some ⟨q, 0, none⟩) (n + 1) (n + 1))), (7, .int .i64 (i : Nat)), (8, .int .i64 (c : Nat)), (9, .int .i64 (max N0 N1 : Nat))] (H.put r (.cells 3 ((m + 1) * 1) (partV (.int .i64 0) g (m + 1) (c + 1)))) ?_ ?_
      · refine SW.run [] _ ?_
        by_cases hA : N0 < N1
        · have hA2 : ((N0 : Nat) : Int) < ((N1 : Nat) : Int) := by omega
          have hA3 : max N0 N1 = N1 := by omega
          simp only [wpC, mayStop, stops, isFlt, Specs.has, Specs.hasO, Bool.or_false, Specs.hasH, Bool.not_false, List.any_cons, ty3, List.any_nil, Bool.false_eq_true, ↓reduceIte, wpS, wantedA, okDst, Nat.reduceLT, decide_true, step1, isOwnCall, hxOp, px, AS.eval, AS.get, Lift.look, Nat.reduceEqDiff, reduceCtorEq, Option.getD_some, AS.put, dropKey, pindexAddr, ty64, ty66, Int.natCast_nonneg, b4, and_self, Int.toNat_natCast, Nat.zero_add, pload, Heap.get_put, hqr, hHq, okOne, TK.isAgg, beq_self_eq_true, Bool.or_true, hCl, b5, Lift.valOf, hC1, List.getD_cons_zero, isNilC, pbinP, ofConst, ofVal, pbinI, hwc, b1, hRl, b8, hR1, hA2, thenQ, isB, tmpOf, asB, Meet, HTo_self, hasAll, Nat.succ_ne_zero, hA3]
        · have hA2 : ¬ ((N0 : Nat) : Int) < ((N1 : Nat) : Int) := by omega
          have hA3 : max N0 N1 = N0 := by omega
          simp only [wpC, mayStop, stops, isFlt, Specs.has, Specs.hasO, Bool.or_false, Specs.hasH, Bool.not_false, List.any_cons, ty3, List.any_nil, Bool.false_eq_true, ↓reduceIte, wpS, wantedA, okDst, Nat.reduceLT, decide_true, step1, isOwnCall, hxOp, px, AS.eval, AS.get, Lift.look, Nat.reduceEqDiff, reduceCtorEq, Option.getD_some, AS.put, dropKey, pindexAddr, ty64, ty66, Int.natCast_nonneg, b4, and_self, Int.toNat_natCast, Nat.zero_add, pload, Heap.get_put, hqr, hHq, okOne, TK.isAgg, beq_self_eq_true, Bool.or_true, hCl, b5, Lift.valOf, hC1, List.getD_cons_zero, isNilC, pbinP, ofConst, ofVal, pbinI, hwc, b1, hRl, b8, hR1, hA2, decide_false, thenQ, isB, tmpOf, asB, Meet, HTo_self, hasAll, Nat.succ_ne_zero, hA3]
      refine SW.meet1 108 [(0, .list 1 (strL x)), (1, .list 1 (strL y)), (5, .val (.slice (some ⟨q, 0, none⟩) (n + 1) (n + 1))), (7, .int .i64 (i : Nat)), (8, .int .i64 (c : Nat)), (9, .int .i64 (tabT x y i c : Nat))] (H.put r (.cells 3 ((m + 1) * 1) (partV (.int .i64 0) g (m + 1) (c + 1)))) ?_ ?_
      · refine SW.seq (SW.regionAny [] [[0, 1, 2, 3, 4, 5, 6, 7, 8, 9, 10, 11, 12, 13, 14, 15, 16, 17, 18, 19, 20, 21, 22]] rfl (by rfl) (by kernel_rfl) ?_)
        cases e : (x[i] == y[c])
        · have e2 : x[i] ≠ y[c] := by simpa using e
          rw [if_neg e2] at hst
          simp only [wpOL, wpO, LOp, List.getElem?_toArray, List.getElem?_cons_zero, okDst, Nat.reduceLT, decide_true, wantedA, ↓reduceIte, step1, isOwnCall, Bool.false_eq_true, hxOp, px, AS.eval, AS.get, Lift.look, Option.getD_some, List.getElem?_cons_succ, AS.put, dropKey, reduceCtorEq, Nat.reduceEqDiff, pindexAddr, ty34, ty9, ne_eq, Nat.succ_ne_zero, not_false_eq_true, Int.natCast_nonneg, Int.toNat_natCast, strL_len, hix, and_self, hgx, pload, okOne, TK.isAgg, beq_self_eq_true, Bool.or_true, List.length_cons, List.length_nil, Nat.zero_add, Nat.le_refl, Lift.valOf, List.take_succ_cons, List.take_nil, List.getD_cons_zero, hcy, hgy, isNilC, pbinP, pbinS, e, Option.bind_some, beq_ft, Option.some.injEq, ofConst, ofVal, ppick_false, thenQ, true_and]
          refine SW.run [] _ ?_
          simp only [wpC, isB, AS.get, Lift.look, tmpOf, ↓reduceIte, Option.getD_some, asB, Bool.false_eq_true, thenQ, Meet, HTo_self, hasAll, Nat.succ_ne_zero, Nat.reduceEqDiff, reduceCtorEq, hst, and_self]
        · have e2 : x[i] = y[c] := by simpa using e
          rw [if_pos e2] at hst
          by_cases hA : max N0 N1 < tabT x y (i + 1) (c + 1) + 1
          · have hA2 : ((max N0 N1 : Nat) : Int) < ((tabT x y (i + 1) (c + 1) + 1 : Nat) : Int) := by omega
            simp only [wpOL, wpO, LOp, List.getElem?_toArray, List.getElem?_cons_zero, okDst, Nat.reduceLT, decide_true, wantedA, ↓reduceIte, step1, isOwnCall, Bool.false_eq_true, hxOp, px, AS.eval, AS.get, Lift.look, Option.getD_some, List.getElem?_cons_succ, AS.put, dropKey, reduceCtorEq, Nat.reduceEqDiff, pindexAddr, ty34, ty9, ne_eq, Nat.succ_ne_zero, not_false_eq_true, Int.natCast_nonneg, Int.toNat_natCast, strL_len, hix, and_self, hgx, pload, okOne, TK.isAgg, beq_self_eq_true, Bool.or_true, List.length_cons, List.length_nil, Nat.zero_add, Nat.le_refl, Lift.valOf, List.take_succ_cons, List.take_nil, List.getD_cons_zero, ← hm, true_and, hgy, isNilC, pbinP, pbinS, e, Option.bind_some, ofConst, ofVal, pbinI, hwi, ty64, ty66, b3, Heap.get_put, hqr, hHq, hCl, b6, hC2, hwc, ty3, hNl, b10, hN1, hwt, Int.ofNat_lt, hA, ppick_bool, thenQ]
            refine ⟨by omega, ?_⟩
            refine SW.run [] _ ?_
            simp only [wpC, isB, AS.get, Lift.look, tmpOf, ↓reduceIte, Option.getD_some, asB, Bool.false_eq_true, wpS, stops, wantedA, okDst, Nat.reduceLT, decide_true, step1, isOwnCall, hxOp, px, AS.eval, Nat.reduceEqDiff, reduceCtorEq, AS.put, dropKey, isFlt, ty3, isNilC, pbinP, ofConst, ofVal, pbinI, hwi, pindexAddr, ty64, ty66, Int.natCast_nonneg, b3, and_self, Int.toNat_natCast, Nat.zero_add, pload, Heap.get_put, hqr, hHq, okOne, TK.isAgg, beq_self_eq_true, Bool.or_true, hCl, b6, Lift.valOf, hC2, List.getD_cons_zero, hwc, ne_eq, Nat.succ_ne_zero, not_false_eq_true, hNl, ← hm, b10, hN1, List.length_cons, List.length_nil, Nat.le_refl, List.take_succ_cons, List.take_nil, hwt, thenQ, Meet, HTo_self, hasAll, hst]
          · have hA2 : ¬ ((max N0 N1 : Nat) : Int) < ((tabT x y (i + 1) (c + 1) + 1 : Nat) : Int) := by omega
            have hA3 : max N0 N1 = tabT x y (i + 1) (c + 1) + 1 := by omega
            simp only [wpOL, wpO, LOp, List.getElem?_toArray, List.getElem?_cons_zero, okDst, Nat.reduceLT, decide_true, wantedA, ↓reduceIte, step1, isOwnCall, Bool.false_eq_true, hxOp, px, AS.eval, AS.get, Lift.look, Option.getD_some, List.getElem?_cons_succ, AS.put, dropKey, reduceCtorEq, Nat.reduceEqDiff, pindexAddr, ty34, ty9, ne_eq, Nat.succ_ne_zero, not_false_eq_true, Int.natCast_nonneg, Int.toNat_natCast, strL_len, hix, and_self, hgx, pload, okOne, TK.isAgg, beq_self_eq_true, Bool.or_true, List.length_cons, List.length_nil, Nat.zero_add, Nat.le_refl, Lift.valOf, List.take_succ_cons, List.take_nil, List.getD_cons_zero, ← hm, true_and, hgy, isNilC, pbinP, pbinS, e, Option.bind_some, ofConst, ofVal, pbinI, hwi, ty64, ty66, b3, Heap.get_put, hqr, hHq, hCl, b6, hC2, hwc, ty3, hNl, b10, hN1, hwt, Int.ofNat_lt, hA, decide_false, ppick_bool, thenQ]
            refine ⟨by omega, ?_⟩
            refine SW.run [] _ ?_
            simp only [wpC, isB, AS.get, Lift.look, tmpOf, ↓reduceIte, Option.getD_some, asB, Bool.false_eq_true, thenQ, Meet, HTo_self, hasAll, Nat.succ_ne_zero, Nat.reduceEqDiff, reduceCtorEq, hA3, hst, and_self]
      · refine SW.run [] _ ?_
        simp only [wpC, Bool.false_eq_true, ↓reduceIte, wpS, stops, wantedA, okDst, Nat.reduceLT, decide_true, step1, isOwnCall, hxOp, px, AS.eval, AS.get, Lift.look, reduceCtorEq, Nat.reduceEqDiff, Option.getD_some, AS.put, dropKey, pindexAddr, ty64, ty66, Int.natCast_nonneg, b4, and_self, Int.toNat_natCast, Nat.zero_add, pload, Heap.get_put, hqr, hHq, okOne, TK.isAgg, beq_self_eq_true, Bool.or_true, hCl, b5, Lift.valOf, hC1, List.getD_cons_zero, ty3, b2, Lift.hx, known1, PV.cells, List.length_cons, List.length_nil, hRl, b7, splice, inQ, thenQ, true_and]
        rw [Heap.put_put, partV_set _ _ (by omega), show PV.int .i64 (tabT x y i c : Nat) = g c by rw [hg], partV_cons _ _ (by omega)]
        refine SW.run [] _ ?_
        simp only [wpC, Bool.false_eq_true, ↓reduceIte, wpS, stops, wantedA, okDst, Nat.reduceLT, decide_true, step1, isOwnCall, hxOp, px, AS.eval, AS.get, Lift.look, Nat.reduceEqDiff, reduceCtorEq, Option.getD_some, isFlt, ty3, AS.put, dropKey, isNilC, pbinP, ofConst, ofVal, pbinI, hwd2, thenQ, Nat.succ_ne_zero, true_and]
        exact ⟨c, by omega, by omega, rfl, rfl⟩
def sTable : List PV → Prop × PV
  | [.list 1 xs, .list 1 ys] => match unS xs with
    | some x => match unS ys with
      | some y => (x.length ≤ 1000 ∧ y.length ≤ 1000, .list 1 (tabV .i64 x y))
      | none => PBad
    | none => PBad
  | _ => PBad
noncomputable def eTable : SpecE env := ⟨31, sTable, fun args h hc => by
  unfold sTable at hc ⊢
  split at hc
  · split at hc
    · rename_i a ha
      split at hc
      · rename_i b hb; rw [unS_spec ha, unS_spec hb]; exact .inl (Table_ok a b hc.1 hc.2 h)
      · exact hc.elim
    · exact hc.elim
  · exact hc.elim⟩
end Go.Proofs.YtincpomenogppaaDoor
