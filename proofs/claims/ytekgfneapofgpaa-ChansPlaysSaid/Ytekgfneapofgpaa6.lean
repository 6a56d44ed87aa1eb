/- Contracts of functions that the law reaches. -/
import Derived.Test.Ytekgfneapofgpaa5
set_option linter.unusedSimpArgs false
set_option linter.unusedVariables false
namespace Go.Proofs.Ytekgfneapofgpaa
open Go Go.RowKit Go.Proofs.Ytekgfneapofgpaa Go.Proofs.Ytekgfneapofgpaa.Lift

/-! How a board's heap is turned -/
section
variable {h0 h : Heap} {gn : It → Bool} {B : Bo}
theorem BOn.mono (b : BOn h0 gn B h) {h' : Heap} (hh : ∀ k X, h k = some X → h' k = some X) : BOn h0 gn B h' :=
  ⟨hh _ _ b.hb, hh _ _ b.hq, hh _ _ b.hw, fun i hi => hh _ _ (b.hi i hi), fun q hq => hh _ _ (b.hqa q hq), fun q hq => hh _ _ (b.hbuf q hq), b.hcap, b.hsub, b.ndi, b.ndq, b.ndb, fun k X e => hh _ _ (b.inc k X e), b.nb, b.nq, b.nw, b.ni, b.nqa, b.nbuf⟩
theorem BOn.put (b : BOn h0 gn B h) {r : Nat} (hr : h r = none) (X : AObj) : BOn h0 gn B (h.put r X) := b.mono fun k Y e => by
  rw [Heap.put_ne _ _ (by rintro rfl; rw [hr] at e; cases e)]; exact e
theorem inj_of_nodup {α β : Type} {f : α → β} : ∀ {l : List α}, (l.map f).Nodup → ∀ {x y : α}, x ∈ l → y ∈ l → f x = f y → x = y
  | [], _, _, _, hx, _, _ => by cases hx
  | a :: l, hn, x, y, hx, hy, e => by
    rw [List.map_cons, List.nodup_cons] at hn
    rcases List.mem_cons.1 hx with hx1 | hx1
    · rcases List.mem_cons.1 hy with hy1 | hy1
      · rw [hx1, hy1]
      · exact absurd (by rw [← hx1, e]; exact List.mem_map.2 ⟨_, hy1, rfl⟩) hn.1
    · rcases List.mem_cons.1 hy with hy1 | hy1
      · exact absurd (by rw [← hy1, ← e]; exact List.mem_map.2 ⟨_, hx1, rfl⟩) hn.1
      · exact inj_of_nodup hn.2 hx1 hy1 e
/-- An item is taken back. -/
theorem BOn.mark (b : BOn h0 gn B h) {i : It} (hi : i ∈ B.items) : BOn h0 (fun x => gn x || x == i) B (h.put i.a (itC true i)) := by
  have hia := b.hi i hi
  have ne : ∀ k X, h k = some X → (∀ g, X ≠ itC g i) → h.put i.a (itC true i) k = some X := fun k X e hX => by
    rw [Heap.put_ne _ _ (by rintro rfl; rw [hia] at e; injection e with e; exact hX _ e.symm)]; exact e
  refine ⟨ne _ _ b.hb (by intro g e; cases e), ne _ _ b.hq (by intro g e; cases e), ne _ _ b.hw (by intro g e; cases e), fun x hx => ?_, fun q hq => ne _ _ (b.hqa q hq) (by intro g e; cases e), fun q hq => ne _ _ (b.hbuf q hq) (by intro g e; cases e), b.hcap, b.hsub, b.ndi, b.ndq, b.ndb, fun k X e => ?_, b.nb, b.nq, b.nw, b.ni, b.nqa, b.nbuf⟩
  · by_cases e : x = i
    · subst e
      rw [Heap.put_same]
      simp
    · have hne : x.a ≠ i.a := fun e2 => e (inj_of_nodup b.ndi hx hi e2)
      have hb : (x == i) = false := beq_eq_false_iff_ne.2 e
      rw [Heap.put_ne _ _ hne, b.hi x hx, hb, Bool.or_false]
  · rw [Heap.put_ne _ _ (by rintro rfl; rw [b.ni i hi] at e; cases e)]
    exact b.inc k X e
/-- A queue has another row. -/
def setQ (qa : Nat) (l : List It) (buf cap : Nat) (qs : List Qu) : List Qu := qs.map fun x => if x.qa = qa then { x with l := l, buf := buf, cap := cap } else x
theorem setQ_Es (qa : Nat) (l : List It) (buf cap : Nat) (qs : List Qu) : qEs (setQ qa l buf cap qs) = qEs qs := by
  unfold qEs setQ
  rw [List.map_map]
  refine List.map_congr_left fun x _ => ?_
  simp only [Function.comp]
  split <;> rfl
theorem setQ_mem {qa : Nat} {l : List It} {buf cap : Nat} {qs : List Qu} {x : Qu} (hx : x ∈ setQ qa l buf cap qs) : (∃ y ∈ qs, y.qa = qa ∧ x = { y with l := l, buf := buf, cap := cap }) ∨ (x ∈ qs ∧ x.qa ≠ qa) := by
  obtain ⟨y, hy, rfl⟩ := List.mem_map.1 hx
  by_cases e : y.qa = qa
  · left; exact ⟨y, hy, e, by rw [if_pos e]⟩
  · right; rw [if_neg e]; exact ⟨hy, e⟩
theorem BOn.setQ (b : BOn h0 gn B h) {q : Qu} (hq : q ∈ B.qs) {l : List It} {buf cap : Nat} (hl : ∀ i ∈ l, i ∈ B.items) (hc : l.length ≤ cap ∧ cap ≤ maxLen) (hb : (h.del q.buf) buf = none) :
    BOn h0 gn { B with qs := setQ q.qa l buf cap B.qs } (((h.del q.buf).put buf (rowC cap l)).put q.qa (quC buf l.length cap)) := by
  have hqa := b.hqa q hq
  have hqb := b.hbuf q hq
  -- what stands elsewhere
  have ne : ∀ k X, h k = some X → (∀ n c f, X ≠ quC f n c) → (∀ c l, X ≠ rowC c l) → (((h.del q.buf).put buf (rowC cap l)).put q.qa (quC buf l.length cap)) k = some X := fun k X e h1 h2 => by
    have k1 : k ≠ q.qa := by rintro rfl; rw [hqa] at e; injection e with e; exact h1 _ _ _ e.symm
    have k2 : k ≠ q.buf := by rintro rfl; rw [hqb] at e; injection e with e; exact h2 _ _ e.symm
    have k3 : k ≠ buf := by rintro rfl; rw [Heap.del_ne _ k2] at hb; rw [hb] at e; cases e
    rw [Heap.put_ne _ _ k1, Heap.put_ne _ _ k3, Heap.del_ne _ k2]; exact e
  have hqab : q.qa ≠ buf := by
    rintro e
    have k2 : q.qa ≠ q.buf := by intro e2; rw [e2, hqb] at hqa; cases hqa
    rw [← e, Heap.del_ne _ k2, hqa] at hb; cases hb
  have oth : ∀ x ∈ B.qs, x.qa ≠ q.qa → x.buf ≠ q.buf ∧ x.buf ≠ buf ∧ x.qa ≠ buf ∧ x.qa ≠ q.buf ∧ x.buf ≠ q.qa := fun x hx hne => by
    have e1 : x.buf ≠ q.buf := fun e => hne (by rw [inj_of_nodup b.ndb hx hq e])
    have e4 : x.qa ≠ q.buf := fun e => by have := b.hqa x hx; rw [e, hqb] at this; cases this
    refine ⟨e1, fun e => ?_, fun e => ?_, e4, fun e => ?_⟩
    · have := b.hbuf x hx
      rw [← e, Heap.del_ne _ e1, this] at hb; cases hb
    · have := b.hqa x hx
      rw [← e, Heap.del_ne _ e4, this] at hb; cases hb
    · have := b.hbuf x hx
      rw [e, hqa] at this; cases this
  have nb0 : h0 buf = none := by
    cases e : h0 buf with
    | none => rfl
    | some X =>
      have := b.inc _ _ e
      by_cases k : buf = q.buf
      · rw [k, b.nbuf q hq] at e; cases e
      · rw [Heap.del_ne _ k, this] at hb; cases hb
  refine ⟨ne _ _ b.hb (by intro _ _ _ e; cases e) (by intro _ _ e; cases e), ?_, ne _ _ b.hw (by intro _ _ _ e; cases e) (by intro _ _ e; cases e), fun i hi => ne _ _ (b.hi i hi) (by intro _ _ _ e; cases e) (by intro _ _ e; cases e), fun x hx => ?_, fun x hx => ?_, fun x hx => ?_, fun x hx => ?_, b.ndi, ?_, ?_, fun k X e => ?_, b.nb, b.nq, b.nw, b.ni, fun x hx => ?_, fun x hx => ?_⟩
  · show _ = some (AObj.gmap true false (qEs (Ytekgfneapofgpaa.setQ q.qa l buf cap B.qs)) B.nq)
    rw [setQ_Es]
    exact ne _ _ b.hq (by intro _ _ _ e; cases e) (by intro _ _ e; cases e)
  · rcases setQ_mem hx with ⟨y, hy, e, rfl⟩ | ⟨hx, e⟩
    · show (((h.del q.buf).put buf (rowC cap l)).put q.qa (quC buf l.length cap)) y.qa = _
      rw [e, Heap.put_same]
    · obtain ⟨_, _, k3, k4, _⟩ := oth x hx e
      rw [Heap.put_ne _ _ e, Heap.put_ne _ _ k3, Heap.del_ne _ k4]
      exact b.hqa x hx
  · rcases setQ_mem hx with ⟨y, hy, e, rfl⟩ | ⟨hx, e⟩
    · show (((h.del q.buf).put buf (rowC cap l)).put q.qa (quC buf l.length cap)) buf = _
      rw [Heap.put_ne _ _ (fun e => hqab e.symm), Heap.put_same]
    · obtain ⟨k1, k2, _, _, k5⟩ := oth x hx e
      rw [Heap.put_ne _ _ k5, Heap.put_ne _ _ k2, Heap.del_ne _ k1]
      exact b.hbuf x hx
  · rcases setQ_mem hx with ⟨y, hy, e, rfl⟩ | ⟨hx, e⟩
    · exact hc
    · exact b.hcap x hx
  · rcases setQ_mem hx with ⟨y, hy, e, rfl⟩ | ⟨hx, e⟩
    · exact hl
    · exact b.hsub x hx
  · have e : (Ytekgfneapofgpaa.setQ q.qa l buf cap B.qs).map Qu.qa = B.qs.map Qu.qa := by
      unfold Ytekgfneapofgpaa.setQ
      rw [List.map_map]
      refine List.map_congr_left fun x _ => ?_
      simp only [Function.comp]
      split <;> rfl
    show ((Ytekgfneapofgpaa.setQ q.qa l buf cap B.qs).map Qu.qa).Nodup
    rw [e]; exact b.ndq
  · show ((Ytekgfneapofgpaa.setQ q.qa l buf cap B.qs).map Qu.buf).Nodup
    have aux : ∀ qs : List Qu, (∀ x ∈ qs, x ∈ B.qs) → (qs.map Qu.qa).Nodup → (qs.map Qu.buf).Nodup → ((Ytekgfneapofgpaa.setQ q.qa l buf cap qs).map Qu.buf).Nodup := by
      intro qs
      induction qs with
      | nil => intro _ _ _; exact List.nodup_nil
      | cons x qs ih =>
        intro hm h1 h2
        rw [List.map_cons, List.nodup_cons] at h1 h2
        unfold Ytekgfneapofgpaa.setQ
        rw [List.map_cons, List.map_cons, List.nodup_cons]
        refine ⟨fun hin => ?_, ih (fun y hy => hm y (List.mem_cons_of_mem _ hy)) h1.2 h2.2⟩
        obtain ⟨z, hz, ez⟩ := List.mem_map.1 hin
        rcases setQ_mem hz with ⟨y, hy, e, rfl⟩ | ⟨hz, e⟩
        · by_cases ex : x.qa = q.qa
          · exact h1.1 (by rw [ex, ← e]; exact List.mem_map.2 ⟨y, hy, rfl⟩)
          · rw [if_neg ex] at ez
            exact (oth x (hm x (List.mem_cons_self ..)) ex).2.1 ez.symm
        · by_cases ex : x.qa = q.qa
          · rw [if_pos ex] at ez
            exact (oth z (hm z (List.mem_cons_of_mem _ hz)) e).2.1 ez
          · rw [if_neg ex] at ez
            exact h2.1 (by rw [← ez]; exact List.mem_map.2 ⟨z, hz, rfl⟩)
    exact aux B.qs (fun _ h => h) b.ndq b.ndb
  · have k1 : k ≠ q.qa := by rintro rfl; rw [b.nqa q hq] at e; cases e
    have k2 : k ≠ q.buf := by rintro rfl; rw [b.nbuf q hq] at e; cases e
    have k3 : k ≠ buf := by rintro rfl; rw [nb0] at e; cases e
    rw [Heap.put_ne _ _ k1, Heap.put_ne _ _ k3, Heap.del_ne _ k2]
    exact b.inc k X e
  · rcases setQ_mem hx with ⟨y, hy, e, rfl⟩ | ⟨hx, e⟩
    · exact b.nqa y hy
    · exact b.nqa x hx
  · rcases setQ_mem hx with ⟨y, hy, e, rfl⟩ | ⟨hx, e⟩
    · exact nb0
    · exact b.nbuf x hx
/-- A queue is deleted. -/
def delQ (c : Int) (s : Bool) (qs : List Qu) : List Qu := qs.eraseP fun q => q.ch == c && q.sd == s
theorem delQ_Es (c : Int) (s : Bool) : ∀ qs : List Qu, mdel [.int .i64 c, .bool s] (qEs qs) = qEs (delQ c s qs)
  | [] => rfl
  | q :: qs => by
    show (if eqCells [.int .i64 c, .bool s] [.int .i64 q.ch, .bool q.sd] = true then qEs qs else qE q :: mdel [.int .i64 c, .bool s] (qEs qs)) = qEs ((q :: qs).eraseP _)
    rw [List.eraseP_cons]
    have e : eqCells [.int .i64 c, .bool s] [.int .i64 q.ch, .bool q.sd] = (q.ch == c && q.sd == s) := by
      simp only [eqCells, Bool.and_true]
      rw [Bool.beq_comm (a := c), Bool.beq_comm (a := s)]
    rw [e]
    cases h : (q.ch == c && q.sd == s)
    · rw [if_neg (by decide), delQ_Es c s qs]; rfl
    · rfl
theorem BOn.delQ (b : BOn h0 gn B h) (c : Int) (s : Bool) : BOn h0 gn { B with qs := delQ c s B.qs } (h.put B.rq (.gmap true false (qEs (delQ c s B.qs)) B.nq)) := by
  have ne : ∀ k X, h k = some X → (∀ es n, X ≠ .gmap true false es n) → (h.put B.rq (.gmap true false (qEs (Ytekgfneapofgpaa.delQ c s B.qs)) B.nq)) k = some X := fun k X e h1 => by
    rw [Heap.put_ne _ _ (by rintro rfl; rw [b.hq] at e; injection e with e; exact h1 _ _ e.symm)]; exact e
  have sub : ∀ x ∈ Ytekgfneapofgpaa.delQ c s B.qs, x ∈ B.qs := fun x hx => List.mem_of_mem_eraseP hx
  have sl : (Ytekgfneapofgpaa.delQ c s B.qs).Sublist B.qs := List.eraseP_sublist
  refine ⟨ne _ _ b.hb (by intro _ _ e; cases e), Heap.put_same _ _ _, ne _ _ b.hw (by intro _ _ e; cases e), fun i hi => ne _ _ (b.hi i hi) (by intro _ _ e; cases e), fun x hx => ne _ _ (b.hqa x (sub x hx)) (by intro _ _ e; cases e), fun x hx => ne _ _ (b.hbuf x (sub x hx)) (by intro _ _ e; cases e), fun x hx => b.hcap x (sub x hx), fun x hx => b.hsub x (sub x hx), b.ndi, (sl.map _).nodup b.ndq, (sl.map _).nodup b.ndb, fun k X e => ?_, b.nb, b.nq, b.nw, b.ni, fun x hx => b.nqa x (sub x hx), fun x hx => b.nbuf x (sub x hx)⟩
  rw [Heap.put_ne _ _ (by rintro rfl; rw [b.nq] at e; cases e)]
  exact b.inc k X e
/-- A process is deleted. -/
def delP (p : Int) (ps : List Pr) : List Pr := ps.eraseP fun x => x.pid == p
theorem delP_Es (p : Int) : ∀ ps : List Pr, mdel [.int .i64 p] (wEs ps) = wEs (delP p ps)
  | [] => rfl
  | q :: qs => by
    show (if eqCells [.int .i64 p] [.int .i64 q.pid] = true then wEs qs else wE q :: mdel [.int .i64 p] (wEs qs)) = wEs ((q :: qs).eraseP _)
    rw [List.eraseP_cons]
    have e : eqCells [.int .i64 p] [.int .i64 q.pid] = (q.pid == p) := by
      simp only [eqCells, Bool.and_true]
      rw [Bool.beq_comm (a := p)]
    rw [e]
    cases h : (q.pid == p)
    · rw [if_neg (by decide), delP_Es p qs]; rfl
    · rfl
theorem BOn.delP (b : BOn h0 gn B h) (p : Int) {its : List It} {gn' : It → Bool} (hs : its.Sublist B.items) (hg : ∀ i ∈ its, gn i = gn' i) (hq : ∀ q ∈ B.qs, ∀ i ∈ q.l, i ∈ its) :
    BOn h0 gn' { B with ps := delP p B.ps, items := its } (h.put B.rw (.gmap false false (wEs (delP p B.ps)) B.nw)) := by
  have ne : ∀ k X, h k = some X → (∀ es n, X ≠ .gmap false false es n) → (h.put B.rw (.gmap false false (wEs (Ytekgfneapofgpaa.delP p B.ps)) B.nw)) k = some X := fun k X e h1 => by
    rw [Heap.put_ne _ _ (by rintro rfl; rw [b.hw] at e; injection e with e; exact h1 _ _ e.symm)]; exact e
  refine ⟨ne _ _ b.hb (by intro _ _ e; cases e), ne _ _ b.hq (by intro _ _ e; cases e), Heap.put_same _ _ _, fun i hi => ?_, fun x hx => ne _ _ (b.hqa x hx) (by intro _ _ e; cases e), fun x hx => ne _ _ (b.hbuf x hx) (by intro _ _ e; cases e), b.hcap, hq, (hs.map _).nodup b.ndi, b.ndq, b.ndb, fun k X e => ?_, b.nb, b.nq, b.nw, fun i hi => b.ni i (hs.subset hi), b.nqa, b.nbuf⟩
  · rw [← hg i hi]
    exact ne _ _ (b.hi i (hs.subset hi)) (by intro _ _ e; cases e)
  · rw [Heap.put_ne _ _ (by rintro rfl; rw [b.nw] at e; cases e)]
    exact b.inc k X e
end
end Go.Proofs.Ytekgfneapofgpaa
