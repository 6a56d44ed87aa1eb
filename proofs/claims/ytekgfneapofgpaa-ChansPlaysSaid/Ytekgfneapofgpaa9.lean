/- Contracts of functions that the law reaches. -/
import Derived.Test.Ytekgfneapofgpaa8
set_option linter.unusedSimpArgs false
set_option linter.unusedVariables false
namespace Go.Proofs.Ytekgfneapofgpaa
open Go Go.RowKit Go.Proofs.Ytekgfneapofgpaa Go.Proofs.Ytekgfneapofgpaa.Lift

/-! More on how a board's heap is turned -/
section
variable {h0 h : Heap} {gn : It → Bool} {B : Bo}
theorem mset_new {k v : List PV} {n : Nat} : ∀ {es : List (List PV × List PV × Nat)}, mfind k es = none → mset k v n es = es ++ [(k, v, n)] ∧ mclock k es n = n + 1
  | [], _ => ⟨rfl, rfl⟩
  | e :: es, h => by
    unfold mfind at h
    split at h
    · cases h
    · rename_i hne
      obtain ⟨h1, h2⟩ := mset_new (v := v) (n := n) h
      refine ⟨?_, ?_⟩
      · show (if eqCells k e.1 = true then _ else e :: mset k v n es) = _
        rw [if_neg hne, h1]; rfl
      · unfold mclock at h2 ⊢
        unfold mfind
        rw [if_neg hne]
        exact h2
theorem BOn.addI (b : BOn h0 gn B h) {i : It} (hr : h i.a = none) (hg : gn i = false) : BOn h0 gn { B with items := B.items ++ [i] } (h.put i.a (itC false i)) := by
  have bp := b.put hr (itC false i)
  have n0 : h0 i.a = none := by
    cases e : h0 i.a with
    | none => rfl
    | some X => rw [b.inc _ _ e] at hr; cases hr
  refine ⟨bp.hb, bp.hq, bp.hw, fun x hx => ?_, bp.hqa, bp.hbuf, bp.hcap, fun q hq x hx => List.mem_append_left _ (bp.hsub q hq x hx), ?_, bp.ndq, bp.ndb, bp.inc, bp.nb, bp.nq, bp.nw, fun x hx => ?_, bp.nqa, bp.nbuf⟩
  · rcases List.mem_append.1 hx with hx | hx
    · exact bp.hi x hx
    · obtain rfl : x = i := by simpa using hx
      rw [hg, Heap.put_same]
  · show ((B.items ++ [i]).map It.a).Nodup
    rw [List.map_append, List.nodup_append]
    refine ⟨b.ndi, (by simp), fun a ha c hc => ?_⟩
    obtain ⟨x, hx, rfl⟩ := List.mem_map.1 ha
    obtain rfl : c = i.a := by simpa using hc
    intro e
    rw [← e, b.hi x hx] at hr
    cases hr
  · rcases List.mem_append.1 hx with hx | hx
    · exact bp.ni x hx
    · obtain rfl : x = i := by simpa using hx
      exact n0
/-- A block that is no part of the board goes. -/
theorem BOn.del (b : BOn h0 gn B h) {r cap : Nat} {l : List It} (hr : h r = some (rowC cap l)) (h0r : h0 r = none) (hb : ∀ q ∈ B.qs, q.buf ≠ r) : BOn h0 gn B (h.del r) := by
  have ne : ∀ k X, h k = some X → (∀ c l, X ≠ rowC c l) → h.del r k = some X := fun k X e h1 => by
    rw [Heap.del_ne _ (by rintro rfl; rw [hr] at e; injection e with e; exact h1 _ _ e.symm)]; exact e
  refine ⟨ne _ _ b.hb (by intro _ _ e; cases e), ne _ _ b.hq (by intro _ _ e; cases e), ne _ _ b.hw (by intro _ _ e; cases e), fun i hi => ne _ _ (b.hi i hi) (by intro _ _ e; cases e), fun q hq => ne _ _ (b.hqa q hq) (by intro _ _ e; cases e), fun q hq => ?_, b.hcap, b.hsub, b.ndi, b.ndq, b.ndb, fun k X e => ?_, b.nb, b.nq, b.nw, b.ni, b.nqa, b.nbuf⟩
  · rw [Heap.del_ne _ (hb q hq)]; exact b.hbuf q hq
  · rw [Heap.del_ne _ (by rintro rfl; rw [h0r] at e; cases e)]; exact b.inc k X e
theorem BOn.tick (b : BOn h0 gn B h) : BOn h0 gn { B with time := B.time + 1 } (h.put B.rb (boC { B with time := B.time + 1 })) := by
  have hb0 := b.hb
  have ne : ∀ k X, h k = some X → (∀ B', X ≠ boC B') → h.put B.rb (boC { B with time := B.time + 1 }) k = some X := fun k X e h1 => by
    rw [Heap.put_ne _ _ (by rintro rfl; rw [hb0] at e; injection e with e; exact h1 _ e.symm)]; exact e
  refine ⟨Heap.put_same _ _ _, ne _ _ b.hq (by intro _ e; cases e), ne _ _ b.hw (by intro _ e; cases e), fun i hi => ne _ _ (b.hi i hi) (by intro _ e; cases e), fun q hq => ne _ _ (b.hqa q hq) (by intro _ e; cases e), fun q hq => ne _ _ (b.hbuf q hq) (by intro _ e; cases e), b.hcap, b.hsub, b.ndi, b.ndq, b.ndb, fun k X e => ?_, b.nb, b.nq, b.nw, b.ni, b.nqa, b.nbuf⟩
  rw [Heap.put_ne _ _ (by rintro rfl; rw [b.nb] at e; cases e)]; exact b.inc k X e
theorem BOn.addP (b : BOn h0 gn B h) (pr : Pr) : BOn h0 gn { B with ps := B.ps ++ [pr], nw := B.nw + 1 } (h.put B.rw (.gmap false false (wEs (B.ps ++ [pr])) (B.nw + 1))) := by
  have ne : ∀ k X, h k = some X → (∀ es n, X ≠ .gmap false false es n) → h.put B.rw (.gmap false false (wEs (B.ps ++ [pr])) (B.nw + 1)) k = some X := fun k X e h1 => by
    rw [Heap.put_ne _ _ (by rintro rfl; rw [b.hw] at e; injection e with e; exact h1 _ _ e.symm)]; exact e
  refine ⟨ne _ _ b.hb (by intro _ _ e; cases e), ne _ _ b.hq (by intro _ _ e; cases e), Heap.put_same _ _ _, fun i hi => ne _ _ (b.hi i hi) (by intro _ _ e; cases e), fun q hq => ne _ _ (b.hqa q hq) (by intro _ _ e; cases e), fun q hq => ne _ _ (b.hbuf q hq) (by intro _ _ e; cases e), b.hcap, b.hsub, b.ndi, b.ndq, b.ndb, fun k X e => ?_, b.nb, b.nq, b.nw, b.ni, b.nqa, b.nbuf⟩
  rw [Heap.put_ne _ _ (by rintro rfl; rw [b.nw] at e; cases e)]; exact b.inc k X e
/-- A new queue with one item: its block, its key, its row. -/
theorem BOn.newQ (b : BOn h0 gn B h) {q : Qu} {x : It} {v : PV} (hx : x ∈ B.items) (hl : q.l = [x]) (hc : 1 ≤ q.cap ∧ q.cap ≤ maxLen) (hqa : h q.qa = none)
    (hbuf : ((h.put q.qa (.cells 67 1 [v])).put B.rq (.gmap true false (qEs (B.qs ++ [q])) (B.nq + 1))) q.buf = none) :
    BOn h0 gn { B with qs := B.qs ++ [q], nq := B.nq + 1 } ((((h.put q.qa (.cells 67 1 [v])).put B.rq (.gmap true false (qEs (B.qs ++ [q])) (B.nq + 1))).put q.buf (rowC q.cap [x])).put q.qa (quC q.buf [x].length q.cap)) := by
  have hb1 : q.buf ≠ B.rq := by rintro e; rw [e, Heap.put_same] at hbuf; cases hbuf
  have hb2 : q.buf ≠ q.qa := by
    intro e
    rw [Heap.put_ne _ _ hb1, e, Heap.put_same] at hbuf
    cases hbuf
  have hb3 : h q.buf = none := by rw [Heap.put_ne _ _ hb1, Heap.put_ne _ _ hb2] at hbuf; exact hbuf
  have hqr : q.qa ≠ B.rq := by rintro e; rw [e, b.hq] at hqa; cases hqa
  have n0 : ∀ k, h k = none → h0 k = none := fun k hk => by
    cases e : h0 k with
    | none => rfl
    | some X => rw [b.inc _ _ e] at hk; cases hk
  have ne : ∀ k X, h k = some X → (∀ es n, X ≠ .gmap true false es n) → ((((h.put q.qa (.cells 67 1 [v])).put B.rq (.gmap true false (qEs (B.qs ++ [q])) (B.nq + 1))).put q.buf (rowC q.cap [x])).put q.qa (quC q.buf [x].length q.cap)) k = some X := fun k X e h1 => by
    have k1 : k ≠ q.qa := by rintro rfl; rw [hqa] at e; cases e
    have k2 : k ≠ q.buf := by rintro rfl; rw [hb3] at e; cases e
    have k3 : k ≠ B.rq := by rintro rfl; rw [b.hq] at e; injection e with e; exact h1 _ _ e.symm
    rw [Heap.put_ne _ _ k1, Heap.put_ne _ _ k2, Heap.put_ne _ _ k3, Heap.put_ne _ _ k1]; exact e
  refine ⟨ne _ _ b.hb (by intro _ _ e; cases e), ?_, ne _ _ b.hw (by intro _ _ e; cases e), fun i hi => ne _ _ (b.hi i hi) (by intro _ _ e; cases e), fun y hy => ?_, fun y hy => ?_, fun y hy => ?_, fun y hy i hi => ?_, b.ndi, ?_, ?_, fun k X e => ?_, b.nb, b.nq, b.nw, b.ni, fun y hy => ?_, fun y hy => ?_⟩
  · rw [Heap.put_ne _ _ (fun e => hqr e.symm), Heap.put_ne _ _ (fun e => hb1 e.symm), Heap.put_same]
  · rcases List.mem_append.1 hy with hy | hy
    · exact ne _ _ (b.hqa y hy) (by intro _ _ e; cases e)
    · obtain rfl : y = q := by simpa using hy
      rw [Heap.put_same, hl]
  · rcases List.mem_append.1 hy with hy | hy
    · exact ne _ _ (b.hbuf y hy) (by intro _ _ e; cases e)
    · obtain rfl : y = q := by simpa using hy
      rw [Heap.put_ne _ _ hb2, Heap.put_same, hl]
  · rcases List.mem_append.1 hy with hy | hy
    · exact b.hcap y hy
    · obtain rfl : y = q := by simpa using hy
      rw [hl]; exact hc
  · rcases List.mem_append.1 hy with hy | hy
    · exact b.hsub y hy i hi
    · obtain rfl : y = q := by simpa using hy
      rw [hl] at hi
      obtain rfl : i = x := by simpa using hi
      exact hx
  · show ((B.qs ++ [q]).map Qu.qa).Nodup
    rw [List.map_append, List.nodup_append]
    refine ⟨b.ndq, (by simp), fun a ha c hc => ?_⟩
    obtain ⟨y, hy, rfl⟩ := List.mem_map.1 ha
    obtain rfl : c = q.qa := by simpa using hc
    intro e
    rw [← e, b.hqa y hy] at hqa
    cases hqa
  · show ((B.qs ++ [q]).map Qu.buf).Nodup
    rw [List.map_append, List.nodup_append]
    refine ⟨b.ndb, (by simp), fun a ha c hc => ?_⟩
    obtain ⟨y, hy, rfl⟩ := List.mem_map.1 ha
    obtain rfl : c = q.buf := by simpa using hc
    intro e
    rw [← e, b.hbuf y hy] at hb3
    cases hb3
  · have k1 : k ≠ q.qa := by rintro rfl; rw [n0 _ hqa] at e; cases e
    have k2 : k ≠ q.buf := by rintro rfl; rw [n0 _ hb3] at e; cases e
    have k3 : k ≠ B.rq := by rintro rfl; rw [b.nq] at e; cases e
    rw [Heap.put_ne _ _ k1, Heap.put_ne _ _ k2, Heap.put_ne _ _ k3, Heap.put_ne _ _ k1]
    exact b.inc k X e
  · rcases List.mem_append.1 hy with hy | hy
    · exact b.nqa y hy
    · obtain rfl : y = q := by simpa using hy
      exact n0 _ hqa
  · rcases List.mem_append.1 hy with hy | hy
    · exact b.nbuf y hy
    · obtain rfl : y = q := by simpa using hy
      exact n0 _ hb3
end
/-- While a process begins to wait: its first offers lie in their queues. -/
structure WInv (B : Bo) : Prop where
  kn : (B.qs.map fun q => (q.ch, q.sd)).Nodup
  kf : ∀ q ∈ B.qs, q.l ≠ [] ∧ q.l = fil B.items q.ch q.sd
  kx : ∀ i ∈ B.items, ∃ q ∈ B.qs, q.ch = i.ch ∧ q.sd = i.sd
theorem fil_snoc (l : List It) (i : It) (c : Int) (s : Bool) : fil (l ++ [i]) c s = if i.ch = c ∧ i.sd = s then fil l c s ++ [i] else fil l c s := by
  unfold fil
  rw [List.filter_append]
  by_cases h : i.ch = c ∧ i.sd = s
  · rw [if_pos h]
    obtain ⟨rfl, rfl⟩ := h
    simp
  · rw [if_neg h]
    have : (i.ch == c && i.sd == s) = false := by
      rw [← Bool.not_eq_true]; simpa using h
    simp [this]
theorem WInv.old {B : Bo} (v : WInv B) (hnd : (B.qs.map Qu.qa).Nodup) {i : It} {q : Qu} (hq : q ∈ B.qs) (hk : q.ch = i.ch ∧ q.sd = i.sd) (buf cap : Nat) :
    WInv { B with items := B.items ++ [i], qs := setQ q.qa (q.l ++ [i]) buf cap B.qs } := by
  have same : ∀ y ∈ B.qs, y.qa = q.qa → y = q := fun y hy e => inj_of_nodup hnd hy hq e
  refine ⟨by show (List.map _ (setQ _ _ _ _ _)).Nodup; rw [setQ_keys]; exact v.kn, fun x hx => ?_, fun j hj => ?_⟩
  · rcases setQ_mem hx with ⟨y, hy, e, rfl⟩ | ⟨hx, e⟩
    · obtain rfl := same y hy e
      refine ⟨by simp, ?_⟩
      show y.l ++ [i] = fil (B.items ++ [i]) y.ch y.sd
      rw [fil_snoc, if_pos ⟨hk.1.symm, hk.2.symm⟩, ← (v.kf y hy).2]
    · refine ⟨(v.kf x hx).1, ?_⟩
      show x.l = fil (B.items ++ [i]) x.ch x.sd
      rw [fil_snoc, if_neg, ← (v.kf x hx).2]
      rintro ⟨e1, e2⟩
      exact e (by rw [inj_of_nodup v.kn hx hq (by show (_, _) = (_, _); rw [hk.1, hk.2, e1, e2])])
  · have : ∃ x ∈ B.qs, x.ch = j.ch ∧ x.sd = j.sd := by
      rcases List.mem_append.1 hj with hj | hj
      · exact v.kx j hj
      · obtain rfl : j = i := by simpa using hj
        exact ⟨q, hq, hk⟩
    obtain ⟨x, hx, h1, h2⟩ := this
    by_cases e : x.qa = q.qa
    · exact ⟨{ x with l := q.l ++ [i], buf := buf, cap := cap }, List.mem_map.2 ⟨x, hx, by rw [if_pos e]⟩, h1, h2⟩
    · exact ⟨x, List.mem_map.2 ⟨x, hx, by rw [if_neg e]⟩, h1, h2⟩
theorem WInv.new {B : Bo} (v : WInv B) {i : It} {q : Qu} (hk : q.ch = i.ch ∧ q.sd = i.sd) (hl : q.l = [i]) (hq : qOf B.qs i.ch i.sd = none) (n : Nat) :
    WInv { B with items := B.items ++ [i], qs := B.qs ++ [q], nq := n } := by
  have no : ∀ x ∈ B.qs, ¬(x.ch = i.ch ∧ x.sd = i.sd) := fun x hx e => by
    have := List.find?_eq_none.1 hq x hx
    rw [e.1, e.2] at this
    simp at this
  refine ⟨?_, fun x hx => ?_, fun j hj => ?_⟩
  · show ((B.qs ++ [q]).map fun q => (q.ch, q.sd)).Nodup
    rw [List.map_append, List.nodup_append]
    refine ⟨v.kn, (by simp), fun a ha c hc => ?_⟩
    obtain ⟨y, hy, rfl⟩ := List.mem_map.1 ha
    obtain rfl : c = (q.ch, q.sd) := by simpa using hc
    intro e
    injection e with e1 e2
    exact no y hy ⟨by rw [e1, hk.1], by rw [e2, hk.2]⟩
  · rcases List.mem_append.1 hx with hx | hx
    · refine ⟨(v.kf x hx).1, ?_⟩
      show x.l = fil (B.items ++ [i]) x.ch x.sd
      rw [fil_snoc, if_neg (fun e => no x hx ⟨e.1.symm, e.2.symm⟩)]
      exact (v.kf x hx).2
    · obtain rfl : x = q := by simpa using hx
      refine ⟨by rw [hl]; simp, ?_⟩
      show x.l = fil (B.items ++ [i]) x.ch x.sd
      rw [fil_snoc, if_pos ⟨hk.1.symm, hk.2.symm⟩, hl]
      have : fil B.items x.ch x.sd = [] := by
        unfold fil
        rw [List.filter_eq_nil_iff]
        intro j hj e
        obtain ⟨y, hy, h1, h2⟩ := v.kx j hj
        have e : j.ch = x.ch ∧ j.sd = x.sd := by simpa using e
        exact no y hy ⟨by rw [h1, e.1, hk.1], by rw [h2, e.2, hk.2]⟩
      rw [this]; rfl
  · rcases List.mem_append.1 hj with hj | hj
    · obtain ⟨x, hx, h⟩ := v.kx j hj
      exact ⟨x, List.mem_append_left _ hx, h⟩
    · obtain rfl : j = i := by simpa using hj
      exact ⟨q, List.mem_append_right _ (List.mem_singleton.2 rfl), hk⟩
end Go.Proofs.Ytekgfneapofgpaa
