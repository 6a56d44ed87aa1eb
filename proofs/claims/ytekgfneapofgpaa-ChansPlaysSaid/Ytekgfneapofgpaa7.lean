/- Contracts of functions that the law reaches. -/
import Derived.Test.Ytekgfneapofgpaa6
set_option linter.unusedSimpArgs false
set_option linter.unusedVariables false
namespace Go.Proofs.Ytekgfneapofgpaa
open Go Go.RowKit Go.Proofs.Ytekgfneapofgpaa Go.Proofs.Ytekgfneapofgpaa.Lift

/-! What a board is between calls -/
def fil (l : List It) (c : Int) (s : Bool) : List It := l.filter fun i => i.ch == c && i.sd == s
structure WF (B : Bo) : Prop where
  kn : (B.qs.map fun q => (q.ch, q.sd)).Nodup
  kf : ∀ q ∈ B.qs, q.l ≠ [] ∧ q.l = fil B.items q.ch q.sd
  kx : ∀ i ∈ B.items, ∃ q ∈ B.qs, q.ch = i.ch ∧ q.sd = i.sd
  it : B.items = B.ps.flatMap Pr.its
  pn : (B.ps.map Pr.pid).Nodup
  pi : ∀ p ∈ B.ps, ∀ i ∈ p.its, i.pid = p.pid
  ar : ∀ p ∈ B.ps, p.its.map It.arm = List.range p.its.length
  si : ∀ p ∈ B.ps, ∃ s, s < B.time ∧ ∀ i ∈ p.its, i.since = s
  so : B.ps.Pairwise fun p q => ∀ i ∈ p.its, ∀ j ∈ q.its, i.since < j.since
  bw : ∀ p ∈ B.ps, p.born < B.nw
  bn : (B.ps.map Pr.born).Nodup
def noG : It → Bool := fun _ => false

def sWaits (h0 : Heap) (gn : It → Bool) (B : Bo) : List PV → Heap → Prop × PV × Heap
  | [.val (.pointer (some ⟨a, 0, none⟩)), .int .i64 p], h => (a = B.rb ∧ BOn h0 gn B h, .bool (pOf B.ps p).isSome, h)
  | _, h => HBad h
noncomputable def eWaits (h0 : Heap) (gn : It → Bool) (B : Bo) : SpecH env := ⟨11, sWaits h0 gn B, fun args h hc => by
  unfold sWaits at hc ⊢
  split at hc
  · rename_i a p
    obtain ⟨rfl, hb⟩ := hc
    exact Waits_ok p hb
  · exact hc.elim⟩
/-- While a process leaves: its items were taken back; 'done' of them have had their queues tidied. -/
structure QInv (gn : It → Bool) (B : Bo) (done : List It) : Prop where
  kn : (B.qs.map fun q => (q.ch, q.sd)).Nodup
  kf : ∀ q ∈ B.qs, q.l ≠ [] ∧ (q.l = fil B.items q.ch q.sd ∨ q.l = keepS gn (fil B.items q.ch q.sd))
  kd : ∀ q ∈ B.qs, (∃ i ∈ done, i.ch = q.ch ∧ i.sd = q.sd) → q.l = keepS gn (fil B.items q.ch q.sd)
  kx : ∀ i ∈ B.items, gn i = false → ∃ q ∈ B.qs, q.ch = i.ch ∧ q.sd = i.sd
theorem keep_keep (gn : It → Bool) (l : List It) : keepS gn (keepS gn l) = keepS gn l := by
  unfold keepS
  rw [List.filter_filter]
  simp
theorem q_inj {gn : It → Bool} {B : Bo} {done : List It} (v : QInv gn B done) {x y : Qu} (hx : x ∈ B.qs) (hy : y ∈ B.qs) (h1 : x.ch = y.ch) (h2 : x.sd = y.sd) : x = y :=
  inj_of_nodup v.kn hx hy (by show (_, _) = (_, _); rw [h1, h2])
/-- The queue of an item is tidied, and is not empty then. -/
theorem QInv.kept {h0 h : Heap} {gn g0 : It → Bool} {B : Bo} {done : List It} (v : QInv gn B done) (b : BOn h0 g0 B h) {i : It} {q : Qu} (hq : q ∈ B.qs) (hk : q.ch = i.ch ∧ q.sd = i.sd) (hne : keepS gn q.l ≠ []) :
    QInv gn { B with qs := setQ q.qa (keepS gn q.l) q.buf q.cap B.qs } (done ++ [i]) := by
  have e : (setQ q.qa (keepS gn q.l) q.buf q.cap B.qs).map (fun q => (q.ch, q.sd)) = B.qs.map fun q => (q.ch, q.sd) := by
    unfold setQ
    rw [List.map_map]
    refine List.map_congr_left fun x _ => ?_
    simp only [Function.comp]
    split <;> rfl
  have hl : keepS gn q.l = keepS gn (fil B.items q.ch q.sd) := by
    rcases (v.kf q hq).2 with e | e <;> rw [e]
    rw [keep_keep]
  have same : ∀ y ∈ B.qs, y.qa = q.qa → y = q := fun y hy e => inj_of_nodup b.ndq hy hq e
  refine ⟨by show (List.map _ (setQ _ _ _ _ _)).Nodup; rw [e]; exact v.kn, fun x hx => ?_, fun x hx hd => ?_, fun j hj hg => ?_⟩
  · rcases setQ_mem hx with ⟨y, hy, e, rfl⟩ | ⟨hx, e⟩
    · obtain rfl := same y hy e
      exact ⟨hne, .inr hl⟩
    · exact v.kf x hx
  · rcases setQ_mem hx with ⟨y, hy, e, rfl⟩ | ⟨hx, e⟩
    · obtain rfl := same y hy e
      exact hl
    · obtain ⟨j, hj, h1, h2⟩ := hd
      rcases List.mem_append.1 hj with hj | hj
      · exact v.kd x hx ⟨j, hj, h1, h2⟩
      · obtain rfl : j = i := by simpa using hj
        exact absurd (by rw [q_inj v hx hq (by rw [hk.1, h1]) (by rw [hk.2, h2])]) e
  · obtain ⟨x, hx, h1, h2⟩ := v.kx j hj hg
    by_cases e : x.qa = q.qa
    · exact ⟨{ x with l := keepS gn q.l, buf := q.buf, cap := q.cap }, List.mem_map.2 ⟨x, hx, by rw [if_pos e]⟩, h1, h2⟩
    · exact ⟨x, List.mem_map.2 ⟨x, hx, by rw [if_neg e]⟩, h1, h2⟩
theorem delQ_mem {c : Int} {s : Bool} {qs : List Qu} {x : Qu} (hn : (qs.map fun q => (q.ch, q.sd)).Nodup) : x ∈ delQ c s qs ↔ x ∈ qs ∧ ¬(x.ch = c ∧ x.sd = s) := by
  induction qs with
  | nil => simp [delQ]
  | cons y qs ih =>
    rw [List.map_cons, List.nodup_cons] at hn
    unfold delQ at ih ⊢
    rw [List.eraseP_cons]
    by_cases hy : (y.ch == c && y.sd == s) = true
    · rw [hy, cond_true]
      have hy' : y.ch = c ∧ y.sd = s := by simpa using hy
      constructor
      · intro hx
        refine ⟨List.mem_cons_of_mem _ hx, fun e => hn.1 ?_⟩
        refine List.mem_map.2 ⟨x, hx, ?_⟩
        show (x.ch, x.sd) = (y.ch, y.sd)
        rw [e.1, e.2, hy'.1, hy'.2]
      · rintro ⟨hx, e⟩
        rcases List.mem_cons.1 hx with rfl | hx
        · exact absurd hy' e
        · exact hx
    · have hy' : ¬(y.ch = c ∧ y.sd = s) := by simpa using hy
      rw [Bool.not_eq_true] at hy
      rw [hy, cond_false]
      rw [List.mem_cons, List.mem_cons, ih hn.2]
      constructor
      · rintro (rfl | ⟨h1, h2⟩)
        · exact ⟨.inl rfl, hy'⟩
        · exact ⟨.inr h1, h2⟩
      · rintro ⟨rfl | h1, h2⟩
        · exact .inl rfl
        · exact .inr ⟨h1, h2⟩
theorem setQ_keys (qa : Nat) (l : List It) (buf cap : Nat) (qs : List Qu) : (setQ qa l buf cap qs).map (fun q => (q.ch, q.sd)) = qs.map fun q => (q.ch, q.sd) := by
  unfold setQ
  rw [List.map_map]
  refine List.map_congr_left fun x _ => ?_
  simp only [Function.comp]
  split <;> rfl
/-- The queue of an item is tidied, is empty then, and is deleted. -/
theorem QInv.gone {h0 h : Heap} {gn g0 : It → Bool} {B : Bo} {done : List It} (v : QInv gn B done) (b : BOn h0 g0 B h) {i : It} {q : Qu} (hq : q ∈ B.qs) (hk : q.ch = i.ch ∧ q.sd = i.sd) (hne : keepS gn q.l = []) :
    QInv gn { B with qs := delQ i.ch i.sd (setQ q.qa (keepS gn q.l) q.buf q.cap B.qs) } (done ++ [i]) := by
  have hn : ((setQ q.qa (keepS gn q.l) q.buf q.cap B.qs).map fun q => (q.ch, q.sd)).Nodup := by rw [setQ_keys]; exact v.kn
  have hl : keepS gn (fil B.items q.ch q.sd) = [] := by
    rw [← hne]
    rcases (v.kf q hq).2 with e | e <;> rw [e]
    rw [keep_keep]
  have old : ∀ x ∈ delQ i.ch i.sd (setQ q.qa (keepS gn q.l) q.buf q.cap B.qs), x ∈ B.qs ∧ ¬(x.ch = i.ch ∧ x.sd = i.sd) := fun x hx => by
    obtain ⟨h1, h2⟩ := (delQ_mem hn).1 hx
    rcases setQ_mem h1 with ⟨y, hy, e, rfl⟩ | ⟨hx, e⟩
    · obtain rfl : y = q := inj_of_nodup b.ndq hy hq e
      exact absurd hk h2
    · exact ⟨hx, h2⟩
  refine ⟨?_, fun x hx => v.kf x (old x hx).1, fun x hx hd => ?_, fun j hj hg => ?_⟩
  · exact ((List.eraseP_sublist (p := fun q : Qu => q.ch == i.ch && q.sd == i.sd)).map _).nodup hn
  · obtain ⟨j, hj, h1, h2⟩ := hd
    rcases List.mem_append.1 hj with hj | hj
    · exact v.kd x (old x hx).1 ⟨j, hj, h1, h2⟩
    · obtain rfl : j = i := by simpa using hj
      exact absurd ⟨h1.symm, h2.symm⟩ (old x hx).2
  · obtain ⟨x, hx, h1, h2⟩ := v.kx j hj hg
    have hx2 : ¬(x.ch = i.ch ∧ x.sd = i.sd) := by
      rintro ⟨e1, e2⟩
      have : j ∈ keepS gn (fil B.items q.ch q.sd) := by
        unfold keepS fil
        rw [List.mem_filter, List.mem_filter]
        refine ⟨⟨hj, ?_⟩, by rw [hg]; rfl⟩
        rw [hk.1, hk.2, ← h1, ← h2, e1, e2]
        simp
      rw [hl] at this
      cases this
    have e : x.qa ≠ q.qa := fun e => hx2 (by rw [inj_of_nodup b.ndq hx hq e]; exact hk)
    exact ⟨x, (delQ_mem hn).2 ⟨List.mem_map.2 ⟨x, hx, by rw [if_neg e]⟩, hx2⟩, h1, h2⟩
/-- An item whose queue is gone. -/
theorem QInv.none {gn : It → Bool} {B : Bo} {done : List It} (v : QInv gn B done) {i : It} (hq : qOf B.qs i.ch i.sd = .none) : QInv gn B (done ++ [i]) := by
  refine ⟨v.kn, v.kf, fun x hx hd => ?_, v.kx⟩
  obtain ⟨j, hj, h1, h2⟩ := hd
  rcases List.mem_append.1 hj with hj | hj
  · exact v.kd x hx ⟨j, hj, h1, h2⟩
  · obtain rfl : j = i := by simpa using hj
    have := List.find?_eq_none.1 hq x hx
    rw [h1, h2] at this
    simp at this
theorem WF.start {B : Bo} (w : WF B) (gn : It → Bool) : QInv gn B [] :=
  ⟨w.kn, fun q hq => ⟨(w.kf q hq).1, .inl (w.kf q hq).2⟩, (fun q hq ⟨i, hi, _⟩ => nomatch hi), fun i hi _ => w.kx i hi⟩
theorem pid_uniq {B : Bo} (w : WF B) {x : Pr} (hx : x ∈ B.ps) {i : It} (hi : i ∈ B.items) (e : i.pid = x.pid) : i ∈ x.its := by
  rw [w.it] at hi
  obtain ⟨y, hy, hi⟩ := List.mem_flatMap.1 hi
  have := w.pi y hy i hi
  rw [inj_of_nodup w.pn hx hy (by rw [← e, this])]
  exact hi
theorem delP_mem {p : Int} {ps : List Pr} {x : Pr} (hn : (ps.map Pr.pid).Nodup) : x ∈ delP p ps ↔ x ∈ ps ∧ x.pid ≠ p := by
  induction ps with
  | nil => simp [delP]
  | cons y qs ih =>
    rw [List.map_cons, List.nodup_cons] at hn
    unfold delP at ih ⊢
    rw [List.eraseP_cons]
    by_cases hy : (y.pid == p) = true
    · rw [hy, cond_true]
      have hy' : y.pid = p := by simpa using hy
      constructor
      · intro hx
        exact ⟨List.mem_cons_of_mem _ hx, fun e => hn.1 (List.mem_map.2 ⟨x, hx, by rw [e, hy']⟩)⟩
      · rintro ⟨hx, e⟩
        rcases List.mem_cons.1 hx with rfl | hx
        · exact absurd hy' e
        · exact hx
    · have hy' : y.pid ≠ p := by simpa using hy
      rw [Bool.not_eq_true] at hy
      rw [hy, cond_false, List.mem_cons, List.mem_cons, ih hn.2]
      constructor
      · rintro (rfl | ⟨h1, h2⟩)
        · exact ⟨.inl rfl, hy'⟩
        · exact ⟨.inr h1, h2⟩
      · rintro ⟨rfl | h1, h2⟩
        · exact .inl rfl
        · exact .inr ⟨h1, h2⟩
theorem delP_items {p : Int} {ps : List Pr} (hn : (ps.map Pr.pid).Nodup) (hpi : ∀ x ∈ ps, ∀ i ∈ x.its, i.pid = x.pid) : (delP p ps).flatMap Pr.its = keepS (fun i => i.pid == p) (ps.flatMap Pr.its) := by
  induction ps with
  | nil => rfl
  | cons y qs ih =>
    rw [List.map_cons, List.nodup_cons] at hn
    have hq := fun x hx => hpi x (List.mem_cons_of_mem _ hx)
    have hy0 := hpi y (List.mem_cons_self ..)
    unfold delP at ih ⊢
    have ih := ih hn.2 hq
    unfold keepS at ih ⊢
    rw [List.eraseP_cons, List.flatMap_cons, List.filter_append]
    by_cases hy : (y.pid == p) = true
    · have hy' : y.pid = p := by simpa using hy
      rw [hy, cond_true, List.filter_eq_nil_iff.2 (fun i hi => by show ¬ (!(i.pid == p)) = true; rw [hy0 i hi, hy']; simp), List.nil_append]
      symm
      rw [List.filter_eq_self]
      intro i hi
      obtain ⟨x, hx, hi⟩ := List.mem_flatMap.1 hi
      have e := hq x hx i hi
      have : x.pid ≠ p := fun e2 => hn.1 (List.mem_map.2 ⟨x, hx, by rw [e2, hy']⟩)
      show (!(i.pid == p)) = true
      rw [e]
      simpa using this
    · have hy' : y.pid ≠ p := by simpa using hy
      rw [Bool.not_eq_true] at hy
      have e : y.its.filter (fun i => !(fun i : It => i.pid == p) i) = y.its := List.filter_eq_self.2 (fun i hi => by show (!(i.pid == p)) = true; rw [hy0 i hi, hy]; rfl)
      rw [hy, cond_false, List.flatMap_cons, ih, e]
theorem fil_keep (gn : It → Bool) (l : List It) (c : Int) (s : Bool) : fil (keepS gn l) c s = keepS gn (fil l c s) := by
  unfold fil keepS
  rw [List.filter_filter, List.filter_filter]
  congr 1
  funext i
  exact Bool.and_comm ..
/-- When all queues of a process's items have been tidied. -/
theorem WF.left {B B' : Bo} (w : WF B) {x : Pr} (hx : x ∈ B.ps) (v : QInv (fun i => i.pid == x.pid) B' x.its) (e1 : B'.items = B.items) (e2 : B'.ps = B.ps) (e3 : B'.time = B.time) (e4 : B'.nw = B.nw) :
    WF { B' with ps := delP x.pid B.ps, items := keepS (fun i => i.pid == x.pid) B.items } ∧ ∀ q ∈ B'.qs, q.l = fil (keepS (fun i => i.pid == x.pid) B.items) q.ch q.sd := by
  have hl : ∀ q ∈ B'.qs, q.l = fil (keepS (fun i => i.pid == x.pid) B.items) q.ch q.sd := fun q hq => by
    rw [fil_keep]
    have v2 := v.kd q hq
    have v3 := (v.kf q hq).2
    rw [e1] at v2 v3
    rcases v3 with e | e
    · by_cases hd : ∃ i ∈ x.its, i.ch = q.ch ∧ i.sd = q.sd
      · exact v2 hd
      · rw [e]
        symm
        unfold keepS
        rw [List.filter_eq_self]
        intro i hi
        unfold fil at hi
        obtain ⟨h1, h2⟩ := List.mem_filter.1 hi
        have h2 : i.ch = q.ch ∧ i.sd = q.sd := by simpa using h2
        have : i.pid ≠ x.pid := fun e => hd ⟨i, pid_uniq w hx h1 e, h2⟩
        simpa using this
    · exact e
  have sl : (delP x.pid B.ps).Sublist B.ps := List.eraseP_sublist
  refine ⟨⟨v.kn, fun q hq => ⟨(v.kf q hq).1, hl q hq⟩, fun i hi => ?_, ?_, (sl.map _).nodup w.pn, fun p hp => w.pi p (sl.subset hp), fun p hp => w.ar p (sl.subset hp), fun p hp => ?_, w.so.sublist sl, fun p hp => ?_, (sl.map _).nodup w.bn⟩, hl⟩
  · obtain ⟨h1, h2⟩ := List.mem_filter.1 hi
    exact v.kx i (by rw [e1]; exact h1) (by simpa using h2)
  · show keepS _ B.items = _
    rw [w.it]
    exact (delP_items w.pn w.pi).symm
  · show ∃ s, s < B'.time ∧ _
    rw [e3]
    exact w.si p (sl.subset hp)
  · show p.born < B'.nw
    rw [e4]
    exact w.bw p (sl.subset hp)
end Go.Proofs.Ytekgfneapofgpaa
