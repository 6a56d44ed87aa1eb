/- Contracts of functions that the law reaches. -/
import Derived.Test.Ytekgfneapofgpaap
import Derived.Test.YtekgfneapofgpaaLiftF
set_option linter.unusedSimpArgs false
set_option linter.unusedVariables false
namespace Go.Proofs.Ytekgfneapofgpaa
open Go Go.RowKit Go.Proofs.Ytekgfneapofgpaa Go.Proofs.Ytekgfneapofgpaa.Lift

/-! The reference's board: who owns it -/
def RowIn (h0 h : Heap) (t : TypeId) (sz : Nat) (xs : List (List PV)) (v : PV) : Prop :=
  ∃ A cap, v = .val (.slice A xs.length cap) ∧ xs.length ≤ cap ∧ cap ≤ maxLen ∧ (∀ x ∈ xs, x.length = sz) ∧ ((A = none ∧ xs = [] ∧ cap = 0) ∨ ∃ r, A = some ⟨r, 0, none⟩ ∧ h r = some (.cells t (cap * sz) xs.flatten) ∧ h0 r = none)
theorem RowIn.at {h0 h h' : Heap} {t : TypeId} {sz : Nat} {xs : List (List PV)} {v : PV} (k : RowIn h0 h t sz xs v) (i : Inc h h') : RowAt h' t sz xs v := by
  obtain ⟨A, c, e1, e2, e3, e4, e5⟩ := k
  exact ⟨A, c, e1, e2, e3, e4, e5.imp id fun ⟨r, a, b, _⟩ => ⟨r, a, i _ _ b⟩⟩
theorem RowIn.keep {h0 h h' : Heap} {t : TypeId} {sz : Nat} {xs : List (List PV)} {v : PV} (k : RowIn h0 h t sz xs v) (i : ∀ r cs n, h r = some (.cells t n cs) → h' r = some (.cells t n cs)) : RowIn h0 h' t sz xs v := by
  obtain ⟨A, c, e1, e2, e3, e4, e5⟩ := k
  exact ⟨A, c, e1, e2, e3, e4, e5.imp id fun ⟨r, a, b, d⟩ => ⟨r, a, i _ _ _ b, d⟩⟩
def RefOn (h0 : Heap) (m : Nat) (ps : List Int) (es : List It) (hA : Heap) : Prop :=
  ∃ v1 v2, hA m = some (.cells 47 2 [v1, v2]) ∧ h0 m = none ∧ RowIn h0 hA 3 1 (elP ps) v1 ∧ RowIn h0 hA 78 4 (elE es) v2 ∧ Inc h0 hA
theorem RefOn.rd {h0 hA h : Heap} {m : Nat} {ps : List Int} {es : List It} (r : RefOn h0 m ps es hA) (i : Inc hA h) : Rd m ps es h := by
  obtain ⟨v1, v2, hm, _, r1, r2, _⟩ := r
  exact ⟨v1, v2, i _ _ hm, r1.at i, r2.at i⟩
theorem incFresh {h0 h : Heap} (i : Inc h0 h) {q : Nat} (hq : h q = none) : h0 q = none := by
  cases e : h0 q with
  | none => rfl
  | some X => rw [i _ _ e] at hq; cases hq
theorem incTrans {a b c : Heap} (i : Inc a b) (j : Inc b c) : Inc a c := fun k X e => j k X (i k X e)
theorem RefOn.over {h0 hA : Heap} {m : Nat} {ps : List Int} {es : List It} (r : RefOn h0 m ps es hA) {q : Nat} (hq : hA q = none) (X : AObj) : RefOn (h0.put q X) m ps es (hA.put q X) := by
  obtain ⟨v1, v2, hm, h0m, r1, r2, i⟩ := r
  have hmq : m ≠ q := by rintro rfl; rw [hq] at hm; cases hm
  have row : ∀ {t sz xs v}, RowIn h0 hA t sz xs v → RowIn (h0.put q X) (hA.put q X) t sz xs v := fun k => by
    obtain ⟨A, c, e1, e2, e3, e4, e5⟩ := k
    refine ⟨A, c, e1, e2, e3, e4, e5.imp id fun ⟨r, a, b, d⟩ => ?_⟩
    have : r ≠ q := by rintro rfl; rw [hq] at b; cases b
    exact ⟨r, a, by rw [Heap.put_ne _ _ this]; exact b, by rw [Heap.put_ne _ _ this]; exact d⟩
  refine ⟨v1, v2, by rw [Heap.put_ne _ _ hmq]; exact hm, by rw [Heap.put_ne _ _ hmq]; exact h0m, row r1, row r2, fun k Y e => ?_⟩
  by_cases hk : k = q
  · subst hk; rw [Heap.put_same] at e ⊢; exact e
  · rw [Heap.put_ne _ _ hk] at e ⊢; exact i _ _ e
theorem RefOn.weak {h0 h1 hA : Heap} {m : Nat} {ps : List Int} {es : List It} (r : RefOn h1 m ps es hA) (j : Inc h0 h1) : RefOn h0 m ps es hA := by
  obtain ⟨v1, v2, hm, h0m, r1, r2, i⟩ := r
  have row : ∀ {t sz xs v}, RowIn h1 hA t sz xs v → RowIn h0 hA t sz xs v := fun k => by
    obtain ⟨A, c, e1, e2, e3, e4, e5⟩ := k
    exact ⟨A, c, e1, e2, e3, e4, e5.imp id fun ⟨r, a, b, d⟩ => ⟨r, a, b, incFresh j d⟩⟩
  exact ⟨v1, v2, hm, incFresh j h0m, row r1, row r2, incTrans j i⟩
/-- A block of the base is let go. -/
theorem BOn.delBase {h0 h : Heap} {gn : It → Bool} {B : Bo} (b : BOn h0 gn B h) {r : Nat} (k : h0 r ≠ none) : BOn (h0.del r) gn B (h.del r) := by
  obtain ⟨k1, k2, k3, k4, k5⟩ := b.foot (.inl k)
  have p : ∀ {x : Nat}, r ≠ x → ∀ H : Heap, H.del r x = H x := fun hne H => Heap.del_ne _ (Ne.symm hne)
  refine ⟨(p k1 h).trans b.hb, (p k2 h).trans b.hq, (p k3 h).trans b.hw, fun i hi => (p (k4 i hi) h).trans (b.hi i hi), fun q hq => (p (k5 q hq).1 h).trans (b.hqa q hq), fun q hq => (p (k5 q hq).2 h).trans (b.hbuf q hq), b.hcap, b.hsub, b.ndi, b.ndq, b.ndb, fun x Y e => ?_, (p k1 h0).trans b.nb, (p k2 h0).trans b.nq, (p k3 h0).trans b.nw, fun i hi => (p (k4 i hi) h0).trans (b.ni i hi), fun q hq => (p (k5 q hq).1 h0).trans (b.nqa q hq), fun q hq => (p (k5 q hq).2 h0).trans (b.nbuf q hq)⟩
  by_cases e2 : x = r
  · subst e2; rw [Heap.del_same] at e; cases e
  · rw [Heap.del_ne _ e2] at e ⊢; exact b.inc x Y e
/-- A slice of one's own becomes a row of the base. -/
theorem RowIn.ofOwn {h0 hA h h' : Heap} {t : TypeId} {sz : Nat} {xs : List (List PV)} {v : PV} {gn : It → Bool} {B : Bo} (o : Own h t sz xs v h') (b : BOn hA gn B h) (i : Inc h0 hA) : ∃ hA', BOn hA' gn B h' ∧ Inc hA hA' ∧ RowIn h0 hA' t sz xs v := by
  rcases o with ⟨rfl, rfl, rfl⟩ | ⟨r, cap, rfl, h2, h3, h4, rfl, h6⟩
  · exact ⟨hA, b, Inc.self _, none, 0, rfl, Nat.le_refl _, Nat.zero_le _, (fun x hx => by cases hx), .inl ⟨rfl, rfl, rfl⟩⟩
  · have hr : hA r = none := by
      cases e : hA r with
      | none => rfl
      | some X => rw [b.inc _ _ e] at h4; cases h4
    exact ⟨hA.put r _, b.over (.inr h4) _, (Inc.self _).put hr _, some ⟨r, 0, none⟩, cap, rfl, h2, h3, h6, .inr ⟨r, rfl, Heap.put_same _ _ _, incFresh i hr⟩⟩
/-- A row of the base is one's own. -/
theorem RowIn.own {h0 hA h : Heap} {t : TypeId} {sz : Nat} {xs : List (List PV)} {v : PV} {gn : It → Bool} {B : Bo} (k : RowIn h0 hA t sz xs v) (b : BOn hA gn B h) (i : Inc h0 hA) : ∃ hA' h', Own h' t sz xs v h ∧ BOn hA' gn B h' ∧ Inc h0 hA' ∧ (∀ r X, hA r = some X → (∀ n cs, X ≠ .cells t n cs) → hA' r = some X) := by
  obtain ⟨A, cap, rfl, e2, e3, e4, ⟨rfl, rfl, rfl⟩ | ⟨r, rfl, hr, h0r⟩⟩ := k
  · exact ⟨hA, h, Own.nil _ _ _, b, i, fun _ _ e _ => e⟩
  · refine ⟨hA.del r, h.del r, .inr ⟨r, cap, rfl, e2, e3, Heap.del_same _ _, ?_, e4⟩, b.delBase (by rw [hr]; simp), fun x X e => ?_, fun x X e hX => ?_⟩
    · funext x
      by_cases hx : x = r
      · subst hx; rw [Heap.put_same]; exact b.inc _ _ hr
      · rw [Heap.put_ne _ _ hx, Heap.del_ne _ hx]
    · have : x ≠ r := by rintro rfl; rw [h0r] at e; cases e
      rw [Heap.del_ne _ this]; exact i _ _ e
    · have : x ≠ r := by rintro rfl; rw [hr] at e; injection e with e; exact hX _ _ e.symm
      rw [Heap.del_ne _ this]; exact e
end Go.Proofs.Ytekgfneapofgpaa
