/- Contracts of functions that the law reaches. -/
import Derived.Test.YtincpomenogppaaGreatDoorW6
set_option linter.unusedSimpArgs false
set_option linter.unusedVariables false
namespace Go.Proofs.YtincpomenogppaaGreatDoor
open Go Go.RowKit Go.Proofs.YtincpomenogppaaGreatDoor Go.Proofs.YtincpomenogppaaGreatDoor.Lift
set_option maxRecDepth 100000

theorem incSelf (h : Heap) : Lift.Inc h h := fun _ _ e => e
theorem incFresh {h0 h : Heap} (i : Lift.Inc h0 h) {q : Nat} (hq : h q = none) : h0 q = none := by
  cases e : h0 q with
  | none => rfl
  | some X => rw [i _ _ e] at hq; cases hq
def hdrV (m r : Nat) : PV := .val (.slice (some ⟨r, 0, none⟩) (m + 1) (m + 1))
structure Fam (h0 : Heap) (q : Nat) (rs : List Nat) (n m : Nat) (f : Nat → PV) (i : Nat) (h : Heap) : Prop where
  hq : h q = some (.cells 115 ((n + 1) * 1) ((rs.take i).map (hdrV m) ++ ((List.range (n + 1)).drop i).map f))
  hr : ∀ r ∈ rs.take i, h r = some (.cells 3 ((m + 1) * 1) (List.replicate (m + 1) (.int .i64 0)))
  nd : rs.Nodup
  nq : q ∉ rs
  fq : h0 q = none
  fr : ∀ r ∈ rs, h0 r = none
  inc : Lift.Inc h0 h
  len : rs.length = n + 1
structure FamM (h0 : Heap) (q : Nat) (rs : List Nat) (n m : Nat) (h : Heap) : Prop where
  hq : h q = some (.cells 115 ((n + 1) * 1) (rs.map (hdrV m) ++ List.replicate (n + 1 - rs.length) (.val (.slice none 0 0))))
  hr : ∀ r ∈ rs, h r = some (.cells 3 ((m + 1) * 1) (List.replicate (m + 1) (.int .i64 0)))
  nd : rs.Nodup
  nq : q ∉ rs
  fq : h0 q = none
  fr : ∀ r ∈ rs, h0 r = none
  inc : Lift.Inc h0 h
theorem FamM.step {h0 h : Heap} {q n m : Nat} {rs : List Nat} (F : FamM h0 q rs n m h) {r : Nat} (hr : h r = none) : FamM h0 q (rs ++ [r]) n m ((h.put r (.cells 3 ((m + 1) * 1) (List.replicate (m + 1) (.int .i64 0)))).put q (.cells 115 ((n + 1) * 1) (rs.map (hdrV m) ++ [hdrV m r] ++ List.replicate (n + 1 - rs.length - 1) (.val (.slice none 0 0))))) := by
  have hrq : r ≠ q := by rintro rfl; rw [F.hq] at hr; cases hr
  have hqr : q ≠ r := hrq.symm
  have hrn : r ∉ rs := fun e => by rw [F.hr r e] at hr; cases hr
  refine ⟨?_, ?_, ?_, ?_, F.fq, ?_, ?_⟩
  · rw [Heap.put_same, List.map_append, List.length_append, List.length_singleton, Nat.sub_sub]; rfl
  · intro k hk
    rcases List.mem_append.1 hk with hk | hk
    · have k1 : k ≠ r := fun e => hrn (e ▸ hk)
      have k2 : k ≠ q := fun e => F.nq (e ▸ hk)
      rw [Heap.put_ne _ _ k2, Heap.put_ne _ _ k1]; exact F.hr k hk
    · obtain rfl := List.mem_singleton.1 hk
      rw [Heap.put_ne _ _ hrq, Heap.put_same]
  · exact List.nodup_append.2 ⟨F.nd, by simp, fun k hk j hj e => by rw [List.mem_singleton.1 hj] at e; exact hrn (e ▸ hk)⟩
  · rw [List.mem_append, not_or]; exact ⟨F.nq, fun e => hqr (List.mem_singleton.1 e)⟩
  · intro k hk
    rcases List.mem_append.1 hk with hk | hk
    · exact F.fr k hk
    · obtain rfl := List.mem_singleton.1 hk
      exact incFresh F.inc hr
  · intro k X e
    have k1 : k ≠ q := by rintro rfl; rw [F.fq] at e; cases e
    have k2 : k ≠ r := by rintro rfl; rw [incFresh F.inc hr] at e; cases e
    rw [Heap.put_ne _ _ k1, Heap.put_ne _ _ k2]; exact F.inc _ _ e
theorem take_map_cons {rs : List Nat} {i : Nat} (hi : i < rs.length) {α : Type} (g : Nat → α) : (rs.take (i + 1)).map g = (rs.take i).map g ++ [g rs[i]] := by
  rw [List.take_succ_eq_append_getElem hi, List.map_append]; rfl
theorem Fam.freeze {h0 h : Heap} {q n m i : Nat} {rs : List Nat} {f : Nat → PV} (F : Fam h0 q rs n m f (i + 1) h) (hi : i < rs.length) {cs : List PV} {xs : List (List PV)} (hf : f i = .list 1 xs) (hl : xs.length = m + 1) (hw : ∀ x ∈ xs, x.length = 1) (hc : xs.flatten = cs) (hm : m + 1 ≤ maxLen) :
    ∃ pre post, Own (h.del rs[i]) 3 1 xs (hdrV m rs[i]) (h.put rs[i] (.cells 3 ((m + 1) * 1) cs)) ∧ (h.del rs[i]) q = some (.cells 115 ((n + 1) * 1) (pre ++ hdrV m rs[i] :: post)) ∧ Fam h0 q rs n m f i ((h.del rs[i]).put q (.cells 115 ((n + 1) * 1) (pre ++ .list 1 xs :: post))) := by
  have hin : i < n + 1 := by rw [← F.len]; exact hi
  have hmem : rs[i] ∈ rs := List.getElem_mem hi
  have hne : q ≠ rs[i] := fun e => F.nq (e ▸ hmem)
  have hq := F.hq
  rw [take_map_cons hi, List.append_assoc] at hq
  refine ⟨(rs.take i).map (hdrV m), ((List.range (n + 1)).drop (i + 1)).map f, ?_, ?_, ?_⟩
  · subst hc
    rw [← Heap.put_del]
    refine .inr ⟨rs[i], m + 1, ?_, by omega, hm, Heap.del_same _ _, rfl, hw⟩
    unfold hdrV
    rw [hl]
  · rw [Heap.del_ne _ hne]; exact hq
  · refine ⟨?_, fun r hr => ?_, F.nd, F.nq, F.fq, F.fr, fun k X e => ?_, F.len⟩
    · rw [Heap.put_same, range_at hin, List.map_cons, hf]
    · have hrm : r ∈ rs := List.mem_of_mem_take hr
      have h1 : r ≠ q := fun e => F.nq (e ▸ hrm)
      have h2 : r ≠ rs[i] := by
        intro e
        obtain ⟨j, hj, rfl⟩ := List.getElem_of_mem hr
        rw [List.length_take] at hj
        rw [List.getElem_take] at e
        exact List.pairwise_iff_getElem.1 F.nd j i (by omega) hi (by omega) e
      rw [Heap.put_ne _ _ h1, Heap.del_ne _ h2]
      exact F.hr r (by rw [List.take_succ_eq_append_getElem hi]; exact List.mem_append_left _ hr)
    · have h1 : k ≠ q := by rintro rfl; rw [F.fq] at e; cases e
      have h2 : k ≠ rs[i] := by rintro rfl; rw [F.fr _ hmem] at e; cases e
      rw [Heap.put_ne _ _ h1, Heap.del_ne _ h2]
      exact F.inc _ _ e
end Go.Proofs.YtincpomenogppaaGreatDoor

namespace Go.Proofs.YtincpomenogppaaGreatDoor
open Go Go.RowKit Go.Proofs.YtincpomenogppaaGreatDoor Go.Proofs.YtincpomenogppaaGreatDoor.Lift
set_option maxRecDepth 100000

structure Ed where
  a : Int
  b : Int
  del : List (List UInt8)
  ins : List (List UInt8)
deriving DecidableEq
def edV (e : Ed) : List PV := [.int .i64 e.a, .int .i64 e.b, .list 1 (strL e.del), .list 1 (strL e.ins)]
def edL (es : List Ed) : List (List PV) := es.map edV
theorem edL_len (es : List Ed) : (edL es).length = es.length := List.length_map _
theorem edL_at {es : List Ed} {i : Nat} (h : i < es.length) : (edL es).getD i [] = edV es[i] := by
  unfold edL
  rw [List.getD_eq_getElem?_getD, List.getElem?_eq_getElem (by rw [List.length_map]; exact h)]
  simp
theorem edL_append (a b : List Ed) : edL (a ++ b) = edL a ++ edL b := List.map_append
def untilE (x y : List (List UInt8)) (i j p q : Nat) : List Ed := if i < p ∨ j < q then [⟨i, j, (x.take p).drop i, (y.take q).drop j⟩] else []
def diffP (x y : List (List UInt8)) (p i j : Nat) : List Ed :=
  if h : p < x.length then
    if tabT x y i j = 0 then untilE x y i j x.length y.length
    else if idxL (y.drop j) x[p] < 0 ∨ tabT x y (p + 1) (j + (idxL (y.drop j) x[p]).toNat + 1) + 1 ≠ tabT x y i j then diffP x y (p + 1) i j
    else untilE x y i j p (j + (idxL (y.drop j) x[p]).toNat) ++ diffP x y (p + 1) (p + 1) (j + (idxL (y.drop j) x[p]).toNat + 1)
  else untilE x y i j x.length y.length
  termination_by x.length - p
theorem diffP_end {x y : List (List UInt8)} {p i j : Nat} (h : ¬ p < x.length ∨ tabT x y i j = 0) : diffP x y p i j = untilE x y i j x.length y.length := by
  unfold diffP
  split
  · rename_i h1
    rw [if_pos (h.resolve_left (fun k => k h1))]
  · rfl
theorem diffP_skip {x y : List (List UInt8)} {p i j : Nat} (h : p < x.length) (h0 : tabT x y i j ≠ 0) (h1 : idxL (y.drop j) x[p] < 0 ∨ tabT x y (p + 1) (j + (idxL (y.drop j) x[p]).toNat + 1) + 1 ≠ tabT x y i j) : diffP x y p i j = diffP x y (p + 1) i j := by
  conv => lhs; unfold diffP
  rw [dif_pos h, if_neg h0, if_pos h1]
theorem diffP_take {x y : List (List UInt8)} {p i j q : Nat} (h : p < x.length) (h0 : tabT x y i j ≠ 0) (hq : idxL (y.drop j) x[p] = (q : Nat)) (h1 : tabT x y (p + 1) (j + q + 1) + 1 = tabT x y i j) : diffP x y p i j = untilE x y i j p (j + q) ++ diffP x y (p + 1) (p + 1) (j + q + 1) := by
  conv => lhs; unfold diffP
  rw [dif_pos h, if_neg h0, hq, Int.toNat_natCast, if_neg (by omega)]
def diffS (x y : List (List UInt8)) : List Ed := diffP x y 0 0 0
theorem idxL_spec (l : List (List UInt8)) (s : List UInt8) : (idxL l s = -1 ∧ s ∉ l) ∨ ∃ k : Nat, ∃ hk : k < l.length, idxL l s = (k : Nat) ∧ l[k] = s ∧ ∀ j, (hj : j < k) → l[j]'(by omega) ≠ s := by
  unfold idxL
  cases h : l.findIdx? (fun y => s == y) with
  | none =>
    left
    refine ⟨rfl, fun hm => ?_⟩
    have := List.findIdx?_eq_none_iff.1 h s hm
    simp at this
  | some k =>
    right
    obtain ⟨hk, h1, h2⟩ := List.findIdx?_eq_some_iff_getElem.1 h
    refine ⟨k, hk, rfl, (by simpa using h1 : s = l[k]).symm, fun j hj e => ?_⟩
    have := h2 j hj
    simp [e] at this
end Go.Proofs.YtincpomenogppaaGreatDoor
