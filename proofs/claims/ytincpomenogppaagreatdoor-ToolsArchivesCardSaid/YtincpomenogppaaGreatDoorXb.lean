/- Contracts of functions that the law reaches. -/
import Derived.Test.YtincpomenogppaaGreatDoorX9
set_option linter.unusedSimpArgs false
set_option linter.unusedVariables false
namespace Go.Proofs.YtincpomenogppaaGreatDoor
open Go Go.RowKit Go.Proofs.YtincpomenogppaaGreatDoor Go.Proofs.YtincpomenogppaaGreatDoor.Lift
set_option maxRecDepth 100000

def headOK (u : List UInt8) : Prop := u.head? ≠ some 92
theorem headOK.pre {u : List UInt8} (h : headOK u) : prefixS u [92, 10] = false := by
  unfold prefixS
  cases u with
  | nil => rfl
  | cons b u =>
    have hb : b ≠ 92 := fun e => h (by rw [e]; rfl)
    cases u with
    | nil => rfl
    | cons d u => simp [hb]
theorem dec_no (n : Nat) (b : UInt8) (h : b.toNat < 48 ∨ 57 < b.toNat) : b ∉ Lib.decDigits n := fun hm => by
  have := dec_mem n b hm
  omega
theorem rnumF_dec : ∀ (l : List UInt8) (acc m : Nat) (x : UInt8) (r : List UInt8), Lib.decFrom acc l = some m → m ≤ 9223372036854775807 → digB x = false → rnumF acc (l ++ x :: r) = (((m : Nat) : Int), l.length)
  | [], acc, m, x, r, h, hm, hx => by
    unfold Lib.decFrom at h
    injection h with h
    rw [List.nil_append, rnumF, if_neg (by rw [hx]; simp), h]
    rfl
  | b :: l, acc, m, x, r, h, hm, hx => by
    unfold Lib.decFrom at h
    split at h
    · rename_i d hd
      have hge := decFrom_ge l _ m h
      unfold Lib.digitVal at hd
      split at hd
      · rename_i h48
        injection hd with hd
        have hdg : digB b = true := by unfold digB; simp [h48]
        rw [List.cons_append, rnumF, if_pos hdg, if_neg (by omega)]
        have ih := rnumF_dec l (10 * acc + (b.toNat - 48)) m x r (by rw [show 10 * acc + (b.toNat - 48) = acc * 10 + d by omega]; exact h) hm hx
        rw [ih]
        rfl
      · cases hd
    · cases h
structure Ed.good (e : Ed) : Prop where
  a : ∃ A : Nat, e.a = (A : Int) ∧ A ≤ 9223372036854775807
  b : ∃ B : Nat, e.b = (B : Int) ∧ B ≤ 9223372036854775807
  d : e.del.length ≤ 9223372036854775807
  i : e.ins.length ≤ 9223372036854775807
  l : okLines e = true
end Go.Proofs.YtincpomenogppaaGreatDoor

namespace Go.Proofs.YtincpomenogppaaGreatDoor
open Go Go.RowKit Go.Proofs.YtincpomenogppaaGreatDoor Go.Proofs.YtincpomenogppaaGreatDoor.Lift
set_option maxRecDepth 100000

def hdP (a : List UInt8) (x y z : Int) : List UInt8 := a ++ 32 :: (Lib.itoa x ++ 32 :: (Lib.itoa y ++ 32 :: Lib.itoa z))
def inR (x : Int) : Prop := 0 ≤ x ∧ x ≤ 9223372036854775807
def IsHd (p a : List UInt8) (x y z : Int) : Prop := 32 ∉ a ∧ inR x ∧ inR y ∧ inR z ∧ p = hdP a x y z
def hdA (p : List UInt8) : Option (List UInt8 × Int × Int × Int) :=
  if (splitG 32 0 p).length = 4 ∧ ((splitG 32 0 p).drop 1).all numB = true then some ((splitG 32 0 p).getD 0 [], atoiR ((splitG 32 0 p).getD 1 []), atoiR ((splitG 32 0 p).getD 2 []), atoiR ((splitG 32 0 p).getD 3 [])) else none
theorem inR_nat {x : Int} (h : inR x) : ∃ n : Nat, x = (n : Int) ∧ n ≤ 9223372036854775807 := ⟨x.toNat, by have := h.1; omega, by have := h.1; have := h.2; omega⟩
theorem num_itoa {x : Int} (h : inR x) : atoiR (Lib.itoa x) = x ∧ numB (Lib.itoa x) = true := by
  obtain ⟨n, rfl, hn⟩ := inR_nat h
  exact numB_itoa n hn
theorem itoa_no (b : UInt8) (hb : b.toNat < 48 ∨ 57 < b.toNat) {x : Int} (h : inR x) : b ∉ Lib.itoa x := by
  obtain ⟨n, rfl, hn⟩ := inR_nat h
  rw [itoa_dec]
  exact dec_no n b hb
theorem numB_inv {w : List UInt8} (h : numB w = true) : inR (atoiR w) ∧ Lib.itoa (atoiR w) = w := by
  unfold numB at h
  rw [Bool.and_eq_true, decide_eq_true_eq, beq_iff_eq] at h
  exact ⟨⟨h.1, (atoiR_bounds w).2⟩, h.2⟩
theorem split_hdP {a : List UInt8} {x y z : Int} (ha : 32 ∉ a) (hx : inR x) (hy : inR y) (hz : inR z) : splitG 32 0 (hdP a x y z) = [a, Lib.itoa x, Lib.itoa y, Lib.itoa z] := by
  unfold hdP
  rw [splitG_line 0 ha, splitG_line 0 (itoa_no 32 (.inl (by decide)) hx), splitG_line 0 (itoa_no 32 (.inl (by decide)) hy), splitG_end 0 (itoa_no 32 (.inl (by decide)) hz)]
  simp
theorem hdA_of {p a : List UInt8} {x y z : Int} (h : IsHd p a x y z) : hdA p = some (a, x, y, z) := by
  obtain ⟨ha, hx, hy, hz, rfl⟩ := h
  unfold hdA
  rw [split_hdP ha hx hy hz]
  have k1 := num_itoa hx
  have k2 := num_itoa hy
  have k3 := num_itoa hz
  simp [k1.1, k1.2, k2.1, k2.2, k3.1, k3.2]
theorem split_inv : ∀ (p w : List UInt8) (ws : List (List UInt8)), splitG 32 0 p = w :: ws → 32 ∉ w ∧ ((ws = [] ∧ p = w) ∨ ∃ r, p = w ++ 32 :: r ∧ splitG 32 0 r = ws) := by
  intro p w ws h
  by_cases hc : 32 ∈ p
  · obtain ⟨q, r, rfl, hq⟩ := first_of hc
    rw [splitG_line 0 hq, List.take_zero, List.append_nil] at h
    injection h with h1 h2
    subst h1
    exact ⟨hq, .inr ⟨r, rfl, h2⟩⟩
  · rw [splitG_end 0 hc] at h
    injection h with h1 h2
    subst h1
    exact ⟨hc, .inl ⟨h2.symm, rfl⟩⟩
theorem hdA_inv {p a : List UInt8} {x y z : Int} (h : hdA p = some (a, x, y, z)) : IsHd p a x y z := by
  unfold hdA at h
  split at h
  · rename_i hc
    obtain ⟨h4, hn⟩ := hc
    obtain ⟨w0, w1, w2, w3, hw⟩ : ∃ w0 w1 w2 w3, splitG 32 0 p = [w0, w1, w2, w3] := by
      generalize splitG 32 0 p = ws at h4
      match ws, h4 with
      | [w0, w1, w2, w3], _ => exact ⟨w0, w1, w2, w3, rfl⟩
    rw [hw] at h hn
    simp only [List.drop_succ_cons, List.drop_zero, List.all_cons, List.all_nil, Bool.and_true, Bool.and_eq_true] at hn
    obtain ⟨n1, n2, n3⟩ := hn
    simp only [List.getD_cons_zero, List.getD_cons_succ, Option.some.injEq, Prod.mk.injEq] at h
    obtain ⟨rfl, rfl, rfl, rfl⟩ := h
    obtain ⟨a0, hr0⟩ := split_inv _ _ _ hw
    rcases hr0 with ⟨e, _⟩ | ⟨r0, hp0, hw0⟩
    · cases e
    obtain ⟨a1, hr1⟩ := split_inv _ _ _ hw0
    rcases hr1 with ⟨e, _⟩ | ⟨r1, hp1, hw1⟩
    · cases e
    obtain ⟨a2, hr2⟩ := split_inv _ _ _ hw1
    rcases hr2 with ⟨e, _⟩ | ⟨r2, hp2, hw2⟩
    · cases e
    obtain ⟨a3, hr3⟩ := split_inv _ _ _ hw2
    rcases hr3 with ⟨_, hp3⟩ | ⟨r3, _, hw3⟩
    · subst hp3; subst hp2; subst hp1; subst hp0
      refine ⟨a0, (numB_inv n1).1, (numB_inv n2).1, (numB_inv n3).1, ?_⟩
      unfold hdP
      rw [(numB_inv n1).2, (numB_inv n2).2, (numB_inv n3).2]
    · exact absurd hw3 (splitG_ne _ _ _)
  · cases h
def decB (c : List UInt8) : Int := if (rnumF 0 c).2 = 0 ∨ (rnumF 0 c).1 < 0 ∨ Lib.itoa (rnumF 0 c).1 ≠ c.take (rnumF 0 c).2 then -1 else (rnumF 0 c).1
theorem decB_max (c : List UInt8) : -1 ≤ decB c ∧ decB c ≤ 9223372036854775807 := by
  unfold decB
  split
  · exact ⟨by decide, by decide⟩
  · exact rnumF_bounds c 0 (by omega)
theorem decB_inv {c : List UInt8} (h : 0 ≤ decB c) : inR (decB c) ∧ c = Lib.itoa (decB c) ++ c.drop (rnumF 0 c).2 := by
  have hb := (decB_max c).2
  have e : decB c = (rnumF 0 c).1 ∧ Lib.itoa (rnumF 0 c).1 = c.take (rnumF 0 c).2 := by
    unfold decB at h ⊢
    split at h
    · omega
    · rename_i hn
      rw [if_neg hn]
      exact ⟨rfl, Classical.not_not.1 fun k => hn (.inr (.inr k))⟩
  refine ⟨⟨h, hb⟩, ?_⟩
  rw [e.1, e.2, List.take_append_drop]
theorem rnumF_end : ∀ (l : List UInt8) (acc m : Nat), Lib.decFrom acc l = some m → m ≤ 9223372036854775807 → rnumF acc l = (((m : Nat) : Int), l.length)
  | [], acc, m, h, hm => by
    unfold Lib.decFrom at h
    injection h with h
    rw [rnumF, h]
    rfl
  | b :: l, acc, m, h, hm => by
    unfold Lib.decFrom at h
    split at h
    · rename_i d hd
      have hge := decFrom_ge l _ m h
      unfold Lib.digitVal at hd
      split at hd
      · rename_i h48
        injection hd with hd
        have hdg : digB b = true := by unfold digB; simp [h48]
        rw [rnumF, if_pos hdg, if_neg (by omega)]
        have ih := rnumF_end l (10 * acc + (b.toNat - 48)) m (by rw [show 10 * acc + (b.toNat - 48) = acc * 10 + d by omega]; exact h) hm
        rw [ih]
        rfl
      · cases hd
    · cases h
theorem decB_dec {x : Int} (h : inR x) {r : List UInt8} (hr : r = [] ∨ ∃ q, r = 32 :: q) : decB (Lib.itoa x ++ r) = x ∧ (Lib.itoa x ++ r).drop (rnumF 0 (Lib.itoa x ++ r)).2 = r := by
  obtain ⟨n, rfl, hn⟩ := inR_nat h
  rw [itoa_dec]
  have e : rnumF 0 (Lib.decDigits n ++ r) = (((n : Nat) : Int), (Lib.decDigits n).length) := by
    rcases hr with rfl | ⟨q, rfl⟩
    · rw [List.append_nil]; exact rnumF_end _ 0 n (dec_dec n) hn
    · exact rnumF_dec _ 0 n 32 q (dec_dec n) hn (by decide)
  refine ⟨?_, ?_⟩
  · unfold decB
    rw [e, if_neg]
    rintro (k | k | k)
    · exact dec_ne n (List.length_eq_zero_iff.1 k)
    · have : ((n : Nat) : Int) < 0 := k
      omega
    · refine k ?_
      show Lib.itoa ((n : Nat) : Int) = List.take (Lib.decDigits n).length (Lib.decDigits n ++ r)
      rw [itoa_dec, List.take_left]
  · rw [e]; exact List.drop_left
def decs : Nat → List UInt8 → Option (List Int × List UInt8)
  | 0, c => some ([], c)
  | n + 1, c => if c.head? = some 32 then (if decB (c.drop 1) < 0 then none else (decs n ((c.drop 1).drop (rnumF 0 (c.drop 1)).2)).map fun x => (decB (c.drop 1) :: x.1, x.2)) else none
def hdM (a : List UInt8) : Option (List Int × List UInt8) → Option (List UInt8 × Int × Int × Int)
  | some ([x, y, z], r) => if r = [] then some (a, x, y, z) else none
  | _ => none
def hdB (p : List UInt8) : Option (List UInt8 × Int × Int × Int) := hdM (cutB 32 p).1 (decs 3 (p.drop (cutB 32 p).1.length))
theorem decs_step {n : Nat} {x : Int} (h : inR x) {r : List UInt8} (hr : r = [] ∨ ∃ q, r = 32 :: q) : decs (n + 1) (32 :: (Lib.itoa x ++ r)) = (decs n r).map fun y => (x :: y.1, y.2) := by
  obtain ⟨h1, h2⟩ := decB_dec h hr
  have e : (32 :: (Lib.itoa x ++ r)).drop 1 = Lib.itoa x ++ r := rfl
  rw [decs, if_pos (show (32 :: (Lib.itoa x ++ r)).head? = some 32 from rfl), e, h1, h2, if_neg (by have := h.1; omega)]
theorem hdB_of {p a : List UInt8} {x y z : Int} (h : IsHd p a x y z) : hdB p = some (a, x, y, z) := by
  obtain ⟨ha, hx, hy, hz, rfl⟩ := h
  have hc : cutB 32 (hdP a x y z) = (a, Lib.itoa x ++ 32 :: (Lib.itoa y ++ 32 :: Lib.itoa z), true) := cutB_in ha
  have hd : (hdP a x y z).drop a.length = 32 :: (Lib.itoa x ++ 32 :: (Lib.itoa y ++ 32 :: Lib.itoa z)) := List.drop_left
  unfold hdB
  have e := decs_step (n := 0) hz (r := []) (.inl rfl)
  rw [List.append_nil] at e
  rw [hc, hd, decs_step hx (.inr ⟨_, rfl⟩), decs_step hy (.inr ⟨_, rfl⟩), e]
  rfl
theorem decs_inv {n : Nat} {c r : List UInt8} {xs : List Int} (h : decs (n + 1) c = some (xs, r)) : ∃ x ys d, inR x ∧ xs = x :: ys ∧ c = 32 :: (Lib.itoa x ++ d) ∧ decs n d = some (ys, r) := by
  unfold decs at h
  split at h
  · rename_i hc
    split at h
    · cases h
    · rename_i hd
      rw [Option.map_eq_some_iff] at h
      obtain ⟨⟨ys, s⟩, h1, h2⟩ := h
      simp only [Prod.mk.injEq] at h2
      obtain ⟨rfl, rfl⟩ := h2
      obtain ⟨k1, k2⟩ := decB_inv (c := c.drop 1) (by omega)
      refine ⟨_, ys, _, k1, rfl, ?_, h1⟩
      rw [← k2]
      cases c with
      | nil => cases hc
      | cons b c =>
        injection hc with hc
        subst hc
        rfl
  · cases h
theorem hdB_inv {p a : List UInt8} {x y z : Int} (h : hdB p = some (a, x, y, z)) : IsHd p a x y z := by
  unfold hdB hdM at h
  split at h
  · rename_i x' y' z' r he
    split at h
    · rename_i hr
      subst hr
      simp only [Option.some.injEq, Prod.mk.injEq] at h
      obtain ⟨rfl, rfl, rfl, rfl⟩ := h
      obtain ⟨x1, ys, d, i1, e1, c1, h1⟩ := decs_inv he
      injection e1 with e1 e2
      subst e1; subst e2
      obtain ⟨x2, ys, d2, i2, e1, c2, h1⟩ := decs_inv h1
      injection e1 with e1 e2
      subst e1; subst e2
      obtain ⟨x3, ys, d3, i3, e1, c3, h1⟩ := decs_inv h1
      injection e1 with e1 e2
      subst e1; subst e2
      unfold decs at h1
      simp only [Option.some.injEq, Prod.mk.injEq] at h1
      obtain ⟨_, rfl⟩ := h1
      obtain ⟨f1, f2, f3⟩ := cutB_app 32 p
      refine ⟨f1, i1, i2, i3, ?_⟩
      unfold hdP
      rw [List.append_nil] at c3
      rw [← c3, ← c2, ← c1]
      have key : ∀ (a t : List UInt8), p = a ++ t → a ++ p.drop a.length = p := by
        intro a t e
        conv => lhs; rw [e]
        rw [List.drop_left, ← e]
      exact (key _ _ f2).symm
    · cases h
  · cases h
theorem hd_same (p : List UInt8) : hdB p = hdA p := by
  cases e : hdA p with
  | some q =>
    obtain ⟨a, x, y, z⟩ := q
    exact hdB_of (hdA_inv e)
  | none =>
    cases e2 : hdB p with
    | none => rfl
    | some q =>
      obtain ⟨a, x, y, z⟩ := q
      have := hdA_of (hdB_inv e2)
      rw [e] at this
      cases this
def unp1 (out : List Mb) (s : List UInt8) : (Mb × List UInt8) ⊕ Int :=
  if (cutB 10 s).2.2 = false then .inr 16 else
  match hdA (cutB 10 s).1 with
  | none => .inr 2
  | some (a, x, y, z) =>
    if wrongS out ⟨a, x, y, []⟩ z ≠ 0 then .inr (wrongS out ⟨a, x, y, []⟩ z) else
    if ((cutB 10 s).2.1.length : Int) ≤ z then .inr 16 else
    if (cutB 10 s).2.1.getD z.toNat 0 ≠ 10 then .inr 2 else .inl (⟨a, x, y, (cutB 10 s).2.1.take z.toNat⟩, (cutB 10 s).2.1.drop (z.toNat + 1))
theorem unp1_len {out : List Mb} {s r : List UInt8} {m : Mb} (h : unp1 out s = .inl (m, r)) : r.length < s.length ∧ m.x.length ≤ s.length ∧ m.n.length ≤ s.length ∧ inR m.m ∧ inR m.t := by
  unfold unp1 at h
  split at h
  · cases h
  rename_i hc
  split at h
  · cases h
  rename_i a x y z hh
  split at h
  · cases h
  split at h
  · cases h
  split at h
  · cases h
  injection h with h
  simp only [Prod.mk.injEq] at h
  obtain ⟨rfl, rfl⟩ := h
  have hc : (cutB 10 s).2.2 = true := by cases e : (cutB 10 s).2.2; exact absurd e hc; rfl
  obtain ⟨l1, l2, l3⟩ := cutB_len 10 s
  have l3 := l3 hc
  obtain ⟨i1, i2, i3, i4, hp⟩ := hdA_inv hh
  have hpl : a.length ≤ (cutB 10 s).1.length := by
    rw [hp]; unfold hdP; rw [List.length_append]; omega
  refine ⟨?_, ?_, by show a.length ≤ _; omega, i2, i3⟩
  · rw [List.length_drop]; omega
  · show (List.take z.toNat (cutB 10 s).2.1).length ≤ _; rw [List.length_take]; omega
def unpF : Nat → List Mb → List UInt8 → List Mb × Int
  | 0, _, _ => ([], -1)
  | f + 1, out, s => if s = [] then (out, 0) else match unp1 out s with
    | .inr e => ([], e)
    | .inl (m, r) => unpF f (out ++ [m]) r
theorem unpF_nil (f : Nat) (out : List Mb) : unpF (f + 1) out [] = (out, 0) := by rw [unpF, if_pos rfl]
theorem unpF_err {f : Nat} {out : List Mb} {s : List UInt8} {e : Int} (hs : s ≠ []) (h : unp1 out s = .inr e) : unpF (f + 1) out s = ([], e) := by rw [unpF, if_neg hs, h]
theorem unpF_ok {f : Nat} {out : List Mb} {s r : List UInt8} {m : Mb} (hs : s ≠ []) (h : unp1 out s = .inl (m, r)) : unpF (f + 1) out s = unpF f (out ++ [m]) r := by rw [unpF, if_neg hs, h]
def unpS (s : List UInt8) : List Mb × Int := if prefixS s magicS = true then unpF (s.length + 1) [] (s.drop 9) else ([], 2)
theorem wrong_x (l : List Mb) (a : List UInt8) (x y : Int) (d d' : List UInt8) (n : Int) : wrongS l ⟨a, x, y, d⟩ n = wrongS l ⟨a, x, y, d'⟩ n := rfl
theorem packT_hd (m : Mb) : packT m = hdP m.n m.m m.t (m.x.length : Nat) ++ 10 :: (m.x ++ [10]) := by unfold packT hdP; simp
theorem named_no {s : List UInt8} (h : namedS s = true) (b : UInt8) (hb : b.toNat < 33) : b ∉ s := fun hm => by
  unfold namedS at h
  rw [Bool.and_eq_true, List.all_eq_true] at h
  have := h.1 b hm
  unfold plainB at this
  simp [hb] at this
theorem wrong_named {l : List Mb} {e : Mb} {n : Int} (h : wrongS l e n = 0) : namedS e.n = true ∧ 0 ≤ e.m ∧ 0 ≤ e.t ∧ n ≤ 1048576 := by
  unfold wrongS at h
  split at h
  · omega
  rename_i h1
  split at h
  · omega
  split at h
  · omega
  rename_i h2
  split at h
  · omega
  rename_i h3
  refine ⟨by cases e2 : namedS e.n; exact absurd e2 h1; rfl, by omega, by omega, by omega⟩
theorem unp1_pack {out : List Mb} {m : Mb} {r : List UInt8} (h0 : wrongS out m (m.x.length : Nat) = 0) (h1 : m.m ≤ 9223372036854775807) (h2 : m.t ≤ 9223372036854775807) : unp1 out (packT m ++ r) = .inl (m, r) := by
  obtain ⟨hn, hm, ht, hx⟩ := wrong_named h0
  have ix : inR ((m.x.length : Nat) : Int) := ⟨by omega, by omega⟩
  have no10 : 10 ∉ hdP m.n m.m m.t (m.x.length : Nat) := by
    unfold hdP
    have k1 := named_no hn 10 (by decide)
    have k2 := itoa_no 10 (.inl (by decide)) (x := m.m) ⟨hm, h1⟩
    have k3 := itoa_no 10 (.inl (by decide)) (x := m.t) ⟨ht, h2⟩
    have k4 := itoa_no 10 (.inl (by decide)) ix
    simp [k1, k2, k3, k4]
  have hc : cutB 10 (packT m ++ r) = (hdP m.n m.m m.t (m.x.length : Nat), m.x ++ 10 :: r, true) := by
    rw [packT_hd]
    have e : hdP m.n m.m m.t (m.x.length : Nat) ++ 10 :: (m.x ++ [10]) ++ r = hdP m.n m.m m.t (m.x.length : Nat) ++ 10 :: (m.x ++ 10 :: r) := by simp
    rw [e, cutB_in no10]
  have hh := hdA_of (p := hdP m.n m.m m.t (m.x.length : Nat)) ⟨named_no hn 32 (by decide), ⟨hm, h1⟩, ⟨ht, h2⟩, ix, rfl⟩
  have h0' : wrongS out ⟨m.n, m.m, m.t, []⟩ (m.x.length : Nat) = 0 := h0
  unfold unp1
  rw [hc]
  simp only [hh, h0']
  rw [if_neg (by simp), if_neg (by simp), if_neg (by rw [List.length_append, List.length_cons]; omega), Int.toNat_natCast, if_neg, List.take_left, ← List.drop_drop, List.drop_left]
  · rfl
  · rw [List.getD_eq_getElem?_getD, List.getElem?_append_right (Nat.le_refl _), Nat.sub_self]
    simp
theorem unpF_pack : ∀ (l : List Mb) (out : List Mb) (f : Nat), (l.map packT).flatten.length < f → packE out l = 0 → (∀ m ∈ l, m.m ≤ 9223372036854775807 ∧ m.t ≤ 9223372036854775807) → unpF f out (l.map packT).flatten = (out ++ l, 0)
  | [], out, f, hf, _, _ => by
    cases f with
    | zero => omega
    | succ f => rw [List.map_nil, List.flatten_nil, unpF_nil, List.append_nil]
  | m :: l, out, f, hf, h, hb => by
    cases f with
    | zero => omega
    | succ f =>
      rw [packE_cons] at h
      split at h
      · rename_i h0
        obtain ⟨b1, b2⟩ := hb m (List.mem_cons_self ..)
        have hne : packT m ++ (l.map packT).flatten ≠ [] := by unfold packT; simp
        rw [List.map_cons, List.flatten_cons] at hf ⊢
        rw [unpF_ok hne (unp1_pack h0 b1 b2), unpF_pack l (out ++ [m]) f (by rw [List.length_append] at hf; have : 0 < (packT m).length := List.length_pos_iff.2 (by unfold packT; simp); omega) h fun x hx => hb x (List.mem_cons_of_mem _ hx), List.append_assoc]
        rfl
      · rename_i h0; exact absurd h h0
theorem magic_pre (r : List UInt8) : prefixS (magicS ++ r) magicS = true := by
  unfold prefixS
  rw [List.take_left]
  simp
theorem unpack_pack {ms : List Mb} (h : packE [] ms = 0) (hb : ∀ m ∈ ms, m.m ≤ 9223372036854775807 ∧ m.t ≤ 9223372036854775807) : unpS (packB ms) = (ms, 0) := by
  unfold unpS packB
  rw [if_pos (magic_pre _), show (9 : Nat) = magicS.length from rfl, List.drop_left, unpF_pack ms [] _ (by rw [List.length_append]; omega) h hb]
  rfl
theorem unp1_inv {out : List Mb} {s r : List UInt8} {m : Mb} (h : unp1 out s = .inl (m, r)) : s = packT m ++ r ∧ wrongS out m (m.x.length : Nat) = 0 := by
  unfold unp1 at h
  split at h
  · cases h
  rename_i hc
  split at h
  · cases h
  rename_i a x y z hh
  split at h
  · cases h
  rename_i h0
  split at h
  · cases h
  rename_i hz
  split at h
  · cases h
  rename_i h10
  injection h with h
  simp only [Prod.mk.injEq] at h
  obtain ⟨rfl, rfl⟩ := h
  obtain ⟨i1, i2, i3, i4, hp⟩ := hdA_inv hh
  obtain ⟨f1, f2, f3⟩ := cutB_app 10 s
  have hc : (cutB 10 s).2.2 = true := by cases e : (cutB 10 s).2.2; exact absurd e hc; rfl
  rw [if_pos hc] at f2
  have hzl : z.toNat < (cutB 10 s).2.1.length := by have := i4.1; omega
  have hxl : ((cutB 10 s).2.1.take z.toNat).length = z.toNat := by rw [List.length_take]; omega
  have hzz : ((((cutB 10 s).2.1.take z.toNat).length : Nat) : Int) = z := by rw [hxl]; have := i4.1; omega
  refine ⟨?_, ?_⟩
  · rw [packT_hd]
    show s = hdP a x y ((((cutB 10 s).2.1.take z.toNat).length : Nat) : Int) ++ 10 :: ((cutB 10 s).2.1.take z.toNat ++ [10]) ++ (cutB 10 s).2.1.drop (z.toNat + 1)
    rw [hzz, ← hp]
    have e10 : (cutB 10 s).2.1[z.toNat]'hzl = 10 := by
      have := Classical.not_not.1 h10
      rwa [List.getD_eq_getElem?_getD, List.getElem?_eq_getElem hzl] at this
    have e : (cutB 10 s).2.1 = (cutB 10 s).2.1.take z.toNat ++ 10 :: (cutB 10 s).2.1.drop (z.toNat + 1) := by
      conv => lhs; rw [← List.take_append_drop z.toNat (cutB 10 s).2.1, List.drop_eq_getElem_cons hzl, e10]
    conv => lhs; rw [f2, e]
    simp
  · rw [wrong_x out a x y _ [] _, hzz]
    exact Classical.not_not.1 h0
theorem unpF_inv : ∀ (f : Nat) (out : List Mb) (s : List UInt8) (ms : List Mb), unpF f out s = (ms, 0) → ∃ l, ms = out ++ l ∧ packE out l = 0 ∧ s = (l.map packT).flatten
  | 0, out, s, ms, h => by
    unfold unpF at h
    simp at h
  | f + 1, out, s, ms, h => by
    by_cases hs : s = []
    · subst hs
      rw [unpF_nil] at h
      simp only [Prod.mk.injEq, and_true] at h
      subst h
      exact ⟨[], by simp, rfl, rfl⟩
    · cases e : unp1 out s with
      | inr c =>
        rw [unpF_err hs e] at h
        simp only [Prod.mk.injEq] at h
        obtain ⟨_, rfl⟩ := h
        unfold unp1 at e
        split at e
        · injection e with e; omega
        split at e
        · injection e with e; omega
        split at e
        · rename_i h0; injection e with e; exact absurd e h0
        split at e
        · injection e with e; omega
        split at e
        · injection e with e; omega
        cases e
      | inl q =>
        obtain ⟨m, r⟩ := q
        rw [unpF_ok hs e] at h
        obtain ⟨k1, k2⟩ := unp1_inv e
        obtain ⟨l, rfl, h2, h3⟩ := unpF_inv f _ _ _ h
        refine ⟨m :: l, by simp, ?_, ?_⟩
        · rw [packE_cons, if_pos k2, h2]
        · rw [List.map_cons, List.flatten_cons, ← h3, k1]
theorem pack_unpack {s : List UInt8} {ms : List Mb} (h : unpS s = (ms, 0)) : packE [] ms = 0 ∧ packB ms = s := by
  unfold unpS at h
  split at h
  · rename_i hp
    obtain ⟨l, hl, h2, h3⟩ := unpF_inv _ _ _ _ h
    rw [List.nil_append] at hl
    subst hl
    refine ⟨h2, ?_⟩
    unfold packB
    rw [← h3]
    unfold prefixS at hp
    rw [Bool.and_eq_true, decide_eq_true_eq, beq_iff_eq] at hp
    rw [← hp.2]
    exact List.take_append_drop 9 s
  · simp at h
theorem unpF_size : ∀ (f : Nat) (out : List Mb) (s : List UInt8), ∀ m ∈ (unpF f out s).1, m ∈ out ∨ (m.x.length ≤ s.length ∧ m.n.length ≤ s.length ∧ inR m.m ∧ inR m.t)
  | 0, out, s, m, h => by unfold unpF at h; cases h
  | f + 1, out, s, m, h => by
    by_cases hs : s = []
    · subst hs
      rw [unpF_nil] at h
      exact .inl h
    · cases e : unp1 out s with
      | inr c => rw [unpF_err hs e] at h; cases h
      | inl q =>
        obtain ⟨m', r⟩ := q
        rw [unpF_ok hs e] at h
        obtain ⟨k1, k2, k3, k4, k5⟩ := unp1_len e
        rcases unpF_size f _ _ m h with h | ⟨h1, h2, h3⟩
        · rcases List.mem_append.1 h with h | h
          · exact .inl h
          · rw [List.mem_singleton] at h
            subst h
            exact .inr ⟨k2, k3, k4, k5⟩
        · exact .inr ⟨by omega, by omega, h3⟩
theorem unpF_count : ∀ (f : Nat) (out : List Mb) (s : List UInt8), (unpF f out s).1.length ≤ out.length + s.length
  | 0, out, s => by unfold unpF; simp
  | f + 1, out, s => by
    by_cases hs : s = []
    · subst hs
      rw [unpF_nil]
      simp
    · cases e : unp1 out s with
      | inr c => rw [unpF_err hs e]; simp
      | inl q =>
        obtain ⟨m', r⟩ := q
        rw [unpF_ok hs e]
        have k1 := (unp1_len e).1
        have := unpF_count f (out ++ [m']) r
        rw [List.length_append, List.length_singleton] at this
        omega
end Go.Proofs.YtincpomenogppaaGreatDoor
