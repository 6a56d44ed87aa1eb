/- Cells and elements; what a type's table says; loads. -/
import Derived.Test.YthlibdhjcjangaaLiftC
import Derived.Laws.Cells
import Derived.Laws.Entries
import Derived.ChangeKeysEq
set_option linter.unusedSimpArgs false
set_option linter.unusedVariables false
namespace Go.Proofs.Ythlibdhjcjangaa.Lift
open Go Go.RowKit

section
variable {E : Env} {w w1 w' : World} {I I1 I' : Nat → Prop} {G G1 G' : Nat → Option Nat}

theorem R1.one : ∀ {x : PV} {u : Value}, R1 w I x u → u.oneCell' = true
  | .int .., _, h => by simp only [R1] at h; subst h; rfl
  | .bool .., _, h => by simp only [R1] at h; subst h; rfl
  | .str .., _, h => by simp only [R1] at h; subst h; rfl
  | .val .., _, h => by simp only [R1] at h; rw [h.1]; exact h.2
  | .list .., _, h => by simp only [R1] at h; obtain ⟨A, c, us, rfl, _⟩ := h; rfl
  | .elem .., _, h => by simp only [R1] at h; obtain ⟨A, us, rfl, _⟩ := h; rfl
  | .iface .., _, h => by simp only [R1] at h; obtain ⟨us, rfl, _⟩ := h; rfl
  | .any, _, h => by simpa only [R1] using h
theorem RL.length : ∀ {xs : List PV} {us : List Value}, RL w I xs us → us.length = xs.length
  | [], _, h => by simp only [RL] at h; simp [h]
  | x :: xs, _, h => by simp only [RL] at h; obtain ⟨u, us', rfl, _, h2⟩ := h; simp [h2.length]
theorem RL.one : ∀ {xs : List PV} {us : List Value}, RL w I xs us → ∀ u ∈ us, u.oneCell' = true
  | [], _, h, u, hu => by simp only [RL] at h; subst h; cases hu
  | x :: xs, _, h, u, hu => by
    simp only [RL] at h
    obtain ⟨v, us', rfl, h1, h2⟩ := h
    rcases List.mem_cons.1 hu with rfl | hu
    · exact h1.one
    · exact h2.one u hu
theorem RL.get : ∀ {xs : List PV} {us : List Value}, RL w I xs us → ∀ {j : Nat} {x : PV}, xs[j]? = some x → ∃ u, us[j]? = some u ∧ R1 w I x u
  | [], _, h, j, x, hx => by simp at hx
  | y :: xs, _, h, j, x, hx => by
    simp only [RL] at h
    obtain ⟨v, us', rfl, h1, h2⟩ := h
    cases j with
    | zero => simp at hx; subst hx; exact ⟨v, rfl, h1⟩
    | succ j => simpa using h2.get (by simpa using hx)
theorem RL.append : ∀ {xs ys : List PV} {us vs : List Value}, RL w I xs us → RL w I ys vs → RL w I (xs ++ ys) (us ++ vs)
  | [], _, _, _, h, k => by simp only [RL] at h; subst h; exact k
  | x :: xs, ys, _, vs, h, k => by
    simp only [RL] at h
    obtain ⟨v, us', rfl, h1, h2⟩ := h
    show RL w I (x :: (xs ++ ys)) _
    simp only [RL]
    exact ⟨v, us' ++ vs, rfl, h1, h2.append k⟩
theorem RL.take : ∀ {xs : List PV} {us : List Value}, RL w I xs us → ∀ n, RL w I (xs.take n) (us.take n)
  | [], _, h, n => by simp only [RL] at h; subst h; simp [RL]
  | x :: xs, _, h, 0 => by simp [RL]
  | x :: xs, _, h, n + 1 => by
    simp only [RL] at h
    obtain ⟨v, us', rfl, h1, h2⟩ := h
    simp only [List.take_succ_cons, RL]
    exact ⟨v, us'.take n, rfl, h1, h2.take n⟩
theorem RL.drop : ∀ {xs : List PV} {us : List Value}, RL w I xs us → ∀ n, RL w I (xs.drop n) (us.drop n)
  | [], _, h, n => by simp only [RL] at h; subst h; simp [RL]
  | x :: xs, _, h, 0 => h
  | x :: xs, _, h, n + 1 => by
    simp only [RL] at h
    obtain ⟨v, us', rfl, h1, h2⟩ := h
    simpa using h2.drop n
theorem RL.set : ∀ {xs : List PV} {us : List Value}, RL w I xs us → ∀ (j : Nat) {x : PV} {u : Value}, R1 w I x u → RL w I (xs.set j x) (us.set j u)
  | [], _, h, j, _, _, _ => by simp only [RL] at h; subst h; simp [RL]
  | y :: xs, _, h, j, x, u, hx => by
    simp only [RL] at h
    obtain ⟨v, us', rfl, h1, h2⟩ := h
    cases j with
    | zero => simp only [List.set_cons_zero, RL]; exact ⟨u, us', rfl, hx, h2⟩
    | succ j => simp only [List.set_cons_succ, RL]; exact ⟨v, us'.set j u, rfl, h1, h2.set j hx⟩

theorem RE.length {sz : Nat} : ∀ {xs : List (List PV)} {us : List Value}, RE w I sz xs us → us.length = xs.length * sz
  | [], _, h => by simp only [RE] at h; simp [h]
  | x :: xs, _, h => by
    simp only [RE] at h
    obtain ⟨u1, u2, rfl, h1, _, h2⟩ := h
    simp [h1, h2.length, Nat.add_mul, Nat.add_comm]
theorem RE.one {sz : Nat} : ∀ {xs : List (List PV)} {us : List Value}, RE w I sz xs us → ∀ u ∈ us, u.oneCell' = true
  | [], _, h, u, hu => by simp only [RE] at h; subst h; cases hu
  | x :: xs, _, h, u, hu => by
    simp only [RE] at h
    obtain ⟨u1, u2, rfl, h1, h3, h2⟩ := h
    rcases List.mem_append.1 hu with hu | hu
    · exact h3.one u hu
    · exact h2.one u hu
theorem RE.flat {sz : Nat} : ∀ {xs : List (List PV)} {us : List Value}, RE w I sz xs us → RL w I xs.flatten us
  | [], _, h => by simp only [RE] at h; subst h; simp [RL]
  | x :: xs, _, h => by
    simp only [RE] at h
    obtain ⟨u1, u2, rfl, h1, h3, h2⟩ := h
    simpa using h3.append h2.flat
theorem RE.append {sz : Nat} : ∀ {xs ys : List (List PV)} {us vs : List Value}, RE w I sz xs us → RE w I sz ys vs → RE w I sz (xs ++ ys) (us ++ vs)
  | [], _, _, _, h, k => by simp only [RE] at h; subst h; exact k
  | x :: xs, ys, _, vs, h, k => by
    simp only [RE] at h
    obtain ⟨u1, u2, rfl, h1, h3, h2⟩ := h
    show RE w I sz (x :: (xs ++ ys)) _
    simp only [RE]
    exact ⟨u1, u2 ++ vs, by simp, h1, h3, h2.append k⟩
theorem RE.take {sz : Nat} : ∀ {xs : List (List PV)} {us : List Value}, RE w I sz xs us → ∀ n, RE w I sz (xs.take n) (us.take (n * sz))
  | [], _, h, n => by simp only [RE] at h; subst h; simp [RE]
  | x :: xs, _, h, 0 => by simp [RE]
  | x :: xs, _, h, n + 1 => by
    simp only [RE] at h
    obtain ⟨u1, u2, rfl, h1, h3, h2⟩ := h
    simp only [List.take_succ_cons, RE]
    refine ⟨u1, u2.take (n * sz), ?_, h1, h3, h2.take n⟩
    rw [List.take_append, h1, List.take_of_length_le (by rw [h1, Nat.add_mul]; omega)]
    congr 2
    rw [Nat.add_mul]; omega
theorem RE.drop {sz : Nat} : ∀ {xs : List (List PV)} {us : List Value}, RE w I sz xs us → ∀ n, RE w I sz (xs.drop n) (us.drop (n * sz))
  | [], _, h, n => by simp only [RE] at h; subst h; simp [RE]
  | x :: xs, _, h, 0 => by simpa using h
  | x :: xs, _, h, n + 1 => by
    simp only [RE] at h
    obtain ⟨u1, u2, rfl, h1, h3, h2⟩ := h
    have := h2.drop n
    rw [show (n + 1) * sz = u1.length + n * sz by rw [h1, Nat.add_mul]; omega, List.drop_length_add_append]
    exact this
theorem RE.at {sz : Nat} {xs : List (List PV)} {us : List Value} (h : RE w I sz xs us) {i : Nat} {x : List PV} (hx : xs[i]? = some x) : ∃ u1, RL w I x u1 ∧ u1.length = sz ∧ ∀ j u, u1[j]? = some u → us[i * sz + j]? = some u := by
  have h1 := h.drop i
  have hi := List.getElem?_eq_some_iff.1 hx
  obtain ⟨hl, hg⟩ := hi
  rw [List.drop_eq_getElem_cons hl] at h1
  simp only [RE] at h1
  obtain ⟨u1, u2, e, e1, h3, _⟩ := h1
  refine ⟨u1, hg ▸ h3, e1, fun j u hj => ?_⟩
  have : (us.drop (i * sz))[j]? = some u := by
    rw [e, List.getElem?_append_left (List.getElem?_eq_some_iff.1 hj).1]; exact hj
  rwa [List.getElem?_drop] at this
theorem RE.width {sz : Nat} : ∀ {xs : List (List PV)} {us : List Value}, RE w I sz xs us → ∀ x ∈ xs, x.length = sz
  | [], _, _, x, hx => by cases hx
  | y :: xs, _, h, x, hx => by
    simp only [RE] at h
    obtain ⟨u1, u2, rfl, h1, h3, h2⟩ := h
    rcases List.mem_cons.1 hx with rfl | hx
    · rw [← h3.length, h1]
    · exact h2.width x hx
/-- Elements out of flat cells. -/
theorem RE_of_flat {sz : Nat} : ∀ {xs : List (List PV)} {us : List Value}, (∀ x ∈ xs, x.length = sz) → RL w I xs.flatten us → RE w I sz xs us
  | [], us, _, h => by simpa [RL, RE] using h
  | x :: xs, us, hw, h => by
    have hx := hw x (List.mem_cons_self ..)
    simp only [List.flatten_cons] at h
    simp only [RE]
    refine ⟨us.take sz, us.drop sz, (List.take_append_drop _ _).symm, ?_, ?_, ?_⟩
    · have := h.length; simp at this; simp; omega
    · have := h.take sz; rwa [List.take_append_of_le_length (by omega), List.take_of_length_le (by omega)] at this
    · refine RE_of_flat (fun y hy => hw y (List.mem_cons_of_mem _ hy)) ?_
      have := h.drop sz
      rwa [List.drop_append_of_le_length (by omega), List.drop_of_length_le (by omega), List.nil_append] at this

/-! ### Types -/
section
variable {t : TypeId} {i : TyI}
theorem Env.agrees (E : Env) (h : E.ty t = some i) : Agrees E.P t i := E.ok.look h
theorem ty_info (h : E.ty t = some i) : ∃ j z, E.P.info? t = some j ∧ j.size = i.size ∧ j.bytes = i.bytes ∧ j.zero = some z ∧ z.cells.toList = i.zero ∧ (i.k.isAgg = true → ∃ cs, z = .agg cs) ∧ (i.k.isAgg = false → ∀ cs, z ≠ .agg cs) := by
  have hi := (E.agrees h).info
  cases e : E.P.info? t with
  | none => rw [e] at hi; cases hi
  | some j =>
    rw [e] at hi
    simp only [Option.map_some, Option.some.injEq, Prod.mk.injEq] at hi
    obtain ⟨h1, h2, h3⟩ := hi
    cases e2 : j.zero with
    | none => rw [e2] at h3; cases h3
    | some z =>
      rw [e2] at h3
      simp only [Option.map_some, Option.some.injEq, Prod.mk.injEq] at h3
      refine ⟨j, z, rfl, h1, h2, e2, h3.1, fun hk => ?_, fun hk cs hc => ?_⟩
      · have := h3.2; rw [hk] at this
        cases z <;> simp at this
        exact ⟨_, rfl⟩
      · have := h3.2; rw [hk, hc] at this; simp at this
theorem ty_sizeOf (h : E.ty t = some i) (w : World) : (sizeOf t).run E.P w = .ok i.size w := by
  obtain ⟨j, z, h1, h2, _⟩ := ty_info h
  simp [sizeOf, run_typeInfo w h1, h2]
theorem ty_typeInfo (h : E.ty t = some i) (w : World) : ∃ j, (typeInfo t).run E.P w = .ok j w ∧ j.bytes = i.bytes := by
  obtain ⟨j, z, h1, h2, h3, _⟩ := ty_info h
  exact ⟨j, run_typeInfo w h1, h3⟩
theorem ty_zero (h : E.ty t = some i) (w : World) : ∃ z, (zeroValue t).run E.P w = .ok z w ∧ z.cells.toList = i.zero := by
  obtain ⟨j, z, h1, h2, h3, h4, h5, _⟩ := ty_info h
  exact ⟨z, by simp [zeroValue, run_typeInfo w h1, h4], h5⟩
theorem ty_isAgg (h : E.ty t = some i) (w : World) : (isAgg t).run E.P w = .ok i.k.isAgg w := by
  have hd := (E.agrees h).desc
  unfold isAgg
  cases hk : i.k <;> simp only [hk, TK.desc] at hd <;> simp only [TK.isAgg]
  case struct fs => obtain ⟨fields, hd, _⟩ := hd; simp [run_underlying hd]
  case func => obtain ⟨_, _, _, hd⟩ := hd; simp [run_underlying hd]
  case iface => obtain ⟨_, hd⟩ := hd; simp [run_underlying hd]
  all_goals simp [run_underlying hd]
end

/-- A value of a type out of cells. -/
def valOf (a : Bool) (cs : List PV) : PV := if a then .agg cs else cs.getD 0 .any
theorem R_valOf {a : Bool} {cs : List PV} {us : List Value} (h : RL w I cs us) (ha : a = false → cs.length = 1) : R w I (valOf a cs) (ofCells a us) := by
  unfold valOf ofCells
  cases a with
  | true => exact ⟨us, rfl, h⟩
  | false =>
    match cs, ha rfl with
    | [x], _ =>
      simp only [RL] at h
      obtain ⟨u, us', rfl, h1, h2⟩ := h
      simp
      cases x <;> first | exact h1 | trivial | (simp only [R1] at h1)
/-- A load of a type whose cells are known. -/
theorem run_loadVar_known {t : TypeId} {i : TyI} (h : E.ty t = some i) {ad : Addr} {us : List Value} (hl : us.length = i.size) (hs : i.k.isAgg = false → i.size = 1)
    (hc : ∀ j u, us[j]? = some u → w.cell? (ad.add j) = some u) : (loadVar t ad).run E.P w = .ok (ofCells i.k.isAgg us) w := by
  unfold loadVar
  simp only [Sem.run_bind, ty_isAgg h, Result.andThen_ok]
  cases hk : i.k.isAgg with
  | true =>
    simp only [if_true, Sem.run_bind, ty_sizeOf h, Result.andThen_ok]
    rw [← hl, run_loadCells_list _ _ _ hc]
    simp [ofCells]
  | false =>
    have h1 : us.length = 1 := by rw [hl]; exact hs hk
    match us, h1 with
    | [u], _ =>
      have := hc 0 u rfl
      have e : ad.add 0 = ad := by simp [Addr.add]
      rw [e] at this
      simp [ofCells, load, Sem.run, this]
end
end Go.Proofs.Ythlibdhjcjangaa.Lift
