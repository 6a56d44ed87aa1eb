/- Contracts of functions that the law reaches. -/
import Derived.Test.YtincpomenogppaaDoorWl
set_option linter.unusedSimpArgs false
set_option linter.unusedVariables false
namespace Go.Proofs.YtincpomenogppaaDoor
open Go Go.RowKit Go.Proofs.YtincpomenogppaaDoor Go.Proofs.YtincpomenogppaaDoor.Lift
set_option maxRecDepth 100000

/-! Patch (no program in sight) -/
def errP (x : List (List UInt8)) (fr : Nat) (out : List (List UInt8)) (e : Ed) : Int :=
  if e.del = [] ∧ e.ins = [] then 12
  else if e.a < (fr : Int) then 10
  else if (x.length : Int) < e.a + (e.del.length : Int) then 11
  else if (x.drop e.a.toNat).take e.del.length ≠ e.del then 14
  else if e.b ≠ (out.length : Int) + (e.a - (fr : Int)) then 2
  else if e.ins.all lineB = true then 0 else 9
def frP (e : Ed) : Nat := e.a.toNat + e.del.length
def outP (x : List (List UInt8)) (fr : Nat) (out : List (List UInt8)) (e : Ed) : List (List UInt8) := out ++ ((x.take e.a.toNat).drop fr ++ e.ins)
def endE (o : List (List UInt8)) : Int := if o.dropLast.all endB = true then 0 else 9
def patchE (x : List (List UInt8)) : Nat → List (List UInt8) → List Ed → Int × List (List UInt8)
  | fr, out, [] => (endE (out ++ x.drop fr), out ++ x.drop fr)
  | fr, out, e :: es => if errP x fr out e = 0 then patchE x (frP e) (outP x fr out e) es else (errP x fr out e, [])
structure OkP (x : List (List UInt8)) (fr : Nat) (out : List (List UInt8)) (e : Ed) : Prop where
  some : ¬ (e.del = [] ∧ e.ins = [])
  lo : (fr : Int) ≤ e.a
  hi : e.a + (e.del.length : Int) ≤ (x.length : Int)
  del : (x.drop e.a.toNat).take e.del.length = e.del
  pos : e.b = (out.length : Int) + (e.a - (fr : Int))
  ins : e.ins.all lineB = true
theorem errP_iff (x : List (List UInt8)) (fr : Nat) (out : List (List UInt8)) (e : Ed) : errP x fr out e = 0 ↔ OkP x fr out e := by
  unfold errP
  constructor
  · intro h
    split at h
    · cases h
    · split at h
      · cases h
      · split at h
        · cases h
        · split at h
          · cases h
          · split at h
            · cases h
            · split at h
              · rename_i h1 h2 h3 h4 h5 h6
                exact ⟨h1, by omega, by omega, Decidable.not_not.1 h4, Decidable.not_not.1 h5, h6⟩
              · cases h
  · rintro ⟨h1, h2, h3, h4, h5, h6⟩
    rw [if_neg h1, if_neg (by omega), if_neg (by omega), if_neg (fun k => k h4), if_neg (fun k => k h5), if_pos h6]
/-- What the lines of a text are. -/
structure Lined (x : List (List UInt8)) : Prop where
  all : x.all lineB = true
  ends : x.dropLast.all endB = true
theorem line_cases {l : List UInt8} (h : lineB l = true) : (∃ p, 10 ∉ p ∧ l = p ++ [10]) ∨ (10 ∉ l ∧ l ≠ [] ∧ endB l = false) := by
  rcases List.eq_nil_or_concat l with rfl | ⟨p, b, rfl⟩
  · cases h
  · rw [List.concat_eq_append] at *
    unfold lineB at h
    rw [List.dropLast_concat, Bool.and_eq_true] at h
    have hp : 10 ∉ p := by simpa using h.2
    by_cases e : b = 10
    · subst e; exact .inl ⟨p, hp, rfl⟩
    · refine .inr ⟨?_, by simp, ?_⟩
      · rw [List.mem_append, not_or]
        exact ⟨hp, fun k => e (List.mem_singleton.1 k).symm⟩
      · unfold endB; simpa using e
theorem Lined.lines : ∀ {x : List (List UInt8)}, Lined x → linesOf x.flatten = x
  | [], _ => rfl
  | [l], h => by
    have hl : lineB l = true := by simpa using h.all
    rw [List.flatten_cons, List.flatten_nil, List.append_nil]
    rcases line_cases hl with ⟨p, hp, rfl⟩ | ⟨h1, h2, _⟩
    · exact linesOf_line hp
    · exact linesOf_end h1 h2
  | l :: m :: r, h => by
    have ha : lineB l = true ∧ (m :: r).all lineB = true := by simpa using h.all
    have he : endB l = true ∧ (m :: r).dropLast.all endB = true := by simpa using h.ends
    have ih := Lined.lines (x := m :: r) ⟨ha.2, he.2⟩
    rcases line_cases ha.1 with ⟨p, hp, rfl⟩ | ⟨_, _, h3⟩
    · rw [List.flatten_cons, show p ++ [10] ++ (m :: r).flatten = p ++ 10 :: (m :: r).flatten by simp, linesOf_line hp, ih]
    · rw [h3] at he; cases he.1
theorem Lined.of : ∀ s : List UInt8, Lined (linesOf s)
  | [] => ⟨rfl, rfl⟩
  | b :: s => by
    obtain ⟨h1, h2⟩ := Lined.of s
    unfold linesOf
    split
    · refine ⟨?_, ?_⟩
      · rw [List.all_cons, h1]; rfl
      · cases e : linesOf s with
        | nil => rfl
        | cons y ys => rw [e] at h2; rw [List.dropLast_cons_cons, List.all_cons, h2]; rfl
    · rename_i hb
      cases e : linesOf s with
      | nil => exact ⟨by simp [lineB], rfl⟩
      | cons y ys =>
        rw [e] at h1 h2
        have hy : lineB y = true ∧ ys.all lineB = true := by simpa using h1
        have hyb : lineB (b :: y) = true := by
          have := hy.1
          unfold lineB at this ⊢
          cases y with
          | nil => cases this
          | cons c y =>
            simp at this ⊢
            exact ⟨fun k => hb k.symm, this⟩
        refine ⟨by show ((b :: y) :: ys).all lineB = true; rw [List.all_cons, hyb, hy.2]; rfl, ?_⟩
        cases ys with
        | nil => rfl
        | cons z zs =>
          have he : endB y = true ∧ (z :: zs).dropLast.all endB = true := by simpa using h2
          have : endB (b :: y) = true := by
            have h := he.1
            unfold endB at h ⊢
            cases y with
            | nil => cases h
            | cons c y => rw [List.getLast?_cons_cons]; exact h
          show ((b :: y) :: z :: zs).dropLast.all endB = true
          rw [List.dropLast_cons_cons, List.all_cons, this, he.2]; rfl
theorem Lined.endE {x : List (List UInt8)} (h : Lined x) : endE x = 0 := by unfold Go.Proofs.YtincpomenogppaaDoor.endE; rw [if_pos h.ends]
def revE (e : Ed) : Ed := ⟨e.b, e.a, e.ins, e.del⟩
/-- What leads from one text to another leads back. -/
theorem patch_back {x o : List (List UInt8)} (hx : Lined x) : ∀ (es : List Ed) (fr : Nat) (out : List (List UInt8)), fr ≤ x.length → out.all lineB = true → patchE x fr out es = (0, o) → (∃ t, o = out ++ t) ∧ Lined o ∧ patchE o out.length (x.take fr) (es.map revE) = (0, x)
  | [], fr, out, hf, ho, h => by
    unfold patchE at h
    injection h with h1 h2
    have he : endE o = 0 := by rw [← h2]; exact h1
    have hoa : o.all lineB = true := by
      rw [← h2, List.all_append, ho, Bool.true_and]
      have := hx.all
      rw [← List.take_append_drop fr x, List.all_append, Bool.and_eq_true] at this
      exact this.2
    have hl : Lined o := ⟨hoa, by unfold endE at he; split at he; assumption; cases he⟩
    refine ⟨⟨_, h2.symm⟩, hl, ?_⟩
    rw [List.map_nil]
    unfold patchE
    rw [← h2, List.drop_left, List.take_append_drop, hx.endE]
  | e :: es, fr, out, hf, ho, h => by
    unfold patchE at h
    split at h
    · rename_i hz
      obtain ⟨h1, h2, h3, h4, h5, h6⟩ := (errP_iff _ _ _ _).1 hz
      obtain ⟨A, hA⟩ : ∃ A : Nat, e.a = (A : Int) := ⟨e.a.toNat, by omega⟩
      obtain ⟨B, hB⟩ : ∃ B : Nat, e.b = (B : Int) := ⟨e.b.toNat, by omega⟩
      have hfA : fr ≤ A := by omega
      have hAx : A + e.del.length ≤ x.length := by omega
      have hBo : B = out.length + (A - fr) := by omega
      rw [hA, Int.toNat_natCast] at h4
      have hml : ((x.take A).drop fr).length = A - fr := by rw [List.length_drop, List.length_take]; omega
      have hxa := hx.all
      have hdel : e.del.all lineB = true := by
        rw [List.all_eq_true] at hxa ⊢
        intro l hl
        rw [← h4] at hl
        exact hxa l (List.mem_of_mem_drop (List.mem_of_mem_take hl))
      have hmid : ((x.take A).drop fr).all lineB = true := by
        rw [List.all_eq_true] at hxa ⊢
        intro l hl
        exact hxa l (List.mem_of_mem_take (List.mem_of_mem_drop hl))
      obtain ⟨O, hO⟩ : ∃ O, O = outP x fr out e := ⟨_, rfl⟩
      have hO2 : O = out ++ ((x.take A).drop fr ++ e.ins) := by rw [hO]; unfold outP; rw [hA]; rfl
      have hfr : frP e = A + e.del.length := by unfold frP; rw [hA]; rfl
      have hOl : O.length = B + e.ins.length := by rw [hO2, List.length_append, List.length_append, hml]; omega
      obtain ⟨⟨t, ht⟩, hl, hp⟩ := patch_back hx es (frP e) O (by omega) (by rw [hO2, List.all_append, List.all_append, ho, hmid, h6]; rfl) (by rw [hO]; exact h)
      have hoe : o = (out ++ (x.take A).drop fr) ++ (e.ins ++ t) := by rw [ht, hO2]; simp
      have hpl : (out ++ (x.take A).drop fr).length = B := by rw [List.length_append, hml]; omega
      refine ⟨⟨(x.take A).drop fr ++ e.ins ++ t, by rw [hoe]; simp⟩, hl, ?_⟩
      rw [List.map_cons]
      unfold patchE
      have hok : errP o out.length (x.take fr) (revE e) = 0 := by
        rw [errP_iff]
        refine ⟨fun k => h1 ⟨k.2, k.1⟩, ?_, ?_, ?_, ?_, hdel⟩
        · show (out.length : Int) ≤ e.b; omega
        · show e.b + (e.ins.length : Int) ≤ (o.length : Int)
          rw [ht, List.length_append, hOl]; omega
        · show (o.drop e.b.toNat).take e.ins.length = e.ins
          rw [hB, Int.toNat_natCast, hoe, ← hpl, List.drop_left, List.take_left]
        · show e.a = ((x.take fr).length : Int) + (e.b - (out.length : Int))
          rw [List.length_take]; omega
      rw [if_pos hok]
      have e1 : frP (revE e) = O.length := by
        unfold frP
        show e.b.toNat + e.ins.length = _
        rw [hB, Int.toNat_natCast, hOl]
      have e2 : outP o out.length (x.take fr) (revE e) = x.take (frP e) := by
        unfold outP
        show x.take fr ++ ((o.take e.b.toNat).drop out.length ++ e.del) = _
        rw [hB, Int.toNat_natCast, hoe, ← hpl, List.take_left, List.drop_left, hfr, List.take_add, h4, ← List.append_assoc]
        congr 1
        have := List.take_append_drop fr (x.take A)
        rwa [List.take_take, Nat.min_eq_left hfA] at this
      rw [e1, e2]
      exact hp
    · rename_i hz
      injection h with h1 _
      exact absurd h1 hz
/-! The changes of Diff lead from one text to the other -/
theorem okP_until {x y : List (List UInt8)} (hy : Lined y) {f g i j p q : Nat} (hfi : f ≤ i) (hgj : g ≤ j) (hd : i - f = j - g) (hip : i ≤ p) (hp : p ≤ x.length) (hjq : j ≤ q) (hq : q ≤ y.length) (h : i < p ∨ j < q) : OkP x f (y.take g) ⟨i, j, (x.take p).drop i, (y.take q).drop j⟩ := by
  have l1 : ((x.take p).drop i).length = p - i := by rw [List.length_drop, List.length_take]; omega
  have l2 : ((y.take q).drop j).length = q - j := by rw [List.length_drop, List.length_take]; omega
  refine ⟨?_, ?_, ?_, ?_, ?_, ?_⟩
  · rintro ⟨k1, k2⟩
    have k1 : (x.take p).drop i = [] := k1
    have k2 : (y.take q).drop j = [] := k2
    rw [k1] at l1; rw [k2] at l2
    simp at l1 l2; omega
  · show (f : Int) ≤ (i : Int); omega
  · show (i : Int) + (((x.take p).drop i).length : Int) ≤ _; rw [l1]; omega
  · show (x.drop (i : Int).toNat).take ((x.take p).drop i).length = (x.take p).drop i
    rw [l1, Int.toNat_natCast, List.drop_take]
  · show (j : Int) = ((y.take g).length : Int) + ((i : Int) - (f : Int))
    rw [List.length_take]; omega
  · have := hy.all
    rw [List.all_eq_true] at this ⊢
    intro l hl
    exact this l (List.mem_of_mem_take (List.mem_of_mem_drop hl))
theorem until_patch {x y : List (List UInt8)} (hy : Lined y) {f g i j p q : Nat} (hfi : f ≤ i) (hgj : g ≤ j) (hd : i - f = j - g) (hip : i ≤ p) (hp : p ≤ x.length) (hjq : j ≤ q) (hq : q ≤ y.length) (he : (x.take i).drop f = (y.take j).drop g) (es : List Ed) :
    ∃ f' g', f' ≤ p ∧ g' ≤ q ∧ p - f' = q - g' ∧ (x.take p).drop f' = (y.take q).drop g' ∧ patchE x f (y.take g) (untilE x y i j p q ++ es) = patchE x f' (y.take g') es := by
  by_cases h : i < p ∨ j < q
  · refine ⟨p, q, Nat.le_refl _, Nat.le_refl _, by omega, by rw [List.drop_of_length_le (by rw [List.length_take]; omega), List.drop_of_length_le (by rw [List.length_take]; omega)], ?_⟩
    unfold untilE
    rw [if_pos h, List.singleton_append, patchE, if_pos ((errP_iff _ _ _ _).2 (okP_until hy hfi hgj hd hip hp hjq hq h))]
    have e1 : frP ⟨i, j, (x.take p).drop i, (y.take q).drop j⟩ = p := by
      show (i : Int).toNat + ((x.take p).drop i).length = p
      rw [Int.toNat_natCast, List.length_drop, List.length_take]; omega
    have e2 : outP x f (y.take g) ⟨i, j, (x.take p).drop i, (y.take q).drop j⟩ = y.take q := by
      show y.take g ++ ((x.take (i : Int).toNat).drop f ++ (y.take q).drop j) = _
      rw [Int.toNat_natCast, he, ← List.append_assoc]
      have a1 := List.take_append_drop g (y.take j)
      rw [List.take_take, Nat.min_eq_left hgj] at a1
      rw [a1]
      have a2 := List.take_append_drop j (y.take q)
      rwa [List.take_take, Nat.min_eq_left hjq] at a2
    rw [e1, e2]
  · have e1 : i = p := by omega
    have e2 : j = q := by omega
    subst e1 e2
    exact ⟨f, g, hfi, hgj, hd, he, by unfold untilE; rw [if_neg h]; rfl⟩
theorem drop_next {x : List (List UInt8)} {f p : Nat} (h : f ≤ p) (hp : p < x.length) : (x.take (p + 1)).drop f = (x.take p).drop f ++ [x[p]] := by
  rw [List.take_succ_eq_append_getElem hp, List.drop_append_of_le_length (by rw [List.length_take]; omega)]
theorem diff_patchP {x y : List (List UInt8)} (hy : Lined y) : ∀ (n i j f g : Nat), x.length - i ≤ n → i ≤ x.length → j ≤ y.length → f ≤ i → g ≤ j → i - f = j - g → (x.take i).drop f = (y.take j).drop g → patchE x f (y.take g) (diffP x y i i j) = (0, y) := by
  have fin : ∀ i j f g : Nat, i ≤ x.length → j ≤ y.length → f ≤ i → g ≤ j → i - f = j - g → (x.take i).drop f = (y.take j).drop g → tabT x y i j = 0 → patchE x f (y.take g) (diffP x y i i j) = (0, y) := by
    intro i j f g hi hj hf hg hd he ht
    rw [diffP_end (.inr ht)]
    obtain ⟨f', g', a1, a2, a3, a4, a5⟩ := until_patch hy hf hg hd hi (Nat.le_refl _) hj (Nat.le_refl _) he []
    rw [List.append_nil] at a5
    rw [a5, patchE]
    rw [List.take_length, List.take_length] at a4
    rw [a4, List.take_append_drop, hy.endE]
  intro n
  induction n with
  | zero =>
    intro i j f g hn hi hj hf hg hd he
    exact fin i j f g hi hj hf hg hd he (tabT_end _ _ (.inl (by omega)))
  | succ n ih =>
    intro i j f g hn hi hj hf hg hd he
    by_cases ht : tabT x y i j = 0
    · exact fin i j f g hi hj hf hg hd he ht
    · obtain ⟨p, q, h1, h2, h3, h4, h5, _, _, h8⟩ := diffP_next ht
      rw [h8]
      obtain ⟨f', g', a1, a2, a3, a4, a5⟩ := until_patch hy hf hg hd h1 (by omega) h3 (by omega) he (diffP x y (p + 1) (p + 1) (q + 1))
      rw [a5]
      have hxy : x[p] = y[q] := by
        unfold keepB at h5
        rw [Bool.and_eq_true, decide_eq_true_eq, List.getD_eq_getElem?_getD, List.getElem?_eq_getElem h2, List.getD_eq_getElem?_getD, List.getElem?_eq_getElem h4] at h5
        exact h5.1
      exact ih (p + 1) (q + 1) f' g' (by omega) (by omega) (by omega) (by omega) (by omega) (by omega) (by rw [drop_next a1 h2, drop_next a2 h4, a4, hxy])
theorem diff_patch (x y : List (List UInt8)) (hy : Lined y) : patchE x 0 [] (diffS x y) = (0, y) :=
  diff_patchP hy x.length 0 0 0 0 (by omega) (Nat.zero_le _) (Nat.zero_le _) (Nat.le_refl _) (Nat.le_refl _) rfl rfl
/-! How many lines are changed -/
def costE (e : Ed) : Nat := e.del.length + e.ins.length
def costS (es : List Ed) : Nat := (es.map costE).sum
theorem costS_append (a b : List Ed) : costS (a ++ b) = costS a + costS b := by unfold costS; rw [List.map_append, List.sum_append]
theorem cost_until {x y : List (List UInt8)} {i j p q : Nat} (hip : i ≤ p) (hp : p ≤ x.length) (hjq : j ≤ q) (hq : q ≤ y.length) : costS (untilE x y i j p q) = (p - i) + (q - j) := by
  unfold untilE
  split
  · show costE _ + 0 = _
    show ((x.take p).drop i).length + ((y.take q).drop j).length + 0 = _
    rw [List.length_drop, List.length_take, List.length_drop, List.length_take]; omega
  · show 0 = _; omega
theorem cost_diffP {x y : List (List UInt8)} : ∀ (n i j : Nat), x.length - i ≤ n → i ≤ x.length → j ≤ y.length → costS (diffP x y i i j) + 2 * tabT x y i j = (x.length - i) + (y.length - j) := by
  intro n
  induction n with
  | zero =>
    intro i j hn hi hj
    have ht : tabT x y i j = 0 := tabT_end _ _ (.inl (by omega))
    rw [diffP_end (.inr ht), cost_until hi (Nat.le_refl _) hj (Nat.le_refl _), ht]; omega
  | succ n ih =>
    intro i j hn hi hj
    by_cases ht : tabT x y i j = 0
    · rw [diffP_end (.inr ht), cost_until hi (Nat.le_refl _) hj (Nat.le_refl _), ht]; omega
    · obtain ⟨p, q, h1, h2, h3, h4, h5, _, _, h8⟩ := diffP_next ht
      rw [h8, costS_append, cost_until h1 (by omega) h3 (by omega)]
      have := ih (p + 1) (q + 1) (by omega) (by omega) (by omega)
      unfold keepB at h5
      rw [Bool.and_eq_true, decide_eq_true_eq, decide_eq_true_eq] at h5
      omega
theorem cost_diff (x y : List (List UInt8)) : costS (diffS x y) + 2 * lcs x y = x.length + y.length := by
  have := cost_diffP (x := x) (y := y) x.length 0 0 (by omega) (Nat.zero_le _) (Nat.zero_le _)
  exact this
theorem lcs_comm : ∀ x y, lcs x y = lcs y x
  | [], y => by rw [lcs_nil]; unfold lcs; rfl
  | a :: x, [] => by rw [lcs_nil]; unfold lcs; rfl
  | a :: x, b :: y => by
    have h1 := lcs_comm x y
    have h2 := lcs_comm x (b :: y)
    have h3 := lcs_comm (a :: x) y
    rw [lcs, lcs]
    by_cases e : a = b
    · rw [if_pos e, if_pos e.symm, h1]
    · rw [if_neg e, if_neg (fun k => e k.symm), h2, h3, Nat.max_comm]
  termination_by x y => x.length + y.length
theorem lcs_self : ∀ x, lcs x x = x.length
  | [] => by unfold lcs; rfl
  | a :: x => by rw [lcs, if_pos rfl, lcs_self x]; rfl
theorem lcs_tri : ∀ x y z, lcs x y + lcs y z ≤ y.length + lcs x z
  | [], y, z => by
    have := lcs_le y z
    have e : lcs [] y = 0 := by unfold lcs; rfl
    omega
  | a :: x, [], z => by
    have e : lcs [] z = 0 := by unfold lcs; rfl
    rw [lcs_nil, e]; omega
  | a :: x, b :: y, [] => by
    have := lcs_le (a :: x) (b :: y)
    rw [lcs_nil, lcs_nil]; omega
  | a :: x, b :: y, c :: z => by
    have m1 := lcs_mono x (c :: z) a
    have m2 := lcs_mono (a :: x) z c
    have m3 := lcs_mono y (c :: z) b
    by_cases e1 : a = b
    · by_cases e2 : b = c
      · subst e1 e2
        have h := lcs_tri x y z
        have k1 : lcs (a :: x) (a :: y) = lcs x y + 1 := by rw [lcs, if_pos rfl]
        have k2 : lcs (a :: y) (a :: z) = lcs y z + 1 := by rw [lcs, if_pos rfl]
        have k3 : lcs (a :: x) (a :: z) = lcs x z + 1 := by rw [lcs, if_pos rfl]
        rw [k1, k2, k3, List.length_cons]; omega
      · have k1 : lcs (a :: x) (b :: y) = lcs x y + 1 := by rw [lcs, if_pos e1]
        have k2 : lcs (b :: y) (c :: z) = max (lcs y (c :: z)) (lcs (b :: y) z) := by rw [lcs, if_neg e2]
        have h1 := lcs_tri x y (c :: z)
        have h2 := lcs_tri (a :: x) (b :: y) z
        rw [k1] at h2 ⊢
        rw [k2]
        rw [List.length_cons] at h2 ⊢
        omega
    · have k1 : lcs (a :: x) (b :: y) = max (lcs x (b :: y)) (lcs (a :: x) y) := by rw [lcs, if_neg e1]
      have h1 := lcs_tri x (b :: y) (c :: z)
      have h2 := lcs_tri (a :: x) y (c :: z)
      rw [k1]
      rw [List.length_cons] at h1 ⊢
      omega
  termination_by x y z => x.length + y.length + z.length
end Go.Proofs.YtincpomenogppaaDoor
