/- Contracts of functions that the law reaches. -/
import Derived.Test.YtincpomenogppaaGreatDoorXa
set_option linter.unusedSimpArgs false
set_option linter.unusedVariables false
namespace Go.Proofs.YtincpomenogppaaGreatDoor
open Go Go.RowKit Go.Proofs.YtincpomenogppaaGreatDoor Go.Proofs.YtincpomenogppaaGreatDoor.Lift
set_option maxRecDepth 100000

def headOK (u : List UInt8) : Prop := u.head? ≠ some 92
theorem headOK.pre {u : List UInt8} (h : headOK u) : prefixS u [92, 10] = false := by
  unfold prefixS
  cases u with
  | nil => rfl
  | cons b u =>
    have hb : b ≠ 92 := fun e => h (by rw [e]; rfl)
    cases u with
    | nil => rfl
    | cons d u => simp [hb]
theorem line_cases {l : List UInt8} (h : lineB l = true) : (∃ p, 10 ∉ p ∧ l = p ++ [10]) ∨ (10 ∉ l ∧ l ≠ [] ∧ endB l = false) := by
  rcases List.eq_nil_or_concat l with rfl | ⟨p, b, rfl⟩
  · cases h
  · rw [List.concat_eq_append] at *
    unfold lineB at h
    rw [List.dropLast_concat, Bool.and_eq_true] at h
    have hp : 10 ∉ p := by simpa using h.2
    by_cases e : b = 10
    · subst e; exact .inl ⟨p, hp, rfl⟩
    · refine .inr ⟨?_, by simp, ?_⟩
      · rw [List.mem_append, not_or]
        exact ⟨hp, fun k => e (List.mem_singleton.1 k).symm⟩
      · unfold endB; simpa using e
theorem cut_line {c : UInt8} (hc : c ≠ 10) {l : List UInt8} (hl : lineB l = true) {u : List UInt8} : ∃ p, 10 ∉ p ∧ ((l = p ++ [10] ∧ cutB 10 (showG c l ++ u) = (c :: p, u, true)) ∨ (l = p ∧ cutB 10 (showG c l ++ u) = (c :: p, 92 :: 10 :: u, true))) := by
  rcases line_cases hl with ⟨p, hp, rfl⟩ | ⟨h1, h2, h3⟩
  · refine ⟨p, hp, .inl ⟨rfl, ?_⟩⟩
    have he : endB (p ++ [10]) = true := by unfold endB; simp
    have e1 : showG c (p ++ [10]) ++ u = (c :: p) ++ 10 :: u := by
      unfold showG; rw [he]; simp
    rw [e1, cutB_in]
    rw [List.mem_cons, not_or]
    exact ⟨fun e => hc e.symm, hp⟩
  · refine ⟨l, h1, .inr ⟨rfl, ?_⟩⟩
    have e1 : showG c l ++ u = (c :: l) ++ 10 :: (92 :: 10 :: u) := by
      unfold showG; rw [h3]; simp
    rw [e1, cutB_in]
    rw [List.mem_cons, not_or]
    exact ⟨fun e => hc e.symm, h1⟩
theorem step_line {c : UInt8} (hc : c ≠ 10) {l : List UInt8} (hl : lineB l = true) {u : List UInt8} (hu : headOK u) : lineStep c (showG c l ++ u) = some (l, u) := by
  obtain ⟨p, hp, h⟩ := cut_line hc hl (u := u)
  have hpx : ∀ q : List UInt8, prefixS (c :: q) [c] = true := fun q => by unfold prefixS; simp
  rcases h with ⟨e1, e2⟩ | ⟨e1, e2⟩
  · unfold lineStep
    rw [e2]
    show (if (true && prefixS (c :: p) [c]) = true then (if prefixS u [92, 10] = true then some ((c :: p).drop 1, u.drop 2) else some ((c :: p).drop 1 ++ [10], u)) else none) = _
    rw [hpx, hu.pre, e1]
    rfl
  · unfold lineStep
    rw [e2]
    have h9 : prefixS (92 :: 10 :: u) [92, 10] = true := by unfold prefixS; simp
    show (if (true && prefixS (c :: p) [c]) = true then (if prefixS (92 :: 10 :: u) [92, 10] = true then some ((c :: p).drop 1, (92 :: 10 :: u).drop 2) else some ((c :: p).drop 1 ++ [10], 92 :: 10 :: u)) else none) = _
    rw [hpx, h9, e1]
    rfl
theorem rline_line {c : UInt8} (hc : c ≠ 10) {l : List UInt8} (hl : lineB l = true) {u : List UInt8} (hu : headOK u) : rline (showG c l ++ u) = some (l, u) := by
  obtain ⟨p, hp, h⟩ := cut_line hc hl (u := u)
  rcases h with ⟨e1, e2⟩ | ⟨e1, e2⟩
  · unfold rline
    rw [e2]
    show (if (true && !(c :: p).isEmpty) = true then (if prefixS u [92, 10] = true then some ((c :: p).drop 1, u.drop 2) else some ((c :: p).drop 1 ++ [10], u)) else none) = _
    rw [hu.pre, e1]
    rfl
  · unfold rline
    rw [e2]
    have h9 : prefixS (92 :: 10 :: u) [92, 10] = true := by unfold prefixS; simp
    show (if (true && !(c :: p).isEmpty) = true then (if prefixS (92 :: 10 :: u) [92, 10] = true then some ((c :: p).drop 1, (92 :: 10 :: u).drop 2) else some ((c :: p).drop 1 ++ [10], 92 :: 10 :: u)) else none) = _
    rw [h9, e1]
    rfl
theorem headOK_shown {c : UInt8} (hc : c ≠ 92) {ls : List (List UInt8)} {u : List UInt8} (hu : headOK u) : headOK (shownS c ls ++ u) := by
  cases ls with
  | nil => exact hu
  | cons l ls =>
    show (showG c l ++ shownS c ls ++ u).head? ≠ some 92
    unfold showG
    simp [hc]
theorem rdT_shown {c : UInt8} (h10 : c ≠ 10) (h92 : c ≠ 92) : ∀ (ls : List (List UInt8)) (u : List UInt8), ls.all lineB = true → headOK u → rdT c ls.length (shownS c ls ++ u) = (some ls, u)
  | [], u, _, _ => rfl
  | l :: ls, u, hl, hu => by
    rw [List.all_cons, Bool.and_eq_true] at hl
    have e : shownS c (l :: ls) ++ u = showG c l ++ (shownS c ls ++ u) := by show (showG c l ++ shownS c ls) ++ u = _; rw [List.append_assoc]
    rw [e, List.length_cons, rdT_some _ (step_line h10 hl.1 (headOK_shown h92 hu)), rdT_shown h10 h92 ls u hl.2 hu]
    rfl
theorem rlines_shown {c : UInt8} (h10 : c ≠ 10) (h92 : c ≠ 92) : ∀ (ls : List (List UInt8)) (m : Nat) (u : List UInt8), ls.all lineB = true → headOK u → rlines (ls.length + m) (shownS c ls ++ u) = (rlines m u).map fun x => (ls ++ x.1, x.2)
  | [], m, u, _, _ => by
    rw [List.length_nil, Nat.zero_add]
    show rlines m u = (rlines m u).map fun x => (x.1, x.2)
    cases rlines m u <;> rfl
  | l :: ls, m, u, hl, hu => by
    rw [List.all_cons, Bool.and_eq_true] at hl
    have e : shownS c (l :: ls) ++ u = showG c l ++ (shownS c ls ++ u) := by show (showG c l ++ shownS c ls) ++ u = _; rw [List.append_assoc]
    rw [e, List.length_cons, show ls.length + 1 + m = (ls.length + m) + 1 by omega, rlines_some _ (rline_line h10 hl.1 (headOK_shown h92 hu)), rlines_shown h10 h92 ls m u hl.2 hu, Option.map_map]
    rfl
theorem dec_no (n : Nat) (b : UInt8) (h : b.toNat < 48 ∨ 57 < b.toNat) : b ∉ Lib.decDigits n := fun hm => by
  have := dec_mem n b hm
  omega
theorem rnumF_dec : ∀ (l : List UInt8) (acc m : Nat) (x : UInt8) (r : List UInt8), Lib.decFrom acc l = some m → m ≤ 9223372036854775807 → digB x = false → rnumF acc (l ++ x :: r) = (((m : Nat) : Int), l.length)
  | [], acc, m, x, r, h, hm, hx => by
    unfold Lib.decFrom at h
    injection h with h
    rw [List.nil_append, rnumF, if_neg (by rw [hx]; simp), h]
    rfl
  | b :: l, acc, m, x, r, h, hm, hx => by
    unfold Lib.decFrom at h
    split at h
    · rename_i d hd
      have hge := decFrom_ge l _ m h
      unfold Lib.digitVal at hd
      split at hd
      · rename_i h48
        injection hd with hd
        have hdg : digB b = true := by unfold digB; simp [h48]
        rw [List.cons_append, rnumF, if_pos hdg, if_neg (by omega)]
        have ih := rnumF_dec l (10 * acc + (b.toNat - 48)) m x r (by rw [show 10 * acc + (b.toNat - 48) = acc * 10 + d by omega]; exact h) hm hx
        rw [ih]
        rfl
      · cases hd
    · cases h
theorem rnum_dec (n : Nat) (x : UInt8) (r : List UInt8) (hn : n ≤ 9223372036854775807) (hx : digB x = false) : rnum (Lib.decDigits n ++ x :: r) = (n : Int) ∧ (Lib.decDigits n ++ x :: r).drop (rnumF 0 (Lib.decDigits n ++ x :: r)).2 = x :: r := by
  have h := rnumF_dec (Lib.decDigits n) 0 n x r (dec_dec n) hn hx
  unfold rnum
  rw [h]
  refine ⟨?_, ?_⟩
  · rw [if_neg]
    intro k
    exact dec_ne n (List.length_eq_zero_iff.1 k)
  · exact List.drop_left
theorem rnums_dec (m n : Nat) (b0 x : UInt8) (r : List UInt8) (hn : n ≤ 9223372036854775807) (hx : digB x = false) : rnums (m + 1) (b0 :: (Lib.decDigits n ++ x :: r)) = (rnums m (x :: r)).map fun y => (((n : Nat) : Int) :: y.1, y.2) := by
  obtain ⟨h1, h2⟩ := rnum_dec n x r hn hx
  have e : (b0 :: (Lib.decDigits n ++ x :: r)).drop 1 = Lib.decDigits n ++ x :: r := rfl
  rw [rnums_ok, e, h1, h2]
  rw [e, h1, h2]
  rintro (k | k)
  · omega
  · cases k
structure Ed.good (e : Ed) : Prop where
  a : ∃ A : Nat, e.a = (A : Int) ∧ A ≤ 9223372036854775807
  b : ∃ B : Nat, e.b = (B : Int) ∧ B ≤ 9223372036854775807
  d : e.del.length ≤ 9223372036854775807
  i : e.ins.length ≤ 9223372036854775807
  l : okLines e = true
def hdT (a d b i : Nat) : List UInt8 := 64 :: (Lib.decDigits a ++ 32 :: (Lib.decDigits d ++ 32 :: (Lib.decDigits b ++ 32 :: Lib.decDigits i)))
theorem hdrS_eq {e : Ed} {A B : Nat} (ha : e.a = (A : Int)) (hb : e.b = (B : Int)) : hdrS e = hdT A e.del.length B e.ins.length ++ [10] := by
  unfold hdrS hdT
  rw [ha, hb, itoa_dec, itoa_dec, itoa_dec, itoa_dec]
  simp
theorem hdT_no10 (a d b i : Nat) : 10 ∉ hdT a d b i := by
  unfold hdT
  intro h
  have n1 := dec_no a 10 (.inl (by decide))
  have n2 := dec_no d 10 (.inl (by decide))
  have n3 := dec_no b 10 (.inl (by decide))
  have n4 := dec_no i 10 (.inl (by decide))
  simp [n1, n2, n3, n4] at h
theorem split_hd (a d b i : Nat) : splitG 32 0 (cutP (hdT a d b i) [64]) = [Lib.decDigits a, Lib.decDigits d, Lib.decDigits b, Lib.decDigits i] := by
  have hp : prefixS (hdT a d b i) [64] = true := by unfold prefixS hdT; simp
  have hc : cutP (hdT a d b i) [64] = Lib.decDigits a ++ 32 :: (Lib.decDigits d ++ 32 :: (Lib.decDigits b ++ 32 :: Lib.decDigits i)) := by
    unfold cutP; rw [if_pos hp]; rfl
  have n1 := dec_no a 32 (.inl (by decide))
  have n2 := dec_no d 32 (.inl (by decide))
  have n3 := dec_no b 32 (.inl (by decide))
  have n4 := dec_no i 32 (.inl (by decide))
  rw [hc, splitG_line 0 n1, splitG_line 0 n2, splitG_line 0 n3, splitG_end 0 n4]
  simp
theorem parse1_good {e : Ed} (h : e.good) {u : List UInt8} (hu : headOK u) : parse1 (showT e ++ u) = some (e, u) := by
  obtain ⟨⟨A, ha, ha2⟩, ⟨B, hb, hb2⟩, hd, hi, hl⟩ := h
  have hl2 : e.del.all lineB = true ∧ e.ins.all lineB = true := by unfold okLines at hl; rw [List.all_append, Bool.and_eq_true] at hl; exact hl
  have e1 : showT e ++ u = hdT A e.del.length B e.ins.length ++ 10 :: (shownS 45 e.del ++ (shownS 43 e.ins ++ u)) := by
    rw [showT_shown, hdrS_eq ha hb]; simp
  have hcut : cutB 10 (showT e ++ u) = (hdT A e.del.length B e.ins.length, shownS 45 e.del ++ (shownS 43 e.ins ++ u), true) := by rw [e1, cutB_in (hdT_no10 _ _ _ _)]
  have hws : wordsOf (showT e ++ u) = [Lib.decDigits A, Lib.decDigits e.del.length, Lib.decDigits B, Lib.decDigits e.ins.length] := by unfold wordsOf; rw [hcut]; exact split_hd _ _ _ _
  have hpx : prefixS (hdT A e.del.length B e.ins.length) [64] = true := by unfold prefixS hdT; simp
  have hhead : headB (showT e ++ u) = true := by unfold headB; rw [hws, hcut]; simp [hpx]
  have hn : ∀ n : Nat, n ≤ 9223372036854775807 → atoiR (Lib.decDigits n) = (n : Int) ∧ numB (Lib.decDigits n) = true := fun n k => by rw [← itoa_dec]; exact numB_itoa n k
  have hall : (wordsOf (showT e ++ u)).all numB = true := by rw [hws]; simp [(hn _ ha2).2, (hn _ hb2).2, (hn _ hd).2, (hn _ hi).2]
  have v0 : nOf (showT e ++ u) 0 = (A : Int) := by unfold nOf; rw [hws]; exact (hn _ ha2).1
  have v1 : nOf (showT e ++ u) 1 = (e.del.length : Int) := by unfold nOf; rw [hws]; exact (hn _ hd).1
  have v2 : nOf (showT e ++ u) 2 = (B : Int) := by unfold nOf; rw [hws]; exact (hn _ hb2).1
  have v3 : nOf (showT e ++ u) 3 = (e.ins.length : Int) := by unfold nOf; rw [hws]; exact (hn _ hi).1
  have r1 := rdT_shown (c := 45) (by decide) (by decide) e.del (shownS 43 e.ins ++ u) hl2.1 (headOK_shown (by decide) hu)
  have r2 := rdT_shown (c := 43) (by decide) (by decide) e.ins u hl2.2 hu
  unfold parse1
  rw [if_pos hhead, if_pos hall, v0, v1, v2, v3, hcut, Int.toNat_natCast, Int.toNat_natCast]
  simp only [r1, r2]
  rw [← ha, ← hb]
theorem shown_lines (c : UInt8) : ∀ ls : List (List UInt8), ls.length ≤ (shownS c ls).length
  | [] => Nat.le_refl _
  | l :: ls => by
    have ih := shown_lines c ls
    show ls.length + 1 ≤ (showG c l ++ shownS c ls).length
    rw [List.length_append]
    have : 1 ≤ (showG c l).length := by unfold showG; simp
    omega
theorem parse1R_good {e : Ed} (h : e.good) {u : List UInt8} (hu : headOK u) {len : Nat} (hlen : (showT e).length ≤ len) : parse1R len (showT e ++ u) = some (e, u) := by
  obtain ⟨⟨A, ha, ha2⟩, ⟨B, hb, hb2⟩, hd, hi, hl⟩ := h
  have hl2 : e.del.all lineB = true ∧ e.ins.all lineB = true := by unfold okLines at hl; rw [List.all_append, Bool.and_eq_true] at hl; exact hl
  have e1 : showT e ++ u = 64 :: (Lib.decDigits A ++ 32 :: (Lib.decDigits e.del.length ++ 32 :: (Lib.decDigits B ++ 32 :: (Lib.decDigits e.ins.length ++ 10 :: (shownS 45 e.del ++ (shownS 43 e.ins ++ u)))))) := by
    rw [showT_shown, hdrS_eq ha hb]; unfold hdT; simp
  have x32 : digB 32 = false := by decide
  have x10 : digB 10 = false := by decide
  have hrn : rnums 4 (showT e ++ u) = some ([(A : Int), (e.del.length : Int), (B : Int), (e.ins.length : Int)], 10 :: (shownS 45 e.del ++ (shownS 43 e.ins ++ u))) := by
    rw [e1, rnums_dec 3 A 64 32 _ ha2 x32, rnums_dec 2 _ 32 32 _ hd x32, rnums_dec 1 _ 32 32 _ hb2 x32, rnums_dec 0 _ 32 10 _ hi x10]
    rfl
  have hh : (showT e ++ u).head? = some 64 := by rw [e1]; rfl
  have s1 := shown_lines 45 e.del
  have s2 := shown_lines 43 e.ins
  have hT : (showT e).length = (hdrS e).length + ((shownS 45 e.del).length + (shownS 43 e.ins).length) := by rw [showT_shown, List.length_append, List.length_append]
  have r1 := rlines_shown (c := 45) (by decide) (by decide) e.del e.ins.length (shownS 43 e.ins ++ u) hl2.1 (headOK_shown (by decide) hu)
  have r2 := rlines_shown (c := 43) (by decide) (by decide) e.ins 0 u hl2.2 hu
  rw [Nat.add_zero] at r2
  rw [r2] at r1
  have r1 : rlines (e.del.length + e.ins.length) (shownS 45 e.del ++ (shownS 43 e.ins ++ u)) = some (e.del ++ e.ins, u) := by rw [r1]; show some (e.del ++ (e.ins ++ []), u) = _; rw [List.append_nil]
  unfold parse1R
  rw [if_pos hh, hrn]
  show (if (len : Int) < (e.del.length : Int) ∨ (len : Int) < (e.ins.length : Int) then none else _) = _
  rw [if_neg (by omega)]
  show (match rlines ((e.del.length : Int).toNat + (e.ins.length : Int).toNat) (shownS 45 e.del ++ (shownS 43 e.ins ++ u)) with
      | none => none
      | some (ls, r) => some ((⟨(A : Int), (B : Int), ls.take (e.del.length : Int).toNat, ls.drop (e.del.length : Int).toNat⟩ : Ed), r)) = _
  rw [Int.toNat_natCast, Int.toNat_natCast, r1]
  show some ((⟨(A : Int), (B : Int), (e.del ++ e.ins).take e.del.length, (e.del ++ e.ins).drop e.del.length⟩ : Ed), u) = _
  rw [List.take_left, List.drop_left, ← ha, ← hb]
theorem showT_ne (e : Ed) (u : List UInt8) : showT e ++ u ≠ [] := by
  rw [showT_shown]
  unfold hdrS
  simp
theorem headOK_showB (es : List Ed) : headOK (showB es) := by
  cases es with
  | nil => intro h; cases h
  | cons e es =>
    have e1 : showB (e :: es) = showT e ++ showB es := rfl
    unfold headOK
    rw [e1, showT_shown]
    unfold hdrS
    simp
theorem parseT_good : ∀ (es : List Ed) (f : Nat), (∀ e ∈ es, e.good) → es.length ≤ f → parseT (f + 1) (showB es) = some es
  | [], f, _, _ => parseT_nil f
  | e :: es, f, h, hf => by
    have e1 : showB (e :: es) = showT e ++ showB es := rfl
    obtain ⟨f', rfl⟩ : ∃ f', f = f' + 1 := ⟨f - 1, by rw [List.length_cons] at hf; omega⟩
    rw [e1, parseT_some (showT_ne e _) (parse1_good (h e (List.mem_cons_self ..)) (headOK_showB es)), parseT_good es f' (fun x hx => h x (List.mem_cons_of_mem _ hx)) (by rw [List.length_cons] at hf; omega)]
    rfl
theorem parseR_good : ∀ (es : List Ed) (len f : Nat), (∀ e ∈ es, e.good) → es.length ≤ f → (showB es).length ≤ len → parseR len (f + 1) (showB es) = some es
  | [], len, f, _, _, _ => parseR_nil len f
  | e :: es, len, f, h, hf, hl => by
    have e1 : showB (e :: es) = showT e ++ showB es := rfl
    rw [e1, List.length_append] at hl
    obtain ⟨f', rfl⟩ : ∃ f', f = f' + 1 := ⟨f - 1, by rw [List.length_cons] at hf; omega⟩
    rw [e1, parseR_some (showT_ne e _) (parse1R_good (h e (List.mem_cons_self ..)) (headOK_showB es) (by omega)), parseR_good es len f' (fun x hx => h x (List.mem_cons_of_mem _ hx)) (by rw [List.length_cons] at hf; omega) (by omega)]
    rfl
theorem parseT_num : ∀ (f : Nat) (s : List UInt8) (es : List Ed), parseT f s = some es → (∀ e ∈ es, e.num) ∧ szS es ≤ s.length
  | 0, s, es, h => by cases h
  | f + 1, s, es, h => by
    by_cases hs : s = []
    · rw [hs, parseT_nil] at h
      injection h with h
      rw [← h]; exact ⟨by simp, Nat.zero_le _⟩
    · cases hp : parse1 s with
      | none => rw [parseT_none hs hp] at h; cases h
      | some y =>
        obtain ⟨e, r⟩ := y
        rw [parseT_some hs hp] at h
        obtain ⟨z1, z2⟩ := parse1_size hp
        cases hq : parseT f r with
        | none => rw [hq] at h; cases h
        | some es' =>
          rw [hq] at h
          have h : some (e :: es') = some es := h
          injection h with h
          obtain ⟨i1, i2⟩ := parseT_num f r es' hq
          rw [← h]
          refine ⟨fun x hx => ?_, ?_⟩
          · rcases List.mem_cons.1 hx with rfl | hx
            · exact z2
            · exact i1 x hx
          · show szE e + szS es' ≤ _
            omega
theorem parseR_num (len : Nat) : ∀ (f : Nat) (s : List UInt8) (es : List Ed), parseR len f s = some es → (∀ e ∈ es, e.num) ∧ szS es ≤ s.length
  | 0, s, es, h => by cases h
  | f + 1, s, es, h => by
    by_cases hs : s = []
    · rw [hs, parseR_nil] at h
      injection h with h
      rw [← h]; exact ⟨by simp, Nat.zero_le _⟩
    · cases hp : parse1R len s with
      | none => rw [parseR_none hs hp] at h; cases h
      | some y =>
        obtain ⟨e, r⟩ := y
        rw [parseR_some hs hp] at h
        obtain ⟨z1, z2⟩ := parse1R_size hp
        cases hq : parseR len f r with
        | none => rw [hq] at h; cases h
        | some es' =>
          rw [hq] at h
          have h : some (e :: es') = some es := h
          injection h with h
          obtain ⟨i1, i2⟩ := parseR_num len f r es' hq
          rw [← h]
          refine ⟨fun x hx => ?_, ?_⟩
          · rcases List.mem_cons.1 hx with rfl | hx
            · exact z2
            · exact i1 x hx
          · show szE e + szS es' ≤ _
            omega
theorem showS_good {es : List Ed} {s : List UInt8} (h : showS es = (s, 0)) (hn : ∀ e ∈ es, e.num) (hl : ∀ e ∈ es, e.del.length ≤ 9223372036854775807 ∧ e.ins.length ≤ 9223372036854775807) : (∀ e ∈ es, e.good) ∧ showB es = s := by
  unfold showS at h
  split at h
  · injection h with _ h; cases h
  · rename_i hneg
    split at h
    · rename_i hok
      injection h with h _
      refine ⟨fun e he => ?_, h⟩
      have h1 := List.all_eq_true.1 hok e he
      have h2 : negB e = false := by
        cases k : negB e
        · rfl
        · exact absurd (List.any_eq_true.2 ⟨e, he, k⟩) hneg
      unfold negB at h2
      rw [Bool.or_eq_false_iff, decide_eq_false_iff_not, decide_eq_false_iff_not] at h2
      obtain ⟨⟨_, a2⟩, ⟨_, b2⟩⟩ := hn e he
      exact ⟨⟨e.a.toNat, by omega, by omega⟩, ⟨e.b.toNat, by omega, by omega⟩, (hl e he).1, (hl e he).2, h1⟩
    · injection h with _ h; cases h
theorem good_len {es : List Ed} : es.length ≤ (showB es).length := by
  induction es with
  | nil => exact Nat.le_refl _
  | cons e es ih =>
    have e1 : showB (e :: es) = showT e ++ showB es := rfl
    rw [e1, List.length_append, List.length_cons]
    have := List.length_pos_iff.2 (by have := showT_ne e []; rwa [List.append_nil] at this)
    omega
theorem size_len {es : List Ed} {k : Nat} (h : szS es ≤ k) (hk : k ≤ 1000000) : ∀ e ∈ es, e.del.length ≤ 9223372036854775807 ∧ e.ins.length ≤ 9223372036854775807 := fun e he => by
  have h1 := (szS_len es).2 e he
  unfold szE at h1
  have h2 := (szL_len e.del).1
  have h3 := (szL_len e.ins).1
  omega
theorem read_good {es : List Ed} {s : List UInt8} (hg : ∀ e ∈ es, e.good) (hb : showB es = s) (hs : showS es = (s, 0)) : readS s = (es, 0) ∧ rreadS s = (es, 0) := by
  have hl := good_len (es := es)
  rw [hb] at hl
  have h1 := parseT_good es s.length hg hl
  have h2 := parseR_good es s.length s.length hg hl (by rw [hb]; exact Nat.le_refl _)
  rw [hb] at h1 h2
  unfold readS rreadS
  rw [h1, h2]
  exact ⟨if_pos hs, if_pos hs⟩
theorem read_same (s : List UInt8) (hs : s.length ≤ 1000000) : readS s = rreadS s := by
  cases h1 : parseT (s.length + 1) s with
  | some es =>
    obtain ⟨n1, n2⟩ := parseT_num _ _ _ h1
    by_cases k : showS es = (s, 0)
    · obtain ⟨g1, g2⟩ := showS_good k n1 (size_len n2 hs)
      obtain ⟨r1, r2⟩ := read_good g1 g2 k
      rw [r1, r2]
    · have r1 : readS s = ([], 2) := by unfold readS; rw [h1]; exact if_neg k
      rw [r1]
      cases h2 : parseR s.length (s.length + 1) s with
      | none => unfold rreadS; rw [h2]
      | some fs =>
        obtain ⟨m1, m2⟩ := parseR_num _ _ _ _ h2
        by_cases k2 : showS fs = (s, 0)
        · obtain ⟨g1, g2⟩ := showS_good k2 m1 (size_len m2 hs)
          obtain ⟨r3, r4⟩ := read_good g1 g2 k2
          rw [r4, ← r3, r1]
        · unfold rreadS; rw [h2]; exact (if_neg k2).symm
  | none =>
    have r1 : readS s = ([], 2) := by unfold readS; rw [h1]
    rw [r1]
    cases h2 : parseR s.length (s.length + 1) s with
    | none => unfold rreadS; rw [h2]
    | some fs =>
      obtain ⟨m1, m2⟩ := parseR_num _ _ _ _ h2
      by_cases k2 : showS fs = (s, 0)
      · obtain ⟨g1, g2⟩ := showS_good k2 m1 (size_len m2 hs)
        obtain ⟨r3, r4⟩ := read_good g1 g2 k2
        rw [r4, ← r3, r1]
      · unfold rreadS; rw [h2]; exact (if_neg k2).symm
theorem readS_num (s : List UInt8) : (∀ e ∈ (readS s).1, e.num) ∧ szS (readS s).1 ≤ s.length := by
  cases h1 : parseT (s.length + 1) s with
  | none =>
    have e : readS s = ([], 2) := by unfold readS; rw [h1]
    rw [e]; exact ⟨by simp, Nat.zero_le _⟩
  | some es =>
    by_cases k : showS es = (s, 0)
    · have e : readS s = (es, 0) := by unfold readS; rw [h1]; exact if_pos k
      rw [e]; exact parseT_num _ _ _ h1
    · have e : readS s = ([], 2) := by unfold readS; rw [h1]; exact if_neg k
      rw [e]; exact ⟨by simp, Nat.zero_le _⟩
end Go.Proofs.YtincpomenogppaaGreatDoor

namespace Go.Proofs.YtincpomenogppaaGreatDoor
open Go Go.RowKit Go.Proofs.YtincpomenogppaaGreatDoor Go.Proofs.YtincpomenogppaaGreatDoor.Lift
set_option maxRecDepth 100000

def sAwake : List PV → Prop × PV
  | [] => (True, .bool true)
  | _ => PBad
noncomputable def eAwake : SpecE env := ⟨7, sAwake, fun args h hc => by
  unfold sAwake at hc ⊢
  split at hc
  · exact .inl (Awake_ok h)
  · exact hc.elim⟩
theorem shown_few {c : UInt8} : ∀ {ls : List (List UInt8)}, smallS ls = true → (shownS c ls).length ≤ 304 * ls.length
  | [], _ => Nat.le_refl _
  | l :: ls, h => by
    have h : decide (l.length ≤ 300) = true ∧ smallS ls = true := by unfold smallS at h ⊢; simpa using h
    have ih := shown_few (c := c) h.2
    have h1 : l.length ≤ 300 := by simpa using h.1
    have e2 : shownS c (l :: ls) = showG c l ++ shownS c ls := rfl
    have e3 : (showG c l).length ≤ l.length + 4 := by
      unfold showG
      cases endB l <;> simp
    rw [e2, List.length_append, List.length_cons]; omega
theorem showT_few {e : Ed} (F : FewE e) (h : e.num) : (showT e).length ≤ 12300 := by
  rw [showT_shown, List.length_append, List.length_append]
  have h1 := shown_few (c := 45) F.ds
  have h2 := shown_few (c := 43) F.is
  have d := F.d
  have i := F.i
  have hH : (hdrS e).length = (Lib.itoa e.a).length + (Lib.itoa e.b).length + (Lib.itoa ((e.del.length : Nat) : Int)).length + (Lib.itoa ((e.ins.length : Nat) : Int)).length + 5 := by
    unfold hdrS
    simp only [List.length_append, List.length_cons, List.length_nil]
    omega
  have k1 := Lib.itoa_length_le e.a h.a.1 h.a.2
  have k2 := Lib.itoa_length_le e.b h.b.1 h.b.2
  have k3 := Lib.itoa_length_le ((e.del.length : Nat) : Int) (by omega) (by omega)
  have k4 := Lib.itoa_length_le ((e.ins.length : Nat) : Int) (by omega) (by omega)
  omega
theorem showB_few : ∀ {es : List Ed}, (∀ e ∈ es, FewE e ∧ e.num) → (showB es).length ≤ 12300 * es.length
  | [], _ => Nat.le_refl _
  | e :: es, h => by
    have ih := showB_few (es := es) fun x hx => h x (List.mem_cons_of_mem _ hx)
    obtain ⟨F, n⟩ := h e (List.mem_cons_self ..)
    have := showT_few F n
    have e1 : showB (e :: es) = showT e ++ showB es := rfl
    rw [e1, List.length_append, List.length_cons]; omega
theorem Ed.wide.num {e : Ed} (w : e.wide) : e.num := by
  have ha := i64_b w.a
  have hb := i64_b w.b
  exact ⟨⟨ha.1, by omega⟩, ⟨hb.1, by omega⟩⟩
set_option maxHeartbeats 8000000 in
theorem ToolsShows_ok (es : List Ed) (s : List UInt8) (hl : es.length ≤ maxLen) (hw : ∀ e ∈ es, e.wide) (h : Heap) : SCalls env 3 [.list 4 (edL es), .str s] h (Ret (.bool true) h) := by
  refine SCalls.body Tryz.func3 rfl rfl (by simp [Tryz.ntmps3]) ?_
  refine SW.seq (SW.run [] _ ?_)
  simp only [wpC, Bool.false_eq_true, ↓reduceIte, wpS, stops, wantedA, okDst, Tryz.ntmps3, Nat.reduceLT, decide_true, step1, isOwnCall, hxOp, px, AS.eval, ofConst, ofVal, thenQ, AS.put, enumA, Nat.zero_add, dropKey, reduceCtorEq, Nat.reduceEqDiff, true_and]
  refine SW.seq (SW.run [eAwake] _ ?_)
  simp only [wpC, mayStop, stops, isFlt, Specs.has, eAwake, Specs.hasO, Bool.or_false, Specs.hasH, List.any_cons, ↓reduceIte, Bool.not_true, List.any_nil, Bool.false_eq_true, wpS, wantedA, okDst, Nat.reduceLT, decide_true, step1, isOwnCall, hxOp, px, pcall, okArg, AS.eval, AS.get, Lift.look, ofConst, ofVal, List.all_nil, Specs.at, List.map_nil, sAwake, and_self, AS.put, dropKey, Nat.reduceEqDiff, reduceCtorEq, pun, Option.getD_some, thenQ, isB, tmpOf, asB, true_and]
  refine SW.seq (SW.run [eFew es] _ ?_)
  cases hfw : fewS es
  · simp only [wpC, mayStop, stops, isFlt, Specs.has, eFew, Specs.hasO, Bool.or_false, Specs.hasH, List.any_cons, ↓reduceIte, Bool.not_true, List.any_nil, Bool.false_eq_true, wpS, wantedA, okDst, Nat.reduceLT, decide_true, step1, isOwnCall, hxOp, px, AS.eval, AS.get, Lift.look, Nat.succ_ne_zero, Option.getD_some, AS.put, dropKey, Nat.reduceEqDiff, reduceCtorEq, pcall, okArg, ofConst, ofVal, List.all_cons, List.all_nil, Bool.and_true, Specs.at, List.map_cons, List.map_nil, sFew, hl, and_self, hfw, pun, Bool.not_false, List.getElem?_toArray, List.getElem?_cons_succ, List.getElem?_cons_zero, Option.bind_some, beq_tf, Option.some.injEq, ppick_true, thenQ, isB, tmpOf, asB, RPost, sres, Tryz.results3, sresL, sres1, Ret_fin, HTo_self, and_true, exists_eq_left']
  by_cases hs : 1000 < s.length
  · have hs' : (1000 : Int) < ((s.length : Nat) : Int) := by omega
    simp only [wpC, mayStop, stops, isFlt, Specs.has, eFew, Specs.hasO, Bool.or_false, Specs.hasH, List.any_cons, ↓reduceIte, Bool.not_true, List.any_nil, Bool.false_eq_true, wpS, wantedA, okDst, Nat.reduceLT, decide_true, step1, isOwnCall, hxOp, px, AS.eval, AS.get, Lift.look, Nat.succ_ne_zero, Option.getD_some, AS.put, dropKey, Nat.reduceEqDiff, reduceCtorEq, pcall, okArg, ofConst, ofVal, List.all_cons, List.all_nil, Bool.and_true, Specs.at, List.map_cons, List.map_nil, sFew, hl, and_self, hfw, pun, List.getElem?_toArray, List.getElem?_cons_succ, List.getElem?_cons_zero, Option.bind_some, beq_self_eq_true, ty9, plen, okLen, isNilC, pbinP, pbinI, hs', ppick_bool, thenQ, isB, tmpOf, asB, RPost, sres, Tryz.results3, sresL, sres1, Option.some.injEq, Ret_fin, HTo_self, and_true, exists_eq_left']
  have hs' : ¬ (1000 : Int) < ((s.length : Nat) : Int) := by omega
  simp only [wpC, mayStop, stops, isFlt, Specs.has, eFew, Specs.hasO, Bool.or_false, Specs.hasH, List.any_cons, ↓reduceIte, Bool.not_true, List.any_nil, Bool.false_eq_true, wpS, wantedA, okDst, Nat.reduceLT, decide_true, step1, isOwnCall, hxOp, px, AS.eval, AS.get, Lift.look, Nat.succ_ne_zero, Option.getD_some, AS.put, dropKey, Nat.reduceEqDiff, reduceCtorEq, pcall, okArg, ofConst, ofVal, List.all_cons, List.all_nil, Bool.and_true, Specs.at, List.map_cons, List.map_nil, sFew, hl, and_self, hfw, pun, List.getElem?_toArray, List.getElem?_cons_succ, List.getElem?_cons_zero, Option.bind_some, beq_self_eq_true, ty9, plen, okLen, isNilC, pbinP, pbinI, hs', decide_false, ppick_bool, thenQ, isB, tmpOf, asB, true_and]
  unfold fewS at hfw
  rw [Bool.and_eq_true, decide_eq_true_eq, List.all_eq_true] at hfw
  obtain ⟨f1, n20⟩ := hfw
  have hF : ∀ e ∈ es, FewE e ∧ e.num := fun e he => ⟨FewE.of (f1 e he), (hw e he).num⟩
  have hB := showB_few hF
  have hB6 : (showB es).length ≤ 1000000 := by omega
  have n6 : es.length ≤ 1000000 := by omega
  have hB14 : (showB es).length ≤ 100000000000000 := by omega
  have hfit : ∀ e ∈ es, e.fit := fun e he => by
    obtain ⟨F, n⟩ := hF e he
    refine ⟨n.a.2, n.b.2, by have := F.d; have := F.i; omega, fun l hm => ?_⟩
    rcases List.mem_append.1 hm with hm | hm
    · have := small_at F.ds l hm; omega
    · have := small_at F.is l hm; omega
  have hsm : ∀ e ∈ es, e.small := fun e he => by
    obtain ⟨F, _⟩ := hF e he
    exact ⟨by have := F.d; omega, by have := F.i; omega⟩
  have hlen9 : ∀ e ∈ es, e.del.length ≤ 9223372036854775807 ∧ e.ins.length ≤ 9223372036854775807 := fun e he => by
    obtain ⟨F, _⟩ := hF e he
    exact ⟨by have := F.d; omega, by have := F.i; omega⟩
  have hself : ∀ fs : List Ed, eqEds fs fs = true := fun fs => by unfold eqEds; simp
  have hs6 : s.length ≤ 1000000 := by omega
  obtain ⟨S, k, hSk⟩ : ∃ S k, showS es = (S, k) := ⟨_, _, rfl⟩
  have hR : showR es = .tuple [.str S, .int .i64 k] := by unfold showR; rw [hSk]
  obtain ⟨fs, k2, hfs⟩ : ∃ fs k2, readS s = (fs, k2) := ⟨_, _, rfl⟩
  have hR2 : readR s = .tuple [.list 4 (edL fs), .int .i64 k2] := by unfold readR; rw [hfs]
  have hR3 : rreadR s = .tuple [.list 4 (edL fs), .int .i64 k2] := by unfold rreadR; rw [← read_same s hs6, hfs]
  obtain ⟨m1, m2⟩ := readS_num s
  rw [hfs] at m1 m2
  have m2 : szS fs ≤ s.length := m2
  have fl6 : fs.length ≤ 1000000 := by have := (szS_len fs).1; omega
  have fsm : ∀ e ∈ fs, e.small := fun e he => by
    have h1 := (szS_len fs).2 e he
    unfold szE at h1
    have h2 := (szL_len e.del).1
    have h3 := (szL_len e.ins).1
    exact ⟨by omega, by omega⟩
  refine SW.seq (SW.run [eEdits es, eShow] _ ?_)
  simp only [wpC, Bool.false_eq_true, ↓reduceIte, wpS, stops, wantedA, okDst, Nat.reduceLT, decide_true, step1, isOwnCall, hxOp, px, AS.eval, AS.get, Lift.look, Nat.succ_ne_zero, Option.getD_some, Specs.has, eEdits, Specs.hasO, Bool.or_false, Specs.hasH, Bool.not_true, AS.put, dropKey, Nat.reduceEqDiff, reduceCtorEq, pcall, okArg, ofConst, ofVal, List.all_cons, List.all_nil, Bool.and_true, Specs.at, List.map_cons, List.map_nil, sEdits, n6, and_true, true_and, eShow, sShow, unE_el, hB14, and_self, hR, List.getElem?_cons_zero, List.getElem?_cons_succ, thenQ]
  refine ⟨hsm, hfit, ?_⟩
  refine SW.seq (SW.run [eRShow es] _ ?_)
  simp only [wpC, Bool.false_eq_true, ↓reduceIte, wpS, stops, wantedA, okDst, Nat.reduceLT, decide_true, step1, isOwnCall, hxOp, px, AS.eval, AS.get, Lift.look, Nat.succ_ne_zero, Option.getD_some, Specs.has, eRShow, Specs.hasO, Bool.or_false, Specs.hasH, Bool.not_true, AS.put, dropKey, Nat.reduceEqDiff, reduceCtorEq, pcall, okArg, ofConst, ofVal, List.all_cons, List.all_nil, Bool.and_true, Specs.at, List.map_cons, List.map_nil, sRShow, n6, hB14, and_self, and_true, true_and, hR, List.getElem?_cons_zero, List.getElem?_cons_succ, thenQ]
  refine ⟨hfit, ?_⟩
  refine SW.seq (SW.run [] _ ?_)
  simp only [wpC, mayStop, stops, isFlt, Specs.has, Specs.hasO, Bool.or_false, Specs.hasH, Bool.not_false, List.any_cons, List.any_nil, Bool.false_eq_true, ↓reduceIte, wpS, wantedA, okDst, Nat.reduceLT, decide_true, step1, isOwnCall, hxOp, px, AS.eval, AS.get, Lift.look, Nat.reduceEqDiff, Option.getD_some, AS.put, dropKey, reduceCtorEq, isNilC, pbinP, pbinS, beq_self_eq_true, Bool.not_true, List.getElem?_toArray, List.getElem?_cons_succ, List.getElem?_cons_zero, Option.bind_some, pbinI, bne_self_eq_false, ofConst, ofVal, ppick_bool, thenQ, isB, tmpOf, asB, true_and]
  refine SW.cut (fun st => st.h = h ∧ st.n = 77 ∧ hasAll st [(1, .str s)]) ?_ ?_
  · refine SW.run [eRead, eEdits es, eEqualEd es es] _ ?_
    by_cases hk : k = 0
    · subst hk
      obtain ⟨g1, g2⟩ := showS_good hSk (fun e he => (hF e he).2) hlen9
      obtain ⟨r1, _⟩ := read_good g1 g2 hSk
      have hRS : readR S = .tuple [.list 4 (edL es), .int .i64 0] := by unfold readR; rw [r1]
      have hS6 : S.length ≤ 1000000 := by rw [← g2]; exact hB6
      simp only [wpC, mayStop, stops, isFlt, Specs.has, eRead, eEdits, eEqualEd, Specs.hasO, Bool.or_false, Specs.hasH, List.any_cons, List.any_nil, Bool.false_eq_true, ↓reduceIte, wpS, wantedA, okDst, Nat.reduceLT, decide_true, step1, isOwnCall, hxOp, px, AS.eval, AS.get, Lift.look, Nat.reduceEqDiff, Option.getD_some, AS.put, dropKey, reduceCtorEq, isNilC, pbinP, ofConst, ofVal, pbinI, beq_self_eq_true, thenQ, isB, tmpOf, asB, Bool.not_true, pcall, okArg, List.all_cons, List.all_nil, Bool.and_true, Specs.at, List.map_cons, List.map_nil, sRead, hS6, hRS, and_self, List.getElem?_cons_zero, List.getElem?_cons_succ, Int.reduceBNe, List.getElem?_toArray, Option.bind_some, Nat.succ_ne_zero, sEdits, n6, and_true, true_and, sEqualEd, hself es, pun, ppick_bool, hasAll]
      exact hsm
    · have hkb : (k == 0) = false := by simpa using hk
      simp only [wpC, mayStop, stops, isFlt, Specs.has, Specs.hasO, Bool.or_false, Specs.hasH, List.any_cons, List.any_nil, Bool.false_eq_true, ↓reduceIte, wpS, wantedA, okDst, Nat.reduceLT, decide_true, step1, isOwnCall, hxOp, px, AS.eval, AS.get, Lift.look, Nat.reduceEqDiff, Option.getD_some, AS.put, dropKey, reduceCtorEq, isNilC, pbinP, ofConst, ofVal, pbinI, hkb, thenQ, isB, tmpOf, asB, hasAll, and_self]
  rintro st ⟨hh, hn, hsl⟩
  refine SW.norm ⟨hn, hh, hsl⟩ ?_
  refine SW.seq (SW.run [eRead] _ ?_)
  simp only [wpC, Bool.false_eq_true, ↓reduceIte, wpS, stops, wantedA, okDst, Nat.reduceLT, decide_true, step1, isOwnCall, hxOp, px, AS.eval, AS.get, Lift.look, Option.getD_some, Specs.has, eRead, Specs.hasO, Bool.or_false, Specs.hasH, Bool.not_true, AS.put, dropKey, Nat.reduceEqDiff, pcall, okArg, ofConst, ofVal, List.all_cons, List.all_nil, Bool.and_true, Specs.at, List.map_cons, List.map_nil, sRead, hs6, hR2, and_self, List.getElem?_cons_zero, List.getElem?_cons_succ, thenQ, true_and]
  refine SW.seq (SW.run [eRRead] _ ?_)
  simp only [wpC, Bool.false_eq_true, ↓reduceIte, wpS, stops, wantedA, okDst, Nat.reduceLT, decide_true, step1, isOwnCall, hxOp, px, AS.eval, AS.get, Lift.look, Nat.reduceEqDiff, Option.getD_some, Specs.has, eRRead, Specs.hasO, Bool.or_false, Specs.hasH, Bool.not_true, AS.put, dropKey, pcall, okArg, ofConst, ofVal, List.all_cons, List.all_nil, Bool.and_true, Specs.at, List.map_cons, List.map_nil, sRRead, hs6, hR3, and_self, List.getElem?_cons_zero, List.getElem?_cons_succ, thenQ, true_and]
  refine SW.run [eEdits fs, eEqualEd fs fs] _ ?_
  simp only [wpC, mayStop, stops, isFlt, Specs.has, eEdits, eEqualEd, Specs.hasO, Bool.or_false, Specs.hasH, List.any_cons, ↓reduceIte, Bool.not_true, Nat.reduceEqDiff, List.any_nil, Bool.false_eq_true, wpS, wantedA, okDst, Nat.reduceLT, decide_true, step1, isOwnCall, hxOp, px, AS.eval, AS.get, Lift.look, Option.getD_some, AS.put, dropKey, pcall, okArg, ofConst, ofVal, List.all_cons, List.all_nil, Bool.and_true, Specs.at, List.map_cons, List.map_nil, sEdits, fl6, and_true, true_and, sEqualEd, hself fs, List.getElem?_toArray, List.getElem?_cons_succ, List.getElem?_cons_zero, Option.bind_some, beq_self_eq_true, isNilC, pbinP, pbinI, ppick_bool, thenQ, RPost, sres, Tryz.results3, sresL, sres1, Option.some.injEq, Ret_fin, HTo_self, exists_eq_left', and_self]
  exact fsm
end Go.Proofs.YtincpomenogppaaGreatDoor
