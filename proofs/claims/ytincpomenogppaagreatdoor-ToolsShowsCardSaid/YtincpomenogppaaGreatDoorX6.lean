/- Contracts of functions that the law reaches. -/
import Derived.Test.YtincpomenogppaaGreatDoorX5
set_option linter.unusedSimpArgs false
set_option linter.unusedVariables false
namespace Go.Proofs.YtincpomenogppaaGreatDoor
open Go Go.RowKit Go.Proofs.YtincpomenogppaaGreatDoor Go.Proofs.YtincpomenogppaaGreatDoor.Lift
set_option maxRecDepth 100000

def szL (ls : List (List UInt8)) : Nat := (ls.map fun l => l.length + 1).sum
theorem rdT_size (sg : UInt8) : ∀ (n : Nat) (s : List UInt8) (ls : List (List UInt8)), (rdT sg n s).1 = some ls → szL ls + (rdT sg n s).2.length ≤ s.length
  | 0, s, ls, h => by
    have h : some [] = some ls := h
    injection h with h
    rw [← h]
    show 0 + s.length ≤ _; omega
  | n + 1, s, ls, h => by
    cases hk : lineStep sg s with
    | none => rw [rdT_none _ hk] at h; cases h
    | some lr =>
      obtain ⟨l, r⟩ := lr
      rw [rdT_some _ hk] at h ⊢
      have hl := lineStep_len hk
      have h : Option.map (l :: ·) (rdT sg n r).1 = some ls := h
      cases hr : (rdT sg n r).1 with
      | none => rw [hr] at h; cases h
      | some ls' =>
        rw [hr] at h
        have h : some (l :: ls') = some ls := h
        injection h with h
        have ih := rdT_size sg n r ls' hr
        rw [← h]
        show (l.length + 1 + szL ls') + (rdT sg n r).2.length ≤ _
        omega
theorem szL_len : ∀ ls : List (List UInt8), ls.length ≤ szL ls ∧ ∀ l ∈ ls, l.length ≤ szL ls
  | [] => ⟨Nat.le_refl _, fun _ h => nomatch h⟩
  | l :: ls => by
    obtain ⟨h1, h2⟩ := szL_len ls
    have e : szL (l :: ls) = l.length + 1 + szL ls := rfl
    refine ⟨by rw [e, List.length_cons]; omega, fun x hx => ?_⟩
    rcases List.mem_cons.1 hx with rfl | hx
    · omega
    · have := h2 x hx; omega
theorem shown_size (c : UInt8) : ∀ ls : List (List UInt8), (shownS c ls).length ≤ 4 * szL ls
  | [] => Nat.zero_le _
  | l :: ls => by
    have ih := shown_size c ls
    have e : szL (l :: ls) = l.length + 1 + szL ls := rfl
    have e2 : shownS c (l :: ls) = showG c l ++ shownS c ls := rfl
    have e3 : (showG c l).length ≤ l.length + 4 := by
      unfold showG
      cases endB l <;> simp
    rw [e2, List.length_append]
    omega
def szE (e : Ed) : Nat := 1 + szL e.del + szL e.ins
def szS (es : List Ed) : Nat := (es.map szE).sum
structure Ed.num (e : Ed) : Prop where
  a : -9223372036854775808 ≤ e.a ∧ e.a ≤ 9223372036854775807
  b : -9223372036854775808 ≤ e.b ∧ e.b ≤ 9223372036854775807
theorem showT_size {e : Ed} (h : e.num) : (showT e).length ≤ 100 * szE e := by
  rw [showT_shown, List.length_append, List.length_append]
  have h1 := shown_size 45 e.del
  have h2 := shown_size 43 e.ins
  obtain ⟨l1, _⟩ := szL_len e.del
  obtain ⟨l2, _⟩ := szL_len e.ins
  have hH : (hdrS e).length = (Lib.itoa e.a).length + (Lib.itoa e.b).length + (Lib.itoa ((e.del.length : Nat) : Int)).length + (Lib.itoa ((e.ins.length : Nat) : Int)).length + 5 := by
    unfold hdrS
    simp only [List.length_append, List.length_cons, List.length_nil]
    omega
  unfold szE
  by_cases hbig : e.del.length ≤ 9223372036854775807 ∧ e.ins.length ≤ 9223372036854775807
  · have k1 := Lib.itoa_length_le e.a h.a.1 h.a.2
    have k2 := Lib.itoa_length_le e.b h.b.1 h.b.2
    have k3 := Lib.itoa_length_le ((e.del.length : Nat) : Int) (by omega) (by omega)
    have k4 := Lib.itoa_length_le ((e.ins.length : Nat) : Int) (by omega) (by omega)
    omega
  · have hd : ∀ n : Nat, (Lib.decDigits n).length ≤ n + 1 := by
      intro n
      induction n using Nat.strongRecOn with
      | ind n ih =>
        rw [Lib.decDigits]
        split
        · simp
        · rw [List.length_append]
          have := ih (n / 10) (by omega)
          simp only [List.length_cons, List.length_nil]
          omega
    have k1 := Lib.itoa_length_le e.a h.a.1 h.a.2
    have k2 := Lib.itoa_length_le e.b h.b.1 h.b.2
    have k3 := hd e.del.length
    have k4 := hd e.ins.length
    rw [itoa_dec, itoa_dec] at hH
    omega
theorem showB_size : ∀ {es : List Ed}, (∀ e ∈ es, e.num) → (showB es).length ≤ 100 * szS es
  | [], _ => Nat.zero_le _
  | e :: es, h => by
    have h1 := showT_size (h e (List.mem_cons_self ..))
    have h2 := showB_size (es := es) fun x hx => h x (List.mem_cons_of_mem _ hx)
    have e1 : showB (e :: es) = showT e ++ showB es := rfl
    have e2 : szS (e :: es) = szE e + szS es := rfl
    rw [e1, e2, List.length_append]; omega
theorem szS_len : ∀ es : List Ed, es.length ≤ szS es ∧ ∀ e ∈ es, szE e ≤ szS es
  | [] => ⟨Nat.le_refl _, fun _ h => nomatch h⟩
  | e :: es => by
    obtain ⟨h1, h2⟩ := szS_len es
    have e2 : szS (e :: es) = szE e + szS es := rfl
    have e3 : 1 ≤ szE e := by unfold szE; omega
    refine ⟨by rw [List.length_cons]; omega, fun x hx => ?_⟩
    rcases List.mem_cons.1 hx with rfl | hx
    · omega
    · have := h2 x hx; omega
theorem fit_of {es : List Ed} {k : Nat} (hn : ∀ e ∈ es, e.num) (hs : szS es ≤ k) (hk : k ≤ 1000000) : (∀ e ∈ es, e.fit) ∧ es.length ≤ 1000000 ∧ (showB es).length ≤ 100000000000000 := by
  obtain ⟨h1, h2⟩ := szS_len es
  have h3 := showB_size hn
  refine ⟨fun e he => ?_, by omega, by omega⟩
  have h4 := h2 e he
  unfold szE at h4
  obtain ⟨d1, d2⟩ := szL_len e.del
  obtain ⟨i1, i2⟩ := szL_len e.ins
  refine ⟨(hn e he).a.2, (hn e he).b.2, by omega, fun l hl => ?_⟩
  rcases List.mem_append.1 hl with hl | hl
  · have := d2 l hl; omega
  · have := i2 l hl; omega
def wordsOf (s : List UInt8) : List (List UInt8) := splitG 32 0 (cutP (cutB 10 s).1 [64])
def headB (s : List UInt8) : Bool := (cutB 10 s).2.2 && (prefixS (cutB 10 s).1 [64] && decide ((wordsOf s).length = 4))
def nOf (s : List UInt8) (i : Nat) : Int := atoiR ((wordsOf s).getD i [])
def parse1 (s : List UInt8) : Option (Ed × List UInt8) :=
  if headB s = true then
    if (wordsOf s).all numB = true then
      match (rdT 45 (nOf s 1).toNat (cutB 10 s).2.1).1 with
      | none => none
      | some d => match (rdT 43 (nOf s 3).toNat (rdT 45 (nOf s 1).toNat (cutB 10 s).2.1).2).1 with
        | none => none
        | some n => some (⟨nOf s 0, nOf s 2, d, n⟩, (rdT 43 (nOf s 3).toNat (rdT 45 (nOf s 1).toNat (cutB 10 s).2.1).2).2)
    else none
  else none
theorem parse1_size {s r : List UInt8} {e : Ed} (h : parse1 s = some (e, r)) : szE e + r.length ≤ s.length ∧ e.num := by
  unfold parse1 at h
  split at h
  · rename_i hh
    split at h
    · split at h
      · cases h
      · rename_i d hd
        split at h
        · cases h
        · rename_i n hn
          injection h with h
          injection h with e1 e2
          have s1 := rdT_size 45 _ _ _ hd
          have s2 := rdT_size 43 _ _ _ hn
          have hc := (cutB_len 10 s).2.2 (by unfold headB at hh; rw [Bool.and_eq_true] at hh; exact hh.1)
          rw [← e1, ← e2]
          refine ⟨?_, ⟨atoiR_bounds _, atoiR_bounds _⟩⟩
          show 1 + szL d + szL n + _ ≤ _
          omega
    · cases h
  · cases h
def parseT : Nat → List UInt8 → Option (List Ed)
  | 0, _ => none
  | f + 1, s => if s = [] then some [] else match parse1 s with
    | none => none
    | some (e, r) => (parseT f r).map (e :: ·)
theorem parseT_nil (f : Nat) : parseT (f + 1) [] = some [] := by rw [parseT, if_pos rfl]
theorem parseT_none {f : Nat} {s : List UInt8} (hs : s ≠ []) (h : parse1 s = none) : parseT (f + 1) s = none := by rw [parseT, if_neg hs, h]
theorem parseT_some {f : Nat} {s r : List UInt8} {e : Ed} (hs : s ≠ []) (h : parse1 s = some (e, r)) : parseT (f + 1) s = (parseT f r).map (e :: ·) := by rw [parseT, if_neg hs, h]
def readS (s : List UInt8) : List Ed × Int := match parseT (s.length + 1) s with
  | none => ([], 2)
  | some es => if showS es = (s, 0) then (es, 0) else ([], 2)
def readQ (s : List UInt8) : PV → Prop := fun p => ∃ v, p = .tuple [v, .int .i64 (readS s).2] ∧ (v = .list 4 (edL (readS s).1) ∨ (v = .val (.slice none 0 0) ∧ (readS s).1 = []))
def arrN (ws : List (List UInt8)) (i : Nat) : List PV := (ws.take i).map (fun w => PV.int .i64 (atoiR w)) ++ List.replicate (4 - i) (.int .i64 0)
theorem arrN_len {ws : List (List UInt8)} {i : Nat} (hl : ws.length = 4) (h : i ≤ 4) : (arrN ws i).length = 4 := by
  unfold arrN
  rw [List.length_append, List.length_map, List.length_take, List.length_replicate]; omega
theorem arrN_set {ws : List (List UInt8)} {i : Nat} (hl : ws.length = 4) (h : i < 4) : List.take i (arrN ws i) ++ [.int .i64 (atoiR (ws.getD i []))] ++ List.drop (i + 1) (arrN ws i) = arrN ws (i + 1) := by
  match ws, hl with
  | [a, b, c, d], _ =>
    match i, h with
    | 0, _ => rfl
    | 1, _ => rfl
    | 2, _ => rfl
    | 3, _ => rfl
end Go.Proofs.YtincpomenogppaaGreatDoor
