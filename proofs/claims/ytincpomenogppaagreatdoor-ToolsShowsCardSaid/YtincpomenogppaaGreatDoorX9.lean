/- Contracts of functions that the law reaches. -/
import Derived.Test.YtincpomenogppaaGreatDoorX8
set_option linter.unusedSimpArgs false
set_option linter.unusedVariables false
namespace Go.Proofs.YtincpomenogppaaGreatDoor
open Go Go.RowKit Go.Proofs.YtincpomenogppaaGreatDoor Go.Proofs.YtincpomenogppaaGreatDoor.Lift
set_option maxRecDepth 100000

def sRNumber : List PV → Prop × PV
  | [.str s, .int .i64 n] => (s.length ≤ 1000000 ∧ 0 ≤ n ∧ n ≤ (s.length : Int), rnumR s n.toNat)
  | _ => PBad
noncomputable def eRNumber : SpecE env := ⟨68, sRNumber, fun args h hc => by
  unfold sRNumber at hc ⊢
  split at hc
  · rename_i s n
    obtain ⟨h1, h2, h3⟩ := hc
    obtain ⟨k, rfl⟩ : ∃ k : Nat, n = (k : Int) := ⟨n.toNat, by omega⟩
    exact .inl (RNumber_ok s k h1 (by omega) h)
  · exact hc.elim⟩
def rline (c : List UInt8) : Option (List UInt8 × List UInt8) :=
  if ((cutB 10 c).2.2 && !(cutB 10 c).1.isEmpty) = true then
    (if prefixS (cutB 10 c).2.1 [92, 10] = true then some ((cutB 10 c).1.drop 1, (cutB 10 c).2.1.drop 2) else some ((cutB 10 c).1.drop 1 ++ [10], (cutB 10 c).2.1))
  else none
theorem rline_len {s l r : List UInt8} (h : rline s = some (l, r)) : l.length + r.length + 1 ≤ s.length := by
  unfold rline at h
  split at h
  · rename_i hb
    rw [Bool.and_eq_true] at hb
    obtain ⟨h1, h2⟩ := hb
    have hc := (cutB_len 10 s).2.2 h1
    have hp : 1 ≤ (cutB 10 s).1.length := by
      cases e : (cutB 10 s).1 with
      | nil => rw [e] at h2; cases h2
      | cons b l => simp
    split at h
    · injection h with h
      injection h with e1 e2
      rw [← e1, ← e2, List.length_drop, List.length_drop]; omega
    · injection h with h
      injection h with e1 e2
      rw [← e1, ← e2, List.length_append, List.length_drop]
      simp; omega
  · cases h
def rlines : Nat → List UInt8 → Option (List (List UInt8) × List UInt8)
  | 0, c => some ([], c)
  | n + 1, c => match rline c with
    | none => none
    | some (l, r) => (rlines n r).map fun x => (l :: x.1, x.2)
theorem rlines_some {c l r : List UInt8} (n : Nat) (k : rline c = some (l, r)) : rlines (n + 1) c = (rlines n r).map fun x => (l :: x.1, x.2) := by rw [rlines, k]
theorem rlines_none {c : List UInt8} (n : Nat) (k : rline c = none) : rlines (n + 1) c = none := by rw [rlines, k]
theorem rlines_size : ∀ (n : Nat) (c : List UInt8) (ls : List (List UInt8)) (r : List UInt8), rlines n c = some (ls, r) → szL ls + r.length ≤ c.length ∧ ls.length = n
  | 0, c, ls, r, h => by
    have h : some (([] : List (List UInt8)), c) = some (ls, r) := h
    injection h with h
    injection h with e1 e2
    rw [← e1, ← e2]
    exact ⟨by show 0 + c.length ≤ _; omega, rfl⟩
  | n + 1, c, ls, r, h => by
    cases hk : rline c with
    | none => rw [rlines_none _ hk] at h; cases h
    | some lr =>
      obtain ⟨l, r'⟩ := lr
      rw [rlines_some _ hk] at h
      have hl := rline_len hk
      cases hr : rlines n r' with
      | none => rw [hr] at h; cases h
      | some y =>
        obtain ⟨ls', r2⟩ := y
        rw [hr] at h
        have h : some (l :: ls', r2) = some (ls, r) := h
        injection h with h
        injection h with e1 e2
        obtain ⟨i1, i2⟩ := rlines_size n r' ls' r2 hr
        rw [← e1, ← e2]
        refine ⟨?_, by rw [List.length_cons, i2]⟩
        show (l.length + 1 + szL ls') + r2.length ≤ _
        omega
def rnums : Nat → List UInt8 → Option (List Int × List UInt8)
  | 0, c => some ([], c)
  | n + 1, c => if rnum (c.drop 1) < 0 ∨ (c.drop 1).drop (rnumF 0 (c.drop 1)).2 = [] then none else (rnums n ((c.drop 1).drop (rnumF 0 (c.drop 1)).2)).map fun x => (rnum (c.drop 1) :: x.1, x.2)
theorem rnums_bad {c : List UInt8} (n : Nat) (k : rnum (c.drop 1) < 0 ∨ (c.drop 1).drop (rnumF 0 (c.drop 1)).2 = []) : rnums (n + 1) c = none := by rw [rnums, if_pos k]
theorem rnums_ok {c : List UInt8} (n : Nat) (k : ¬ (rnum (c.drop 1) < 0 ∨ (c.drop 1).drop (rnumF 0 (c.drop 1)).2 = [])) : rnums (n + 1) c = (rnums n ((c.drop 1).drop (rnumF 0 (c.drop 1)).2)).map fun x => (rnum (c.drop 1) :: x.1, x.2) := by rw [rnums, if_neg k]
theorem rnum_max (c : List UInt8) : rnum c ≤ 9223372036854775807 := by
  unfold rnum
  split
  · decide
  · exact (rnumF_bounds c 0 (by omega)).2
theorem rnums_size : ∀ (n : Nat) (c : List UInt8) (ns : List Int) (r : List UInt8), rnums n c = some (ns, r) → ns.length = n ∧ r.length ≤ c.length ∧ ∀ x ∈ ns, 0 ≤ x ∧ x ≤ 9223372036854775807
  | 0, c, ns, r, h => by
    have h : some (([] : List Int), c) = some (ns, r) := h
    injection h with h
    injection h with e1 e2
    rw [← e1, ← e2]
    exact ⟨rfl, Nat.le_refl _, fun _ h => nomatch h⟩
  | n + 1, c, ns, r, h => by
    by_cases k : rnum (c.drop 1) < 0 ∨ (c.drop 1).drop (rnumF 0 (c.drop 1)).2 = []
    · rw [rnums_bad _ k] at h; cases h
    · rw [rnums_ok _ k] at h
      cases hr : rnums n ((c.drop 1).drop (rnumF 0 (c.drop 1)).2) with
      | none => rw [hr] at h; cases h
      | some y =>
        obtain ⟨ns', r2⟩ := y
        rw [hr] at h
        have h : some (rnum (c.drop 1) :: ns', r2) = some (ns, r) := h
        injection h with h
        injection h with e1 e2
        obtain ⟨i1, i2, i3⟩ := rnums_size n _ ns' r2 hr
        rw [List.length_drop, List.length_drop] at i2
        rw [← e1, ← e2]
        refine ⟨by rw [List.length_cons, i1], by omega, fun x hx => ?_⟩
        rcases List.mem_cons.1 hx with rfl | hx
        · exact ⟨by omega, rnum_max _⟩
        · exact i3 x hx
def parse1R (len : Nat) (c : List UInt8) : Option (Ed × List UInt8) :=
  if c.head? = some 64 then
    match rnums 4 c with
    | some ([n0, n1, n2, n3], c4) => if (len : Int) < n1 ∨ (len : Int) < n3 then none else
      match rlines (n1.toNat + n3.toNat) (c4.drop 1) with
      | none => none
      | some (ls, r) => some (⟨n0, n2, ls.take n1.toNat, ls.drop n1.toNat⟩, r)
    | _ => none
  else none
theorem szL_append (a b : List (List UInt8)) : szL (a ++ b) = szL a + szL b := by unfold szL; rw [List.map_append, List.sum_append]
theorem parse1R_size {len : Nat} {s r : List UInt8} {e : Ed} (h : parse1R len s = some (e, r)) : szE e + r.length ≤ s.length ∧ e.num := by
  unfold parse1R at h
  split at h
  · rename_i hh
    have hs : 1 ≤ s.length := by cases s with | nil => cases hh | cons b l => simp
    split at h
    · rename_i n0 n1 n2 n3 c4 hn
      obtain ⟨_, k2, k3⟩ := rnums_size 4 _ _ _ hn
      split at h
      · cases h
      · split at h
        · cases h
        · rename_i ls r' hl
          injection h with h
          injection h with e1 e2
          obtain ⟨s1, _⟩ := rlines_size _ _ _ _ hl
          rw [List.length_drop] at s1
          rw [← e1, ← e2]
          have hsz := szL_append (ls.take n1.toNat) (ls.drop n1.toNat)
          rw [List.take_append_drop] at hsz
          have h0 := k3 n0 (by simp)
          have h2 := k3 n2 (by simp)
          refine ⟨?_, ⟨⟨by show _ ≤ n0; omega, h0.2⟩, ⟨by show _ ≤ n2; omega, h2.2⟩⟩⟩
          show 1 + szL (ls.take n1.toNat) + szL (ls.drop n1.toNat) + _ ≤ _
          by_cases hc : 1 ≤ c4.length
          · omega
          · -- the numbers end ahead of the text's end
            exfalso
            have key : ∀ (n : Nat) (c : List UInt8) (ns : List Int) (r : List UInt8), 1 ≤ n → rnums n c = some (ns, r) → 1 ≤ r.length := by
              intro n
              induction n with
              | zero => intro c ns r h; omega
              | succ n ih =>
                intro c ns r _ h
                by_cases k : rnum (c.drop 1) < 0 ∨ (c.drop 1).drop (rnumF 0 (c.drop 1)).2 = []
                · rw [rnums_bad _ k] at h; cases h
                · rw [rnums_ok _ k] at h
                  cases hr : rnums n ((c.drop 1).drop (rnumF 0 (c.drop 1)).2) with
                  | none => rw [hr] at h; cases h
                  | some y =>
                    obtain ⟨ns', r2⟩ := y
                    rw [hr] at h
                    have h : some (rnum (c.drop 1) :: ns', r2) = some (ns, r) := h
                    injection h with h
                    injection h with e1 e2
                    rw [← e2]
                    cases n with
                    | zero =>
                      have hr : some (([] : List Int), (c.drop 1).drop (rnumF 0 (c.drop 1)).2) = some (ns', r2) := hr
                      injection hr with hr
                      injection hr with _ e3
                      rw [← e3]
                      have hne : (c.drop 1).drop (rnumF 0 (c.drop 1)).2 ≠ [] := fun e => k (.inr e)
                      exact List.length_pos_iff.2 hne
                    | succ n => exact ih _ _ _ (by omega) hr
            exact hc (key 4 _ _ _ (by omega) hn)
    · cases h
  · cases h
def parseR (len : Nat) : Nat → List UInt8 → Option (List Ed)
  | 0, _ => none
  | f + 1, s => if s = [] then some [] else match parse1R len s with
    | none => none
    | some (e, r) => (parseR len f r).map (e :: ·)
theorem parseR_nil (len f : Nat) : parseR len (f + 1) [] = some [] := by rw [parseR, if_pos rfl]
theorem parseR_none {len f : Nat} {s : List UInt8} (hs : s ≠ []) (h : parse1R len s = none) : parseR len (f + 1) s = none := by rw [parseR, if_neg hs, h]
theorem parseR_some {len f : Nat} {s r : List UInt8} {e : Ed} (hs : s ≠ []) (h : parse1R len s = some (e, r)) : parseR len (f + 1) s = (parseR len f r).map (e :: ·) := by rw [parseR, if_neg hs, h]
def rreadS (s : List UInt8) : List Ed × Int := match parseR s.length (s.length + 1) s with
  | none => ([], 2)
  | some es => if showS es = (s, 0) then (es, 0) else ([], 2)
def rreadQ (s : List UInt8) : PV → Prop := fun p => ∃ v, p = .tuple [v, .int .i64 (rreadS s).2] ∧ (v = .list 4 (edL (rreadS s).1) ∨ (v = .val (.slice none 0 0) ∧ (rreadS s).1 = []))
def arrI (ns : List Int) : List PV := ns.map (fun n => PV.int .i64 n) ++ List.replicate (4 - ns.length) (.int .i64 0)
theorem arrI_len {ns : List Int} (h : ns.length ≤ 4) : (arrI ns).length = 4 := by
  unfold arrI
  rw [List.length_append, List.length_map, List.length_replicate]; omega
theorem arrI_set {ns : List Int} (n : Int) (h : ns.length < 4) : List.take ns.length (arrI ns) ++ [.int .i64 n] ++ List.drop (ns.length + 1) (arrI ns) = arrI (ns ++ [n]) := by
  match ns, h with
  | [], _ => rfl
  | [a], _ => rfl
  | [a, b], _ => rfl
  | [a, b, c], _ => rfl
theorem arrI_get {ns : List Int} (n : Int) (h : ns.length < 4) : ((arrI (ns ++ [n])).drop (ns.length * 1)).take 1 = [.int .i64 n] := by
  match ns, h with
  | [], _ => rfl
  | [a], _ => rfl
  | [a, b], _ => rfl
  | [a, b, c], _ => rfl
theorem cutB_app (c : UInt8) (l : List UInt8) : c ∉ (cutB c l).1 ∧ l = (cutB c l).1 ++ (if (cutB c l).2.2 then c :: (cutB c l).2.1 else []) ∧ ((cutB c l).2.2 = false → (cutB c l).2.1 = []) := by
  by_cases h : c ∈ l
  · obtain ⟨p, r, rfl, hp⟩ := first_of h
    rw [cutB_in hp]
    exact ⟨hp, by simp, fun k => by cases k⟩
  · rw [cutB_out h]
    exact ⟨h, by simp, fun _ => rfl⟩
end Go.Proofs.YtincpomenogppaaGreatDoor
