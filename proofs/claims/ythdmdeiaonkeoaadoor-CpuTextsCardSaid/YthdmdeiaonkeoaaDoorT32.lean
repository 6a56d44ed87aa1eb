/- Contracts of functions that the law reaches. -/
import Derived.Test.YthdmdeiaonkeoaaDoorT31
set_option linter.unusedSimpArgs false
set_option linter.unusedVariables false
namespace Go.Proofs.YthdmdeiaonkeoaaDoor
open Go Go.RowKit Go.Proofs.YthdmdeiaonkeoaaDoor Go.Proofs.YthdmdeiaonkeoaaDoor.Lift

/-! What Text writes, Parse reads -/
theorem names_ok : (List.range 32).all (fun o => decide (idxS namesT (namesT.getD o []) = (o : Int) ∧ (32 : UInt8) ∉ namesT.getD o [] ∧ namesT.getD o [] ≠ [])) = true := by kernel_rfl
theorem name_facts {o : Int} (h : knownS o = true) : idxS namesT (nameS o) = o ∧ (32 : UInt8) ∉ nameS o ∧ nameS o ≠ [] := by
  have hr : 0 ≤ o ∧ o < 32 := by simpa [knownS] using h
  have := List.all_eq_true.1 names_ok o.toNat (List.mem_range.2 (by omega))
  rw [decide_eq_true_eq] at this
  unfold nameS
  rw [if_pos h]
  refine ⟨?_, this.2⟩
  rw [this.1]
  omega
/-- The words of a text: its name, and the fields that are used. -/
theorem split_fields : ∀ (L : List (Bool × Int)) (p : List UInt8), (32 : UInt8) ∉ p → Lib.split (p ++ L.flatMap fieldT) [32] = p :: (L.filter (·.1)).map (fun x => Lib.itoa x.2)
  | [], p, h => by
    rw [List.flatMap_nil, List.append_nil, split_end 32 p h]
    rfl
  | (false, v) :: L, p, h => by
    have := split_fields L p h
    simpa [fieldT] using this
  | (true, v) :: L, p, h => by
    have := split_fields L (Lib.itoa v) (itoa_noSpace v)
    have e : p ++ ((true, v) :: L).flatMap fieldT = p ++ 32 :: (Lib.itoa v ++ L.flatMap fieldT) := by simp [fieldT]
    rw [e, split_at 32 p _ h, this]
    rfl
theorem itoa_small {v : Int} (h0 : -2147483648 ≤ v) (h1 : v ≤ 2147483647) : (Lib.itoa v).length ≤ 18 := by
  have key : ∀ (k u : Nat), u < 10 ^ k → 0 < k → (Lib.decDigits u).length ≤ k := by
    intro k
    induction k with
    | zero => intro u _ h; exact absurd h (by omega)
    | succ k ih =>
      intro u h _
      by_cases h10 : u < 10
      · rw [Lib.decDigits, dif_pos h10]; simp
      · rw [Lib.decDigits, dif_neg h10, List.length_append]
        have hk : 0 < k := by
          cases k with
          | zero => simp at h; omega
          | succ k => omega
        have := ih (u / 10) (by rw [Nat.pow_succ] at h; omega) hk
        simp only [List.length_cons, List.length_nil]
        omega
  unfold Lib.itoa
  split
  · have := key 10 v.natAbs (by omega) (by omega)
    rw [List.length_cons]; omega
  · have := key 10 v.toNat (by omega) (by omega)
    omega
/-- What is not used is zero, if Check accepts. -/
theorem unused {o a b c i : Int} (h : checkS o a b c i = 0) : knownS o = true ∧ (hasB (usesS o) 97 = false → a = 0) ∧ (hasB (usesS o) 98 = false → b = 0) ∧ (hasB (usesS o) 99 = false → c = 0) ∧ (hasB (usesS o) 105 = false → i = 0) := by
  unfold checkS at h
  split at h
  · cases h
  · rename_i hk
    split at h
    · cases h
    · split at h
      · cases h
      · rename_i hb
        refine ⟨by simpa using hk, ?_⟩
        have hb : ∀ x ∈ fieldL o a b c i, badF x = false := by simpa using hb
        have g : ∀ (u : Bool) (v : Int), badF (u, v) = false → u = false → v = 0 := fun u v h1 h2 => by
          subst h2
          simpa [badF] using h1
        exact ⟨g _ _ (hb _ (by simp [fieldL])), g _ _ (hb _ (by simp [fieldL])), g _ _ (hb _ (by simp [fieldL])), g _ _ (hb _ (by simp [fieldL]))⟩
theorem parse_text {o a b c i : Int} (h : checkS o a b c i = 0) : parseS (textS o a b c i) = .tuple [.agg [.int .i64 o, .int .i64 a, .int .i64 b, .int .i64 c, .int .i64 i], .int .i64 0] ∧ textS o a b c i ≠ [] ∧ pT (textS o a b c i) = textS o a b c i := by
  obtain ⟨hk, ua, ub, uc, ui⟩ := unused h
  obtain ⟨ha0, ha1, hb0, hb1, hc0, hc1, hi0, hi1⟩ := Check_range h
  obtain ⟨n1, n2, n3⟩ := name_facts hk
  have ht : textS o a b c i = nameS o ++ (fieldL o a b c i).flatMap fieldT := by unfold textS; rw [if_pos h]
  have hne : textS o a b c i ≠ [] := by
    rw [ht]
    intro e
    exact n3 (List.append_eq_nil_iff.1 e).1
  have ea := atoi_itoa a (itoa_small (by omega) (by omega))
  have eb := atoi_itoa b (itoa_small (by omega) (by omega))
  have ec := atoi_itoa c (itoa_small (by omega) (by omega))
  have ei := atoi_itoa i (itoa_small (by omega) (by omega))
  have hs := split_fields (fieldL o a b c i) (nameS o) n2
  rw [← ht] at hs
  have hop : opW (Lib.split (textS o a b c i) [32]) = o := by
    rw [hs]
    exact n1
  have hall : aW' (Lib.split (textS o a b c i) [32]) = a ∧ bW' (Lib.split (textS o a b c i) [32]) = b ∧ cW' (Lib.split (textS o a b c i) [32]) = c ∧ iW' (Lib.split (textS o a b c i) [32]) = i := by
    unfold aW' bW' cW' iW' w3 w2 w1
    rw [hop, hs]
    unfold fieldL
    cases pa : hasB (usesS o) 97 <;> cases pb : hasB (usesS o) 98 <;> cases pc : hasB (usesS o) 99 <;> cases pi : hasB (usesS o) 105 <;>
      simp_all [stepW, valW]
  obtain ⟨e1, e2, e3, e4⟩ := hall
  have hp : pT (textS o a b c i) = textS o a b c i := by
    unfold pT
    dsimp only
    rw [hop, e1, e2, e3, e4]
  refine ⟨?_, hne, hp⟩
  unfold parseS
  rw [if_pos ⟨hne, hp⟩]
  unfold pI
  dsimp only
  rw [hop, e1, e2, e3, e4]
end Go.Proofs.YthdmdeiaonkeoaaDoor
