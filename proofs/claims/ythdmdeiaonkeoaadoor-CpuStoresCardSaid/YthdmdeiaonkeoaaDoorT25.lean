/- Contracts of functions that the law reaches. -/
import Derived.Test.YthdmdeiaonkeoaaDoorT22
import Derived.Test.YthdmdeiaonkeoaaDoorLiftW
set_option linter.unusedSimpArgs false
set_option linter.unusedVariables false
namespace Go.Proofs.YthdmdeiaonkeoaaDoor
open Go Go.RowKit Go.Proofs.YthdmdeiaonkeoaaDoor Go.Proofs.YthdmdeiaonkeoaaDoor.Lift

/-! CpuStores: what the stores of a code name -/
def stW (w : Int) : Bool := isW w && (oW w == 5 || oW w == 7)
def addN (ks : List (Int × Int)) (w : Int) : List (Int × Int) := if stW w = true then insP ks (bW w, immS w) else ks
def namedTo (l : List Int) : List (Int × Int) := l.foldl addN []
theorem mem_foldN (x : Int × Int) : ∀ (l : List Int) (ks : List (Int × Int)), x ∈ l.foldl addN ks ↔ x ∈ ks ∨ ∃ w ∈ l, stW w = true ∧ (bW w, immS w) = x
  | [], ks => by simp
  | w :: l, ks => by
    rw [List.foldl_cons, mem_foldN x l]
    unfold addN
    split
    · rename_i h
      rw [mem_insP]
      constructor
      · rintro ((h1 | h1) | ⟨w', h2, h3, h4⟩)
        · exact .inl h1
        · exact .inr ⟨w, List.mem_cons_self .., h, h1.symm⟩
        · exact .inr ⟨w', List.mem_cons_of_mem _ h2, h3, h4⟩
      · rintro (h1 | ⟨w', h2, h3, h4⟩)
        · exact .inl (.inl h1)
        · rcases List.mem_cons.1 h2 with rfl | h2
          · exact .inl (.inr h4.symm)
          · exact .inr ⟨w', h2, h3, h4⟩
    · rename_i h
      constructor
      · rintro (h1 | ⟨w', h2, h3, h4⟩)
        · exact .inl h1
        · exact .inr ⟨w', List.mem_cons_of_mem _ h2, h3, h4⟩
      · rintro (h1 | ⟨w', h2, h3, h4⟩)
        · exact .inl h1
        · rcases List.mem_cons.1 h2 with rfl | h2
          · exact absurd h3 h
          · exact .inr ⟨w', h2, h3, h4⟩
theorem mem_named {x : Int × Int} {l : List Int} : x ∈ namedTo l ↔ ∃ w ∈ l, stW w = true ∧ (bW w, immS w) = x := by
  unfold namedTo
  rw [mem_foldN]
  simp
theorem named_succ {l : List Int} {n : Nat} (h : n < l.length) : namedTo (l.take (n + 1)) = addN (namedTo (l.take n)) (l.getD n 0) := by
  unfold namedTo
  rw [List.take_succ_eq_append_getElem h, List.foldl_append, List.getD_eq_getElem?_getD, List.getElem?_eq_getElem h]
  rfl
theorem getD_set_ne {l : List Int} {i j : Nat} {v : Int} (h : (l.set i v).getD j 0 ≠ l.getD j 0) : i = j := by
  rw [List.getD_eq_getElem?_getD, List.getD_eq_getElem?_getD, List.getElem?_set] at h
  by_cases e : i = j
  · exact e
  · rw [if_neg e] at h; exact absurd rfl h
theorem step_named {code : List Int} {s s' : Mach} (e : stepS code s = .go s') (j : Nat) : (s'.fr.getD j 0 ≠ s.fr.getD j 0 → ((0 : Int), (j : Int)) ∈ namedTo code) ∧ (s'.da.getD j 0 ≠ s.da.getD j 0 → ((1 : Int), (j : Int)) ∈ namedTo code) := by
  unfold stepS at e
  split at e
  · cases e
  rename_i hp
  split at e
  · rename_i hi
    have hmem : code.getD s.pc.toNat 0 ∈ code := by
      rw [List.getD_eq_getElem?_getD, List.getElem?_eq_getElem (by omega)]
      exact List.getElem_mem _
    generalize hw : code.getD s.pc.toNat 0 = w at *
    have hb := (isW_spec hi).2.1
    unfold execS at e
    split at e
    · cases e
    · split at e
      · rename_i h4
        split at e
        · cases e
        · rename_i hr
          split at e
          · injection e with e; subst e; exact ⟨fun h => absurd rfl h, fun h => absurd rfl h⟩
          · rename_i ho
            injection e with e
            subst e
            have hst : stW w = true := by
              unfold stW
              rw [hi]
              simp
              omega
            have hin : ((immS w).toNat : Int) = immS w := by omega
            rcases hb h4 with hb | hb
            · refine ⟨fun h => ?_, fun h => ?_⟩
              · have h : (if bW w = 0 then s.fr.set (immS w).toNat (s.r (aW w)) else s.fr).getD j 0 ≠ s.fr.getD j 0 := h
                rw [if_pos hb] at h
                have := getD_set_ne h
                exact mem_named.2 ⟨w, hmem, hst, by rw [hb, ← this, hin]⟩
              · have h : (if bW w = 0 then s.da else s.da.set (immS w).toNat (s.r (aW w))).getD j 0 ≠ s.da.getD j 0 := h
                rw [if_pos hb] at h
                exact absurd rfl h
            · have hb0 : ¬ bW w = 0 := by omega
              refine ⟨fun h => ?_, fun h => ?_⟩
              · have h : (if bW w = 0 then s.fr.set (immS w).toNat (s.r (aW w)) else s.fr).getD j 0 ≠ s.fr.getD j 0 := h
                rw [if_neg hb0] at h
                exact absurd rfl h
              · have h : (if bW w = 0 then s.da else s.da.set (immS w).toNat (s.r (aW w))).getD j 0 ≠ s.da.getD j 0 := h
                rw [if_neg hb0] at h
                have := getD_set_ne h
                exact mem_named.2 ⟨w, hmem, hst, by rw [hb, ← this, hin]⟩
      · split at e <;> (injection e with e; subst e; exact ⟨fun h => absurd rfl h, fun h => absurd rfl h⟩)
  · cases e
theorem run_named (code : List Int) (j : Nat) : ∀ (f : Nat) (s : Mach), ((runS code f s).1.fr.getD j 0 ≠ s.fr.getD j 0 → ((0 : Int), (j : Int)) ∈ namedTo code) ∧ ((runS code f s).1.da.getD j 0 ≠ s.da.getD j 0 → ((1 : Int), (j : Int)) ∈ namedTo code)
  | 0, s => ⟨fun h => absurd rfl h, fun h => absurd rfl h⟩
  | f + 1, s => by
    have e1 : runS code (f + 1) s = (match stepS code s with | .go s2 => runS code f s2 | .out s2 how n => (s2, how, n)) := rfl
    rw [e1]
    cases e : stepS code s with
    | go s2 =>
      have h1 := step_named e j
      have ih := run_named code j f s2
      refine ⟨fun h => ?_, fun h => ?_⟩
      · by_cases h2 : s2.fr.getD j 0 = s.fr.getD j 0
        · exact ih.1 (by rw [h2]; exact h)
        · exact h1.1 h2
      · by_cases h2 : s2.da.getD j 0 = s.da.getD j 0
        · exact ih.2 (by rw [h2]; exact h)
        · exact h1.2 h2
    | out s2 how n =>
      obtain ⟨_, _, h2, h3, _⟩ := step_out e
      refine ⟨fun h => ?_, fun h => ?_⟩
      · have h : s2.fr.getD j 0 ≠ s.fr.getD j 0 := h
        rw [h2] at h
        exact absurd rfl h
      · have h : s2.da.getD j 0 ≠ s.da.getD j 0 := h
        rw [h3] at h
        exact absurd rfl h
theorem all_named (code : List Int) (s : Mach) (j : Nat) : ((runAll code s).1.fr.getD j 0 ≠ s.fr.getD j 0 → ((0 : Int), (j : Int)) ∈ namedTo code) ∧ ((runAll code s).1.da.getD j 0 ≠ s.da.getD j 0 → ((1 : Int), (j : Int)) ∈ namedTo code) := run_named code j _ s.begin
theorem eqk58 : eqKinds env 58 = some [.int .i64, .int .i64] := by kernel_rfl
theorem pair58 : PairKey env 58 := ⟨eqk58, by kernel_rfl, fun em x w => by
  have hp : Tryd.prog.plainKey 3 = true := by unfold Program.plainKey; rw [Tryd.underlying3]
  obtain ⟨i3, hi3⟩ : ∃ i, Tryd.prog.info? 3 = some i := info_of_underlying Tryd.underlying3
  have hs3 : Tryd.prog.cellsOf 3 = 1 := by kernel_rfl
  have hz3 : ∀ w, (sizeOf 3).run Tryd.prog w = .ok 1 w := fun w => by rw [run_sizeOf w hi3, hs3]
  have h0 : (part 3 #[Value.int .i64 x.1, .int .i64 x.2] 0).run Tryd.prog w = .ok (.int .i64 x.1) w := run_part_plain w hp rfl
  have h1 : (part 3 #[Value.int .i64 x.1, .int .i64 x.2] 1).run Tryd.prog w = .ok (.int .i64 x.2) w := run_part_plain w hp rfl
  have hc : ∀ n, (Instr.checkKey em (9998 + 1) 3 (.int .i64 n)).run Tryd.prog w = .ok () w := fun n => by
    rw [Instr.checkKey]
    simp [run_underlying Tryd.underlying3]
  show (Instr.checkKey em (9999 + 1) 58 (.agg #[.int .i64 x.1, .int .i64 x.2])).run Tryd.prog w = .ok () w
  rw [Instr.checkKey]
  simp only [Sem.run_bind, run_underlying Tryd.underlying58, Result.andThen_ok]
  simp only [Std.Legacy.Range.forIn_eq_forIn_range', Std.Legacy.Range.size, Nat.sub_zero, Nat.add_one_sub_one, Nat.div_one]
  simp only [List.range', List.forIn_cons, List.forIn_nil, Sem.run_bind, hz3, Result.andThen_ok, h0, h1, hc, Sem.run_pure, Nat.zero_mul, Nat.mul_one, Nat.zero_add, Nat.one_mul]⟩
end Go.Proofs.YthdmdeiaonkeoaaDoor
