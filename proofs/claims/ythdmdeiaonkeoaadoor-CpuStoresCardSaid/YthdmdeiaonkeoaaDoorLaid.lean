/- What the statements list of package variables, as the lifted calculus asks it. -/
import Derived.Test.YthdmdeiaonkeoaaDoorRows
import Derived.Test.YthdmdeiaonkeoaaDoorEnv
import Derived.LaidLaws
import Derived.LaidMore
set_option linter.unusedSimpArgs false
set_option linter.unusedVariables false
namespace Go.Proofs.YthdmdeiaonkeoaaDoor
open Go Go.RowKit Go.Proofs.YthdmdeiaonkeoaaDoor.Lift
theorem laidUses : (Rows.laid_acheron_cpu_uses : DataW Unit) = .agg (usesT.map fun z => .lit (.string z)) := rfl
theorem laidNames : (Rows.laid_acheron_cpu_names : DataW Unit) = .agg (namesT.map fun z => .lit (.string z)) := rfl
theorem laidPow : (Rows.laid_internal_strconv_uint64pow10 : DataW Unit) = .agg (powT.map fun z => .lit (.int .u64 z)) := rfl
theorem g0T : (Tryd.prog.globals[0]?).map (·.type) = some 74 := by kernel_rfl
theorem g1T : (Tryd.prog.globals[1]?).map (·.type) = some 74 := by kernel_rfl
theorem g6T : (Tryd.prog.globals[6]?).map (·.type) = some 125 := by kernel_rfl
theorem g0N : Tryd.prog.globalNamed "acheron/cpu.uses" = some 0 := by kernel_rfl
theorem g1N : Tryd.prog.globalNamed "acheron/cpu.names" = some 1 := by kernel_rfl
theorem g6N : Tryd.prog.globalNamed "internal/strconv.uint64pow10" = some 6 := by kernel_rfl
/-- What one of the variables holds, if the list says it. -/
theorem holds_strs {W : World} {name : String} {g : Nat} {d : DataW Unit} (zs : List (List UInt8)) (hN : Tryd.prog.globalNamed name = some g) (hT : (Tryd.prog.globals[g]?).map (·.type) = some 74) (hd : d = .agg (zs.map fun z => .lit (.string z)))
    (h : ∃ g t cs fuel p, Tryd.prog.globalNamed name = some g ∧ (Tryd.prog.globals[g]?).map (·.type) = some t ∧ W.var? Tryd.prog name = some cs ∧ DataW.trod (fun _ => ()) Tryd.prog W 0 (fun _ => true) false fuel t cs.toList = some (d, p)) :
    ∃ t fr, W.heap[g]? = some (.cells (zs.map fun z => Value.string ⟨z.toArray⟩).toArray t fr) := by
  obtain ⟨g', t, cs, fuel, p, h1, h2, h3, h4⟩ := h
  obtain rfl := Option.some.inj (hN.symm.trans h1)
  obtain rfl := Option.some.inj (hT.symm.trans h2)
  subst hd
  have e := laid_strs zs Tryd.underlying74 Tryd.underlying9 (by kernel_rfl) (by kernel_rfl) h4
  obtain ⟨t, fr, hb⟩ := var_block h1 h3
  exact ⟨t, fr, by rw [hb, ← e]⟩
theorem holds_pow {W : World} {name : String} {g : Nat} {d : DataW Unit} (zs : List Int) (hN : Tryd.prog.globalNamed name = some g) (hT : (Tryd.prog.globals[g]?).map (·.type) = some 125) (hd : d = .agg (zs.map fun z => .lit (.int .u64 z)))
    (h : ∃ g t cs fuel p, Tryd.prog.globalNamed name = some g ∧ (Tryd.prog.globals[g]?).map (·.type) = some t ∧ W.var? Tryd.prog name = some cs ∧ DataW.trod (fun _ => ()) Tryd.prog W 0 (fun _ => true) false fuel t cs.toList = some (d, p)) :
    ∃ t fr, W.heap[g]? = some (.cells (zs.map (Value.int .u64)).toArray t fr) := by
  obtain ⟨g', t, cs, fuel, p, h1, h2, h3, h4⟩ := h
  obtain rfl := Option.some.inj (hN.symm.trans h1)
  obtain rfl := Option.some.inj (hT.symm.trans h2)
  subst hd
  have e := laid_ints zs Tryd.underlying125 Tryd.underlying92 (by kernel_rfl) (by kernel_rfl) h4
  obtain ⟨t, fr, hb⟩ := var_block h1 h3
  exact ⟨t, fr, by rw [hb, ← e]⟩
abbrev laid5 : List (String × DataW Unit) := Rows.cpuDecodesRow.laid
/-- The package variables, as the calculus asks them. -/
theorem laid_glob {W : World} (h : laidMetH Tryd.prog laid5 W) :
    (∀ g cs, Go.Proofs.YthdmdeiaonkeoaaDoor.Lift.look env.gl g = some cs → R1 W (fun b => b < W.heap.size) (.elem cs) (.pointer (some ⟨g, 0, none⟩))) ∧ gwinv W (fun b => b < W.heap.size) := by
  rw [MakeChecks.laidMetH_plain _ _ _ (by kernel_rfl)] at h
  obtain ⟨ps, ⟨_, _, _, _, _, _, _, _, _, _, ⟨_, _, _, _, _, _, _, _, _, _, ⟨g2, t2, c2, f2, p2, q2, a2, b2, d2, e2, ⟨g3, t3, c3, f3, p3, q3, a3, b3, d3, e3, ⟨g4, t4, c4, f4, p4, q4, a4, b4, d4, e4, _⟩, _⟩, _⟩, _⟩, _⟩, _⟩ := h
  obtain ⟨t6, fr6, h6⟩ := holds_pow powT g6N g6T laidPow ⟨g2, t2, c2, f2, p2, a2, b2, d2, e2⟩
  obtain ⟨t1, fr1, h1⟩ := holds_strs namesT g1N g1T laidNames ⟨g3, t3, c3, f3, p3, a3, b3, d3, e3⟩
  obtain ⟨t0, fr0, h0⟩ := holds_strs usesT g0N g0T laidUses ⟨g4, t4, c4, f4, p4, a4, b4, d4, e4⟩
  refine ⟨fun g cs e => ?_, (Array.getElem?_eq_some_iff.1 h6).1, t6, fr6, h6⟩
  have e : Go.Proofs.YthdmdeiaonkeoaaDoor.Lift.look gl g = some cs := e
  unfold gl Go.Proofs.YthdmdeiaonkeoaaDoor.Lift.look at e
  split at e
  · rename_i hg
    injection e with e
    subst e
    obtain rfl : 0 = g := hg
    exact R1_glob h0 (RL_strs _ _ _)
  unfold Go.Proofs.YthdmdeiaonkeoaaDoor.Lift.look at e
  split at e
  · rename_i hg
    injection e with e
    subst e
    obtain rfl : 1 = g := hg
    exact R1_glob h1 (RL_strs _ _ _)
  unfold Go.Proofs.YthdmdeiaonkeoaaDoor.Lift.look at e
  split at e
  · rename_i hg
    injection e with e
    subst e
    obtain rfl : 6 = g := hg
    exact R1_glob h6 (RL_ints _ _ _ _)
  · cases e
end Go.Proofs.YthdmdeiaonkeoaaDoor
