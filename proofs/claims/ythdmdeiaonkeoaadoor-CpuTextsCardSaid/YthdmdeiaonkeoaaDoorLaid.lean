/- What the row of CpuTexts lists of package variables, as the lifted calculus asks it; and the wrap of a row that lists variables, with the world's shape. -/
import Derived.Test.YthdmdeiaonkeoaaDoorRows
import Derived.Test.YthdmdeiaonkeoaaDoorEnv
import Derived.Test.YthdmdeiaonkeoaaDoorShelfB
import Derived.LaidLaws
import Derived.LaidMore
import Derived.Stop.LaidErr
import Derived.Plain9
import Derived.SevenLookT
import Derived.HandedShaped
import Derived.MakeChecks
set_option linter.unusedSimpArgs false
set_option linter.unusedVariables false
namespace Go.Proofs.YthdmdeiaonkeoaaDoor
open Go Go.RowKit Go.Proofs.YthdmdeiaonkeoaaDoor.Lift
theorem laidUses : (Rows.laid_acheron_cpu_uses : DataW Unit) = .agg (usesT.map fun z => .lit (.string z)) := rfl
theorem laidNames : (Rows.laid_acheron_cpu_names : DataW Unit) = .agg (namesT.map fun z => .lit (.string z)) := rfl
theorem laidPow : (Rows.laid_internal_strconv_uint64pow10 : DataW Unit) = .agg (powT.map fun z => .lit (.int .u64 z)) := rfl
theorem g0T : (Tryd.prog.globals[0]?).map (·.type) = some 74 := by kernel_rfl
theorem g1T : (Tryd.prog.globals[1]?).map (·.type) = some 74 := by kernel_rfl
theorem g4T : (Tryd.prog.globals[4]?).map (·.type) = some 84 := by kernel_rfl
theorem g5T : (Tryd.prog.globals[5]?).map (·.type) = some 84 := by kernel_rfl
theorem g6T : (Tryd.prog.globals[6]?).map (·.type) = some 125 := by kernel_rfl
theorem g0N : Tryd.prog.globalNamed "acheron/cpu.uses" = some 0 := by kernel_rfl
theorem g1N : Tryd.prog.globalNamed "acheron/cpu.names" = some 1 := by kernel_rfl
theorem g4N : Tryd.prog.globalNamed "strconv.ErrSyntax" = some 4 := by kernel_rfl
theorem g5N : Tryd.prog.globalNamed "strconv.ErrRange" = some 5 := by kernel_rfl
theorem g6N : Tryd.prog.globalNamed "internal/strconv.uint64pow10" = some 6 := by kernel_rfl
/-- What one of the variables holds, if the list says it. -/
theorem holds_strs {W : World} {name : String} {g : Nat} {d : DataW Unit} (zs : List (List UInt8)) (hN : Tryd.prog.globalNamed name = some g) (hT : (Tryd.prog.globals[g]?).map (·.type) = some 74) (hd : d = .agg (zs.map fun z => .lit (.string z)))
    (h : ∃ g t cs fuel p, Tryd.prog.globalNamed name = some g ∧ (Tryd.prog.globals[g]?).map (·.type) = some t ∧ W.var? Tryd.prog name = some cs ∧ DataW.trod (fun _ => ()) Tryd.prog W 0 (fun _ => true) false fuel t cs.toList = some (d, p)) :
    ∃ t fr, W.heap[g]? = some (.cells (zs.map fun z => Value.string ⟨z.toArray⟩).toArray t fr) := by
  obtain ⟨g', t, cs, fuel, p, h1, h2, h3, h4⟩ := h
  obtain rfl := Option.some.inj (hN.symm.trans h1)
  obtain rfl := Option.some.inj (hT.symm.trans h2)
  subst hd
  have e := laid_strs zs Tryd.underlying74 Tryd.underlying9 (by kernel_rfl) (by kernel_rfl) h4
  obtain ⟨t, fr, hb⟩ := var_block h1 h3
  exact ⟨t, fr, by rw [hb, ← e]⟩
theorem holds_pow {W : World} {name : String} {g : Nat} {d : DataW Unit} (zs : List Int) (hN : Tryd.prog.globalNamed name = some g) (hT : (Tryd.prog.globals[g]?).map (·.type) = some 125) (hd : d = .agg (zs.map fun z => .lit (.int .u64 z)))
    (h : ∃ g t cs fuel p, Tryd.prog.globalNamed name = some g ∧ (Tryd.prog.globals[g]?).map (·.type) = some t ∧ W.var? Tryd.prog name = some cs ∧ DataW.trod (fun _ => ()) Tryd.prog W 0 (fun _ => true) false fuel t cs.toList = some (d, p)) :
    ∃ t fr, W.heap[g]? = some (.cells (zs.map (Value.int .u64)).toArray t fr) := by
  obtain ⟨g', t, cs, fuel, p, h1, h2, h3, h4⟩ := h
  obtain rfl := Option.some.inj (hN.symm.trans h1)
  obtain rfl := Option.some.inj (hT.symm.trans h2)
  subst hd
  have e := laid_ints zs Tryd.underlying125 Tryd.underlying92 (by kernel_rfl) (by kernel_rfl) h4
  obtain ⟨t, fr, hb⟩ := var_block h1 h3
  exact ⟨t, fr, by rw [hb, ← e]⟩
theorem cells133 : Tryd.prog.cellsOf 133 = 1 := by kernel_rfl
theorem cells9 : Tryd.prog.cellsOf 9 = 1 := by kernel_rfl
theorem star : "*" ++ "errors.errorString" = "*errors.errorString" := by decide
theorem errRow (u : TypeId) (h : Tryd.prog.typeName? 3 u = some "*errors.errorString") : u = 131 :=
  typeName_ptr_named (nm := "errors.errorString") (by rw [star]; kernel_rfl) (by kernel_rfl) (by decide) u (by rw [star]; exact h)
/-- What one of the errors holds. -/
theorem holds_err {n : String} {text : List UInt8} {r : List (String × DataW Unit)} {W : World} {g : Nat} (h : laidMet Tryd.prog ((n, .iface "*errors.errorString" (.ptr (.agg [.lit (.string text)]))) :: r) W) (hg : Tryd.prog.globalNamed n = some g) (ht : (Tryd.prog.globals[g]?).map (·.type) = some 84) : gcell W (fun b => b < W.heap.size) g isErr := by
  obtain ⟨a, s, hv, _⟩ := laid_sentinel h hg ht Tryd.underlying84 errRow Tryd.underlying131 Tryd.underlying133 rfl rfl Tryd.underlying9 cells133 cells9
  have hc : W.cell? ⟨g, 0, none⟩ = some (.iface 131 (.pointer (some a))) := by have h0 := World.var?_cell hg hv 0; simpa using h0
  exact ⟨Lib.lt_of_cell hc, _, hc, .inr ⟨_, _, rfl⟩⟩
abbrev laid9 : List (String × DataW Unit) := Rows.cpuTextsRow.laid
/-- The package variables, as the calculus asks them. -/
theorem laid_glob {W : World} (h : laidMetH Tryd.prog laid9 W) (hsh : W.ShapedOpen Tryd.prog) :
    (∀ g cs, Go.Proofs.YthdmdeiaonkeoaaDoor.Lift.look env.gl g = some cs → R1 W (fun b => b < W.heap.size) (.elem cs) (.pointer (some ⟨g, 0, none⟩))) ∧ gwinv W (fun b => b < W.heap.size) := by
  rw [MakeChecks.laidMetH_plain _ _ _ (by kernel_rfl)] at h
  have e5 := holds_err h.tail.tail.tail.tail g5N g5T
  have e4 := holds_err h.tail.tail.tail.tail.tail g4N g4T
  obtain ⟨m, hm⟩ := Tryd.laysM146.s1_3 W hsh
  have e2 : gcell W (fun b => b < W.heap.size) 2 isI64 := ⟨Lib.lt_of_cell hm, _, hm, _, rfl⟩
  obtain ⟨_, ⟨g2, t2, c2, f2, p2, q2, a2, b2, d2, k2, _⟩, _⟩ := h.tail.tail
  obtain ⟨_, ⟨g3, t3, c3, f3, p3, q3, a3, b3, d3, k3, _⟩, _⟩ := h.tail.tail.tail.tail.tail.tail
  obtain ⟨_, ⟨g4, t4, c4, f4, p4, q4, a4, b4, d4, k4, _⟩, _⟩ := h.tail.tail.tail.tail.tail.tail.tail
  obtain ⟨t6, fr6, h6⟩ := holds_pow powT g6N g6T laidPow ⟨g2, t2, c2, f2, p2, a2, b2, d2, k2⟩
  obtain ⟨t1, fr1, h1⟩ := holds_strs namesT g1N g1T laidNames ⟨g3, t3, c3, f3, p3, a3, b3, d3, k3⟩
  obtain ⟨t0, fr0, h0⟩ := holds_strs usesT g0N g0T laidUses ⟨g4, t4, c4, f4, p4, a4, b4, d4, k4⟩
  refine ⟨fun g cs e => ?_, ⟨(Array.getElem?_eq_some_iff.1 h6).1, t6, fr6, h6⟩, e2, e4, e5⟩
  have e : Go.Proofs.YthdmdeiaonkeoaaDoor.Lift.look gl g = some cs := e
  unfold gl Go.Proofs.YthdmdeiaonkeoaaDoor.Lift.look at e
  split at e
  · rename_i hg
    injection e with e
    subst e
    obtain rfl : 0 = g := hg
    exact R1_glob h0 (RL_strs _ _ _)
  unfold Go.Proofs.YthdmdeiaonkeoaaDoor.Lift.look at e
  split at e
  · rename_i hg
    injection e with e
    subst e
    obtain rfl : 1 = g := hg
    exact R1_glob h1 (RL_strs _ _ _)
  unfold Go.Proofs.YthdmdeiaonkeoaaDoor.Lift.look at e
  split at e
  · rename_i hg
    injection e with e
    subst e
    obtain rfl : 6 = g := hg
    exact R1_glob h6 (RL_ints _ _ _ _)
  · cases e
/-- A law's row from its contract, where the row lists variables, and the contract asks the world's shape. -/
theorem returns_laid {H : Type} {enc : TypeId × Value → H} {a : Assume} {C : Checked} {os : Os} {f : FuncId} {fn : Func} {s : ChangeSpec} {conds : List PathCond} {apart fresh handsOn again : Bool} {X : World → Array Value → Prop}
    (hX : ∀ (w w' : World) (args : Array Value), w.heap = w'.heap → X w args → X w' args)
    (own : ownKnob C.prog.godebug = none) (started : os.Started) (noInit : C.prog.inits.idxOf? f = none) (hfn : C.prog.funcs[f]? = some fn)
    (witness : ∃ (w : World) (tape : Tape) (i : Input), w.os = os ∧ (w.forCall tape i).Shaped C.prog ∧ i.vars = [] ∧ Input.okWide C.prog (w.forCall tape i) .any w.heap.size f i ∧
      ((s.pre enc C.prog fn conds apart (w.forCall tape i).memory i.args ∧ X (w.forCall tape i).memory i.args) ∧ sizedMet enc C.prog fn (OpenSpec.ofChange s) apart (w.forCall tape i).memory i.args) ∧ a.holds C.prog (lone (Frame.enter C.prog f i.args .normal) [] (w.forCall tape i)))
    (contract : ∀ (W : World) (base : Nat) (args : Array Value) (ds gs : List (DataW H)) (before : List MemPlace),
      (∀ (j : Nat) t v, fn.params[j]? = some t → args[j]? = some v → Value.okWide C.prog W .any base t v) →
      DataW.Whole enc C.prog fn.params.toList s.vars apart W args.toList ds gs before →
      conds.all (PathCond.test C.prog ⟨fn.params.toList, ds, s.plain.varTypes C.prog, gs⟩) = true →
      (DataW.weightsEach C.prog (fn.params.toList ++ s.plain.varTypes C.prog) (ds ++ gs)).all (· ≤ reachBytes) = true → X W args →
      W.ShapedOpen C.prog →
      Calls C.prog f args W fun e W' => ∃ v, e = .returned v ∧ s.post enc C.prog fn apart fresh handsOn again W args v W') :
    ReturnsInHanded a C os f .any (fun w args => (s.pre enc C.prog fn conds apart w args ∧ X w args) ∧ sizedMet enc C.prog fn (OpenSpec.ofChange s) apart w args) (s.post enc C.prog fn apart fresh handsOn again) := by
  refine returnsInHanded_of_calls own started noInit witness fun w tape i _ hsh _ hok hpre _ => ?_
  obtain ⟨_, _, _, fn', hfn', _, _, _, _, hval⟩ := hok
  obtain rfl : fn' = fn := Option.some.inj (hfn'.symm.trans hfn)
  obtain ⟨⟨⟨ds, gs, before, hw, hc⟩, hx⟩, hz⟩ := hpre
  refine (contract (w.forCall tape i) w.heap.size i.args ds gs before hval (DataW.Whole.of_heap (w' := w.forCall tape i) (by rfl) hw) hc (hz.weights hw) (hX _ _ _ (by rfl) hx) hsh).mono fun e W' ⟨v, he, hp⟩ => ?_
  subst he
  exact ChangeSpec.post_blind hp
end Go.Proofs.YthdmdeiaonkeoaaDoor
