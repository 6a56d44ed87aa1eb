/- What the rows of this seat list of package variables, as the lifted calculus asks it. -/
import Derived.Test.YtincpomenogppaaGreatDoorRows
import Derived.Test.YtincpomenogppaaGreatDoorEnv
import Derived.Test.YtincpomenogppaaGreatDoorShelf
import Derived.Lib.LaidU8
import Derived.PinnedBridge
import Derived.LaidLaws
import Derived.Plain9
import Derived.SevenLookT
import Derived.HandedShaped
import Derived.Shelf.Vars
import Derived.MakeChecks
set_option linter.unusedSimpArgs false
set_option linter.unusedVariables false
namespace Go.Proofs.YtincpomenogppaaGreatDoor
open Go Go.RowKit Go.Proofs.YtincpomenogppaaGreatDoor.Lift
abbrev laid5 : List (String × DataW Unit) := Rows.toolsOrdersRow.laid
theorem accept_eq : (Rows.laid_unicode_utf8_acceptRanges : DataW Unit) = Lib.acceptData := by kernel_rfl
theorem lt_of_cell {W : World} {b c : Nat} {v : Value} (h : W.cell? ⟨b, c, none⟩ = some v) : b < W.heap.size := block_lt h
theorem laidPow : (Rows.laid_internal_strconv_uint64pow10 : DataW Unit) = .agg (powT.map fun z => .lit (.int .u64 z)) := rfl
theorem g3T : (Tryz.prog.globals[3]?).map (·.type) = some 206 := by kernel_rfl
theorem g3N : Tryz.prog.globalNamed "internal/strconv.uint64pow10" = some 3 := by kernel_rfl
theorem holds_pow {W : World} {name : String} {g : Nat} {d : DataW Unit} (zs : List Int) (hN : Tryz.prog.globalNamed name = some g) (hT : (Tryz.prog.globals[g]?).map (·.type) = some 206) (hd : d = .agg (zs.map fun z => .lit (.int .u64 z)))
    (h : ∃ g t cs fuel p, Tryz.prog.globalNamed name = some g ∧ (Tryz.prog.globals[g]?).map (·.type) = some t ∧ W.var? Tryz.prog name = some cs ∧ DataW.trod (fun _ => ()) Tryz.prog W 0 (fun _ => true) false fuel t cs.toList = some (d, p)) :
    ∃ t fr, W.heap[g]? = some (.cells (zs.map (Value.int .u64)).toArray t fr) := by
  obtain ⟨g', t, cs, fuel, p, h1, h2, h3, h4⟩ := h
  obtain rfl := Option.some.inj (hN.symm.trans h1)
  obtain rfl := Option.some.inj (hT.symm.trans h2)
  subst hd
  have e := laid_ints zs Tryz.underlying206 Tryz.underlying154 (by kernel_rfl) (by kernel_rfl) h4
  obtain ⟨t, fr, hb⟩ := var_block h1 h3
  exact ⟨t, fr, by rw [hb, ← e]⟩
theorem laid_glob {W : World} (h : laidMetH Tryz.prog laid5 W) (hsh : W.ShapedOpen Tryz.prog) :
    (∀ g cs, Go.Proofs.YtincpomenogppaaGreatDoor.Lift.look env.gl g = some cs → R1 W (fun b => b < W.heap.size) (.elem cs) (.pointer (some ⟨g, 0, none⟩))) ∧ gwinv W (fun b => b < W.heap.size) := by
  rw [MakeChecks.laidMetH_plain _ _ _ (by kernel_rfl)] at h
  have hf : Lib.VarReads Tryz.prog W "unicode/utf8.first" Lib.firstData := by
    have := Lib.laidMet.reads h (n := "unicode/utf8.first") (d := Go.Pinned.utf8First) (.tail _ (.tail _ (.tail _ (.tail _ (.head _)))))
    rw [Pinned.utf8First_eq] at this
    exact this
  have ha : Lib.VarReads Tryz.prog W "unicode/utf8.acceptRanges" Lib.acceptData := by
    have := Lib.laidMet.reads h (n := "unicode/utf8.acceptRanges") (d := Rows.laid_unicode_utf8_acceptRanges) (.tail _ (.tail _ (.tail _ (.head _))))
    rw [accept_eq] at this
    exact this
  have hU : Lib.Utf8Tabs 1 2 W := utf8Tabs_of_reads (ρ := Tryz.lays197_ren) { Tryz.lays197 with } ⟨by kernel_rfl, by kernel_rfl, by kernel_rfl, by kernel_rfl, by kernel_rfl, by kernel_rfl, by kernel_rfl⟩ hf ha
  obtain ⟨ps, ⟨_, _, _, _, _, _, _, _, _, _, ⟨_, _, _, _, _, _, _, _, _, _, ⟨g2, t2, c2, f2, p2, q2, a2, b2, d2, k2, _⟩, _⟩, _⟩, _⟩ := h
  obtain ⟨t6, fr6, h6⟩ := holds_pow powT g3N g3T laidPow ⟨g2, t2, c2, f2, p2, a2, b2, d2, k2⟩
  obtain ⟨m, hm⟩ := Go.Proofs.cell_of_shapedOpen_int (P := Tryz.prog) (g := 0) (t := 3) (zero := #[.int .i64 0]) hsh (of_decide_eq_true (by kernel_rfl)) (by kernel_rfl) rfl (by kernel_rfl) (by kernel_rfl) Tryz.underlying3
  exact ⟨fun g cs e => (by have e : (none : Option (List PV)) = some cs := e; cases e), ⟨lt_of_cell (hU.1 0 (by decide)), lt_of_cell (hU.2 0 (by decide)).1, hU⟩, ⟨(Array.getElem?_eq_some_iff.1 h6).1, t6, fr6, h6⟩, lt_of_cell hm, m, hm⟩
theorem returns_laid {H : Type} {enc : TypeId × Value → H} {a : Assume} {C : Checked} {os : Os} {f : FuncId} {fn : Func} {s : ChangeSpec} {conds : List PathCond} {apart fresh handsOn again : Bool} {X : World → Array Value → Prop}
    (hX : ∀ (w w' : World) (args : Array Value), w.heap = w'.heap → X w args → X w' args)
    (own : ownKnob C.prog.godebug = none) (started : os.Started) (noInit : C.prog.inits.idxOf? f = none) (hfn : C.prog.funcs[f]? = some fn)
    (witness : ∃ (w : World) (tape : Tape) (i : Input), w.os = os ∧ (w.forCall tape i).Shaped C.prog ∧ i.vars = [] ∧ Input.okWide C.prog (w.forCall tape i) .any w.heap.size f i ∧
      ((s.pre enc C.prog fn conds apart (w.forCall tape i).memory i.args ∧ X (w.forCall tape i).memory i.args) ∧ sizedMet enc C.prog fn (OpenSpec.ofChange s) apart (w.forCall tape i).memory i.args) ∧ a.holds C.prog (lone (Frame.enter C.prog f i.args .normal) [] (w.forCall tape i)))
    (contract : ∀ (W : World) (base : Nat) (args : Array Value) (ds gs : List (DataW H)) (before : List MemPlace),
      (∀ (j : Nat) t v, fn.params[j]? = some t → args[j]? = some v → Value.okWide C.prog W .any base t v) →
      DataW.Whole enc C.prog fn.params.toList s.vars apart W args.toList ds gs before →
      conds.all (PathCond.test C.prog ⟨fn.params.toList, ds, s.plain.varTypes C.prog, gs⟩) = true →
      (DataW.weightsEach C.prog (fn.params.toList ++ s.plain.varTypes C.prog) (ds ++ gs)).all (· ≤ reachBytes) = true → X W args →
      W.ShapedOpen C.prog →
      Calls C.prog f args W fun e W' => ∃ v, e = .returned v ∧ s.post enc C.prog fn apart fresh handsOn again W args v W') :
    ReturnsInHanded a C os f .any (fun w args => (s.pre enc C.prog fn conds apart w args ∧ X w args) ∧ sizedMet enc C.prog fn (OpenSpec.ofChange s) apart w args) (s.post enc C.prog fn apart fresh handsOn again) := by
  refine returnsInHanded_of_calls own started noInit witness fun w tape i _ hsh _ hok hpre _ => ?_
  obtain ⟨_, _, _, fn', hfn', _, _, _, _, hval⟩ := hok
  obtain rfl : fn' = fn := Option.some.inj (hfn'.symm.trans hfn)
  obtain ⟨⟨⟨ds, gs, before, hw, hc⟩, hx⟩, hz⟩ := hpre
  refine (contract (w.forCall tape i) w.heap.size i.args ds gs before hval (DataW.Whole.of_heap (w' := w.forCall tape i) (by rfl) hw) hc (hz.weights hw) (hX _ _ _ (by rfl) hx) hsh).mono fun e W' ⟨v, he, hp⟩ => ?_
  subst he
  exact ChangeSpec.post_blind hp
end Go.Proofs.YtincpomenogppaaGreatDoor
