/- What the rows of this seat list of package variables, as the lifted calculus asks it. -/
import Derived.Test.YtincpomenogppaaGreatDoorRows
import Derived.Test.YtincpomenogppaaGreatDoorEnv
import Derived.Test.YtincpomenogppaaGreatDoorShelf
import Derived.Lib.LaidU8
import Derived.PinnedBridge
import Derived.LaidLaws
import Derived.LaidMore
import Derived.Stop.LaidErr
import Derived.Plain9
import Derived.SevenLookT
import Derived.MakeChecks
set_option linter.unusedSimpArgs false
set_option linter.unusedVariables false
namespace Go.Proofs.YtincpomenogppaaGreatDoor
open Go Go.RowKit Go.Proofs.YtincpomenogppaaGreatDoor.Lift
abbrev laid7 : List (String × DataW Unit) := Rows.toolsShowsRow.laid
theorem accept_eq : (Rows.laid_unicode_utf8_acceptRanges : DataW Unit) = Lib.acceptData := by kernel_rfl
theorem lt_of_cell {W : World} {b c : Nat} {v : Value} (h : W.cell? ⟨b, c, none⟩ = some v) : b < W.heap.size := block_lt h
theorem laidPow : (Rows.laid_internal_strconv_uint64pow10 : DataW Unit) = .agg (powT.map fun z => .lit (.int .u64 z)) := rfl
theorem g3T : (Tryz.prog.globals[3]?).map (·.type) = some 206 := by kernel_rfl
theorem g3N : Tryz.prog.globalNamed "internal/strconv.uint64pow10" = some 3 := by kernel_rfl
theorem g4T : (Tryz.prog.globals[4]?).map (·.type) = some 85 := by kernel_rfl
theorem g4N : Tryz.prog.globalNamed "strconv.ErrSyntax" = some 4 := by kernel_rfl
theorem g5T : (Tryz.prog.globals[5]?).map (·.type) = some 85 := by kernel_rfl
theorem g5N : Tryz.prog.globalNamed "strconv.ErrRange" = some 5 := by kernel_rfl
theorem holds_pow {W : World} {name : String} {g : Nat} {d : DataW Unit} (zs : List Int) (hN : Tryz.prog.globalNamed name = some g) (hT : (Tryz.prog.globals[g]?).map (·.type) = some 206) (hd : d = .agg (zs.map fun z => .lit (.int .u64 z)))
    (h : ∃ g t cs fuel p, Tryz.prog.globalNamed name = some g ∧ (Tryz.prog.globals[g]?).map (·.type) = some t ∧ W.var? Tryz.prog name = some cs ∧ DataW.trod (fun _ => ()) Tryz.prog W 0 (fun _ => true) false fuel t cs.toList = some (d, p)) :
    ∃ t fr, W.heap[g]? = some (.cells (zs.map (Value.int .u64)).toArray t fr) := by
  obtain ⟨g', t, cs, fuel, p, h1, h2, h3, h4⟩ := h
  obtain rfl := Option.some.inj (hN.symm.trans h1)
  obtain rfl := Option.some.inj (hT.symm.trans h2)
  subst hd
  have e := laid_ints zs Tryz.underlying206 Tryz.underlying154 (by kernel_rfl) (by kernel_rfl) h4
  obtain ⟨t, fr, hb⟩ := var_block h1 h3
  exact ⟨t, fr, by rw [hb, ← e]⟩
theorem cells218 : Tryz.prog.cellsOf 218 = 1 := by kernel_rfl
theorem cells9 : Tryz.prog.cellsOf 9 = 1 := by kernel_rfl
theorem star : "*" ++ "errors.errorString" = "*errors.errorString" := by decide
theorem errRow (u : TypeId) (h : Tryz.prog.typeName? 3 u = some "*errors.errorString") : u = 216 :=
  typeName_ptr_named (nm := "errors.errorString") (by rw [star]; kernel_rfl) (by kernel_rfl) (by decide) u (by rw [star]; exact h)
theorem holds_err {n : String} {text : List UInt8} {r : List (String × DataW Unit)} {W : World} {g : Nat} (h : laidMet Tryz.prog ((n, .iface "*errors.errorString" (.ptr (.agg [.lit (.string text)]))) :: r) W) (hg : Tryz.prog.globalNamed n = some g) (ht : (Tryz.prog.globals[g]?).map (·.type) = some 85) : gcell W (fun b => b < W.heap.size) g isErr := by
  obtain ⟨a, s, hv, _⟩ := laid_sentinel h hg ht Tryz.underlying85 errRow Tryz.underlying216 Tryz.underlying218 rfl rfl Tryz.underlying9 cells218 cells9
  have hc : W.cell? ⟨g, 0, none⟩ = some (.iface 216 (.pointer (some a))) := by have h0 := World.var?_cell hg hv 0; simpa using h0
  exact ⟨lt_of_cell hc, _, hc, .inr ⟨_, _, rfl⟩⟩
theorem laid_glob {W : World} (h : laidMetH Tryz.prog laid7 W) :
    (∀ g cs, Go.Proofs.YtincpomenogppaaGreatDoor.Lift.look env.gl g = some cs → R1 W (fun b => b < W.heap.size) (.elem cs) (.pointer (some ⟨g, 0, none⟩))) ∧ gwinv W (fun b => b < W.heap.size) := by
  rw [MakeChecks.laidMetH_plain _ _ _ (by kernel_rfl)] at h
  have hf : Lib.VarReads Tryz.prog W "unicode/utf8.first" Lib.firstData := by
    have := Lib.laidMet.reads h (n := "unicode/utf8.first") (d := Go.Pinned.utf8First) (.tail _ (.tail _ (.tail _ (.tail _ (.tail _ (.tail _ (.head _)))))))
    rw [Pinned.utf8First_eq] at this
    exact this
  have ha : Lib.VarReads Tryz.prog W "unicode/utf8.acceptRanges" Lib.acceptData := by
    have := Lib.laidMet.reads h (n := "unicode/utf8.acceptRanges") (d := Rows.laid_unicode_utf8_acceptRanges) (.tail _ (.tail _ (.tail _ (.head _))))
    rw [accept_eq] at this
    exact this
  have hU : Lib.Utf8Tabs 1 2 W := utf8Tabs_of_reads (ρ := Tryz.lays197_ren) { Tryz.lays197 with } ⟨by kernel_rfl, by kernel_rfl, by kernel_rfl, by kernel_rfl, by kernel_rfl, by kernel_rfl, by kernel_rfl⟩ hf ha
  have e5 := holds_err h.tail.tail.tail.tail g5N g5T
  have e4 := holds_err h.tail.tail.tail.tail.tail g4N g4T
  obtain ⟨_, ⟨g2, t2, c2, f2, p2, q2, a2, b2, d2, k2, _⟩, _⟩ := h.tail.tail
  obtain ⟨t6, fr6, h6⟩ := holds_pow powT g3N g3T laidPow ⟨g2, t2, c2, f2, p2, a2, b2, d2, k2⟩
  exact ⟨fun g cs e => (by have e : (none : Option (List PV)) = some cs := e; cases e), ⟨lt_of_cell (hU.1 0 (by decide)), lt_of_cell (hU.2 0 (by decide)).1, hU⟩, ⟨(Array.getElem?_eq_some_iff.1 h6).1, t6, fr6, h6⟩, e4, e5⟩
end Go.Proofs.YtincpomenogppaaGreatDoor
