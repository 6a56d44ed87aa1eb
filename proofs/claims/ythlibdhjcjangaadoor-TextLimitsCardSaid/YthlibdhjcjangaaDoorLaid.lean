/- What the rows of this seat list of package variables, as the lifted calculus asks it. -/
import Derived.Test.YthlibdhjcjangaaDoorRows
import Derived.Test.YthlibdhjcjangaaDoorEnv
import Derived.Test.YthlibdhjcjangaaDoorShelf
import Derived.Lib.LaidU8
import Derived.PinnedBridge
import Derived.LaidLaws
import Derived.Plain9
import Derived.SevenLookT
import Derived.MakeChecks
set_option linter.unusedSimpArgs false
set_option linter.unusedVariables false
namespace Go.Proofs.YthlibdhjcjangaaDoor
open Go Go.RowKit Go.Proofs.YthlibdhjcjangaaDoor.Lift
abbrev laid2 : List (String × DataW Unit) := Rows.textUnquotesRow.laid
theorem accept_eq : (Rows.laid_unicode_utf8_acceptRanges : DataW Unit) = Lib.acceptData := by kernel_rfl
theorem lt_of_cell {W : World} {b c : Nat} {v : Value} (h : W.cell? ⟨b, c, none⟩ = some v) : b < W.heap.size := block_lt h
/-- The package variables, as the calculus asks them. -/
theorem laid_glob {W : World} (h : laidMetH Tryd.prog laid2 W) :
    (∀ g cs, Go.Proofs.YthlibdhjcjangaaDoor.Lift.look env.gl g = some cs → R1 W (fun b => b < W.heap.size) (.elem cs) (.pointer (some ⟨g, 0, none⟩))) ∧ gwinv W (fun b => b < W.heap.size) := by
  rw [MakeChecks.laidMetH_plain _ _ _ (by kernel_rfl)] at h
  have hf : Lib.VarReads Tryd.prog W "unicode/utf8.first" Lib.firstData := by
    have := Lib.laidMet.reads h (n := "unicode/utf8.first") (d := Go.Pinned.utf8First) (.tail _ (.head _))
    rw [Pinned.utf8First_eq] at this
    exact this
  have ha : Lib.VarReads Tryd.prog W "unicode/utf8.acceptRanges" Lib.acceptData := by
    have := Lib.laidMet.reads h (n := "unicode/utf8.acceptRanges") (d := Rows.laid_unicode_utf8_acceptRanges) (.head _)
    rw [accept_eq] at this
    exact this
  have hU : Lib.Utf8Tabs 0 1 W := utf8Tabs_of_reads (ρ := Tryd.lays197_ren) { Tryd.lays197 with } ⟨by kernel_rfl, by kernel_rfl, by kernel_rfl, by kernel_rfl, by kernel_rfl, by kernel_rfl, by kernel_rfl⟩ hf ha
  exact ⟨fun g cs e => (by have e : (none : Option (List PV)) = some cs := e; cases e), lt_of_cell (hU.1 0 (by decide)), lt_of_cell (hU.2 0 (by decide)).1, hU⟩
end Go.Proofs.YthlibdhjcjangaaDoor
