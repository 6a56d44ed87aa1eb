/-
  DERIVED. GIVEN WITH THE SEED: THE CARDS: each row of YthlibdhjcjangaaDoorRows.lean that lists a variable, with what it lists TIED to the program's text (the seventh form; the later family's looks); each row that meets fmt, with fmt's text TOLD by the authors' own Lean function (tested against real Go, not proved from fmt's source: count such statements apart). THE CARD IS WHAT COUNTS. Prove the row's statement (the work); the ties are given (YthlibdhjcjangaaDoorTie.lean); close each card by the builder's one call (the guide's Derived/Test/ToyasCard.lean, 'card_holds'). Laid BY PROGRAM, IN A SANDBOX (cutbox-door.mjs). By AI agents, Wed Nov 11 2026. No macro, syntax, notation, axiom, sorry.
-/
import Derived.Test.YthlibdhjcjangaaDoorRows
import GoSem.ClaimSeven
namespace Go.Proofs.YthlibdhjcjangaaDoor
namespace Rows

/-- THE TIED CARD OF 'acheronlaw01.TextUnquotes'. -/
def textUnquotesCard : Claim7 := { stood := { row := textUnquotesRow, standIns := [], harness := (true, "f088021c36e10d98daf2c38f9578d22e16081e2ae8b41a32d620a6fe63a28691"), looks := true }, kinds := [], alts := [], laidByText := true, laidKinds := [.data, .pinned], laidTests := true, laidLooks := .later }
def TextUnquotesCardSaid : Prop := Claim7.holds Tryd.pinned (.plain (OpenSpec.ofChange textUnquotesSpec)) textUnquotesCard

/-- THE TIED CARD OF 'acheronlaw01.TextLimits'. -/
def textLimitsCard : Claim7 := { stood := { row := textLimitsRow, standIns := [], harness := (true, "f088021c36e10d98daf2c38f9578d22e16081e2ae8b41a32d620a6fe63a28691"), looks := true }, kinds := [], alts := [], laidByText := true, laidKinds := [.data, .pinned], laidTests := true, laidLooks := .later }
def TextLimitsCardSaid : Prop := Claim7.holds Tryd.pinned (.plain (OpenSpec.ofChange textLimitsSpec)) textLimitsCard

/-- THE SECOND FORM's CARD OF 'acheronlaw01.TextUnquotes'. -/
def textUnquotesUptoCard : Claim7 := { stood := { row := textUnquotesUptoRow, standIns := [], harness := (true, "f088021c36e10d98daf2c38f9578d22e16081e2ae8b41a32d620a6fe63a28691"), looks := true }, kinds := [], alts := [], laidByText := true, laidKinds := [.data, .pinned], laidTests := true, laidLooks := .later }
def TextUnquotesUptoCardSaid : Prop := Claim7.holds Tryd.pinned (.plain (OpenSpec.upto textUnquotesSpec)) textUnquotesUptoCard

/-- THE SECOND FORM's CARD OF 'acheronlaw01.TextLimits'. -/
def textLimitsUptoCard : Claim7 := { stood := { row := textLimitsUptoRow, standIns := [], harness := (true, "f088021c36e10d98daf2c38f9578d22e16081e2ae8b41a32d620a6fe63a28691"), looks := true }, kinds := [], alts := [], laidByText := true, laidKinds := [.data, .pinned], laidTests := true, laidLooks := .later }
def TextLimitsUptoCardSaid : Prop := Claim7.holds Tryd.pinned (.plain (OpenSpec.upto textLimitsSpec)) textLimitsUptoCard
end Rows
end Go.Proofs.YthlibdhjcjangaaDoor
