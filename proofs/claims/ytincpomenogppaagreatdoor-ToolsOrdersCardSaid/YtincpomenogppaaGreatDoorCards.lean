/-
  DERIVED. GIVEN WITH THE SEED: THE CARDS: each row of YtincpomenogppaaGreatDoorRows.lean that lists a variable, with what it lists TIED to the program's text (the seventh form; the later family's looks); each row that meets fmt, with fmt's text TOLD by the authors' own Lean function (tested against real Go, not proved from fmt's source: count such statements apart). THE CARD IS WHAT COUNTS. Prove the row's statement (the work); the ties are given (YtincpomenogppaaGreatDoorTie.lean); close each card by the builder's one call (the guide's Derived/Test/ToyasCard.lean, 'card_holds'). Laid BY PROGRAM, IN A SANDBOX (cutbox-door.mjs). By AI agents, Wed Nov 11 2026. No macro, syntax, notation, axiom, sorry.
-/
import Derived.Test.YtincpomenogppaaGreatDoorRows
import GoSem.ClaimSeven
namespace Go.Proofs.YtincpomenogppaaGreatDoor
namespace Rows

/-- THE TIED CARD OF 'acheronlaw38.ToolsShows'. -/
def toolsShowsCard : Claim7 := { stood := { row := toolsShowsRow, standIns := [], harness := (true, "afcd5fdf170cfebacb4433d45eeda7ad48ce6cc348dc67adf686408daab76f06"), looks := true }, kinds := [], alts := [], laidByText := true, laidKinds := [.data, .data, .data, .data, .sentinel, .sentinel, .pinned], laidTests := true, laidLooks := .later }
def ToolsShowsCardSaid : Prop := Claim7.holds Tryz.pinned (.plain (OpenSpec.ofChange toolsShowsSpec)) toolsShowsCard

/-- THE TIED CARD OF 'acheronlaw38.ToolsLines'. -/
def toolsLinesCard : Claim7 := { stood := { row := toolsLinesRow, standIns := [], harness := (true, "afcd5fdf170cfebacb4433d45eeda7ad48ce6cc348dc67adf686408daab76f06"), looks := true }, kinds := [], alts := [], laidByText := true, laidKinds := [.data, .data, .data, .data, .pinned], laidTests := true, laidLooks := .later }
def ToolsLinesCardSaid : Prop := Claim7.holds Tryz.pinned (.plain (OpenSpec.ofChange toolsLinesSpec)) toolsLinesCard

/-- THE TIED CARD OF 'acheronlaw38.ToolsArchives'. -/
def toolsArchivesCard : Claim7 := { stood := { row := toolsArchivesRow, standIns := [], harness := (true, "afcd5fdf170cfebacb4433d45eeda7ad48ce6cc348dc67adf686408daab76f06"), looks := true }, kinds := [], alts := [], laidByText := true, laidKinds := [.data, .data, .data, .data, .sentinel, .sentinel, .pinned], laidTests := true, laidLooks := .later }
def ToolsArchivesCardSaid : Prop := Claim7.holds Tryz.pinned (.plain (OpenSpec.ofChange toolsArchivesSpec)) toolsArchivesCard

/-- THE TIED CARD OF 'acheronlaw38.ToolsOrders'. -/
def toolsOrdersCard : Claim7 := { stood := { row := toolsOrdersRow, standIns := [], harness := (true, "afcd5fdf170cfebacb4433d45eeda7ad48ce6cc348dc67adf686408daab76f06"), looks := true }, kinds := [], alts := [], laidByText := true, laidKinds := [.data, .data, .data, .data, .pinned], laidTests := true, laidLooks := .later }
def ToolsOrdersCardSaid : Prop := Claim7.holds Tryz.pinned (.plain (OpenSpec.ofChange toolsOrdersSpec)) toolsOrdersCard

/-- THE SECOND FORM's CARD OF 'acheronlaw38.ToolsShows'. -/
def toolsShowsUptoCard : Claim7 := { stood := { row := toolsShowsUptoRow, standIns := [], harness := (true, "afcd5fdf170cfebacb4433d45eeda7ad48ce6cc348dc67adf686408daab76f06"), looks := true }, kinds := [], alts := [], laidByText := true, laidKinds := [.data, .data, .data, .data, .sentinel, .sentinel, .pinned], laidTests := true, laidLooks := .later }
def ToolsShowsUptoCardSaid : Prop := Claim7.holds Tryz.pinned (.plain (OpenSpec.upto toolsShowsSpec)) toolsShowsUptoCard

/-- THE SECOND FORM's CARD OF 'acheronlaw38.ToolsLines'. -/
def toolsLinesUptoCard : Claim7 := { stood := { row := toolsLinesUptoRow, standIns := [], harness := (true, "afcd5fdf170cfebacb4433d45eeda7ad48ce6cc348dc67adf686408daab76f06"), looks := true }, kinds := [], alts := [], laidByText := true, laidKinds := [.data, .data, .data, .data, .pinned], laidTests := true, laidLooks := .later }
def ToolsLinesUptoCardSaid : Prop := Claim7.holds Tryz.pinned (.plain (OpenSpec.upto toolsLinesSpec)) toolsLinesUptoCard

/-- THE SECOND FORM's CARD OF 'acheronlaw38.ToolsArchives'. -/
def toolsArchivesUptoCard : Claim7 := { stood := { row := toolsArchivesUptoRow, standIns := [], harness := (true, "afcd5fdf170cfebacb4433d45eeda7ad48ce6cc348dc67adf686408daab76f06"), looks := true }, kinds := [], alts := [], laidByText := true, laidKinds := [.data, .data, .data, .data, .sentinel, .sentinel, .pinned], laidTests := true, laidLooks := .later }
def ToolsArchivesUptoCardSaid : Prop := Claim7.holds Tryz.pinned (.plain (OpenSpec.upto toolsArchivesSpec)) toolsArchivesUptoCard

/-- THE SECOND FORM's CARD OF 'acheronlaw38.ToolsOrders'. -/
def toolsOrdersUptoCard : Claim7 := { stood := { row := toolsOrdersUptoRow, standIns := [], harness := (true, "afcd5fdf170cfebacb4433d45eeda7ad48ce6cc348dc67adf686408daab76f06"), looks := true }, kinds := [], alts := [], laidByText := true, laidKinds := [.data, .data, .data, .data, .pinned], laidTests := true, laidLooks := .later }
def ToolsOrdersUptoCardSaid : Prop := Claim7.holds Tryz.pinned (.plain (OpenSpec.upto toolsOrdersSpec)) toolsOrdersUptoCard
end Rows
end Go.Proofs.YtincpomenogppaaGreatDoor
