/-
  DERIVED. GIVEN WITH THE SEED: THE CARDS: each row of YtincpomenogppaaDoorRows.lean that lists a variable, with what it lists TIED to the program's text (the seventh form; the later family's looks); each row that meets fmt, with fmt's text TOLD by the authors' own Lean function (tested against real Go, not proved from fmt's source: count such statements apart). THE CARD IS WHAT COUNTS. Prove the row's statement (the work); the ties are given (YtincpomenogppaaDoorTie.lean); close each card by the builder's one call (the guide's Derived/Test/ToyasCard.lean, 'card_holds'). Laid BY PROGRAM, IN A SANDBOX (cutbox-door.mjs). By AI agents, Wed Nov 11 2026. No macro, syntax, notation, axiom, sorry.
-/
import Derived.Test.YtincpomenogppaaDoorRows
import GoSem.ClaimSeven
namespace Go.Proofs.YtincpomenogppaaDoor
namespace Rows

/-- THE TIED CARD OF 'acheronlaw38.ToolsDiff'. -/
def toolsDiffCard : Claim7 := { stood := { row := toolsDiffRow, standIns := [], harness := (true, "73a606ec1e3cef9ec2b95cb16fc388f7d82be5c7b6a6a594297d618e09737142"), looks := false }, kinds := [], alts := [], laidByText := true, laidKinds := [.data, .data, .data, .data, .pinned], laidTests := true, laidLooks := .later }
def ToolsDiffCardSaid : Prop := Claim7.holds Tryd.pinned (.plain (OpenSpec.ofChange toolsDiffSpec)) toolsDiffCard

/-- THE TIED CARD OF 'acheronlaw38.ToolsPatches'. -/
def toolsPatchesCard : Claim7 := { stood := { row := toolsPatchesRow, standIns := [], harness := (true, "73a606ec1e3cef9ec2b95cb16fc388f7d82be5c7b6a6a594297d618e09737142"), looks := false }, kinds := [], alts := [], laidByText := true, laidKinds := [.data, .data, .data, .data, .pinned], laidTests := true, laidLooks := .later }
def ToolsPatchesCardSaid : Prop := Claim7.holds Tryd.pinned (.plain (OpenSpec.ofChange toolsPatchesSpec)) toolsPatchesCard

/-- THE TIED CARD OF 'acheronlaw38.ToolsApplies'. -/
def toolsAppliesCard : Claim7 := { stood := { row := toolsAppliesRow, standIns := [], harness := (true, "73a606ec1e3cef9ec2b95cb16fc388f7d82be5c7b6a6a594297d618e09737142"), looks := false }, kinds := [], alts := [], laidByText := true, laidKinds := [.data, .data, .data, .data, .pinned], laidTests := true, laidLooks := .later }
def ToolsAppliesCardSaid : Prop := Claim7.holds Tryd.pinned (.plain (OpenSpec.ofChange toolsAppliesSpec)) toolsAppliesCard

/-- THE TIED CARD OF 'acheronlaw38.ToolsLimits'. -/
def toolsLimitsCard : Claim7 := { stood := { row := toolsLimitsRow, standIns := [], harness := (true, "73a606ec1e3cef9ec2b95cb16fc388f7d82be5c7b6a6a594297d618e09737142"), looks := false }, kinds := [], alts := [], laidByText := true, laidKinds := [.data, .data, .data, .data, .pinned], laidTests := true, laidLooks := .later }
def ToolsLimitsCardSaid : Prop := Claim7.holds Tryd.pinned (.plain (OpenSpec.ofChange toolsLimitsSpec)) toolsLimitsCard

/-- THE SECOND FORM's CARD OF 'acheronlaw38.ToolsDiff'. -/
def toolsDiffUptoCard : Claim7 := { stood := { row := toolsDiffUptoRow, standIns := [], harness := (true, "73a606ec1e3cef9ec2b95cb16fc388f7d82be5c7b6a6a594297d618e09737142"), looks := false }, kinds := [], alts := [], laidByText := true, laidKinds := [.data, .data, .data, .data, .pinned], laidTests := true, laidLooks := .later }
def ToolsDiffUptoCardSaid : Prop := Claim7.holds Tryd.pinned (.plain (OpenSpec.upto toolsDiffSpec)) toolsDiffUptoCard

/-- THE SECOND FORM's CARD OF 'acheronlaw38.ToolsPatches'. -/
def toolsPatchesUptoCard : Claim7 := { stood := { row := toolsPatchesUptoRow, standIns := [], harness := (true, "73a606ec1e3cef9ec2b95cb16fc388f7d82be5c7b6a6a594297d618e09737142"), looks := false }, kinds := [], alts := [], laidByText := true, laidKinds := [.data, .data, .data, .data, .pinned], laidTests := true, laidLooks := .later }
def ToolsPatchesUptoCardSaid : Prop := Claim7.holds Tryd.pinned (.plain (OpenSpec.upto toolsPatchesSpec)) toolsPatchesUptoCard

/-- THE SECOND FORM's CARD OF 'acheronlaw38.ToolsApplies'. -/
def toolsAppliesUptoCard : Claim7 := { stood := { row := toolsAppliesUptoRow, standIns := [], harness := (true, "73a606ec1e3cef9ec2b95cb16fc388f7d82be5c7b6a6a594297d618e09737142"), looks := false }, kinds := [], alts := [], laidByText := true, laidKinds := [.data, .data, .data, .data, .pinned], laidTests := true, laidLooks := .later }
def ToolsAppliesUptoCardSaid : Prop := Claim7.holds Tryd.pinned (.plain (OpenSpec.upto toolsAppliesSpec)) toolsAppliesUptoCard

/-- THE SECOND FORM's CARD OF 'acheronlaw38.ToolsLimits'. -/
def toolsLimitsUptoCard : Claim7 := { stood := { row := toolsLimitsUptoRow, standIns := [], harness := (true, "73a606ec1e3cef9ec2b95cb16fc388f7d82be5c7b6a6a594297d618e09737142"), looks := false }, kinds := [], alts := [], laidByText := true, laidKinds := [.data, .data, .data, .data, .pinned], laidTests := true, laidLooks := .later }
def ToolsLimitsUptoCardSaid : Prop := Claim7.holds Tryd.pinned (.plain (OpenSpec.upto toolsLimitsSpec)) toolsLimitsUptoCard
end Rows
end Go.Proofs.YtincpomenogppaaDoor
