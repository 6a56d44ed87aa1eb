/-
  DERIVED. GIVEN WITH THE SEED: THE CARDS: each row of YthdmdeiaonkeoaaDoorRows.lean that lists a variable, with what it lists TIED to the program's text (the seventh form; the later family's looks); each row that meets fmt, with fmt's text TOLD by the authors' own Lean function (tested against real Go, not proved from fmt's source: count such statements apart). THE CARD IS WHAT COUNTS. Prove the row's statement (the work); the ties are given (YthdmdeiaonkeoaaDoorTie.lean); close each card by the builder's one call (the guide's Derived/Test/ToyasCard.lean, 'card_holds'). Laid BY PROGRAM, IN A SANDBOX (cutbox-door.mjs). By AI agents, Wed Nov 11 2026. No macro, syntax, notation, axiom, sorry.
-/
import Derived.Test.YthdmdeiaonkeoaaDoorRows
import GoSem.ClaimSeven
namespace Go.Proofs.YthdmdeiaonkeoaaDoor
namespace Rows

/-- THE TIED CARD OF 'acheronlaw25.CpuWords'. -/
def cpuWordsCard : Claim7 := { stood := { row := cpuWordsRow, standIns := [], harness := (true, "f3f61675c5924d2f45c6272e8e5108fc410f58adf0d34e731b59dbb16b93d7a1"), looks := true }, kinds := [], alts := [], laidByText := true, laidKinds := [.data, .data, .data, .widerDeep, .data], laidTests := true, laidLooks := .later }
def CpuWordsCardSaid : Prop := Claim7.holds Tryd.pinned (.plain (OpenSpec.ofChange cpuWordsSpec)) cpuWordsCard

/-- THE TIED CARD OF 'acheronlaw25.CpuDecodes'. -/
def cpuDecodesCard : Claim7 := { stood := { row := cpuDecodesRow, standIns := [], harness := (true, "f3f61675c5924d2f45c6272e8e5108fc410f58adf0d34e731b59dbb16b93d7a1"), looks := true }, kinds := [], alts := [], laidByText := true, laidKinds := [.data, .data, .data, .widerDeep, .data], laidTests := true, laidLooks := .later }
def CpuDecodesCardSaid : Prop := Claim7.holds Tryd.pinned (.plain (OpenSpec.ofChange cpuDecodesSpec)) cpuDecodesCard

/-- THE TIED CARD OF 'acheronlaw25.CpuRuns'. -/
def cpuRunsCard : Claim7 := { stood := { row := cpuRunsRow, standIns := [], harness := (true, "f3f61675c5924d2f45c6272e8e5108fc410f58adf0d34e731b59dbb16b93d7a1"), looks := true }, kinds := [], alts := [], laidByText := true, laidKinds := [.data, .data, .data, .widerDeep, .data], laidTests := true, laidLooks := .later }
def CpuRunsCardSaid : Prop := Claim7.holds Tryd.pinned (.plain (OpenSpec.ofChange cpuRunsSpec)) cpuRunsCard

/-- THE TIED CARD OF 'acheronlaw25.CpuDivides'. -/
def cpuDividesCard : Claim7 := { stood := { row := cpuDividesRow, standIns := [], harness := (true, "f3f61675c5924d2f45c6272e8e5108fc410f58adf0d34e731b59dbb16b93d7a1"), looks := true }, kinds := [], alts := [], laidByText := true, laidKinds := [.data, .data, .data, .widerDeep, .data], laidTests := true, laidLooks := .later }
def CpuDividesCardSaid : Prop := Claim7.holds Tryd.pinned (.plain (OpenSpec.ofChange cpuDividesSpec)) cpuDividesCard

/-- THE TIED CARD OF 'acheronlaw25.CpuStores'. -/
def cpuStoresCard : Claim7 := { stood := { row := cpuStoresRow, standIns := [], harness := (true, "f3f61675c5924d2f45c6272e8e5108fc410f58adf0d34e731b59dbb16b93d7a1"), looks := true }, kinds := [], alts := [], laidByText := true, laidKinds := [.data, .data, .data, .widerDeep, .data], laidTests := true, laidLooks := .later }
def CpuStoresCardSaid : Prop := Claim7.holds Tryd.pinned (.plain (OpenSpec.ofChange cpuStoresSpec)) cpuStoresCard

/-- THE TIED CARD OF 'acheronlaw25.CpuTexts'. -/
def cpuTextsCard : Claim7 := { stood := { row := cpuTextsRow, standIns := [], harness := (true, "f3f61675c5924d2f45c6272e8e5108fc410f58adf0d34e731b59dbb16b93d7a1"), looks := true }, kinds := [], alts := [], laidByText := true, laidKinds := [.data, .data, .data, .data, .sentinel, .sentinel, .widerDeep, .data, .pinned], laidTests := true, laidLooks := .later }
def CpuTextsCardSaid : Prop := Claim7.holds Tryd.pinned (.plain (OpenSpec.ofChange cpuTextsSpec)) cpuTextsCard

/-- THE SECOND FORM's CARD OF 'acheronlaw25.CpuWords'. -/
def cpuWordsUptoCard : Claim7 := { stood := { row := cpuWordsUptoRow, standIns := [], harness := (true, "f3f61675c5924d2f45c6272e8e5108fc410f58adf0d34e731b59dbb16b93d7a1"), looks := true }, kinds := [], alts := [], laidByText := true, laidKinds := [.data, .data, .data, .widerDeep, .data], laidTests := true, laidLooks := .later }
def CpuWordsUptoCardSaid : Prop := Claim7.holds Tryd.pinned (.plain (OpenSpec.upto cpuWordsSpec)) cpuWordsUptoCard

/-- THE SECOND FORM's CARD OF 'acheronlaw25.CpuDecodes'. -/
def cpuDecodesUptoCard : Claim7 := { stood := { row := cpuDecodesUptoRow, standIns := [], harness := (true, "f3f61675c5924d2f45c6272e8e5108fc410f58adf0d34e731b59dbb16b93d7a1"), looks := true }, kinds := [], alts := [], laidByText := true, laidKinds := [.data, .data, .data, .widerDeep, .data], laidTests := true, laidLooks := .later }
def CpuDecodesUptoCardSaid : Prop := Claim7.holds Tryd.pinned (.plain (OpenSpec.upto cpuDecodesSpec)) cpuDecodesUptoCard

/-- THE SECOND FORM's CARD OF 'acheronlaw25.CpuRuns'. -/
def cpuRunsUptoCard : Claim7 := { stood := { row := cpuRunsUptoRow, standIns := [], harness := (true, "f3f61675c5924d2f45c6272e8e5108fc410f58adf0d34e731b59dbb16b93d7a1"), looks := true }, kinds := [], alts := [], laidByText := true, laidKinds := [.data, .data, .data, .widerDeep, .data], laidTests := true, laidLooks := .later }
def CpuRunsUptoCardSaid : Prop := Claim7.holds Tryd.pinned (.plain (OpenSpec.upto cpuRunsSpec)) cpuRunsUptoCard

/-- THE SECOND FORM's CARD OF 'acheronlaw25.CpuDivides'. -/
def cpuDividesUptoCard : Claim7 := { stood := { row := cpuDividesUptoRow, standIns := [], harness := (true, "f3f61675c5924d2f45c6272e8e5108fc410f58adf0d34e731b59dbb16b93d7a1"), looks := true }, kinds := [], alts := [], laidByText := true, laidKinds := [.data, .data, .data, .widerDeep, .data], laidTests := true, laidLooks := .later }
def CpuDividesUptoCardSaid : Prop := Claim7.holds Tryd.pinned (.plain (OpenSpec.upto cpuDividesSpec)) cpuDividesUptoCard

/-- THE SECOND FORM's CARD OF 'acheronlaw25.CpuStores'. -/
def cpuStoresUptoCard : Claim7 := { stood := { row := cpuStoresUptoRow, standIns := [], harness := (true, "f3f61675c5924d2f45c6272e8e5108fc410f58adf0d34e731b59dbb16b93d7a1"), looks := true }, kinds := [], alts := [], laidByText := true, laidKinds := [.data, .data, .data, .widerDeep, .data], laidTests := true, laidLooks := .later }
def CpuStoresUptoCardSaid : Prop := Claim7.holds Tryd.pinned (.plain (OpenSpec.upto cpuStoresSpec)) cpuStoresUptoCard

/-- THE SECOND FORM's CARD OF 'acheronlaw25.CpuTexts'. -/
def cpuTextsUptoCard : Claim7 := { stood := { row := cpuTextsUptoRow, standIns := [], harness := (true, "f3f61675c5924d2f45c6272e8e5108fc410f58adf0d34e731b59dbb16b93d7a1"), looks := true }, kinds := [], alts := [], laidByText := true, laidKinds := [.data, .data, .data, .data, .sentinel, .sentinel, .widerDeep, .data, .pinned], laidTests := true, laidLooks := .later }
def CpuTextsUptoCardSaid : Prop := Claim7.holds Tryd.pinned (.plain (OpenSpec.upto cpuTextsSpec)) cpuTextsUptoCard
end Rows
end Go.Proofs.YthdmdeiaonkeoaaDoor
