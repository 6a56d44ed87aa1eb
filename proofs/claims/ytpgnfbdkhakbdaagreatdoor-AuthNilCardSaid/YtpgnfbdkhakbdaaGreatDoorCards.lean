/-
  DERIVED. GIVEN WITH THE SEED: THE CARDS: each row of YtpgnfbdkhakbdaaGreatDoorRows.lean that lists a variable, with what it lists TIED to the program's text (the seventh form; the later family's looks); each row that meets fmt, with fmt's text TOLD by the authors' own Lean function (tested against real Go, not proved from fmt's source: count such statements apart). THE CARD IS WHAT COUNTS. Prove the row's statement (the work); the ties are given (YtpgnfbdkhakbdaaGreatDoorTie.lean); close each card by the builder's one call (the guide's Derived/Test/ToyasCard.lean, 'card_holds'). Laid BY PROGRAM, IN A SANDBOX (cutbox-door.mjs). By AI agents, Wed Nov 11 2026. No macro, syntax, notation, axiom, sorry.
-/
import Derived.Test.YtpgnfbdkhakbdaaGreatDoorRows
import GoSem.ClaimSeven
namespace Go.Proofs.YtpgnfbdkhakbdaaGreatDoor
namespace Rows

/-- THE TIED CARD OF 'acheronlaw34.AuthNil'. -/
def authNilCard : Claim7 := { stood := { row := authNilRow, standIns := [], harness := (true, "12ab9c898805067c5cbe7115ce014dec1d5498688cafd93196d8d17b09195102"), looks := true }, kinds := [], alts := [], laidByText := true, laidKinds := [.data, .data, .data, .data, .sentinel, .sentinel, .data, .data, .pinned], laidTests := true, laidLooks := .later }
def AuthNilCardSaid : Prop := Claim7.holds Tryz.pinned (.plain (OpenSpec.ofChange authNilSpec)) authNilCard

/-- THE TIED CARD OF 'acheronlaw34.AuthSteps'. -/
def authStepsCard : Claim7 := { stood := { row := authStepsRow, standIns := [], harness := (true, "12ab9c898805067c5cbe7115ce014dec1d5498688cafd93196d8d17b09195102"), looks := true }, kinds := [], alts := [], laidByText := true, laidKinds := [.data, .data, .data, .data, .sentinel, .sentinel, .data, .data, .pinned], laidTests := true, laidLooks := .later }
def AuthStepsCardSaid : Prop := Claim7.holds Tryz.pinned (.plain (OpenSpec.ofChange authStepsSpec)) authStepsCard

/-- THE TIED CARD OF 'acheronlaw34.AuthAgrees'. -/
def authAgreesCard : Claim7 := { stood := { row := authAgreesRow, standIns := [], harness := (true, "12ab9c898805067c5cbe7115ce014dec1d5498688cafd93196d8d17b09195102"), looks := true }, kinds := [], alts := [], laidByText := true, laidKinds := [.data, .data, .data, .data, .sentinel, .sentinel, .data, .data, .pinned], laidTests := true, laidLooks := .later }
def AuthAgreesCardSaid : Prop := Claim7.holds Tryz.pinned (.plain (OpenSpec.ofChange authAgreesSpec)) authAgreesCard

/-- THE SECOND FORM's CARD OF 'acheronlaw34.AuthNil'. -/
def authNilUptoCard : Claim7 := { stood := { row := authNilUptoRow, standIns := [], harness := (true, "12ab9c898805067c5cbe7115ce014dec1d5498688cafd93196d8d17b09195102"), looks := true }, kinds := [], alts := [], laidByText := true, laidKinds := [.data, .data, .data, .data, .sentinel, .sentinel, .data, .data, .pinned], laidTests := true, laidLooks := .later }
def AuthNilUptoCardSaid : Prop := Claim7.holds Tryz.pinned (.plain (OpenSpec.upto authNilSpec)) authNilUptoCard

/-- THE SECOND FORM's CARD OF 'acheronlaw34.AuthSteps'. -/
def authStepsUptoCard : Claim7 := { stood := { row := authStepsUptoRow, standIns := [], harness := (true, "12ab9c898805067c5cbe7115ce014dec1d5498688cafd93196d8d17b09195102"), looks := true }, kinds := [], alts := [], laidByText := true, laidKinds := [.data, .data, .data, .data, .sentinel, .sentinel, .data, .data, .pinned], laidTests := true, laidLooks := .later }
def AuthStepsUptoCardSaid : Prop := Claim7.holds Tryz.pinned (.plain (OpenSpec.upto authStepsSpec)) authStepsUptoCard

/-- THE SECOND FORM's CARD OF 'acheronlaw34.AuthAgrees'. -/
def authAgreesUptoCard : Claim7 := { stood := { row := authAgreesUptoRow, standIns := [], harness := (true, "12ab9c898805067c5cbe7115ce014dec1d5498688cafd93196d8d17b09195102"), looks := true }, kinds := [], alts := [], laidByText := true, laidKinds := [.data, .data, .data, .data, .sentinel, .sentinel, .data, .data, .pinned], laidTests := true, laidLooks := .later }
def AuthAgreesUptoCardSaid : Prop := Claim7.holds Tryz.pinned (.plain (OpenSpec.upto authAgreesSpec)) authAgreesUptoCard
end Rows
end Go.Proofs.YtpgnfbdkhakbdaaGreatDoor
