/-
  No cell of these rows narrows 'for every input' (looked for: loops, veiled, ifaces, maps, wideKeys, modest, calm, conditions, laid).
  DERIVED. THE GIVEN ROWS OF THIS SEAT. 5 by the template 'for every input the law returns true; each argument reads behind the call as it read before'; 0 by the template 'total and deterministic' (their statements: YthlibdhjcjangaaTotals.lean).
  GIVEN WITH THE SEED: the statements are not yours to turn. If you find one false, say at which input.
  Laid BY PROGRAM, IN A SANDBOX (cutbox-rows.mjs): the forced cells as the released guide's own fill.sh prints them over the translation 7bfa3e04077f17b0… (all of the seat's roots in one cut). By AI agents, Wed Nov 11 2026. No macro, syntax, notation, axiom, sorry.
-/
import Derived.Test.YthlibdhjcjangaaChecked
import GoSem.Claim
import GoSem.ClaimJoined
import GoSem.ClaimMapViews
import Derived.JoinedTies
import Derived.KernelRfl
namespace Go.Proofs.Ythlibdhjcjangaa
/- THE CELL 'sum', in the pinned program and in every row, IS THE sha256 OF THE DUMP (.gsa) THAT YthlibdhjcjangaaProg.lean LOADS. Nothing in Lean hashes anything: it is a label: what it is worth is what the hold of that sum in a sandbox is worth. -/
noncomputable def Try.pinned : Pinned := { name := "ythlibdhjcjangaa", sum := "7bfa3e04077f17b01e5a53d320607cba53b6e6d00a2b47233e7b8ff0f53316c8", checked := Try.checked }
namespace Rows
def none {H : Type} : Left H := { results := [], args := [] }

/-- 'acheronlaw01.TextDecodes': WHATEVER THE INPUT: true; the input reads as it did. -/
def textDecodesSpec : ChangeSpec := { name := "textDecodes", fn := fun _ => fun
  | [d] => { results := [.lit (.bool true)], args := [d] }
  | _ => none }
def textDecodesRow : OpenClaim := { program := "ythlibdhjcjangaa", sum := "7bfa3e04077f17b01e5a53d320607cba53b6e6d00a2b47233e7b8ff0f53316c8", func := "acheron/acheronlaw01.TextDecodes", spec := "textDecodes", inPlace := ["internal/abi.NoEscape", "internal/bytealg.CountString", "internal/bytealg.IndexByteString", "internal/bytealg.IndexString"], named := ["internal/bytealg.MaxLen"], apart := false }
def TextDecodesSaid : Prop := textDecodesRow.holds Try.pinned (OpenSpec.ofChange textDecodesSpec)

/-- ITS FALSE NEIGHBOUR: 'it returns false'. Refute it at one input. -/
def textDecodesWrong : ChangeSpec := { name := "textDecodes", fn := fun _ => fun
  | [d] => { results := [.lit (.bool false)], args := [d] }
  | _ => none }
def TextDecodesWrongFalsely : Prop := textDecodesRow.holds Try.pinned (OpenSpec.ofChange textDecodesWrong)

/-- 'acheronlaw01.TextPlaces': WHATEVER THE INPUT: true; the input reads as it did. -/
def textPlacesSpec : ChangeSpec := { name := "textPlaces", fn := fun _ => fun
  | [d1, d2] => { results := [.lit (.bool true)], args := [d1, d2] }
  | _ => none }
def textPlacesRow : OpenClaim := { program := "ythlibdhjcjangaa", sum := "7bfa3e04077f17b01e5a53d320607cba53b6e6d00a2b47233e7b8ff0f53316c8", func := "acheron/acheronlaw01.TextPlaces", spec := "textPlaces", inPlace := ["internal/abi.NoEscape", "internal/bytealg.CountString", "internal/bytealg.IndexByteString", "internal/bytealg.IndexString"], named := ["internal/bytealg.MaxLen"], apart := false }
def TextPlacesSaid : Prop := textPlacesRow.holds Try.pinned (OpenSpec.ofChange textPlacesSpec)

/-- ITS FALSE NEIGHBOUR: 'it returns false'. Refute it at one input. -/
def textPlacesWrong : ChangeSpec := { name := "textPlaces", fn := fun _ => fun
  | [d1, d2] => { results := [.lit (.bool false)], args := [d1, d2] }
  | _ => none }
def TextPlacesWrongFalsely : Prop := textPlacesRow.holds Try.pinned (OpenSpec.ofChange textPlacesWrong)

/-- 'acheronlaw01.TextBack': WHATEVER THE INPUT: true; the input reads as it did. -/
def textBackSpec : ChangeSpec := { name := "textBack", fn := fun _ => fun
  | [d1, d2] => { results := [.lit (.bool true)], args := [d1, d2] }
  | _ => none }
def textBackRow : OpenClaim := { program := "ythlibdhjcjangaa", sum := "7bfa3e04077f17b01e5a53d320607cba53b6e6d00a2b47233e7b8ff0f53316c8", func := "acheron/acheronlaw01.TextBack", spec := "textBack", inPlace := ["internal/abi.NoEscape", "internal/bytealg.CountString", "internal/bytealg.IndexByteString", "internal/bytealg.IndexString", "internal/bytealg.abigen_runtime_cmpstring"], named := ["internal/bytealg.MaxLen"], apart := false }
def TextBackSaid : Prop := textBackRow.holds Try.pinned (OpenSpec.ofChange textBackSpec)

/-- ITS FALSE NEIGHBOUR: 'it returns false'. Refute it at one input. -/
def textBackWrong : ChangeSpec := { name := "textBack", fn := fun _ => fun
  | [d1, d2] => { results := [.lit (.bool false)], args := [d1, d2] }
  | _ => none }
def TextBackWrongFalsely : Prop := textBackRow.holds Try.pinned (OpenSpec.ofChange textBackWrong)

/-- 'acheronlaw01.TextParts': WHATEVER THE INPUT: true; the input reads as it did. -/
def textPartsSpec : ChangeSpec := { name := "textParts", fn := fun _ => fun
  | [d1, d2, d3] => { results := [.lit (.bool true)], args := [d1, d2, d3] }
  | _ => none }
def textPartsRow : OpenClaim := { program := "ythlibdhjcjangaa", sum := "7bfa3e04077f17b01e5a53d320607cba53b6e6d00a2b47233e7b8ff0f53316c8", func := "acheron/acheronlaw01.TextParts", spec := "textParts", inPlace := ["internal/abi.NoEscape", "internal/bytealg.CountString", "internal/bytealg.IndexByteString", "internal/bytealg.IndexString"], named := ["internal/bytealg.MaxLen"], apart := false }
def TextPartsSaid : Prop := textPartsRow.holds Try.pinned (OpenSpec.ofChange textPartsSpec)

/-- ITS FALSE NEIGHBOUR: 'it returns false'. Refute it at one input. -/
def textPartsWrong : ChangeSpec := { name := "textParts", fn := fun _ => fun
  | [d1, d2, d3] => { results := [.lit (.bool false)], args := [d1, d2, d3] }
  | _ => none }
def TextPartsWrongFalsely : Prop := textPartsRow.holds Try.pinned (OpenSpec.ofChange textPartsWrong)

/-- 'acheronlaw01.TextOrder': WHATEVER THE INPUT: true; the input reads as it did. -/
def textOrderSpec : ChangeSpec := { name := "textOrder", fn := fun _ => fun
  | [d1, d2, d3] => { results := [.lit (.bool true)], args := [d1, d2, d3] }
  | _ => none }
def textOrderRow : OpenClaim := { program := "ythlibdhjcjangaa", sum := "7bfa3e04077f17b01e5a53d320607cba53b6e6d00a2b47233e7b8ff0f53316c8", func := "acheron/acheronlaw01.TextOrder", spec := "textOrder", inPlace := ["internal/abi.NoEscape", "internal/bytealg.CountString", "internal/bytealg.IndexByteString", "internal/bytealg.IndexString", "internal/bytealg.abigen_runtime_cmpstring"], named := ["internal/bytealg.MaxLen"], apart := false }
def TextOrderSaid : Prop := textOrderRow.holds Try.pinned (OpenSpec.ofChange textOrderSpec)

/-- ITS FALSE NEIGHBOUR: 'it returns false'. Refute it at one input. -/
def textOrderWrong : ChangeSpec := { name := "textOrder", fn := fun _ => fun
  | [d1, d2, d3] => { results := [.lit (.bool false)], args := [d1, d2, d3] }
  | _ => none }
def TextOrderWrongFalsely : Prop := textOrderRow.holds Try.pinned (OpenSpec.ofChange textOrderWrong)

/- THE SECOND FORM. 'bulk': how many values and letters a reading holds, each counted each time it is reached (what is shared counts as often as it is met; a slice's spare places count too). A statement '..UptoSaid' is the law's where the arguments, and the package variables that the reading takes, are together of bulk at most 1048576: NARROWER than '..Said'. Prove '..Said' where nothing that the law and all that it calls make is longer than what came in: it says more and counts as full. Else prove '..UptoSaid'. A law counts once. -/
mutual
def uptoBulk {H : Type} : DataW H → Nat
  | .lit (.string bytes) => bytes.length + 1
  | .lit _ => 1
  | .nil => 1
  | .ptr d => uptoBulk d + 1
  | .slice elems spare => uptoBulkAll elems + uptoBulkAll spare + 1
  | .agg parts => uptoBulkAll parts + 1
  | .iface _ d => uptoBulk d + 1
  | .map entries => uptoBulkEntries entries + 1
  | .held _ => 1
def uptoBulkAll {H : Type} : List (DataW H) → Nat
  | [] => 0
  | d :: r => uptoBulk d + uptoBulkAll r
def uptoBulkEntries {H : Type} : List (Lit × DataW H) → Nat
  | [] => 0
  | x :: r => uptoBulkEntry x + uptoBulkEntries r
def uptoBulkEntry {H : Type} : Lit × DataW H → Nat
  | (.string bytes, d) => bytes.length + uptoBulk d + 1
  | (_, d) => uptoBulk d + 1
 end
def uptoSmall : (H : Type) → List (DataW H) → Bool := fun _ ds => decide (uptoBulkAll ds ≤ 1048576)
def OpenSpec.upto (s : _root_.Go.ChangeSpec) : _root_.Go.OpenSpec := { _root_.Go.OpenSpec.ofChange s with cond := some uptoSmall }

/-- 'acheronlaw01.TextDecodes', WHERE WHAT IT READS IS OF BULK AT MOST 1048576: true; the input reads as it did. -/
def textDecodesUptoRow : OpenClaim := { program := "ythlibdhjcjangaa", sum := "7bfa3e04077f17b01e5a53d320607cba53b6e6d00a2b47233e7b8ff0f53316c8", func := "acheron/acheronlaw01.TextDecodes", spec := "textDecodes", inPlace := ["internal/abi.NoEscape", "internal/bytealg.CountString", "internal/bytealg.IndexByteString", "internal/bytealg.IndexString"], named := ["internal/bytealg.MaxLen"], apart := false, narrowed := true }
def TextDecodesUptoSaid : Prop := textDecodesUptoRow.holds Try.pinned (OpenSpec.upto textDecodesSpec)

/-- 'acheronlaw01.TextPlaces', WHERE WHAT IT READS IS OF BULK AT MOST 1048576: true; the input reads as it did. -/
def textPlacesUptoRow : OpenClaim := { program := "ythlibdhjcjangaa", sum := "7bfa3e04077f17b01e5a53d320607cba53b6e6d00a2b47233e7b8ff0f53316c8", func := "acheron/acheronlaw01.TextPlaces", spec := "textPlaces", inPlace := ["internal/abi.NoEscape", "internal/bytealg.CountString", "internal/bytealg.IndexByteString", "internal/bytealg.IndexString"], named := ["internal/bytealg.MaxLen"], apart := false, narrowed := true }
def TextPlacesUptoSaid : Prop := textPlacesUptoRow.holds Try.pinned (OpenSpec.upto textPlacesSpec)

/-- 'acheronlaw01.TextBack', WHERE WHAT IT READS IS OF BULK AT MOST 1048576: true; the input reads as it did. -/
def textBackUptoRow : OpenClaim := { program := "ythlibdhjcjangaa", sum := "7bfa3e04077f17b01e5a53d320607cba53b6e6d00a2b47233e7b8ff0f53316c8", func := "acheron/acheronlaw01.TextBack", spec := "textBack", inPlace := ["internal/abi.NoEscape", "internal/bytealg.CountString", "internal/bytealg.IndexByteString", "internal/bytealg.IndexString", "internal/bytealg.abigen_runtime_cmpstring"], named := ["internal/bytealg.MaxLen"], apart := false, narrowed := true }
def TextBackUptoSaid : Prop := textBackUptoRow.holds Try.pinned (OpenSpec.upto textBackSpec)

/-- 'acheronlaw01.TextParts', WHERE WHAT IT READS IS OF BULK AT MOST 1048576: true; the input reads as it did. -/
def textPartsUptoRow : OpenClaim := { program := "ythlibdhjcjangaa", sum := "7bfa3e04077f17b01e5a53d320607cba53b6e6d00a2b47233e7b8ff0f53316c8", func := "acheron/acheronlaw01.TextParts", spec := "textParts", inPlace := ["internal/abi.NoEscape", "internal/bytealg.CountString", "internal/bytealg.IndexByteString", "internal/bytealg.IndexString"], named := ["internal/bytealg.MaxLen"], apart := false, narrowed := true }
def TextPartsUptoSaid : Prop := textPartsUptoRow.holds Try.pinned (OpenSpec.upto textPartsSpec)

/-- 'acheronlaw01.TextOrder', WHERE WHAT IT READS IS OF BULK AT MOST 1048576: true; the input reads as it did. -/
def textOrderUptoRow : OpenClaim := { program := "ythlibdhjcjangaa", sum := "7bfa3e04077f17b01e5a53d320607cba53b6e6d00a2b47233e7b8ff0f53316c8", func := "acheron/acheronlaw01.TextOrder", spec := "textOrder", inPlace := ["internal/abi.NoEscape", "internal/bytealg.CountString", "internal/bytealg.IndexByteString", "internal/bytealg.IndexString", "internal/bytealg.abigen_runtime_cmpstring"], named := ["internal/bytealg.MaxLen"], apart := false, narrowed := true }
def TextOrderUptoSaid : Prop := textOrderUptoRow.holds Try.pinned (OpenSpec.upto textOrderSpec)

end Rows
end Go.Proofs.Ythlibdhjcjangaa
