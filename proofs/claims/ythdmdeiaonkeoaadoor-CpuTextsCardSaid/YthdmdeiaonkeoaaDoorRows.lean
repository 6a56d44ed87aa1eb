/-
  NARROWER THAN 'FOR EVERY INPUT', by the rows' own cells (each row's printed sentence says how): CpuWords: laid · CpuDecodes: laid · CpuRuns: laid · CpuDivides: laid · CpuStores: laid · CpuTexts: laid.
  DERIVED. THE GIVEN ROWS OF THIS SEAT. 6 by the template 'for every input the law returns true; each argument reads behind the call as it read before'; 0 by the template 'total and deterministic' (their statements: YthdmdeiaonkeoaaDoorTotals.lean).
  GIVEN WITH THE SEED: the statements are not yours to turn. If you find one false, say at which input.
  Laid BY PROGRAM, IN A SANDBOX (cutbox-rows.mjs): the forced cells as the released guide's own fill.sh prints them over the translation c10648a2ea7df4ab… (all of the seat's roots in one cut). By AI agents, Wed Nov 11 2026. No macro, syntax, notation, axiom, sorry.
-/
import Derived.Test.YthdmdeiaonkeoaaDoorChecked
import GoSem.PinnedTables
import GoSem.Claim
import GoSem.ClaimJoined
import GoSem.ClaimMapViews
import Derived.JoinedTies
import Derived.KernelRfl
namespace Go.Proofs.YthdmdeiaonkeoaaDoor
/- THE CELL 'sum', in the pinned program and in every row, IS THE sha256 OF THE DUMP (.gsa) THAT YthdmdeiaonkeoaaDoorProg.lean LOADS. Nothing in Lean hashes anything: it is a label: what it is worth is what the hold of that sum in a sandbox is worth. -/
noncomputable def Tryd.pinned : Pinned := { name := "ythdmdeiaonkeoaadoor", sum := "c10648a2ea7df4ab9577f128b92f9986dbb83958fee8a3b05079a4180b208e87", checked := Tryd.checked }
namespace Rows
def none {H : Type} : Left H := { results := [], args := [] }

/- WHAT THE LISTED PACKAGE-LEVEL VARIABLES READ AS WHEN THE CALL BEGINS. Each datum BY PROGRAM (the guide's laid-datum.mjs) off the statement by which the dump's own 'gosem.cut.vars' lays the variable. In a bare row this is a premise. The card (YthdmdeiaonkeoaaDoorCards.lean) ties it to the program's text. -/
def laid_math_bits_deBruijn32tab {H : Type} : DataW H := .agg [.lit (.int .u8 0), .lit (.int .u8 1), .lit (.int .u8 28), .lit (.int .u8 2), .lit (.int .u8 29), .lit (.int .u8 14), .lit (.int .u8 24), .lit (.int .u8 3), .lit (.int .u8 30), .lit (.int .u8 22), .lit (.int .u8 20), .lit (.int .u8 15), .lit (.int .u8 25), .lit (.int .u8 17), .lit (.int .u8 4), .lit (.int .u8 8), .lit (.int .u8 31), .lit (.int .u8 27), .lit (.int .u8 13), .lit (.int .u8 23), .lit (.int .u8 21), .lit (.int .u8 19), .lit (.int .u8 16), .lit (.int .u8 7), .lit (.int .u8 26), .lit (.int .u8 12), .lit (.int .u8 18), .lit (.int .u8 6), .lit (.int .u8 11), .lit (.int .u8 5), .lit (.int .u8 10), .lit (.int .u8 9)]
def laid_math_bits_deBruijn64tab {H : Type} : DataW H := .agg [.lit (.int .u8 0), .lit (.int .u8 1), .lit (.int .u8 56), .lit (.int .u8 2), .lit (.int .u8 57), .lit (.int .u8 49), .lit (.int .u8 28), .lit (.int .u8 3), .lit (.int .u8 61), .lit (.int .u8 58), .lit (.int .u8 42), .lit (.int .u8 50), .lit (.int .u8 38), .lit (.int .u8 29), .lit (.int .u8 17), .lit (.int .u8 4), .lit (.int .u8 62), .lit (.int .u8 47), .lit (.int .u8 59), .lit (.int .u8 36), .lit (.int .u8 45), .lit (.int .u8 43), .lit (.int .u8 51), .lit (.int .u8 22), .lit (.int .u8 53), .lit (.int .u8 39), .lit (.int .u8 33), .lit (.int .u8 30), .lit (.int .u8 24), .lit (.int .u8 18), .lit (.int .u8 12), .lit (.int .u8 5), .lit (.int .u8 63), .lit (.int .u8 55), .lit (.int .u8 48), .lit (.int .u8 27), .lit (.int .u8 60), .lit (.int .u8 41), .lit (.int .u8 37), .lit (.int .u8 16), .lit (.int .u8 46), .lit (.int .u8 35), .lit (.int .u8 44), .lit (.int .u8 21), .lit (.int .u8 52), .lit (.int .u8 32), .lit (.int .u8 23), .lit (.int .u8 11), .lit (.int .u8 54), .lit (.int .u8 26), .lit (.int .u8 40), .lit (.int .u8 15), .lit (.int .u8 34), .lit (.int .u8 20), .lit (.int .u8 31), .lit (.int .u8 10), .lit (.int .u8 25), .lit (.int .u8 14), .lit (.int .u8 19), .lit (.int .u8 9), .lit (.int .u8 13), .lit (.int .u8 8), .lit (.int .u8 7), .lit (.int .u8 6)]
def laid_internal_strconv_uint64pow10 {H : Type} : DataW H := .agg [.lit (.int .u64 1), .lit (.int .u64 10), .lit (.int .u64 100), .lit (.int .u64 1000), .lit (.int .u64 10000), .lit (.int .u64 100000), .lit (.int .u64 1000000), .lit (.int .u64 10000000), .lit (.int .u64 100000000), .lit (.int .u64 1000000000), .lit (.int .u64 10000000000), .lit (.int .u64 100000000000), .lit (.int .u64 1000000000000), .lit (.int .u64 10000000000000), .lit (.int .u64 100000000000000), .lit (.int .u64 1000000000000000), .lit (.int .u64 10000000000000000), .lit (.int .u64 100000000000000000), .lit (.int .u64 1000000000000000000), .lit (.int .u64 10000000000000000000)]
def laid_acheron_cpu_names {H : Type} : DataW H := .agg [.lit (.string [104, 97, 108, 116]), .lit (.string [115, 101, 116]), .lit (.string [104, 105, 103, 104]), .lit (.string [99, 111, 112, 121]), .lit (.string [108, 111, 97, 100]), .lit (.string [115, 116, 111, 114, 101]), .lit (.string [108, 111, 97, 100, 117]), .lit (.string [115, 116, 111, 114, 101, 117]), .lit (.string [97, 100, 100]), .lit (.string [115, 117, 98]), .lit (.string [109, 117, 108]), .lit (.string [97, 110, 100]), .lit (.string [111, 114]), .lit (.string [120, 111, 114]), .lit (.string [115, 104, 108]), .lit (.string [115, 104, 114]), .lit (.string [110, 101, 103]), .lit (.string [98, 121, 116, 101]), .lit (.string [119, 111, 114, 100]), .lit (.string [102, 97, 100, 100]), .lit (.string [102, 115, 117, 98]), .lit (.string [102, 109, 117, 108]), .lit (.string [102, 100, 105, 118]), .lit (.string [102, 110, 101, 103]), .lit (.string [106, 101, 113]), .lit (.string [106, 110, 101]), .lit (.string [106, 108, 116]), .lit (.string [102, 101, 113]), .lit (.string [102, 110, 101]), .lit (.string [102, 108, 116]), .lit (.string [102, 108, 101]), .lit (.string [106, 117, 109, 112])]
def laid_acheron_cpu_uses {H : Type} : DataW H := .agg [.lit (.string [105]), .lit (.string [97, 105]), .lit (.string [97, 98, 105]), .lit (.string [97, 98]), .lit (.string [97, 98, 105]), .lit (.string [97, 98, 105]), .lit (.string [97, 98, 105]), .lit (.string [97, 98, 105]), .lit (.string [97, 98, 99]), .lit (.string [97, 98, 99]), .lit (.string [97, 98, 99]), .lit (.string [97, 98, 99]), .lit (.string [97, 98, 99]), .lit (.string [97, 98, 99]), .lit (.string [97, 98, 99]), .lit (.string [97, 98, 99]), .lit (.string [97, 98]), .lit (.string [97, 98]), .lit (.string [97, 98]), .lit (.string [97, 98, 99]), .lit (.string [97, 98, 99]), .lit (.string [97, 98, 99]), .lit (.string [97, 98, 99]), .lit (.string [97, 98]), .lit (.string [98, 99, 105]), .lit (.string [98, 99, 105]), .lit (.string [98, 99, 105]), .lit (.string [98, 99, 105]), .lit (.string [98, 99, 105]), .lit (.string [98, 99, 105]), .lit (.string [98, 99, 105]), .lit (.string [105])]
def laid_unicode_utf8_acceptRanges {H : Type} : DataW H := .agg [.agg [.lit (.int .u8 128), .lit (.int .u8 191)], .agg [.lit (.int .u8 160), .lit (.int .u8 191)], .agg [.lit (.int .u8 128), .lit (.int .u8 159)], .agg [.lit (.int .u8 144), .lit (.int .u8 191)], .agg [.lit (.int .u8 128), .lit (.int .u8 143)], .agg [.lit (.int .u8 0), .lit (.int .u8 0)], .agg [.lit (.int .u8 0), .lit (.int .u8 0)], .agg [.lit (.int .u8 0), .lit (.int .u8 0)], .agg [.lit (.int .u8 0), .lit (.int .u8 0)], .agg [.lit (.int .u8 0), .lit (.int .u8 0)], .agg [.lit (.int .u8 0), .lit (.int .u8 0)], .agg [.lit (.int .u8 0), .lit (.int .u8 0)], .agg [.lit (.int .u8 0), .lit (.int .u8 0)], .agg [.lit (.int .u8 0), .lit (.int .u8 0)], .agg [.lit (.int .u8 0), .lit (.int .u8 0)], .agg [.lit (.int .u8 0), .lit (.int .u8 0)]]
def laid_strconv_ErrRange {H : Type} : DataW H := .iface "*errors.errorString" (.ptr (.agg [.lit (.string [118, 97, 108, 117, 101, 32, 111, 117, 116, 32, 111, 102, 32, 114, 97, 110, 103, 101])]))
def laid_strconv_ErrSyntax {H : Type} : DataW H := .iface "*errors.errorString" (.ptr (.agg [.lit (.string [105, 110, 118, 97, 108, 105, 100, 32, 115, 121, 110, 116, 97, 120])]))
/-- One of Go's own tables, pinned by name: the form's constant. -/
def laid_unicode_utf8_first : DataW Unit := Go.Pinned.utf8First

/-- 'acheronlaw25.CpuWords': WHATEVER THE INPUT: true; the input reads as it did. -/
def cpuWordsSpec : ChangeSpec := { name := "cpuWords", fn := fun _ => fun
  | [d] => { results := [.lit (.bool true)], args := [d] }
  | _ => none }
def cpuWordsRow : OpenClaim := { program := "ythdmdeiaonkeoaadoor", sum := "c10648a2ea7df4ab9577f128b92f9986dbb83958fee8a3b05079a4180b208e87", func := "acheron/acheronlaw25.CpuWords", spec := "cpuWords", inPlace := ["internal/bytealg.IndexByteString", "internal/bytealg.IndexString", "math.Float64frombits", "math.Float64bits"], named := ["acheron/cpu.uses", "internal/bytealg.MaxLen", "acheron/cpu.names", "internal/strconv.uint64pow10", "math/bits.deBruijn32tab", "math/bits.deBruijn64tab"], plainKeys := false, apart := false, laid := [("math/bits.deBruijn32tab", laid_math_bits_deBruijn32tab), ("math/bits.deBruijn64tab", laid_math_bits_deBruijn64tab), ("internal/strconv.uint64pow10", laid_internal_strconv_uint64pow10), ("acheron/cpu.names", laid_acheron_cpu_names), ("acheron/cpu.uses", laid_acheron_cpu_uses)] }
def CpuWordsSaid : Prop := cpuWordsRow.holds Tryd.pinned (OpenSpec.ofChange cpuWordsSpec)

/-- ITS FALSE NEIGHBOUR: 'it returns false'. Refute it at one input. -/
def cpuWordsWrong : ChangeSpec := { name := "cpuWords", fn := fun _ => fun
  | [d] => { results := [.lit (.bool false)], args := [d] }
  | _ => none }
def CpuWordsWrongFalsely : Prop := cpuWordsRow.holds Tryd.pinned (OpenSpec.ofChange cpuWordsWrong)

/-- 'acheronlaw25.CpuDecodes': WHATEVER THE INPUT: true; the input reads as it did. -/
def cpuDecodesSpec : ChangeSpec := { name := "cpuDecodes", fn := fun _ => fun
  | [d] => { results := [.lit (.bool true)], args := [d] }
  | _ => none }
def cpuDecodesRow : OpenClaim := { program := "ythdmdeiaonkeoaadoor", sum := "c10648a2ea7df4ab9577f128b92f9986dbb83958fee8a3b05079a4180b208e87", func := "acheron/acheronlaw25.CpuDecodes", spec := "cpuDecodes", inPlace := ["internal/bytealg.IndexByteString", "internal/bytealg.IndexString", "math.Float64frombits", "math.Float64bits"], named := ["acheron/cpu.uses", "internal/bytealg.MaxLen", "acheron/cpu.names", "internal/strconv.uint64pow10", "math/bits.deBruijn32tab", "math/bits.deBruijn64tab"], plainKeys := false, apart := false, laid := [("math/bits.deBruijn32tab", laid_math_bits_deBruijn32tab), ("math/bits.deBruijn64tab", laid_math_bits_deBruijn64tab), ("internal/strconv.uint64pow10", laid_internal_strconv_uint64pow10), ("acheron/cpu.names", laid_acheron_cpu_names), ("acheron/cpu.uses", laid_acheron_cpu_uses)] }
def CpuDecodesSaid : Prop := cpuDecodesRow.holds Tryd.pinned (OpenSpec.ofChange cpuDecodesSpec)

/-- ITS FALSE NEIGHBOUR: 'it returns false'. Refute it at one input. -/
def cpuDecodesWrong : ChangeSpec := { name := "cpuDecodes", fn := fun _ => fun
  | [d] => { results := [.lit (.bool false)], args := [d] }
  | _ => none }
def CpuDecodesWrongFalsely : Prop := cpuDecodesRow.holds Tryd.pinned (OpenSpec.ofChange cpuDecodesWrong)

/-- 'acheronlaw25.CpuRuns': WHATEVER THE INPUT: true; the input reads as it did. -/
def cpuRunsSpec : ChangeSpec := { name := "cpuRuns", fn := fun _ => fun
  | [d1, d2] => { results := [.lit (.bool true)], args := [d1, d2] }
  | _ => none }
def cpuRunsRow : OpenClaim := { program := "ythdmdeiaonkeoaadoor", sum := "c10648a2ea7df4ab9577f128b92f9986dbb83958fee8a3b05079a4180b208e87", func := "acheron/acheronlaw25.CpuRuns", spec := "cpuRuns", inPlace := ["internal/bytealg.IndexByteString", "internal/bytealg.IndexString", "math.Float64frombits", "math.Float64bits"], named := ["acheron/cpu.uses", "internal/bytealg.MaxLen", "acheron/cpu.names", "internal/strconv.uint64pow10", "math/bits.deBruijn32tab", "math/bits.deBruijn64tab"], plainKeys := false, apart := false, laid := [("math/bits.deBruijn32tab", laid_math_bits_deBruijn32tab), ("math/bits.deBruijn64tab", laid_math_bits_deBruijn64tab), ("internal/strconv.uint64pow10", laid_internal_strconv_uint64pow10), ("acheron/cpu.names", laid_acheron_cpu_names), ("acheron/cpu.uses", laid_acheron_cpu_uses)] }
def CpuRunsSaid : Prop := cpuRunsRow.holds Tryd.pinned (OpenSpec.ofChange cpuRunsSpec)

/-- ITS FALSE NEIGHBOUR: 'it returns false'. Refute it at one input. -/
def cpuRunsWrong : ChangeSpec := { name := "cpuRuns", fn := fun _ => fun
  | [d1, d2] => { results := [.lit (.bool false)], args := [d1, d2] }
  | _ => none }
def CpuRunsWrongFalsely : Prop := cpuRunsRow.holds Tryd.pinned (OpenSpec.ofChange cpuRunsWrong)

/-- 'acheronlaw25.CpuDivides': WHATEVER THE INPUT: true; the input reads as it did. -/
def cpuDividesSpec : ChangeSpec := { name := "cpuDivides", fn := fun _ => fun
  | [d1, d2, d3] => { results := [.lit (.bool true)], args := [d1, d2, d3] }
  | _ => none }
def cpuDividesRow : OpenClaim := { program := "ythdmdeiaonkeoaadoor", sum := "c10648a2ea7df4ab9577f128b92f9986dbb83958fee8a3b05079a4180b208e87", func := "acheron/acheronlaw25.CpuDivides", spec := "cpuDivides", inPlace := ["internal/bytealg.IndexByteString", "internal/bytealg.IndexString", "math.Float64frombits", "math.Float64bits"], named := ["acheron/cpu.uses", "internal/bytealg.MaxLen", "acheron/cpu.names", "internal/strconv.uint64pow10", "math/bits.deBruijn32tab", "math/bits.deBruijn64tab"], plainKeys := false, apart := false, laid := [("math/bits.deBruijn32tab", laid_math_bits_deBruijn32tab), ("math/bits.deBruijn64tab", laid_math_bits_deBruijn64tab), ("internal/strconv.uint64pow10", laid_internal_strconv_uint64pow10), ("acheron/cpu.names", laid_acheron_cpu_names), ("acheron/cpu.uses", laid_acheron_cpu_uses)] }
def CpuDividesSaid : Prop := cpuDividesRow.holds Tryd.pinned (OpenSpec.ofChange cpuDividesSpec)

/-- ITS FALSE NEIGHBOUR: 'it returns false'. Refute it at one input. -/
def cpuDividesWrong : ChangeSpec := { name := "cpuDivides", fn := fun _ => fun
  | [d1, d2, d3] => { results := [.lit (.bool false)], args := [d1, d2, d3] }
  | _ => none }
def CpuDividesWrongFalsely : Prop := cpuDividesRow.holds Tryd.pinned (OpenSpec.ofChange cpuDividesWrong)

/-- 'acheronlaw25.CpuStores': WHATEVER THE INPUT: true; the input reads as it did. -/
def cpuStoresSpec : ChangeSpec := { name := "cpuStores", fn := fun _ => fun
  | [d1, d2] => { results := [.lit (.bool true)], args := [d1, d2] }
  | _ => none }
def cpuStoresRow : OpenClaim := { program := "ythdmdeiaonkeoaadoor", sum := "c10648a2ea7df4ab9577f128b92f9986dbb83958fee8a3b05079a4180b208e87", func := "acheron/acheronlaw25.CpuStores", spec := "cpuStores", inPlace := ["internal/bytealg.IndexByteString", "internal/bytealg.IndexString", "math.Float64frombits", "math.Float64bits"], named := ["acheron/cpu.uses", "internal/bytealg.MaxLen", "acheron/cpu.names", "internal/strconv.uint64pow10", "math/bits.deBruijn32tab", "math/bits.deBruijn64tab"], plainKeys := false, apart := false, laid := [("math/bits.deBruijn32tab", laid_math_bits_deBruijn32tab), ("math/bits.deBruijn64tab", laid_math_bits_deBruijn64tab), ("internal/strconv.uint64pow10", laid_internal_strconv_uint64pow10), ("acheron/cpu.names", laid_acheron_cpu_names), ("acheron/cpu.uses", laid_acheron_cpu_uses)] }
def CpuStoresSaid : Prop := cpuStoresRow.holds Tryd.pinned (OpenSpec.ofChange cpuStoresSpec)

/-- ITS FALSE NEIGHBOUR: 'it returns false'. Refute it at one input. -/
def cpuStoresWrong : ChangeSpec := { name := "cpuStores", fn := fun _ => fun
  | [d1, d2] => { results := [.lit (.bool false)], args := [d1, d2] }
  | _ => none }
def CpuStoresWrongFalsely : Prop := cpuStoresRow.holds Tryd.pinned (OpenSpec.ofChange cpuStoresWrong)

/-- 'acheronlaw25.CpuTexts': WHATEVER THE INPUT: true; the input reads as it did. -/
def cpuTextsSpec : ChangeSpec := { name := "cpuTexts", fn := fun _ => fun
  | [d1, d2] => { results := [.lit (.bool true)], args := [d1, d2] }
  | _ => none }
def cpuTextsRow : OpenClaim := { program := "ythdmdeiaonkeoaadoor", sum := "c10648a2ea7df4ab9577f128b92f9986dbb83958fee8a3b05079a4180b208e87", func := "acheron/acheronlaw25.CpuTexts", spec := "cpuTexts", inPlace := ["internal/bytealg.IndexByteString", "internal/bytealg.IndexString", "math.Float64frombits", "math.Float64bits", "internal/bytealg.CountString"], named := ["acheron/cpu.uses", "internal/bytealg.MaxLen", "acheron/cpu.names", "internal/strconv.uint64pow10", "math/bits.deBruijn32tab", "math/bits.deBruijn64tab", "unicode/utf8.first", "unicode/utf8.acceptRanges", "strconv.ErrSyntax", "strconv.ErrRange"], plainKeys := false, apart := false, laid := [("math/bits.deBruijn32tab", laid_math_bits_deBruijn32tab), ("math/bits.deBruijn64tab", laid_math_bits_deBruijn64tab), ("internal/strconv.uint64pow10", laid_internal_strconv_uint64pow10), ("unicode/utf8.acceptRanges", laid_unicode_utf8_acceptRanges), ("strconv.ErrRange", laid_strconv_ErrRange), ("strconv.ErrSyntax", laid_strconv_ErrSyntax), ("acheron/cpu.names", laid_acheron_cpu_names), ("acheron/cpu.uses", laid_acheron_cpu_uses), ("unicode/utf8.first", laid_unicode_utf8_first)] }
def CpuTextsSaid : Prop := cpuTextsRow.holds Tryd.pinned (OpenSpec.ofChange cpuTextsSpec)

/-- ITS FALSE NEIGHBOUR: 'it returns false'. Refute it at one input. -/
def cpuTextsWrong : ChangeSpec := { name := "cpuTexts", fn := fun _ => fun
  | [d1, d2] => { results := [.lit (.bool false)], args := [d1, d2] }
  | _ => none }
def CpuTextsWrongFalsely : Prop := cpuTextsRow.holds Tryd.pinned (OpenSpec.ofChange cpuTextsWrong)

/- THE SECOND FORM. 'bulk': how many values and letters a reading holds, each counted each time it is reached (what is shared counts as often as it is met; a slice's spare places count too). A statement '..UptoSaid' is the law's where the arguments, and the package variables that the reading takes, are together of bulk at most 1048576: NARROWER than '..Said'. Prove '..Said' where nothing that the law and all that it calls make is longer than what came in: it says more and counts as full. Else prove '..UptoSaid'. A law counts once. -/
mutual
def uptoBulk {H : Type} : DataW H → Nat
  | .lit (.string bytes) => bytes.length + 1
  | .lit _ => 1
  | .nil => 1
  | .ptr d => uptoBulk d + 1
  | .slice elems spare => uptoBulkAll elems + uptoBulkAll spare + 1
  | .agg parts => uptoBulkAll parts + 1
  | .iface _ d => uptoBulk d + 1
  | .map entries => uptoBulkEntries entries + 1
  | .held _ => 1
def uptoBulkAll {H : Type} : List (DataW H) → Nat
  | [] => 0
  | d :: r => uptoBulk d + uptoBulkAll r
def uptoBulkEntries {H : Type} : List (Lit × DataW H) → Nat
  | [] => 0
  | x :: r => uptoBulkEntry x + uptoBulkEntries r
def uptoBulkEntry {H : Type} : Lit × DataW H → Nat
  | (.string bytes, d) => bytes.length + uptoBulk d + 1
  | (_, d) => uptoBulk d + 1
 end
def uptoSmall : (H : Type) → List (DataW H) → Bool := fun _ ds => decide (uptoBulkAll ds ≤ 1048576)
def OpenSpec.upto (s : _root_.Go.ChangeSpec) : _root_.Go.OpenSpec := { _root_.Go.OpenSpec.ofChange s with cond := some uptoSmall }

/-- 'acheronlaw25.CpuWords', WHERE WHAT IT READS IS OF BULK AT MOST 1048576: true; the input reads as it did. -/
def cpuWordsUptoRow : OpenClaim := { program := "ythdmdeiaonkeoaadoor", sum := "c10648a2ea7df4ab9577f128b92f9986dbb83958fee8a3b05079a4180b208e87", func := "acheron/acheronlaw25.CpuWords", spec := "cpuWords", inPlace := ["internal/bytealg.IndexByteString", "internal/bytealg.IndexString", "math.Float64frombits", "math.Float64bits"], named := ["acheron/cpu.uses", "internal/bytealg.MaxLen", "acheron/cpu.names", "internal/strconv.uint64pow10", "math/bits.deBruijn32tab", "math/bits.deBruijn64tab"], plainKeys := false, apart := false, laid := [("math/bits.deBruijn32tab", laid_math_bits_deBruijn32tab), ("math/bits.deBruijn64tab", laid_math_bits_deBruijn64tab), ("internal/strconv.uint64pow10", laid_internal_strconv_uint64pow10), ("acheron/cpu.names", laid_acheron_cpu_names), ("acheron/cpu.uses", laid_acheron_cpu_uses)], narrowed := true }
def CpuWordsUptoSaid : Prop := cpuWordsUptoRow.holds Tryd.pinned (OpenSpec.upto cpuWordsSpec)

/-- 'acheronlaw25.CpuDecodes', WHERE WHAT IT READS IS OF BULK AT MOST 1048576: true; the input reads as it did. -/
def cpuDecodesUptoRow : OpenClaim := { program := "ythdmdeiaonkeoaadoor", sum := "c10648a2ea7df4ab9577f128b92f9986dbb83958fee8a3b05079a4180b208e87", func := "acheron/acheronlaw25.CpuDecodes", spec := "cpuDecodes", inPlace := ["internal/bytealg.IndexByteString", "internal/bytealg.IndexString", "math.Float64frombits", "math.Float64bits"], named := ["acheron/cpu.uses", "internal/bytealg.MaxLen", "acheron/cpu.names", "internal/strconv.uint64pow10", "math/bits.deBruijn32tab", "math/bits.deBruijn64tab"], plainKeys := false, apart := false, laid := [("math/bits.deBruijn32tab", laid_math_bits_deBruijn32tab), ("math/bits.deBruijn64tab", laid_math_bits_deBruijn64tab), ("internal/strconv.uint64pow10", laid_internal_strconv_uint64pow10), ("acheron/cpu.names", laid_acheron_cpu_names), ("acheron/cpu.uses", laid_acheron_cpu_uses)], narrowed := true }
def CpuDecodesUptoSaid : Prop := cpuDecodesUptoRow.holds Tryd.pinned (OpenSpec.upto cpuDecodesSpec)

/-- 'acheronlaw25.CpuRuns', WHERE WHAT IT READS IS OF BULK AT MOST 1048576: true; the input reads as it did. -/
def cpuRunsUptoRow : OpenClaim := { program := "ythdmdeiaonkeoaadoor", sum := "c10648a2ea7df4ab9577f128b92f9986dbb83958fee8a3b05079a4180b208e87", func := "acheron/acheronlaw25.CpuRuns", spec := "cpuRuns", inPlace := ["internal/bytealg.IndexByteString", "internal/bytealg.IndexString", "math.Float64frombits", "math.Float64bits"], named := ["acheron/cpu.uses", "internal/bytealg.MaxLen", "acheron/cpu.names", "internal/strconv.uint64pow10", "math/bits.deBruijn32tab", "math/bits.deBruijn64tab"], plainKeys := false, apart := false, laid := [("math/bits.deBruijn32tab", laid_math_bits_deBruijn32tab), ("math/bits.deBruijn64tab", laid_math_bits_deBruijn64tab), ("internal/strconv.uint64pow10", laid_internal_strconv_uint64pow10), ("acheron/cpu.names", laid_acheron_cpu_names), ("acheron/cpu.uses", laid_acheron_cpu_uses)], narrowed := true }
def CpuRunsUptoSaid : Prop := cpuRunsUptoRow.holds Tryd.pinned (OpenSpec.upto cpuRunsSpec)

/-- 'acheronlaw25.CpuDivides', WHERE WHAT IT READS IS OF BULK AT MOST 1048576: true; the input reads as it did. -/
def cpuDividesUptoRow : OpenClaim := { program := "ythdmdeiaonkeoaadoor", sum := "c10648a2ea7df4ab9577f128b92f9986dbb83958fee8a3b05079a4180b208e87", func := "acheron/acheronlaw25.CpuDivides", spec := "cpuDivides", inPlace := ["internal/bytealg.IndexByteString", "internal/bytealg.IndexString", "math.Float64frombits", "math.Float64bits"], named := ["acheron/cpu.uses", "internal/bytealg.MaxLen", "acheron/cpu.names", "internal/strconv.uint64pow10", "math/bits.deBruijn32tab", "math/bits.deBruijn64tab"], plainKeys := false, apart := false, laid := [("math/bits.deBruijn32tab", laid_math_bits_deBruijn32tab), ("math/bits.deBruijn64tab", laid_math_bits_deBruijn64tab), ("internal/strconv.uint64pow10", laid_internal_strconv_uint64pow10), ("acheron/cpu.names", laid_acheron_cpu_names), ("acheron/cpu.uses", laid_acheron_cpu_uses)], narrowed := true }
def CpuDividesUptoSaid : Prop := cpuDividesUptoRow.holds Tryd.pinned (OpenSpec.upto cpuDividesSpec)

/-- 'acheronlaw25.CpuStores', WHERE WHAT IT READS IS OF BULK AT MOST 1048576: true; the input reads as it did. -/
def cpuStoresUptoRow : OpenClaim := { program := "ythdmdeiaonkeoaadoor", sum := "c10648a2ea7df4ab9577f128b92f9986dbb83958fee8a3b05079a4180b208e87", func := "acheron/acheronlaw25.CpuStores", spec := "cpuStores", inPlace := ["internal/bytealg.IndexByteString", "internal/bytealg.IndexString", "math.Float64frombits", "math.Float64bits"], named := ["acheron/cpu.uses", "internal/bytealg.MaxLen", "acheron/cpu.names", "internal/strconv.uint64pow10", "math/bits.deBruijn32tab", "math/bits.deBruijn64tab"], plainKeys := false, apart := false, laid := [("math/bits.deBruijn32tab", laid_math_bits_deBruijn32tab), ("math/bits.deBruijn64tab", laid_math_bits_deBruijn64tab), ("internal/strconv.uint64pow10", laid_internal_strconv_uint64pow10), ("acheron/cpu.names", laid_acheron_cpu_names), ("acheron/cpu.uses", laid_acheron_cpu_uses)], narrowed := true }
def CpuStoresUptoSaid : Prop := cpuStoresUptoRow.holds Tryd.pinned (OpenSpec.upto cpuStoresSpec)

/-- 'acheronlaw25.CpuTexts', WHERE WHAT IT READS IS OF BULK AT MOST 1048576: true; the input reads as it did. -/
def cpuTextsUptoRow : OpenClaim := { program := "ythdmdeiaonkeoaadoor", sum := "c10648a2ea7df4ab9577f128b92f9986dbb83958fee8a3b05079a4180b208e87", func := "acheron/acheronlaw25.CpuTexts", spec := "cpuTexts", inPlace := ["internal/bytealg.IndexByteString", "internal/bytealg.IndexString", "math.Float64frombits", "math.Float64bits", "internal/bytealg.CountString"], named := ["acheron/cpu.uses", "internal/bytealg.MaxLen", "acheron/cpu.names", "internal/strconv.uint64pow10", "math/bits.deBruijn32tab", "math/bits.deBruijn64tab", "unicode/utf8.first", "unicode/utf8.acceptRanges", "strconv.ErrSyntax", "strconv.ErrRange"], plainKeys := false, apart := false, laid := [("math/bits.deBruijn32tab", laid_math_bits_deBruijn32tab), ("math/bits.deBruijn64tab", laid_math_bits_deBruijn64tab), ("internal/strconv.uint64pow10", laid_internal_strconv_uint64pow10), ("unicode/utf8.acceptRanges", laid_unicode_utf8_acceptRanges), ("strconv.ErrRange", laid_strconv_ErrRange), ("strconv.ErrSyntax", laid_strconv_ErrSyntax), ("acheron/cpu.names", laid_acheron_cpu_names), ("acheron/cpu.uses", laid_acheron_cpu_uses), ("unicode/utf8.first", laid_unicode_utf8_first)], narrowed := true }
def CpuTextsUptoSaid : Prop := cpuTextsUptoRow.holds Tryd.pinned (OpenSpec.upto cpuTextsSpec)

end Rows
end Go.Proofs.YthdmdeiaonkeoaaDoor
